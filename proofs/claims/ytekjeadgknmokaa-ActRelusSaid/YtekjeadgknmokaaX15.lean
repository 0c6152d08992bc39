import Derived.Test.YtekjeadgknmokaaX14
/- Runs that use what is known of some calls. -/
set_option linter.unusedVariables false
set_option linter.unusedSimpArgs false
namespace Go.X
open Go

def beqL : List AV → List AV → Bool
  | [], [] => true
  | a :: r, b :: s => cond (beqV a b) (beqL r s) false
  | _, _ => false
theorem beqL_eq : ∀ {l m : List AV}, beqL l m = true → l = m
  | [], [], _ => rfl
  | a :: r, b :: s, h => by
    unfold beqL at h
    cases hq : beqV a b with
    | false => rw [hq] at h; cases h
    | true => rw [hq] at h; rw [beqV_eq hq, beqL_eq h]
  | [], _ :: _, h => by cases h
  | _ :: _, [], h => by cases h

/-- What is known of a call. -/
structure Known where
  f : FuncId
  args : List AV
  v : AV
def lookT : List Known → FuncId → List AV → Option AV
  | [], _, _ => none
  | k :: r, f, args => cond (Nat.beq k.f f) (cond (beqL k.args args) (some k.v) (lookT r f args)) (lookT r f args)

def KnownOk (P : Program) (k : Known) : Prop := Fun P k.f k.args (fun r => r = k.v)

def callB (P : Program) (fc : Bool) (lf : Nat) (tbl : List Known) : Nat → Call
  | 0, f, args, H, K => match lookT tbl f args with
    | some v => K v H false
    | none => False
  | n + 1, f, args, H, K => match lookT tbl f args with
    | some v => K v H false
    | none => match P.funcs[f]? with
      | some fn => match fn.body with
        | some c => need (Nat.ble (lenR args) fn.ntmps) (codeA P (callB P fc lf tbl n) fc lf fn.ntmps H.n c (argsT args) H false fun e T' H' d => match e with
          | .normal => finA P fc H.n fn T' H' d K
          | .ret => finA P fc H.n fn T' H' d K
          | _ => False)
        | none => False
      | none => False

theorem lookT_sound {P : Program} : ∀ {tbl : List Known}, (∀ k ∈ tbl, KnownOk P k) → ∀ {f : FuncId} {args : List AV} {v : AV}, lookT tbl f args = some v → Fun P f args (fun r => r = v)
  | [], _, f, args, v, h => by cases h
  | k :: r, hk, f, args, v, h => by
    unfold lookT at h
    cases hf : Nat.beq k.f f with
    | false => rw [hf] at h; exact lookT_sound (fun k hk' => hk k (List.mem_cons_of_mem _ hk')) h
    | true =>
      rw [hf] at h
      simp only [cond_true] at h
      cases ha : beqL k.args args with
      | false => rw [ha] at h; exact lookT_sound (fun k hk' => hk k (List.mem_cons_of_mem _ hk')) h
      | true =>
        rw [ha] at h
        cases h
        have h1 := hk k (List.mem_cons_self ..)
        unfold KnownOk at h1
        rw [beq_iff.1 hf, beqL_eq ha] at h1
        exact h1

theorem callB_ok {P : Program} (hng : NoNumG P) (hmix : P.follows .mixedOrders = true) {fc : Bool} {lf : Nat} {tbl : List Known} (ht : ∀ k ∈ tbl, KnownOk P k) : ∀ n, CallOk P (callB P fc lf tbl n)
  | 0 => by
    intro f args H K h
    unfold callB at h
    split at h
    · rename_i v hv
      exact sem_ok P f args H K (lookT_sound ht hv H K fun r hr => by rw [hr]; exact h)
    · exact h.elim
  | n + 1 => by
    intro f args H K h
    unfold callB at h
    split at h
    · rename_i v hv
      exact sem_ok P f args H K (lookT_sound ht hv H K fun r hr => by rw [hr]; exact h)
    · split at h
      · rename_i fn hfn
        split at h
        · rename_i c hc
          have hsz := ble_iff.1 (need_iff.1 h).1
          replace h := (need_iff.1 h).2
          rw [lenR_eq] at hsz
          exact ⟨⟨fn, hfn, by rw [hc]; rfl⟩, body_sound (callB_ok hng hmix ht n) hng hmix hfn hc hsz h⟩
        · cases h
      · cases h

theorem sem_callB {P : Program} (hng : NoNumG P) (hmix : P.follows .mixedOrders = true) {fc : Bool} {lf : Nat} {tbl : List Known} (ht : ∀ k ∈ tbl, KnownOk P k) {n : Nat} {f : FuncId} {args : List AV} {H : HP} {K : AV → HP → Bool → Prop} (h : callB P fc lf tbl n f args H K) : CallsA P f args H K := by
  unfold CallsA
  exact callB_ok hng hmix ht n f args H K h

/-- A call by its body, the callees by a run. -/
theorem sem_bodyB {P : Program} (hng : NoNumG P) (hmix : P.follows .mixedOrders = true) {fc : Bool} {lf : Nat} {call : Call} (hcall : CallOk P call) {f : FuncId} {fn : Func} {c : Code} {args : List AV} {H : HP} {K : AV → HP → Bool → Prop}
    (hf : P.funcs[f]? = some fn) (hc : fn.body = some c) (hsz : args.length ≤ fn.ntmps)
    (h : codeA P call fc lf fn.ntmps H.n c (argsT args) H false fun e T' H' d => match e with
      | .normal => finA P fc H.n fn T' H' d K
      | .ret => finA P fc H.n fn T' H' d K
      | _ => False) : CallsA P f args H K := by
  unfold CallsA
  exact ⟨⟨fn, hf, by rw [hc]; rfl⟩, fun ρ w us hH hus => body_sound hcall hng hmix hf hc hsz h ρ w us hH hus⟩

/-- A run in the kernel: what a call of numbers comes to. -/
theorem known_of_run {P : Program} (hng : NoNumG P) (hmix : P.follows .mixedOrders = true) {lf : Nat} {tbl : List Known} (ht : ∀ k ∈ tbl, KnownOk P k) {n : Nat} {k : Known} (hp : cond k.v.plain (allR AV.plain k.args) false = true)
    (h : callB P true lf tbl n k.f k.args ⟨0, []⟩ (fun r _ _ => cond (beqV r k.v) True False) = True) : KnownOk P k := by
  have hvp : k.v.plain = true ∧ k.args.all AV.plain = true := by
    cases hv : k.v.plain with
    | false => rw [hv] at hp; cases hp
    | true => rw [hv] at hp; exact ⟨rfl, by rw [← allR_eq]; exact hp⟩
  refine fun_of (fun a ha => List.all_eq_true.1 hvp.2 a ha) ?_
  refine (sem_callB hng hmix ht (of_eq_true h)).mono fun v H' d hv => ?_
  cases hb : beqV v k.v with
  | false => rw [hb] at hv; exact hv.elim
  | true =>
    have := beqV_eq hb
    subst this
    exact ⟨hvp.1, rfl⟩
theorem KnownOk.use {P : Program} {k : Known} (h : KnownOk P k) {H : HP} {K : AV → HP → Bool → Prop} (hK : K k.v H false) : CallsA P k.f k.args H K := h H K fun r hr => by rw [hr]; exact hK
theorem tbl_nil {P : Program} : ∀ k ∈ ([] : List Known), KnownOk P k := by simp
theorem tbl_cons {P : Program} {k : Known} {t : List Known} (h : KnownOk P k) (ht : ∀ k ∈ t, KnownOk P k) : ∀ x ∈ k :: t, KnownOk P x := by
  intro x hx
  rcases List.mem_cons.1 hx with rfl | hx
  · exact h
  · exact ht x hx
end Go.X
