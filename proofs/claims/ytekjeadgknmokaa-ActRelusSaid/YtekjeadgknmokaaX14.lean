import Derived.Test.YtekjeadgknmokaaX13
import Derived.Below
import Derived.ChangeSame
/- Contracts over abstract memory, and the step to a row. -/
set_option linter.unusedVariables false
set_option linter.unusedSimpArgs false
namespace Go.X
open Go

/-- What a call comes to, said of the machine. -/
@[irreducible] def CallsA (P : Program) : Call := fun f args H K => (∃ fn, P.funcs[f]? = some fn ∧ fn.body.isSome = true) ∧ ∀ ρ w us, HR P ρ H w → VRL ρ args us → Calls P f us.toArray w (CallEnd P ρ H w H.n K)
theorem sem_ok (P : Program) : CallOk P (CallsA P) := fun _ _ _ _ h => by unfold CallsA at h; exact h
theorem sem_run {P : Program} (hng : NoNumG P) (hmix : P.follows .mixedOrders = true) {fc : Bool} {lf n : Nat} {f : FuncId} {args : List AV} {H : HP} {K : AV → HP → Bool → Prop} (h : callA P fc lf n f args H K) : CallsA P f args H K :=
  by unfold CallsA; exact call_sound hng hmix n f args H K h
theorem CallEnd.mono {P : Program} {ρ : Ren} {H : HP} {w : World} {base : Nat} {K K' : AV → HP → Bool → Prop} (hK : ∀ v H' d, K v H' d → K' v H' d) {en : Ending} {w' : World} (h : CallEnd P ρ H w base K en w') : CallEnd P ρ H w base K' en w' := by
  obtain ⟨v, H', d, u, ρ', h1, h2, h3⟩ := h
  exact ⟨v, H', d, u, ρ', h1, hK _ _ _ h2, h3⟩
theorem CallsA.mono {P : Program} {f : FuncId} {args : List AV} {H : HP} {K K' : AV → HP → Bool → Prop} (h : CallsA P f args H K) (hK : ∀ v H' d, K v H' d → K' v H' d) : CallsA P f args H K' := by
  unfold CallsA at h ⊢
  exact ⟨h.1, fun ρ w us h1 h2 => (h.2 ρ w us h1 h2).mono fun e w' he => he.mono hK⟩

/-- A call, by its body; the callees by what is known of them. -/
theorem sem_body {P : Program} (hng : NoNumG P) (hmix : P.follows .mixedOrders = true) {fc : Bool} {lf : Nat} {f : FuncId} {fn : Func} {c : Code} {args : List AV} {H : HP} {K : AV → HP → Bool → Prop}
    (hf : P.funcs[f]? = some fn) (hc : fn.body = some c) (hsz : args.length ≤ fn.ntmps)
    (h : codeA P (CallsA P) fc lf fn.ntmps H.n c (argsT args) H false fun e T' H' d => match e with
      | .normal => finA P fc H.n fn T' H' d K
      | .ret => finA P fc H.n fn T' H' d K
      | _ => False) : CallsA P f args H K := by
  unfold CallsA
  refine ⟨⟨fn, hf, by rw [hc]; rfl⟩, fun ρ w us hH hus => ?_⟩
  exact body_sound (sem_ok P) hng hmix hf hc hsz h ρ w us hH hus

theorem HR.nil {P : Program} {w : World} : HR P (fun _ => none) ⟨0, []⟩ w :=
  ⟨rfl, fun _ _ h => by (cases h), fun i b h => by (have := HP.get_lt h; exact absurd this (Nat.not_lt_zero _)), fun i _ _ _ _ _ _ _ _ _ _ h => by (have := HP.get_lt h; exact absurd this (Nat.not_lt_zero _)), fun _ _ h => by (cases h)⟩

/-- A function of numbers: it leaves memory as it was. -/
def Fun (P : Program) (f : FuncId) (args : List AV) (Φ : AV → Prop) : Prop := ∀ H K, (∀ r, Φ r → K r H false) → CallsA P f args H K
theorem VRL.plain {ρ ρ' : Ren} {x : List AV} {xs : List Value} (h : VRL ρ x xs) (hp : ∀ a ∈ x, a.plain = true) : VRL ρ' x xs :=
  ⟨h.1, fun i a v ha hv => (h.2 i a v ha hv).plain (hp a (List.mem_of_getElem? ha)) ρ'⟩
theorem fun_of {P : Program} {f : FuncId} {args : List AV} {Φ : AV → Prop} (hargs : ∀ a ∈ args, a.plain = true) (h : CallsA P f args ⟨0, []⟩ fun r H' d => r.plain = true ∧ Φ r) : Fun P f args Φ := by
  intro H K hK
  unfold CallsA at h ⊢
  refine ⟨h.1, fun ρ w us hH hus => (h.2 _ w us HR.nil (hus.plain hargs)).mono ?_⟩
  rintro en w' ⟨v, H', d, u, ρ', rfl, ⟨hp, hΦ⟩, hv, hst, hcl⟩
  have hnw : ∀ g, ¬ wrG (fun _ => none) ⟨0, []⟩ g := by
    rintro g ⟨i, m, e, c, r, hi, hm, hr, rfl⟩
    cases hr
  have hold : ∀ k, k < w.heap.size → w'.heap[k]? = w.heap[k]? := fun k hk => hst.fr.block k hk (hnw k)
  have hr' : HR P ρ H w' := ⟨hH.len, hH.dom, fun i b hb => (hH.blk i b hb).mono (fun _ _ h => h) fun r hr m' e' c' he => hold _ (hH.rng i r hr), hH.sep, fun i r hi => Nat.lt_of_lt_of_le (hH.rng i r hi) hst.fr.size⟩
  exact ⟨v, H, false, u, ρ, rfl, hK v hΦ, hv.plain hp ρ, ⟨fun _ _ h => h, Nat.le_refl _, hr', ⟨hst.fr.os, hst.fr.tape, hst.fr.output, hst.fr.size, fun k hk _ => hold k hk⟩, fun g hg => .inl hg, fun i r hi => .inl ⟨i, r, hi, rfl⟩⟩, .refl⟩

def isV (b : Bool) (v : AV) : Prop := v = .bool b

/-- A run in a memory of its own: nothing that was there has turned. -/
theorem calls_of_sem {P : Program} {f : FuncId} {args : List AV} {us : List Value} {v : AV} (h : CallsA P f args ⟨0, []⟩ fun r _ _ => r = v) (hp : v.plain = true) (hus : VRL (fun _ => none) args us) (u : Value) (hu : ∀ ρ y, VR ρ v y → y = u) (w : World) :
    Calls P f us.toArray w fun e w' => e = .returned u ∧ RowKit.Below w.heap.size w w' := by
  unfold CallsA at h
  refine (h.2 _ w us HR.nil hus).mono ?_
  rintro en w' ⟨r, H', d, y, ρ', rfl, rfl, hv, hst, hcl⟩
  refine ⟨by rw [hu _ _ hv], ⟨hst.fr.os, hst.fr.tape, hst.fr.output, hst.fr.size, fun k hk => hst.fr.block k hk ?_⟩⟩
  rintro ⟨i, m, e, c, r, hi, hm, hr, rfl⟩
  cases hr
end Go.X
