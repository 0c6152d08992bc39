import Derived.Test.YtekjeadgknmokaaX0
import Derived.Laws.Append
import Derived.Laws.Cells
import Derived.Laws.World
/- What abstract values and memories say of real ones. -/
namespace Go.X
open Go

/- the plain functions under their library names -/
theorem nth_eq {α : Type} (l : List α) (i : Nat) : nth l i = l[i]? := by
  induction l generalizing i with
  | nil => rfl
  | cons x r ih => cases i with
    | zero => rfl
    | succ i => exact ih i
theorem setn_eq {α : Type} (l : List α) (i : Nat) (v : α) : setn l i v = l.set i v := by
  induction l generalizing i with
  | nil => rfl
  | cons x r ih => cases i with
    | zero => rfl
    | succ i => exact congrArg (x :: ·) (ih i)
theorem takeR_eq {α : Type} (l : List α) (n : Nat) : takeR l n = if n ≤ l.length then some (l.take n) else none := by
  induction l generalizing n with
  | nil => cases n with
    | zero => rfl
    | succ n => rfl
  | cons x r ih => cases n with
    | zero => rfl
    | succ n =>
      show Option.rec (motive := fun _ => Option (List α)) none (fun t => some (x :: t)) (takeR r n) = _
      rw [ih n]
      by_cases h : n ≤ r.length
      · simp [h]
      · simp [h]
theorem dropR_eq {α : Type} (l : List α) (n : Nat) : dropR l n = l.drop n := by
  induction l generalizing n with
  | nil => cases n <;> rfl
  | cons x r ih => cases n with
    | zero => rfl
    | succ n => exact ih n
theorem appR_eq {α : Type} (l m : List α) : appR l m = l ++ m := by
  induction l with
  | nil => rfl
  | cons x r ih => exact congrArg (x :: ·) ih
theorem lenR_eq {α : Type} (l : List α) : lenR l = l.length := by
  induction l with
  | nil => rfl
  | cons x r ih => exact congrArg Nat.succ ih
theorem mapR_eq {α β : Type} (f : α → β) (l : List α) : mapR f l = l.map f := by
  induction l with
  | nil => rfl
  | cons x r ih => exact congrArg (f x :: ·) ih
theorem allR_eq {α : Type} (f : α → Bool) (l : List α) : allR f l = l.all f := by
  induction l with
  | nil => rfl
  | cons x r ih => show cond (f x) (allR f r) false = _; rw [ih]; cases h : f x <;> simp [h]
theorem fzSp_eq {α : Type} (fc : Bool) (l : List α) (k : List α → Prop) : fzSp fc l k = k l := by
  cases fc with
  | false => rfl
  | true =>
    show List.rec (motive := fun _ => (List α → Prop) → Prop) (fun k => k []) (fun x _ ih k => ih fun t => k (x :: t)) l k = k l
    induction l generalizing k with
    | nil => rfl
    | cons x r ih => exact ih (fun t => k (x :: t))
theorem fzN_eq (m : Nat) (k : Nat → Prop) : fzN m k = k m := by cases m <;> rfl
theorem fzI_eq (n : Int) (k : Int → Prop) : fzI n k = k n := by cases n <;> simp [fzI, fzN_eq]
theorem fz1_eq (v : AV) (k : AV → Prop) : fz1 v k = k v := by
  unfold fz1
  split <;> simp [fzI_eq, fzN_eq]
  rename_i b; cases b <;> rfl
theorem fzL1_eq (l : List AV) (k : List AV → Prop) : fzL1 l k = k l := by
  unfold fzL1
  induction l generalizing k with
  | nil => rfl
  | cons x r ih =>
    show fz1 x (fun x => _) = _
    rw [fz1_eq]
    exact ih (fun t => k (x :: t))
theorem fzV_eq (fc : Bool) (v : AV) (k : AV → Prop) : fzV fc v k = k v := by
  cases fc with
  | false =>
    unfold fzV
    cases v <;> rfl
  | true => unfold fzV; cases v <;> simp [fz1_eq, fzL1_eq, fzSp_eq]
theorem compL_eq (nt : Nat) (T : Nat → AV) (acc : List AV) (k : List AV → Prop) : compL nt T acc k = k ((List.range nt).map T ++ acc) := by
  unfold compL
  induction nt generalizing acc with
  | zero => rfl
  | succ m ih =>
    show fz1 (T m) (fun v => _) = _
    rw [fz1_eq, ih]
    simp [List.range_succ]
theorem need_iff {b : Bool} {p : Prop} : need b p ↔ b = true ∧ p := by cases b <;> simp [need]
theorem kno_inj {k k' : IntKind} (h : Nat.beq (kno k) (kno k') = true) : k = k' := by
  cases k <;> cases k' <;> first | rfl | (exact absurd h (by decide))

/-- Where an abstract block lies: block, offset, how many cells there may be. -/
structure RB where
  g : Nat
  d : Nat
  C : Nat
abbrev Ren := Nat → Option RB

inductive VR (ρ : Ren) : AV → Value → Prop where
  | bool (b : Bool) : VR ρ (.bool b) (.bool b)
  | int (k : IntKind) (n : Int) : VR ρ (.int k n) (.int k n)
  | str (s : ByteArray) : VR ρ (.str s) (.string s)
  | ptr (b o : Nat) (r : RB) : ρ b = some r → VR ρ (.ptr b o) (.pointer (some ⟨r.g, r.d + o, none⟩))
  | nilp : VR ρ .nilp (.pointer none)
  | sl (b o len cap : Nat) (r : RB) : ρ b = some r → VR ρ (.sl b o len cap) (.slice (some ⟨r.g, r.d + o, none⟩) len cap)
  | sg (b o len z cap : Nat) (r : RB) : ρ b = some r → o + cap * z ≤ r.C → len ≤ cap → VR ρ (.sg b o len z) (.slice (some ⟨r.g, r.d + o, none⟩) len cap)
  | sg0 (b o z : Nat) (a : Addr) (r : RB) : ρ b = some r → VR ρ (.sg b o 0 z) (.slice (some a) 0 0)
  | nils : VR ρ .nils (.slice none 0 0)
  | nilm : VR ρ .nilm (.map none)
  | fn (f : Fn) (x y : List AV) (xs ys : List Value) : x.length = xs.length → (∀ (i : Nat) (a : AV) (v : Value), x[i]? = some a → xs[i]? = some v → VR ρ a v) →
      y.length = ys.length → (∀ (i : Nat) (a : AV) (v : Value), y[i]? = some a → ys[i]? = some v → VR ρ a v) → VR ρ (.fn f x y) (.func f xs.toArray ys.toArray)
  | nilf : VR ρ .nilf .nilFunc
  | iface (t : TypeId) (a : AV) (v : Value) : VR ρ a v → VR ρ (.iface t a) (.iface t v)
  | nili : VR ρ .nili .nilIface
  | agg (x : List AV) (xs : List Value) : x.length = xs.length → (∀ (i : Nat) (a : AV) (v : Value), x[i]? = some a → xs[i]? = some v → VR ρ a v) → VR ρ (.agg x) (.agg xs.toArray)
  | tup (x : List AV) (xs : List Value) : x.length = xs.length → (∀ (i : Nat) (a : AV) (v : Value), x[i]? = some a → xs[i]? = some v → VR ρ a v) → VR ρ (.tup x) (.tuple xs.toArray)

def VRL (ρ : Ren) (x : List AV) (xs : List Value) : Prop := x.length = xs.length ∧ ∀ (i : Nat) (a : AV) (v : Value), x[i]? = some a → xs[i]? = some v → VR ρ a v
theorem VRL.nil {ρ : Ren} : VRL ρ [] [] := ⟨rfl, by simp⟩
theorem VRL.cons {ρ : Ren} {a : AV} {v : Value} {x : List AV} {xs : List Value} (h : VR ρ a v) (t : VRL ρ x xs) : VRL ρ (a :: x) (v :: xs) := by
  refine ⟨by simp [t.1], fun i b u hb hu => ?_⟩
  cases i with
  | zero => simp at hb hu; subst hb; subst hu; exact h
  | succ i => simp at hb hu; exact t.2 i b u hb hu
theorem VRL.of_cons {ρ : Ren} {a : AV} {x : List AV} {ys : List Value} (h : VRL ρ (a :: x) ys) : ∃ v xs, ys = v :: xs ∧ VR ρ a v ∧ VRL ρ x xs := by
  cases ys with
  | nil => have := h.1; simp at this
  | cons v xs => exact ⟨v, xs, rfl, h.2 0 a v rfl rfl, by have := h.1; simpa using this, fun i b u hb hu => h.2 (i + 1) b u (by simpa using hb) (by simpa using hu)⟩
theorem VRL.of_nil {ρ : Ren} {ys : List Value} (h : VRL ρ [] ys) : ys = [] := by
  have := h.1
  cases ys with
  | nil => rfl
  | cons v r => simp at this
theorem VRL.append {ρ : Ren} {x y : List AV} {xs ys : List Value} (h : VRL ρ x xs) (k : VRL ρ y ys) : VRL ρ (x ++ y) (xs ++ ys) := by
  induction x generalizing xs with
  | nil => rw [h.of_nil]; exact k
  | cons a x ih =>
    obtain ⟨v, r, rfl, h1, h2⟩ := h.of_cons
    exact VRL.cons h1 (ih h2)
theorem VRL.take {ρ : Ren} {x : List AV} {xs : List Value} (h : VRL ρ x xs) (n : Nat) : VRL ρ (x.take n) (xs.take n) := by
  refine ⟨by simp [h.1], fun i b u hb hu => ?_⟩
  by_cases hi : i < n
  · rw [List.getElem?_take_of_lt hi] at hb hu; exact h.2 i b u hb hu
  · rw [List.getElem?_take_eq_none (by omega)] at hb; cases hb
theorem VRL.drop {ρ : Ren} {x : List AV} {xs : List Value} (h : VRL ρ x xs) (n : Nat) : VRL ρ (x.drop n) (xs.drop n) := by
  refine ⟨by simp [h.1], fun i b u hb hu => ?_⟩
  rw [List.getElem?_drop] at hb hu; exact h.2 _ b u hb hu

def Ext (ρ ρ' : Ren) (n : Nat) : Prop := ∀ i, i < n → ρ' i = ρ i
/-- All addresses lie below n. -/
def Dom (ρ : Ren) (n : Nat) : Prop := ∀ i r, ρ i = some r → i < n

theorem VR.mono {ρ ρ' : Ren} {a : AV} {v : Value} (h : VR ρ a v) : (∀ i r, ρ i = some r → ρ' i = some r) → VR ρ' a v := by
  intro hx
  induction h with
  | bool b => exact .bool b
  | int k n => exact .int k n
  | str s => exact .str s
  | ptr b o r h => exact .ptr b o r (hx _ _ h)
  | nilp => exact .nilp
  | sl b o l c r h => exact .sl b o l c r (hx _ _ h)
  | sg b o l z c r h h1 h2 => exact .sg b o l z c r (hx _ _ h) h1 h2
  | sg0 b o z a r h => exact .sg0 b o z a r (hx _ _ h)
  | nils => exact .nils
  | nilm => exact .nilm
  | fn f x y xs ys h1 h2 h3 h4 ih1 ih2 => exact .fn f x y xs ys h1 ih1 h3 ih2
  | nilf => exact .nilf
  | iface t a v h ih => exact .iface t a v ih
  | nili => exact .nili
  | agg x xs h1 h2 ih => exact .agg x xs h1 ih
  | tup x xs h1 h2 ih => exact .tup x xs h1 ih
theorem Ext.sub {ρ ρ' : Ren} {n : Nat} (h : Ext ρ ρ' n) (hd : Dom ρ n) : ∀ i r, ρ i = some r → ρ' i = some r :=
  fun i r hi => by rw [h i (hd i r hi)]; exact hi
theorem VRL.mono {ρ ρ' : Ren} {x : List AV} {xs : List Value} (h : VRL ρ x xs) (hx : ∀ i r, ρ i = some r → ρ' i = some r) : VRL ρ' x xs :=
  ⟨h.1, fun i a v ha hv => (h.2 i a v ha hv).mono hx⟩

theorem VR.plain1 {ρ : Ren} {a : AV} {v : Value} (h : VR ρ a v) (hp : a.plain1 = true) (ρ' : Ren) : VR ρ' a v := by
  cases h <;> simp [AV.plain1] at hp <;> first | constructor | skip
theorem VRL.plain1 {ρ : Ren} {x : List AV} {xs : List Value} (h : VRL ρ x xs) (hp : x.all AV.plain1 = true) (ρ' : Ren) : VRL ρ' x xs :=
  ⟨h.1, fun i a v ha hv => (h.2 i a v ha hv).plain1 (List.all_eq_true.1 hp a (List.mem_of_getElem? ha)) ρ'⟩
theorem VR.plain2 {ρ : Ren} {a : AV} {v : Value} (h : VR ρ a v) (hp : a.plain2 = true) (ρ' : Ren) : VR ρ' a v := by
  cases a with
  | agg l =>
    cases h with
    | agg x xs h1 h2 =>
      have := VRL.plain1 (ρ := ρ) ⟨h1, h2⟩ (by simpa [AV.plain2, allR_eq] using hp) ρ'
      exact .agg _ _ this.1 this.2
  | _ => exact h.plain1 hp ρ'
theorem VR.plain {ρ : Ren} {a : AV} {v : Value} (h : VR ρ a v) (hp : a.plain = true) (ρ' : Ren) : VR ρ' a v := by
  cases a with
  | tup l =>
    cases h with
    | tup x xs h1 h2 =>
      refine .tup _ _ h1 fun i a v ha hv => (h2 i a v ha hv).plain2 ?_ ρ'
      have hq : l.all AV.plain2 = true := by simpa [AV.plain, allR_eq] using hp
      exact List.all_eq_true.1 hq a (List.mem_of_getElem? ha)
  | _ => exact h.plain2 hp ρ'

/-- A value's cells. -/
theorem VR.cells {ρ : Ren} {a : AV} {v : Value} (h : VR ρ a v) : VRL ρ a.cells v.cells.toList := by
  cases h with
  | agg x xs h1 h2 => exact ⟨by simpa [AV.cells, Value.cells] using h1, by simpa [AV.cells, Value.cells] using h2⟩
  | ptr b o r h => exact VRL.cons (.ptr b o r h) .nil
  | sl b o l c r h => exact VRL.cons (.sl b o l c r h) .nil
  | sg b o l z c r h h1 h2 => exact VRL.cons (.sg b o l z c r h h1 h2) .nil
  | sg0 b o z a r h => exact VRL.cons (.sg0 b o z a r h) .nil
  | fn f x y xs ys h1 h2 h3 h4 => exact VRL.cons (.fn f x y xs ys h1 h2 h3 h4) .nil
  | iface t a v h => exact VRL.cons (.iface t a v h) .nil
  | tup x xs h1 h2 => exact VRL.cons (.tup x xs h1 h2) .nil
  | _ => exact VRL.cons (by constructor) .nil

theorem undef_VR (ρ : Ren) : VR ρ AV.undef undef := .tup [] [] rfl (by simp)

theorem ofVal1_VR (ρ : Ren) {v : Value} {a : AV} (h : ofVal1 v = some a) : VR ρ a v := by
  unfold ofVal1 at h
  split at h <;> try (first | (cases h; constructor) | cases h)
  rename_i l c
  cases l with
  | zero => cases c with
    | zero => have h' : some AV.nils = some a := h; cases h'; exact .nils
    | succ c => have h' : (none : Option AV) = some a := h; cases h'
  | succ l => have h' : (none : Option AV) = some a := h; cases h'
theorem ofVals_VRL (ρ : Ren) : ∀ (vs : List Value) (l : List AV), ofVals vs = some l → VRL ρ l vs
  | [], l, h => by simp [ofVals] at h; subst h; exact .nil
  | v :: r, l, h => by
    unfold ofVals at h
    split at h
    · rename_i x hx
      split at h
      · rename_i m hm
        cases h
        exact VRL.cons (ofVal1_VR ρ hx) (ofVals_VRL ρ r m hm)
      · cases h
    · cases h
theorem ofVal_VR (ρ : Ren) {v : Value} {a : AV} (h : ofVal v = some a) : VR ρ a v := by
  unfold ofVal at h
  split at h
  · split at h
    · rename_i cs _ l hl
      cases h
      have := ofVals_VRL ρ _ _ hl
      exact .agg l cs.toList this.1 this.2
    · cases h
  · split at h
    · rename_i cs _ l hl
      cases h
      have := ofVals_VRL ρ _ _ hl
      exact .tup l cs.toList this.1 this.2
    · cases h
  · exact ofVal1_VR ρ h

/-- Temporaries that an operation looks at. -/
def OpsRel (ρ : Ren) (T : Nat → AV) (e : Operand → Value) (x : Operand) : Prop := ∀ a, ev T x = some a → VR ρ a (e x)

theorem ev_VR {ρ : Ren} {T : Nat → AV} {a : Act} {x : Operand} (h : ∀ t, x = .tmp t → VR ρ (T t) (a.tmps.getD t undef)) : OpsRel ρ T a.eval x := by
  intro v hv
  cases x with
  | tmp t => simp only [ev, Option.some.injEq] at hv; subst hv; exact h t rfl
  | const c => exact ofVal_VR ρ hv
  | global g => cases hv
  | func f => simp only [ev, Option.some.injEq] at hv; subst hv; exact .fn _ [] [] [] [] rfl (by simp) rfl (by simp)

theorem evs_VRL {ρ : Ren} {T : Nat → AV} {e : Operand → Value} : ∀ (xs : List Operand) (l : List AV), (∀ x ∈ xs, OpsRel ρ T e x) → evs T xs = some l → VRL ρ l (xs.map e)
  | [], l, _, h => by simp [evs] at h; subst h; exact .nil
  | x :: r, l, hx, h => by
    unfold evs at h
    split at h
    · rename_i v hv
      split at h
      · rename_i m hm
        cases h
        exact VRL.cons (hx x (by simp) v hv) (evs_VRL r m (fun y hy => hx y (by simp [hy])) hm)
      · cases h
    · cases h
end Go.X
