import Derived.Test.YtekjeadgknmokaaX1
import Derived.Laws.Tables
import Derived.Calls
/- The abstract memory and the real one. -/
set_option linter.unusedVariables false
set_option linter.unusedSimpArgs false
namespace Go.X
open Go

theorem ble_iff {a b : Nat} : Nat.ble a b = true ↔ a ≤ b := by rw [Nat.ble_eq]
theorem beq_iff {a b : Nat} : Nat.beq a b = true ↔ a = b := by rw [Nat.beq_eq]
theorem HP.get_eq {H : HP} (h : H.l.length = H.n) (i : Nat) : H.get i = if i < H.n then H.l[H.n - 1 - i]? else none := by
  unfold HP.get
  by_cases hi : H.n ≤ i
  · rw [ble_iff.2 hi]; simp [show ¬ i < H.n by omega]
  · have : Nat.ble H.n i = false := by
      cases hb : Nat.ble H.n i with
      | false => rfl
      | true => exact absurd (ble_iff.1 hb) hi
    rw [this]
    simp [nth_eq, show i < H.n by omega]
theorem HP.get_lt {H : HP} {i : Nat} {b : ABlk} (h : H.get i = some b) : i < H.n := by
  unfold HP.get at h
  cases hb : Nat.ble H.n i with
  | true => rw [hb] at h; cases h
  | false =>
    rcases Nat.lt_or_ge i H.n with hi | hi
    · exact hi
    · rw [ble_iff.2 hi] at hb; cases hb
theorem HP.get_push {H : HP} (h : H.l.length = H.n) (b : ABlk) (i : Nat) : (H.push b).get i = if i = H.n then some b else H.get i := by
  rw [HP.get_eq h, HP.get_eq (by simp [HP.push, h]), show (H.push b).n = H.n + 1 from rfl, show (H.push b).l = b :: H.l from rfl]
  by_cases hi : i = H.n
  · subst hi; simp
  · by_cases hl : i < H.n
    · rw [if_pos (by omega), if_neg hi, if_pos hl, show H.n + 1 - 1 - i = (H.n - 1 - i) + 1 by omega, List.getElem?_cons_succ]
    · rw [if_neg (by omega), if_neg hi, if_neg hl]
theorem HP.get_set {H : HP} (h : H.l.length = H.n) {j : Nat} (hj : j < H.n) (b : ABlk) (i : Nat) : (H.set j b).get i = if i = j then some b else H.get i := by
  have hl : (H.set j b).l.length = (H.set j b).n := by simp [HP.set, setn_eq, h]
  rw [HP.get_eq h, HP.get_eq hl, show (H.set j b).n = H.n from rfl, show (H.set j b).l = H.l.set (H.n - 1 - j) b from setn_eq _ _ _]
  by_cases hi : i < H.n
  · rw [if_pos hi, List.getElem?_set]
    by_cases hij : i = j
    · subst hij; simp; omega
    · rw [if_neg (by omega), if_neg hij, if_pos hi]
  · rw [if_neg hi, if_neg (by omega), if_neg hi]
theorem HP.get_trim {H : HP} (h : H.l.length = H.n) {m : Nat} (hm : m ≤ H.n) (i : Nat) : (H.trim m).get i = if i < m then H.get i else none := by
  have hl : (H.trim m).l.length = (H.trim m).n := by simp [HP.trim, dropR_eq, h]; omega
  rw [HP.get_eq h, HP.get_eq hl, show (H.trim m).n = m from rfl, show (H.trim m).l = H.l.drop (H.n - m) from dropR_eq _ _, List.getElem?_drop]
  by_cases hi : i < m
  · rw [if_pos hi, if_pos hi, if_pos (by omega), show H.n - m + (m - 1 - i) = H.n - 1 - i by omega]
  · rw [if_neg hi, if_neg hi]
theorem HP.mk_eta {H : HP} {b : ABlk} {j : Nat} : (⟨H.n, (H.set j b).l⟩ : HP) = H.set j b := rfl

structure Fr (W : Nat → Prop) (w w' : World) : Prop where
  os : w'.os = w.os
  tape : w'.tape = w.tape
  output : w'.output = w.output
  size : w.heap.size ≤ w'.heap.size
  block : ∀ k, k < w.heap.size → ¬ W k → w'.heap[k]? = w.heap[k]?
theorem Fr.refl (W : Nat → Prop) (w : World) : Fr W w w := ⟨rfl, rfl, rfl, Nat.le_refl _, fun _ _ _ => rfl⟩
theorem Fr.trans {W W' : Nat → Prop} {a b c : World} (h : Fr W a b) (k : Fr W' b c) (hw : ∀ g, W' g → W g ∨ a.heap.size ≤ g) : Fr W a c :=
  ⟨k.os.trans h.os, k.tape.trans h.tape, k.output.trans h.output, Nat.le_trans h.size k.size, fun i hi hn =>
    (k.block i (Nat.lt_of_lt_of_le hi h.size) (fun hw' => (hw i hw').elim hn (fun hge => by omega))).trans (h.block i hi hn)⟩
theorem Fr.drew (W : Nat → Prop) {a w : World} (h : Fr W a w) : Fr W a w.drew := ⟨h.os, h.tape, h.output, h.size, h.block⟩

def BM.own? : BM → Bool
  | .ro => false
  | _ => true

/-- Which real blocks may be written. -/
def wrG (ρ : Ren) (H : HP) (g : Nat) : Prop := ∃ i m e c r, H.get i = some (.row m e c) ∧ m.own? = true ∧ ρ i = some r ∧ r.g = g

def BlkR (P : Program) (ρ : Ren) (i : Nat) (w : World) : ABlk → Prop
  | .dead => True
  | .row m e cells => ∃ r row te fz, ρ i = some r ∧ w.heap[r.g]? = some (.cells row te fz) ∧
      (∀ (k : Nat) (c : AV), cells[k]? = some c → ∃ u : Value, row[r.d + k]? = some u ∧ VR ρ c u) ∧
      (m.own? = true → ∀ o, o < row.size → (decide (fz.1 ≤ o) && decide (o < fz.2)) = false) ∧
      (m = .grown → r.d + r.C ≤ row.size ∧ cells.length ≤ r.C)

structure HR (P : Program) (ρ : Ren) (H : HP) (w : World) : Prop where
  len : H.l.length = H.n
  dom : Dom ρ H.n
  blk : ∀ i b, H.get i = some b → BlkR P ρ i w b
  sep : ∀ i j mi ei ci mj ej cj ri rj, i ≠ j → H.get i = some (.row mi ei ci) → H.get j = some (.row mj ej cj) → mi.own? = true → ρ i = some ri → ρ j = some rj → ri.g ≠ rj.g
  rng : ∀ i r, ρ i = some r → r.g < w.heap.size

structure Step (P : Program) (ρ : Ren) (H : HP) (w : World) (ρ' : Ren) (H' : HP) (w' : World) : Prop where
  ext : ∀ i r, ρ i = some r → ρ' i = some r
  n : H.n ≤ H'.n
  hr : HR P ρ' H' w'
  fr : Fr (wrG ρ H) w w'
  wr : ∀ g, wrG ρ' H' g → wrG ρ H g ∨ w.heap.size ≤ g
  img : ∀ i r, ρ' i = some r → (∃ j r', ρ j = some r' ∧ r'.g = r.g) ∨ w.heap.size ≤ r.g
theorem Step.refl {P : Program} {ρ : Ren} {H : HP} {w : World} (h : HR P ρ H w) : Step P ρ H w ρ H w :=
  ⟨fun _ _ h => h, Nat.le_refl _, h, .refl _ _, fun _ h => .inl h, fun i r h => .inl ⟨i, r, h, rfl⟩⟩
theorem Step.trans {P : Program} {ρ ρ₁ ρ₂ : Ren} {H H₁ H₂ : HP} {w w₁ w₂ : World} (h : Step P ρ H w ρ₁ H₁ w₁) (k : Step P ρ₁ H₁ w₁ ρ₂ H₂ w₂) : Step P ρ H w ρ₂ H₂ w₂ :=
  ⟨fun i r hi => k.ext i r (h.ext i r hi), Nat.le_trans h.n k.n, k.hr, h.fr.trans k.fr h.wr, fun g hg => (k.wr g hg).elim (h.wr g) (fun hge => .inr (Nat.le_trans h.fr.size hge)),
   fun i r hi => (k.img i r hi).elim (fun ⟨j, r', hj, e⟩ => (h.img j r' hj).elim (fun ⟨l, r'', hl, e'⟩ => .inl ⟨l, r'', hl, e'.trans e⟩) (fun hge => .inr (e ▸ hge))) (fun hge => .inr (Nat.le_trans h.fr.size hge))⟩

/-- A real world that differs in what no abstract memory speaks of. -/
theorem HR.drew {P : Program} {ρ : Ren} {H : HP} {w : World} (h : HR P ρ H w) : HR P ρ H w.drew := ⟨h.len, h.dom, h.blk, h.sep, h.rng⟩
theorem Step.drew {P : Program} {ρ ρ' : Ren} {H H' : HP} {w w' : World} (h : Step P ρ H w ρ' H' w') : Step P ρ H w ρ' H' w'.drew :=
  ⟨h.ext, h.n, h.hr.drew, h.fr.drew _, h.wr, h.img⟩

theorem BlkR.mono {P : Program} {ρ ρ' : Ren} {i : Nat} {w w' : World} {b : ABlk} (h : BlkR P ρ i w b) (hx : ∀ i r, ρ i = some r → ρ' i = some r)
    (hw : ∀ r, ρ i = some r → ∀ m e c, b = .row m e c → w'.heap[r.g]? = w.heap[r.g]?) : BlkR P ρ' i w' b := by
  cases b with
  | dead => trivial
  | row m e cells =>
    obtain ⟨r, row, te, fz, h1, h2, h3, h4, h5⟩ := h
    exact ⟨r, row, te, fz, hx _ _ h1, by rw [hw r h1 m e cells rfl]; exact h2, fun k c hc => let ⟨u, hu, hv⟩ := h3 k c hc; ⟨u, hu, hv.mono hx⟩, h4, h5⟩

theorem HR.lt {P : Program} {ρ : Ren} {H : HP} {w : World} (h : HR P ρ H w) {i : Nat} {m : BM} {e : TypeId} {c : List AV} {r : RB} (hi : H.get i = some (.row m e c)) (hr : ρ i = some r) : r.g < w.heap.size := by
  obtain ⟨r', row, te, fz, h1, h2, _⟩ := h.blk i _ hi
  rw [hr] at h1; cases h1
  exact (Array.getElem?_eq_some_iff.1 h2).1

/-- A new block. -/
theorem HR.alloc {P : Program} {ρ : Ren} {H : HP} {w : World} (h : HR P ρ H w) (m : BM) (e te : TypeId) (cells : List AV) (row : Array Value) (C : Nat) (fz : Nat × Nat)
    (hc : ∀ (k : Nat) (c : AV), cells[k]? = some c → ∃ u : Value, row[k]? = some u ∧ VR ρ c u) (hf : ∀ o, o < row.size → (decide (fz.1 ≤ o) && decide (o < fz.2)) = false)
    (hg : m = .grown → C ≤ row.size ∧ cells.length ≤ C) :
    ∃ ρ', ρ' H.n = some ⟨w.heap.size, 0, C⟩ ∧ Step P ρ H w ρ' (H.push (.row m e cells)) (w.alloc (.cells row te fz)) := by
  let ρ' : Ren := fun i => if i = H.n then some ⟨w.heap.size, 0, C⟩ else ρ i
  have hn : ρ H.n = none := by
    cases hh : ρ H.n with
    | none => rfl
    | some r => exact absurd (h.dom _ _ hh) (Nat.lt_irrefl _)
  have hx : ∀ i r, ρ i = some r → ρ' i = some r := fun i r hi => by
    have : i ≠ H.n := fun e => by rw [e, hn] at hi; cases hi
    simp [ρ', this, hi]
  have hold : ∀ g, g < w.heap.size → (w.alloc (.cells row te fz)).heap[g]? = w.heap[g]? := fun g hg => by
    show (w.heap.push _)[g]? = _
    rw [Array.getElem?_push, if_neg (by omega)]
  have hget := HP.get_push h.len (.row m e cells)
  refine ⟨ρ', by simp [ρ'], hx, Nat.le_succ _, ⟨by simp [HP.push, h.len], ?_, ?_, ?_, ?_⟩, ⟨rfl, rfl, rfl, by simp, fun k hk _ => hold k hk⟩, ?_, ?_⟩
  · intro i r hi
    by_cases hin : i = H.n
    · subst hin; exact Nat.lt_succ_self _
    · have : ρ i = some r := by simpa [ρ', hin] using hi
      exact Nat.lt_succ_of_lt (h.dom _ _ this)
  · intro i b hb
    rw [hget] at hb
    by_cases hin : i = H.n
    · rw [if_pos hin] at hb
      cases hb
      subst hin
      refine ⟨⟨w.heap.size, 0, C⟩, row, te, fz, by simp [ρ'], by show (w.heap.push _)[w.heap.size]? = _; rw [Array.getElem?_push, if_pos rfl], ?_, fun _ => hf, fun hm => by simpa using hg hm⟩
      intro k c hk
      obtain ⟨u, hu, hv⟩ := hc k c hk
      exact ⟨u, by simpa using hu, hv.mono hx⟩
    · rw [if_neg hin] at hb
      exact (h.blk i b hb).mono hx fun r hr m' e' c' he => hold _ (by subst he; exact h.lt hb hr)
  · intro i j mi ei ci mj ej cj ri rj hne hi hj hm hri hrj
    rw [hget] at hi hj
    by_cases hin : i = H.n
    · have hjn : j ≠ H.n := fun e => hne (hin.trans e.symm)
      rw [if_neg hjn] at hj
      have hrj' : ρ j = some rj := by simpa [ρ', hjn] using hrj
      have : ri = ⟨w.heap.size, 0, C⟩ := by simpa [ρ', hin] using hri.symm
      have hlt := h.lt hj hrj'
      subst this
      exact fun e => by simp only at e; omega
    · rw [if_neg hin] at hi
      have hri' : ρ i = some ri := by simpa [ρ', hin] using hri
      by_cases hjn : j = H.n
      · have : rj = ⟨w.heap.size, 0, C⟩ := by simpa [ρ', hjn] using hrj.symm
        have hlt := h.lt hi hri'
        subst this
        exact fun e => by simp only at e; omega
      · rw [if_neg hjn] at hj
        exact h.sep i j _ _ _ _ _ _ _ _ hne hi hj hm hri' (by simpa [ρ', hjn] using hrj)
  · intro i r hi
    by_cases hin : i = H.n
    · have : r = ⟨w.heap.size, 0, C⟩ := by simpa [ρ', hin] using hi.symm
      subst this
      simp
    · have := h.rng i r (by simpa [ρ', hin] using hi)
      simp; omega
  · rintro g ⟨i, mi, ei, ci, ri, hi, hm, hri, rfl⟩
    rw [hget] at hi
    by_cases hin : i = H.n
    · right
      have : ri = ⟨w.heap.size, 0, C⟩ := by simpa [ρ', hin] using hri.symm
      subst this
      exact Nat.le_refl _
    · rw [if_neg hin] at hi
      exact .inl ⟨i, mi, ei, ci, ri, hi, hm, by simpa [ρ', hin] using hri, rfl⟩
  · intro i r hi
    by_cases hin : i = H.n
    · right
      have : r = ⟨w.heap.size, 0, C⟩ := by simpa [ρ', hin] using hi.symm
      subst this
      exact Nat.le_refl _
    · exact .inl ⟨i, r, by simpa [ρ', hin] using hi, rfl⟩

theorem VR.oneCell {ρ : Ren} {a : AV} {v : Value} (h : VR ρ a v) (ho : a.one = true) : v.oneCell' = true := by
  cases h <;> first | rfl | (simp [AV.one] at ho)

theorem store_row {P : Program} : ∀ (vs : List Value) (i o g : Nat) (cur : Array Value) (te : TypeId) (fz : Nat × Nat) (w : World), w.heap[g]? = some (.cells cur te fz) →
    (∀ o, o < cur.size → (decide (fz.1 ≤ o) && decide (o < fz.2)) = false) → (vs.length = 0 ∨ o + i + vs.length ≤ cur.size) → (∀ v ∈ vs, v.oneCell' = true) →
    ∃ cur' : Array Value, cur'.size = cur.size ∧ (∀ j, cur'[j]? = if o + i ≤ j ∧ j < o + i + vs.length then vs[j - (o + i)]? else cur[j]?) ∧
      (storeCells ⟨g, o, none⟩ vs i).run P w = .ok () (w.setRow g cur')
  | [], i, o, g, cur, te, fz, w, hg, _, _, _ => by
    refine ⟨cur, rfl, fun j => by rw [if_neg (by simp <;> omega)], ?_⟩
    have : w.setRow g cur = w := by
      have hlt : g < w.heap.size := (Array.getElem?_eq_some_iff.1 hg).1
      have hv : w.heap[g] = .cells cur te fz := (Array.getElem?_eq_some_iff.1 hg).2
      unfold World.setRow
      congr 1
      apply Array.ext
      · simp
      · intro k h1 h2
        simp only [Array.getElem_modify]
        split
        · rename_i hk; subst hk; simp [hv]
        · rfl
    rw [this]; rfl
  | v :: r, i, o, g, cur, te, fz, w, hg, hf, hl, h1 => by
    replace hl : o + i + (v :: r).length ≤ cur.size := hl.resolve_left (by simp)
    have hi : o + i < cur.size := by simp at hl; omega
    have hadd : (⟨g, o, none⟩ : Addr).add i = ⟨g, o + i, none⟩ := by unfold Addr.add; split <;> simp_all
    have hcell : w.cell? ⟨g, o + i, none⟩ = some cur[o + i] := by simp [World.cell?, hg, hi]
    have hfro : w.frozen? ⟨g, o + i, none⟩ = false := by
      have := hf (o + i) hi
      simpa [World.frozen?, hg] using this
    have hst : (store ((⟨g, o, none⟩ : Addr).add i) v).run P w = .ok () (w.setRow g (cur.setIfInBounds (o + i) v)) := by
      rw [hadd, run_store P w _ v _ (h1 v (by simp)), hcell]
      simp [hfro, setCell_eq_setRow w g (o + i) cur te fz v hg]
    obtain ⟨cur', hs, hc, hrun⟩ := store_row (P := P) r (i + 1) o g (cur.setIfInBounds (o + i) v) te fz (w.setRow g (cur.setIfInBounds (o + i) v)) (setRow_heap w g cur _ te _ hg) (by simpa using hf) (.inr (by simp at hl ⊢; omega)) (fun x hx => h1 x (by simp [hx]))
    refine ⟨cur', by simpa using hs, fun j => ?_, ?_⟩
    · rw [hc j]
      by_cases hj : j = o + i
      · subst hj
        rw [if_neg (by omega), if_pos (by simp)]
        simp [hi]
      · by_cases hj2 : o + i ≤ j ∧ j < o + i + (r.length + 1)
        · rw [if_pos (by omega), if_pos (by simpa using hj2), show j - (o + i) = j - (o + (i + 1)) + 1 by omega, List.getElem?_cons_succ]
        · rw [if_neg (by omega), if_neg (by simpa using hj2), Array.getElem?_setIfInBounds_ne (by omega)]
    · simp only [storeCells, Sem.run_bind, hst, Result.andThen_ok, hrun, setRow_setRow]
end Go.X
