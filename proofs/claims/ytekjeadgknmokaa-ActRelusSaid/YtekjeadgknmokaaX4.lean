import Derived.Test.YtekjeadgknmokaaX3
import Derived.Laws.Entries
/- Operations that neither read nor make memory: all of them. -/
set_option linter.unusedVariables false
set_option linter.unusedSimpArgs false
namespace Go.X
open Go

theorem VRL.get {ρ : Ren} {x : List AV} {xs : List Value} (h : VRL ρ x xs) {i : Nat} {a : AV} (hi : x[i]? = some a) : ∃ v, xs[i]? = some v ∧ VR ρ a v := by
  have hlt : i < xs.length := by rw [← h.1]; exact (List.getElem?_eq_some_iff.1 hi).1
  exact ⟨xs[i], List.getElem?_eq_getElem hlt, h.2 i a _ hi (List.getElem?_eq_getElem hlt)⟩

theorem seg_sound {ρ : Ren} {x m : List AV} {xs : List Value} {o n : Nat} (h : VRL ρ x xs) (hs : seg x o n = some m) : n ≤ xs.length - o ∧ m.length = n ∧ VRL ρ m ((xs.drop o).take n) := by
  unfold seg at hs
  rw [takeR_eq, dropR_eq] at hs
  split at hs
  · rename_i hl
    cases hs
    rw [List.length_drop, h.1] at hl
    have hm := (h.drop o).take n
    exact ⟨hl, by rw [hm.1]; simp; omega, hm⟩
  · cases hs

theorem splice_sound {ρ : Ren} {x y c : List AV} {xs ys : List Value} {o : Nat} (h : VRL ρ x xs) (k : VRL ρ y ys) (hs : splice x o y = some c) :
    o + ys.length ≤ xs.length ∧ c.length = x.length ∧ VRL ρ c (xs.take o ++ ys ++ xs.drop (o + ys.length)) := by
  unfold splice at hs
  rw [takeR_eq, dropR_eq, takeR_eq, lenR_eq] at hs
  split at hs
  · rename_i a ha
    split at ha
    · rename_i ho
      cases ha
      split at hs
      · rename_i b hb
        split at hb
        · rename_i hl
          cases hs
          simp only [appR_eq, dropR_eq]
          simp only [List.length_drop] at hl
          have h1 := h.1
          have k1 := k.1
          refine ⟨by omega, by simp; omega, ?_⟩
          rw [List.append_assoc, ← k1]
          exact (h.take o).append (k.append (h.drop _))
        · cases hb
      · cases hs
    · cases ha
  · cases hs

theorem fold_splice : ∀ (vs : List Value) (off j : Nat) (xs : Array Value), off + j + vs.length ≤ xs.size →
    ((vs.zipIdx j).foldl (fun (cs : Array Value) (p : Value × Nat) => cs.setIfInBounds (off + p.2) p.1) xs).toList = xs.toList.take (off + j) ++ vs ++ xs.toList.drop (off + j + vs.length)
  | [], off, j, xs, _ => by simp
  | v :: r, off, j, xs, h => by
    simp only [List.zipIdx_cons, List.foldl_cons]
    rw [fold_splice r off (j + 1) _ (by simp at h ⊢; omega)]
    have hlt : off + j < xs.toList.length := by simp at h ⊢; omega
    rw [Array.toList_setIfInBounds, List.take_set, List.drop_set]
    rw [if_pos (by omega)]
    have e1 : (xs.toList.take (off + (j + 1))).set (off + j) v = xs.toList.take (off + j) ++ [v] := by
      rw [show off + (j + 1) = off + j + 1 by omega, List.take_succ_eq_append_getElem hlt, List.set_append_right _ _ (by simp; omega)]
      simp [Nat.min_eq_left (Nat.le_of_lt hlt)]
      have : min (off + j) xs.size = off + j := by simp at hlt; omega
      simp [this]
    rw [e1]
    simp [show off + (j + 1) + r.length = off + j + (r.length + 1) by omega]

theorem sets_sound {ρ : Ren} {place : Nat → Option (Nat × Nat)} : ∀ (ps : List (Nat × AV)) (us : List (Nat × Value)) (x c : List AV) (xs : Array Value),
    ps.length = us.length → (∀ (i : Nat) (p : Nat × AV) (u : Nat × Value), ps[i]? = some p → us[i]? = some u → p.1 = u.1 ∧ VR ρ p.2 u.2) → VRL ρ x xs.toList → sets x ps place = some c →
    ∃ ys, Instr.fill place xs us = some ys ∧ VRL ρ c ys.toList ∧ c.length = x.length
  | [], us, x, c, xs, hl, hp, hx, hs => by
    cases us with
    | nil => simp [sets] at hs; subst hs; exact ⟨xs, rfl, hx, rfl⟩
    | cons u r => simp at hl
  | (i, a) :: ps, us, x, c, xs, hl, hp, hx, hs => by
    cases us with
    | nil => simp at hl
    | cons u r =>
      obtain ⟨j, v⟩ := u
      obtain ⟨e, hv⟩ := hp 0 _ _ rfl rfl
      simp only at e hv
      subst e
      unfold sets at hs
      split at hs
      · rename_i off size hpl
        cases hb : Nat.beq (lenR a.cells) size with
        | false => rw [hb] at hs; cases hs
        | true =>
          rw [hb] at hs
          have hsz : a.cells.length = size := by rw [← lenR_eq]; exact beq_iff.1 hb
          simp only [cond_true] at hs
          split at hs
          · rename_i c' hc'
            obtain ⟨s1, s2, s3⟩ := splice_sound hx hv.cells hc'
            have hcl := hv.cells.1
            have hvs : v.cells.size = size := by rw [← hsz, hcl]; simp
            have hfold := fold_splice v.cells.toList off 0 xs (by simp at s1 ⊢; omega)
            obtain ⟨ys, h1, h2, h3⟩ := sets_sound ps r c' c ((v.cells.toList.zipIdx 0).foldl (fun (cs : Array Value) (p : Value × Nat) => cs.setIfInBounds (off + p.2) p.1) xs) (by simpa using hl)
              (fun i p u hp' hu => hp (i + 1) p u (by simpa using hp') (by simpa using hu)) (by rw [hfold]; simpa using s3) hs
            refine ⟨ys, ?_, h2, h3.trans s2⟩
            unfold Instr.fill
            simp only [hpl]
            have hnot : ¬ (v.cells.size ≠ size || off + v.cells.size > xs.size) = true := by simp [hvs]; simp at s1; omega
            rw [if_neg hnot]
            rw [← h1]
            congr 1
            rw [← Array.foldl_toList]
            simp [Array.toList_zipIdx]
          · cases hs
      · cases hs

theorem evParts_sound {ρ : Ren} {T : Nat → AV} {e : Operand → Value} : ∀ (l : List (Nat × Operand)) (ps : List (Nat × AV)), (∀ x ∈ l, OpsRel ρ T e x.2) → evParts T l = some ps →
    ps.length = (l.map fun p => (p.1, e p.2)).length ∧ ∀ (i : Nat) (p : Nat × AV) (u : Nat × Value), ps[i]? = some p → (l.map fun p => (p.1, e p.2))[i]? = some u → p.1 = u.1 ∧ VR ρ p.2 u.2
  | [], ps, _, h => by simp [evParts] at h; subst h; simp
  | (i, x) :: r, ps, hx, h => by
    unfold evParts at h
    split at h
    · rename_i v hv
      split at h
      · rename_i m hm
        cases h
        obtain ⟨h1, h2⟩ := evParts_sound r m (fun y hy => hx y (by simp [hy])) hm
        refine ⟨by simpa using h1, fun k p u hp hu => ?_⟩
        cases k with
        | zero => simp at hp hu; subst hp; subst hu; exact ⟨rfl, hx (i, x) (by simp) v hv⟩
        | succ k => simp only [List.map_cons, List.getElem?_cons_succ] at hp hu; exact h2 k p u hp hu
      · cases h
    · cases h

theorem zeroOf_sound {P : Program} {t : TypeId} {z : AV} (h : zeroOf P t = some z) : ∃ v, (∀ w, (zeroValue t).run P w = .ok v w) ∧ ∀ ρ, VR ρ z v := by
  unfold zeroOf at h
  split at h
  · rename_i i hi
    split at h
    · rename_i v hv
      exact ⟨v, fun w => by simp [zeroValue, typeInfo, hi, hv], fun ρ => ofVal_VR ρ h⟩
    · cases h
  · cases h

theorem places_sound {P : Program} {w : World} : ∀ (fs : List Field) (pl : List (Nat × Nat)), fieldsPlaces P fs = some pl →
    (fs.mapM fun f => Prod.mk f.offset <$> sizeOf f.type : Sem (List (Nat × Nat))).run P w = .ok pl w
  | [], pl, h => by simp [fieldsPlaces] at h; subst h; rfl
  | f :: r, pl, h => by
    unfold fieldsPlaces at h
    split at h
    · rename_i s hs
      split at h
      · rename_i l hl
        cases h
        simp [List.mapM_cons, run_sizeOf' hs, places_sound r l hl]
      · cases h
    · cases h
theorem places_array {P : Program} {w : World} (fs : Array Field) (pl : List (Nat × Nat)) (h : fieldsPlaces P fs.toList = some pl) :
    (fs.mapM fun f => Prod.mk f.offset <$> sizeOf f.type : Sem (Array (Nat × Nat))).run P w = .ok pl.toArray w := by
  have := places_sound (w := w) fs.toList pl h
  rw [← Array.toArray_toList (xs := fs)] at *
  rw [List.mapM_toArray]
  simp [this]
end Go.X
