import Derived.Test.YtekjeadgknmokaaX4
/- Operations that neither read nor make memory: the theorem. -/
set_option linter.unusedVariables false
set_option linter.unusedSimpArgs false
namespace Go.X
open Go

def OVR (ρ : Ren) : Option AV → Option Value → Prop
  | none, none => True
  | some a, some v => VR ρ a v
  | _, _ => False

theorem sliceBound_int {P : Program} {k : IntKind} {i : Int} {y : Nat} {c : BoundsCode} {w : World} (h : 0 ≤ i ∧ i ≤ y) : (Instr.sliceBound (.int k i) y c).run P w = .ok i.toNat w := by
  simp [Instr.sliceBound, asIntOf, h]

theorem cutA_sound {P : Program} {len cap : Nat} {lo hi : Option AV} {mk : Nat → Nat → Prop} (h : cutA len cap lo hi mk) :
    ∃ l r, mk l r ∧ l ≤ r ∧ (r ≤ cap ∨ r = len) ∧ ∀ (ρ : Ren) (lo' hi' : Option Value) (cap' : Nat), cap ≤ cap' → OVR ρ lo lo' → OVR ρ hi hi' → ∀ (b : Bool) (w : World), (Instr.sliceBounds b len cap' lo' hi' none).run P w = .ok (l, r, cap') w := by
  unfold cutA at h
  split at h
  · split at h
    · refine ⟨0, len, h, Nat.zero_le _, .inr rfl, fun ρ lo' hi' cap' hc h1 h2 b w => ?_⟩
      cases lo' <;> simp [OVR] at h1
      cases hi' <;> simp [OVR] at h2
      simp [Instr.sliceBounds]
    · rename_i k l
      have h0 := of_decide_eq_true (need_iff.1 h).1
      replace h := (need_iff.1 h).2
      refine ⟨l.toNat, len, h, by omega, .inr rfl, fun ρ lo' hi' cap' hc h1 h2 b w => ?_⟩
      cases hi' <;> simp [OVR] at h2
      cases lo' <;> simp [OVR] at h1
      cases h1
      simp [Instr.sliceBounds, sliceBound_int h0]
    · cases h
  · rename_i k r
    have h0 := of_decide_eq_true (need_iff.1 h).1
    replace h := (need_iff.1 h).2
    split at h
    · refine ⟨0, r.toNat, h, Nat.zero_le _, .inl (by omega), fun ρ lo' hi' cap' hc h1 h2 b w => ?_⟩
      cases lo' <;> simp [OVR] at h1
      cases hi' <;> simp [OVR] at h2
      cases h2
      simp [Instr.sliceBounds, sliceBound_int (show 0 ≤ r ∧ r ≤ (cap' : Int) by omega)]
    · rename_i k' l
      have h3 := of_decide_eq_true (need_iff.1 h).1
      replace h := (need_iff.1 h).2
      refine ⟨l.toNat, r.toNat, h, by omega, .inl (by omega), fun ρ lo' hi' cap' hc h1 h2 b w => ?_⟩
      cases lo' <;> simp [OVR] at h1
      cases hi' <;> simp [OVR] at h2
      cases h1; cases h2
      simp [Instr.sliceBounds, sliceBound_int (show 0 ≤ r ∧ r ≤ (cap' : Int) by omega), sliceBound_int (show 0 ≤ l ∧ l ≤ (r.toNat : Int) by omega)]
    · cases h
  · cases h

theorem elemA_sound {P : Program} {t : TypeId} {e : TypeId} {s : Nat} (h : elemA P t = some (e, s)) : P.underlying t = some (.slice e) ∧ sizeOfA P e = some s := by
  unfold elemA at h
  split at h
  · rename_i e' hu
    split at h
    · rename_i s' hs; cases h; exact ⟨hu, hs⟩
    · cases h
  · cases h

theorem sliceA_sound {P : Program} {t : TypeId} {x : AV} {lo hi : Option AV} {K : AV → Prop} (h : sliceA P t x lo hi K) :
    ∃ v, K v ∧ ∀ (ρ : Ren) (vx : Value) (lo' hi' : Option Value), VR ρ x vx → OVR ρ lo lo' → OVR ρ hi hi' → Gives P ρ (Instr.sliceAt t vx lo' hi' none) v := by
  unfold sliceA at h
  split at h
  · split at h
    · rename_i s hu
      obtain ⟨l, r, hK, h1, h2, h3⟩ := cutA_sound (P := P) h
      refine ⟨_, hK, fun ρ vx lo' hi' hv ho hh w => ?_⟩
      cases hv
      exact ⟨_, by simp [Instr.sliceAt, Instr.slice, run_underlying' hu, h3 ρ lo' hi' _ (Nat.le_refl _) ho hh], .str _⟩
    · cases h
  · split at h
    · rename_i p hp
      obtain ⟨e, s⟩ := p
      obtain ⟨hu, hs⟩ := elemA_sound hp
      obtain ⟨l, r, hK, h1, h2, h3⟩ := cutA_sound (P := P) h
      refine ⟨_, hK, fun ρ vx lo' hi' hv ho hh w => ?_⟩
      cases hv
      have hr : r = 0 := by omega
      have hl : l = 0 := by omega
      subst hr; subst hl
      exact ⟨_, by simp [Instr.sliceAt, Instr.slice, run_underlying' hu, run_sizeOf' hs, h3 ρ lo' hi' _ (Nat.le_refl _) ho hh], .nils⟩
    · cases h
  · rename_i b o len cap
    split at h
    · rename_i e s hp
      obtain ⟨hu, hs⟩ := elemA_sound hp
      obtain ⟨l, r, hK, h1, h2, h3⟩ := cutA_sound (P := P) h
      refine ⟨_, hK, fun ρ vx lo' hi' hv ho hh w => ?_⟩
      cases hv with
      | sl b o len cap rb hb =>
        refine ⟨_, by simp [Instr.sliceAt, Instr.slice, run_underlying' hu, run_sizeOf' hs, h3 ρ lo' hi' _ (Nat.le_refl _) ho hh]; rfl, ?_⟩
        cases hq : Nat.beq cap l with
        | true => have := beq_iff.1 hq; subst this; simpa using VR.sl _ _ _ _ rb hb
        | false =>
          have : ¬ cap = l := fun e => by rw [beq_iff.2 e] at hq; cases hq
          simp only [this, if_false, cond_false]
          have := VR.sl (ρ := ρ) b (o + l * s) (r - l) (cap - l) rb hb
          rw [← Nat.add_assoc] at this
          simpa [Addr.add_lit] using this
    · cases h
  · rename_i b o len z
    split at h
    · rename_i e s hp
      obtain ⟨hu, hs⟩ := elemA_sound hp
      have hz := beq_iff.1 (need_iff.1 h).1
      replace h := (need_iff.1 h).2
      subst hz
      obtain ⟨l, r, hK, h1, h2, h3⟩ := cutA_sound (P := P) h
      refine ⟨_, hK, fun ρ vx lo' hi' hv ho hh w => ?_⟩
      cases hv with
      | sg b o len z cap rb hb he hl =>
        refine ⟨_, by simp [Instr.sliceAt, Instr.slice, run_underlying' hu, run_sizeOf' hs, h3 ρ lo' hi' cap hl ho hh]; rfl, ?_⟩
        by_cases hq : cap = l
        · have hr : r = l := by omega
          subst hr
          subst hq
          simpa using VR.sg0 (ρ := ρ) b _ z _ rb hb
        · simp only [hq, if_false]
          have hm : cap * z = l * z + (cap - l) * z := by rw [← Nat.add_mul]; congr 1; omega
          have := VR.sg (ρ := ρ) b (o + l * z) (r - l) z (cap - l) rb hb (by omega) (by omega)
          rw [← Nat.add_assoc] at this
          simpa [Addr.add_lit] using this
      | sg0 b o z a rb hb =>
        refine ⟨_, by simp [Instr.sliceAt, Instr.slice, run_underlying' hu, run_sizeOf' hs, h3 ρ lo' hi' 0 (Nat.le_refl _) ho hh]; rfl, ?_⟩
        have hr : r = 0 := by omega
        have hl : l = 0 := by omega
        subst hr; subst hl
        simpa using VR.sg0 (ρ := ρ) b _ z a rb hb
    · cases h
  · rename_i b o
    split at h
    · rename_i n e hu
      split at h
      · rename_i s hs
        obtain ⟨l, r, hK, h1, h2, h3⟩ := cutA_sound (P := P) h
        refine ⟨_, hK, fun ρ vx lo' hi' hv ho hh w => ?_⟩
        cases hv with
        | ptr b o rb hb =>
          refine ⟨_, by simp [Instr.sliceAt, Instr.sureAddr, run_underlying' hu, run_sizeOf' hs, h3 ρ lo' hi' _ (Nat.le_refl _) ho hh]; rfl, ?_⟩
          cases hq : Nat.beq n l with
          | true => have := beq_iff.1 hq; subst this; simpa using VR.sl _ _ _ _ rb hb
          | false =>
            have : ¬ n = l := fun e => by rw [beq_iff.2 e] at hq; cases hq
            simp only [this, if_false, cond_false]
            have := VR.sl (ρ := ρ) b (o + l * s) (r - l) (n - l) rb hb
            rw [← Nat.add_assoc] at this
            simpa [Addr.add_lit] using this
      · cases h
    · cases h
  · cases h
end Go.X
