import Derived.Test.YtekjeadgknmokaaX2
import Derived.Laws.Small
/- Operations that neither read nor make memory. -/
set_option linter.unusedVariables false
set_option linter.unusedSimpArgs false
namespace Go.X
open Go

theorem run_underlying' {P : Program} {t : TypeId} {d : TypeDesc} {w : World} (h : P.underlying t = some d) : (underlying t).run P w = .ok d w := by
  simp [underlying, h]
theorem run_sizeOf' {P : Program} {t : TypeId} {n : Nat} {w : World} (h : sizeOfA P t = some n) : (sizeOf t).run P w = .ok n w := by
  unfold sizeOfA at h
  split at h
  · rename_i i hi; cases h; simp [sizeOf, typeInfo, hi]
  · cases h
theorem run_isAgg' {P : Program} {t : TypeId} {b : Bool} {w : World} (h : isAggA P t = some b) : (isAgg t).run P w = .ok b w := by
  unfold isAggA at h
  unfold isAgg
  split at h
  · rename_i hu; cases h; simp [run_underlying' hu]
  · rename_i hu; cases h; simp [run_underlying' hu]
  · rename_i d h1 h2 hu
    cases h
    simp only [Sem.run_bind, run_underlying' hu, Result.andThen_ok]
    cases d <;> first | rfl | (exact absurd hu (h1 _)) | (exact absurd hu (h2 _ _))
  · cases h

/-- A value that an operation comes to, in every world. -/
def Gives (P : Program) (ρ : Ren) (s : Sem Value) (v : AV) : Prop := ∀ w, ∃ u, s.run P w = .ok u w ∧ VR ρ v u

theorem bitI_sound {P : Program} {op : BinOp} {k : IntKind} {x y r : Int} (h : bitI op k x y = some r) (w : World) : (Op.intBits op k x y).run P w = .ok (.int k r) w := by
  unfold bitI at h
  split at h <;> first | (cases h; rfl) | cases h

theorem eqGuard_other {P : Program} {op : BinOp} {t : TypeId} {x y : Operand} {a b : Value} {w : World} (h1 : a ≠ .nilIface ∨ b ≠ .nilIface) (h2 : (∀ c, a ≠ .agg c) ∨ (∀ c, b ≠ .agg c)) : (eqGuard op t x y a b).run P w = .ok () w := by
  unfold eqGuard
  cases op <;> simp
  all_goals
    split
    · simp at h1
    · simp at h2
    · rfl

theorem equal_run {P : Program} {t : TypeId} {a b : Value} {r : Bool} {w : World} (h : ∀ d, (Op.equalIn (d + 1) t a b).run P w = .ok r w) : (Op.equal t a b).run P w = .ok r w := h 9999
theorem equalIn_bool {P : Program} {t : TypeId} (hu : P.underlying t = some .bool) {a b : Bool} {w : World} (d : Nat) : (Op.equalIn (d + 1) t (.bool a) (.bool b)).run P w = .ok (a == b) w := by
  simp [Op.equalIn, run_underlying' hu]
/-- Is one of two nil? Are both? -/
def nilOf : Value → Bool
  | .pointer none => true
  | .slice none _ _ => true
  | _ => false
theorem equalIn_ptr {P : Program} {t e : TypeId} (hu : P.underlying t = some (.pointer e)) {a b : Option Addr} {w : World} (d : Nat) (h : (a = none ∨ b = none)) :
    (Op.equalIn (d + 1) t (.pointer a) (.pointer b)).run P w = .ok (nilOf (.pointer a) && nilOf (.pointer b)) w := by
  rcases h with rfl | rfl
  · cases b <;> simp [Op.equalIn, run_underlying' hu, nilOf]
  · cases a <;> simp [Op.equalIn, run_underlying' hu, nilOf]
theorem equalIn_sl {P : Program} {t e : TypeId} (hu : P.underlying t = some (.slice e)) {a b : Option Addr} {l c l' c' : Nat} {w : World} (d : Nat) (h : (a = none ∨ b = none)) :
    (Op.equalIn (d + 1) t (.slice a l c) (.slice b l' c')).run P w = .ok (nilOf (.slice a l c) && nilOf (.slice b l' c')) w := by
  rcases h with rfl | rfl
  · cases b <;> simp [Op.equalIn, run_underlying' hu, nilOf]
  · cases a <;> simp [Op.equalIn, run_underlying' hu, nilOf]

theorem binA_sound {P : Program} {t : TypeId} {op : BinOp} {a b : AV} {K : AV → Prop} (h : binA P t op a b K) :
    ∃ v, K v ∧ ∀ (ρ : Ren) (x y : Operand) (va vb : Value), VR ρ a va → VR ρ b vb → Gives P ρ (do eqGuard op t x y va vb; binOp op t va vb) v := by
  have fin : ∀ {ρ : Ren} {x y : Operand} {va vb u : Value} {v : AV}, ((va ≠ .nilIface ∨ vb ≠ .nilIface) ∧ ((∀ c, va ≠ .agg c) ∨ (∀ c, vb ≠ .agg c))) → VR ρ v u → (∀ w, (binOp op t va vb).run P w = .ok u w) →
      Gives P ρ (do eqGuard op t x y va vb; binOp op t va vb) v := by
    intro ρ x y va vb u v hg hv hr w
    refine ⟨u, ?_, hv⟩
    simp [eqGuard_other hg.1 hg.2, hr w]
  unfold binA at h
  split at h
  · rename_i k n k' n'
    have hcore : ∀ {r : AV}, K r → (∀ (ρ : Ren), ∃ u, VR ρ r u ∧ ∀ w, (binOp op t (.int k n) (.int k' n')).run P w = .ok u w) →
        ∃ v, K v ∧ ∀ (ρ : Ren) (x y : Operand) (va vb : Value), VR ρ (.int k n) va → VR ρ (.int k' n') vb → Gives P ρ (do eqGuard op t x y va vb; binOp op t va vb) v := by
      intro r hK hr
      refine ⟨r, hK, fun ρ x y va vb ha hb => ?_⟩
      cases ha; cases hb
      obtain ⟨u, hu, hrun⟩ := hr ρ
      exact fin ⟨.inl (by simp), .inl (by simp)⟩ hu hrun
    split at h
    · obtain ⟨h0, hK⟩ := need_iff.1 h
      have h0' : ¬ n' < 0 := by have := of_decide_eq_true h0; omega
      exact hcore hK fun ρ => ⟨_, .int _ _, fun w => by simp [binOp, Op.shift, h0']⟩
    · obtain ⟨h0, hK⟩ := need_iff.1 h
      have h0' : ¬ n' < 0 := by have := of_decide_eq_true h0; omega
      exact hcore hK fun ρ => ⟨_, .int _ _, fun w => by simp [binOp, Op.shift, h0']⟩
    · have hk' := kno_inj (need_iff.1 h).1
      have h2 := (need_iff.1 h).2
      clear h
      subst hk'
      have h := h2
      clear h2
      split at h
      · exact hcore h fun ρ => ⟨_, .int _ _, fun w => by simp [binOp, Op.intArith]⟩
      · exact hcore h fun ρ => ⟨_, .int _ _, fun w => by simp [binOp, Op.intArith]⟩
      · exact hcore h fun ρ => ⟨_, .int _ _, fun w => by simp [binOp, Op.intArith]⟩
      · obtain ⟨h0, hK⟩ := need_iff.1 h
        have h0' : n' ≠ 0 := of_decide_eq_true h0
        exact hcore hK fun ρ => ⟨_, .int _ _, fun w => by simp [binOp, Op.intDiv, h0']⟩
      · obtain ⟨h0, hK⟩ := need_iff.1 h
        have h0' : n' ≠ 0 := of_decide_eq_true h0
        exact hcore hK fun ρ => ⟨_, .int _ _, fun w => by simp [binOp, Op.intDiv, h0']⟩
      · exact hcore h fun ρ => ⟨_, .bool _, fun w => by simp [binOp, Op.intCmp]⟩
      · exact hcore h fun ρ => ⟨_, .bool _, fun w => by simp [binOp, Op.intCmp]⟩
      · exact hcore h fun ρ => ⟨_, .bool _, fun w => by simp [binOp, Op.intCmp]⟩
      · exact hcore h fun ρ => ⟨_, .bool _, fun w => by simp [binOp, Op.intCmp]⟩
      · exact hcore h fun ρ => ⟨_, .bool _, fun w => by simp [binOp, Op.intCmp]⟩
      · exact hcore h fun ρ => ⟨_, .bool _, fun w => by simp [binOp, Op.intCmp]⟩
      · split at h
        · rename_i r hr
          refine hcore h fun ρ => ⟨_, .int _ r, fun w => ?_⟩
          have := bitI_sound (P := P) hr w
          cases op <;> first | (simp [bitI] at hr; done) | (simp only [binOp, ne_eq, not_true_eq_false, if_false]; exact this)
        · cases h
  · split at h
    · exact ⟨_, h, fun ρ x y va vb ha hb => by cases ha; cases hb; exact fin ⟨.inl (by simp), .inl (by simp)⟩ (.bool _) fun w => by simp [binOp, Op.stringOp]⟩
    · exact ⟨_, h, fun ρ x y va vb ha hb => by cases ha; cases hb; exact fin ⟨.inl (by simp), .inl (by simp)⟩ (.bool _) fun w => by simp [binOp, Op.stringOp]⟩
    · cases h
  · split at h
    · rename_i hu
      split at h
      · exact ⟨_, h, fun ρ x y va vb ha hb => by cases ha; cases hb; exact fin ⟨.inl (by simp), .inl (by simp)⟩ (.bool _) fun w => by simp only [binOp, Sem.run_bind, equal_run (fun d => equalIn_bool hu d)]; rfl⟩
      · exact ⟨_, h, fun ρ x y va vb ha hb => by cases ha; cases hb; exact fin ⟨.inl (by simp), .inl (by simp)⟩ (.bool _) fun w => by simp only [binOp, Sem.run_bind, equal_run (fun d => equalIn_bool hu d)]; rfl⟩
      · cases h
    · cases h
  all_goals first | (exact h.elim; done) | skip
  all_goals
    first | unfold eqPtrA at h | unfold eqSlA at h
    split at h
    · rename_i hu
      split at h
      · refine ⟨_, h, fun ρ x y va vb ha hb => ?_⟩
        cases ha <;> cases hb <;> exact fin ⟨.inl (by simp), .inl (by simp)⟩ (.bool _) fun w => by
          first
            | (simp only [binOp, Sem.run_bind, equal_run (fun d => equalIn_ptr hu d (.inl rfl))]; rfl)
            | (simp only [binOp, Sem.run_bind, equal_run (fun d => equalIn_ptr hu d (.inr rfl))]; rfl)
            | (simp only [binOp, Sem.run_bind, equal_run (fun d => equalIn_sl hu d (.inl rfl))]; rfl)
            | (simp only [binOp, Sem.run_bind, equal_run (fun d => equalIn_sl hu d (.inr rfl))]; rfl)
      · refine ⟨_, h, fun ρ x y va vb ha hb => ?_⟩
        cases ha <;> cases hb <;> exact fin ⟨.inl (by simp), .inl (by simp)⟩ (.bool _) fun w => by
          first
            | (simp only [binOp, Sem.run_bind, equal_run (fun d => equalIn_ptr hu d (.inl rfl))]; rfl)
            | (simp only [binOp, Sem.run_bind, equal_run (fun d => equalIn_ptr hu d (.inr rfl))]; rfl)
            | (simp only [binOp, Sem.run_bind, equal_run (fun d => equalIn_sl hu d (.inl rfl))]; rfl)
            | (simp only [binOp, Sem.run_bind, equal_run (fun d => equalIn_sl hu d (.inr rfl))]; rfl)
      · cases h
    · cases h

theorem unA_sound {P : Program} {op : UnOp} {a : AV} {K : AV → Prop} (h : unA op a K) :
    ∃ v, K v ∧ ∀ (ρ : Ren) (va : Value), VR ρ a va → Gives P ρ (Op.unary op va) v := by
  unfold unA at h
  split at h
  · exact ⟨_, h, fun ρ va ha w => by cases ha; exact ⟨_, by simp [Op.unary, Op.intArith], .int _ _⟩⟩
  · split at h
    · rename_i r hr
      exact ⟨_, h, fun ρ va ha w => by cases ha; exact ⟨_, bitI_sound hr w, .int _ _⟩⟩
    · cases h
  · exact ⟨_, h, fun ρ va ha w => by cases ha; exact ⟨_, by simp [Op.unary], .bool _⟩⟩
  · cases h
end Go.X
