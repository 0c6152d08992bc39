import Derived.Test.YtekjeadgknmokaaX10
import Derived.Tactics
/- Rows of operations in the order of the text. -/
set_option linter.unusedVariables false
set_option linter.unusedSimpArgs false
namespace Go.X
open Go

theorem kind01 {P : Program} {o : Op} (T : Nat → AV) : True := trivial

theorem op_sound {P : Program} {call : Call} (hcall : CallOk P call) (hng : NoNumG P) {fc : Bool} {base : Nat} {o : Oper} {T : Nat → AV} {H : HP} {K : AV → HP → Bool → Prop} (h : opA P call fc base o.op T H K)
    {ρ : Ren} {e : Operand → Value} {w : World} (hx : ∀ x ∈ o.op.operands.toList, OpsRel ρ T e x) (hH : HR P ρ H w) (hb : base ≤ H.n) :
    (∃ v H' d u ρ' w', K v H' d ∧ ((execOp e o).run P w = .ok (.value u) w' ∨ ((execOp e o).run P w = .ok .skip w' ∧ u = undef)) ∧ VR ρ' v u ∧ Step P ρ H w ρ' H' w' ∧ CL base H d H') ∨
    (∃ g us, (execOp e o).run P w = .ok (.enter g us) w ∧ Calls P g us w (CallEnd P ρ H w base K)) := by
  unfold opA at h
  split at h
  · simp only [fzV_eq] at h
    obtain ⟨v, hK, hv⟩ := pure_sound h
    obtain ⟨u, h1, h2⟩ := hv ρ e hx w
    exact .inl ⟨v, H, false, u, ρ, w, hK, .inl h1, h2, .refl hH, .refl⟩
  · simp only [fzV_eq] at h
    obtain ⟨v, hK, hv⟩ := read_sound h
    obtain ⟨u, h1, h2⟩ := hv ρ e w hx hH
    exact .inl ⟨v, H, false, u, ρ, w, hK, .inl h1, h2, .refl hH, .refl⟩
  · simp only [fzV_eq] at h
    exact loud_sound hcall hng h hx hH hb

/-- A state of a frame. -/
structure SR (P : Program) (nt : Nat) (ρ : Ren) (T : Nat → AV) (H : HP) (a : Act) (w : World) : Prop where
  tmps : ∀ t, VR ρ (T t) (a.tmps.getD t undef)
  size : a.tmps.size = nt
  defers : a.defers = []
  heap : HR P ρ H w

theorem put_tmps {ρ : Ren} {T : Nat → AV} {a : Act} {v : AV} {u : Value} {d : Nat} (h : ∀ t, VR ρ (T t) (a.tmps.getD t undef)) (hd : d < a.tmps.size) (hv : VR ρ v u) : ∀ t, VR ρ (upd T d v t) ((a.put (some d) u).tmps.getD t undef) := by
  intro t
  unfold upd Act.put
  by_cases ht : t = d
  · subst ht
    rw [show Nat.beq t t = true from beq_iff.2 rfl]
    simpa [Array.getD, hd] using hv
  · have : Nat.beq t d = false := by
      cases hq : Nat.beq t d with
      | false => rfl
      | true => exact absurd (beq_iff.1 hq) ht
    rw [this]
    have e : (a.tmps.setIfInBounds d u).getD t undef = a.tmps.getD t undef := by
      simp [Array.getD_eq_getD_getElem?, Array.getElem?_setIfInBounds_ne (Ne.symm ht)]
    show VR ρ (T t) ((a.tmps.setIfInBounds d u).getD t undef)
    rw [e]
    exact h t

theorem yielded_eq {ρ : Ren} {T : Nat → AV} {a : Act} (h : ∀ t, VR ρ (T t) (a.tmps.getD t undef)) (ops : Array Oper) (j : Nat) : yieldedA ops.toList T j = yielded ops a.tmps j := by
  unfold yieldedA yielded
  rw [nth_eq]
  have e : ops.toList[j]? = ops[j]? := by simp
  rw [e]
  cases ops[j]? with
  | none => rfl
  | some o =>
    simp only [Option.bind_some]
    cases o.dst with
    | none => rfl
    | some d =>
      simp only [Option.bind_some]
      have hd := h d
      rw [Array.getD_eq_getD_getElem?] at hd
      cases ht : a.tmps[d]? with
      | none =>
        rw [ht] at hd
        simp only [Option.getD_none] at hd
        generalize T d = td at hd ⊢
        unfold undef at hd
        cases td <;> first | rfl | (cases hd; done)
      | some v =>
        rw [ht] at hd
        simp only [Option.getD_some] at hd
        generalize T d = td at hd ⊢
        cases hd <;> rfl
theorem wanted_eq {ρ : Ren} {T : Nat → AV} {a : Act} (h : ∀ t, VR ρ (T t) (a.tmps.getD t undef)) (ops : Array Oper) (o : Oper) : wantedA ops.toList T o = Region.wanted o (yielded ops a.tmps) := by
  unfold wantedA Region.wanted
  cases o.guard with
  | none => rfl
  | some p =>
    obtain ⟨j, want⟩ := p
    simp only [yielded_eq h ops j]
    cases yielded ops a.tmps j with
    | none => rfl
    | some b => cases want <;> cases b <;> rfl

theorem ops_sound {P : Program} {call : Call} (hcall : CallOk P call) (hng : NoNumG P) {fc : Bool} {nt base : Nat} {ops : Array Oper} {Q : Exit → Act → World → Prop} {K : (Nat → AV) → HP → Bool → Prop} :
    ∀ (l : List Oper) (T : Nat → AV) (H : HP) (d : Bool) (ρ : Ren) (a : Act) (w : World), opsA P call fc nt base ops.toList l T H d K → SR P nt ρ T H a w → base ≤ H.n →
    (∀ T' H' d' ρ' a' w', K T' H' d' → SR P nt ρ' T' H' a' w' → Step P ρ H w ρ' H' w' → (∀ H0, CL base H0 d H → CL base H0 d' H') → Q .normal a' w') → wpList P ops Q l a w
  | [], T, H, d, ρ, a, w, h, hs, hb, hq => hq T H d ρ a w h hs (.refl hs.heap) (fun _ h => h)
  | o :: r, T, H, d, ρ, a, w, h, hs, hb, hq => by
    have hwant := wanted_eq hs.tmps ops o
    -- what follows an operation
    have next : ∀ (T' : Nat → AV) (H' : HP) (d' : Bool) (ρ' : Ren) (w' : World) (v : AV) (u : Value), Step P ρ H w ρ' H' w' → (∀ H0, CL base H0 d H → CL base H0 d' H') → VR ρ' v u →
        (match o.dst with | some x => x < nt ∧ opsA P call fc nt base ops.toList r (upd T x v) H' d' K | none => opsA P call fc nt base ops.toList r T H' d' K) → wpList P ops Q r (a.put o.dst u) w' := by
      intro T' H' d' ρ' w' v u hst hcl hv hr
      have htm : ∀ t, VR ρ' (T t) (a.tmps.getD t undef) := fun t => (hs.tmps t).mono hst.ext
      cases hd : o.dst with
      | none =>
        rw [hd] at hr
        refine ops_sound hcall hng r T H' d' ρ' _ w' hr ⟨htm, hs.size, hs.defers, hst.hr⟩ (Nat.le_trans hb hst.n) fun T'' H'' d'' ρ'' a'' w'' k1 k2 k3 k4 => hq _ _ _ ρ'' a'' w'' k1 k2 (hst.trans k3) (fun H0 h0 => k4 H0 (hcl H0 h0))
      | some x =>
        rw [hd] at hr
        obtain ⟨hx, hr⟩ := hr
        refine ops_sound hcall hng r (upd T x v) H' d' ρ' _ w' hr ⟨put_tmps htm (by rw [hs.size]; exact hx) hv, by simp [Act.put, hs.size], hs.defers, hst.hr⟩ (Nat.le_trans hb hst.n) fun T'' H'' d'' ρ'' a'' w'' k1 k2 k3 k4 => hq _ _ _ ρ'' a'' w'' k1 k2 (hst.trans k3) (fun H0 h0 => k4 H0 (hcl H0 h0))
    have h' : (match o.dst with | some x => x < nt | none => True) ∧ cond (wantedA ops.toList T o)
        (opA P call fc base o.op T H fun v H' d' => match o.dst with | some x => opsA P call fc nt base ops.toList r (upd T x v) H' (cond d' true d) K | none => opsA P call fc nt base ops.toList r T H' (cond d' true d) K)
        (match o.dst with | some x => opsA P call fc nt base ops.toList r (upd T x AV.undef) H d K | none => opsA P call fc nt base ops.toList r T H d K) := by
      unfold opsA at h
      cases hd : o.dst with
      | none => rw [hd] at h; exact ⟨trivial, h⟩
      | some x => rw [hd] at h; exact ⟨Nat.succ_le_of_lt (Nat.lt_of_succ_le (ble_iff.1 (need_iff.1 h).1)), (need_iff.1 h).2⟩
    obtain ⟨hdx, h'⟩ := h'
    unfold wpList
    cases hw : wantedA ops.toList T o with
    | false =>
      rw [hw] at h' hwant
      rw [← hwant]
      simp only [Bool.false_eq_true, if_false]
      refine next T H d ρ w AV.undef undef (.refl hs.heap) (fun _ h => h) (undef_VR ρ) ?_
      cases hd : o.dst with
      | none => rw [hd] at h'; exact h'
      | some x => rw [hd] at h' hdx; exact ⟨hdx, h'⟩
    | true =>
      rw [hw] at h' hwant
      simp only [cond_true] at h'
      rw [← hwant]
      simp only [if_true]
      left
      have hops : ∀ x ∈ o.op.operands.toList, OpsRel ρ T a.eval x := fun x _ => ev_VR fun t _ => hs.tmps t
      unfold Oper.wp
      rcases op_sound hcall hng h' hops hs.heap hb with ⟨v, H', d', u, ρ', w', hK, hrun, hv, hst, hcl⟩ | ⟨g, us, hrun, hC⟩
      · have hn : wpList P ops Q r (a.put o.dst u) w' := by
          refine next T H' (cond d' true d) ρ' w' v u hst (fun H0 h0 => h0.trans hcl) hv ?_
          cases hd : o.dst with
          | none => rw [hd] at hK; exact hK
          | some x => rw [hd] at hK hdx; exact ⟨hdx, hK⟩
        rcases hrun with hrun | ⟨hrun, rfl⟩
        · rw [hrun]; exact hn
        · rw [hrun]; exact hn
      · rw [hrun]
        refine hC.mono ?_
        rintro en w' ⟨v, H', d', u, ρ', rfl, hK, hv, hst, hcl⟩
        refine next T H' (cond d' true d) ρ' w' v u hst (fun H0 h0 => h0.trans hcl) hv ?_
        cases hd : o.dst with
        | none => rw [hd] at hK; exact hK
        | some x => rw [hd] at hK hdx; exact ⟨hdx, hK⟩
end Go.X
