import Derived.Test.YtekjeadgknmokaaX11
import Derived.Orders
/- Regions whose order is open. -/
set_option linter.unusedVariables false
set_option linter.unusedSimpArgs false
namespace Go.X
open Go

theorem binding_eq (e : Edge) : binding e = Region.binds .any e := by
  unfold binding Region.binds
  cases e.ground <;> rfl
theorem depsIn_iff {done : Nat} : ∀ {l : List Edge}, depsIn done l = true ↔ ∀ e ∈ l, binding e = true → done.testBit e.on = true
  | [] => by simp [depsIn]
  | e :: r => by
    unfold depsIn
    cases hb : binding e with
    | false =>
      simp only [cond_false, depsIn_iff (l := r), List.mem_cons]
      exact ⟨fun h x hx hbx => hx.elim (fun e' => by rw [e', hb] at hbx; cases hbx) (fun hx => h x hx hbx), fun h x hx => h x (.inr hx)⟩
    | true =>
      simp only [cond_true]
      cases hd : done.testBit e.on with
      | false => simp only [cond_false]; constructor; · intro h; cases h
                 · intro h; have := h e (List.mem_cons_self ..) hb; rw [hd] at this; cases this
      | true =>
        simp only [cond_true, depsIn_iff (l := r), List.mem_cons]
        exact ⟨fun h x hx hbx => hx.elim (fun e' => by rw [e']; exact hd) (fun hx => h x hx hbx), fun h x hx => h x (.inr hx)⟩

theorem okAnc1_spec {A : List Nat} {i m : Nat} {o : Oper} : ∀ {j : Nat}, okAnc1 A i m o j = true → ∀ k, k < j → m.testBit k = true → ∃ e ∈ o.after.toList, binding e = true ∧ e.on < i ∧ (e.on = k ∨ (maskOf A e.on).testBit k = true)
  | 0, _, k, hk, _ => by omega
  | j + 1, h, k, hk, hm => by
    unfold okAnc1 at h
    generalize hc : (cond (m.testBit j) (o.after.toList.any fun e => binding e && Nat.blt e.on i && (Nat.beq e.on j || (maskOf A e.on).testBit j)) true) = c at h
    cases c with
    | false => cases h
    | true =>
      by_cases hkj : k = j
      · subst hkj
        rw [hm] at hc
        simp only [cond_true, List.any_eq_true, Bool.and_eq_true, Bool.or_eq_true] at hc
        obtain ⟨e, he, ⟨h1, h2⟩, h3⟩ := hc
        refine ⟨e, he, h1, ?_, h3.imp beq_iff.1 id⟩
        exact Nat.lt_of_succ_le (ble_iff.1 h2)
      · exact okAnc1_spec (j := j) h k (by omega) hm
theorem okAnc_spec {A : List Nat} : ∀ (l : List Oper) (b : Nat), okAnc A l b = true → ∀ (i : Nat) (o : Oper), l[i]? = some o → (∀ e ∈ o.after.toList, binding e = true → e.on < b + i) ∧ ∀ k, (maskOf A (b + i)).testBit k = true →
    k < b + i ∧ ∃ e ∈ o.after.toList, binding e = true ∧ e.on < b + i ∧ (e.on = k ∨ (maskOf A e.on).testBit k = true)
  | [], b, h, i, o, ho => by simp at ho
  | p :: r, b, h, i, o, ho => by
    unfold okAnc at h
    generalize hc1 : Nat.blt (maskOf A b) (2 ^ b) = c1 at h
    cases c1 with
    | false => cases h
    | true =>
      generalize hc2 : okAnc1 A b (maskOf A b) p b = c2 at h
      cases c2 with
      | false => cases h
      | true =>
        generalize hc3 : (p.after.toList.all fun e => !(binding e) || Nat.blt e.on b) = c3 at h
        cases c3 with
        | false => cases h
        | true =>
          cases i with
          | zero =>
            simp at ho
            subst ho
            refine ⟨fun e he hb => ?_, fun k hk => ?_⟩
            · have := List.all_eq_true.1 hc3 e he
              rw [hb] at this
              simp only [Bool.not_true, Bool.false_or] at this
              exact Nat.lt_of_succ_le (ble_iff.1 this)
            · have hlt : k < b := by
                rcases Nat.lt_or_ge k b with hlt | hge
                · exact hlt
                · have h1 : maskOf A b < 2 ^ b := Nat.lt_of_succ_le (ble_iff.1 hc1)
                  have h2 : maskOf A b < 2 ^ k := Nat.lt_of_lt_of_le h1 (Nat.pow_le_pow_right (by omega) hge)
                  rw [Nat.add_zero, Nat.testBit_lt_two_pow h2] at hk
                  cases hk
              exact ⟨hlt, okAnc1_spec hc2 k hlt hk⟩
          | succ i =>
            have := okAnc_spec r (b + 1) h i o (by simpa using ho)
            rwa [show b + 1 + i = b + (i + 1) by omega] at this

theorem hasT_iff {x : Option Tmp} {l : List Tmp} : hasT x l = true ↔ ∃ d, x = some d ∧ d ∈ l := by
  unfold hasT
  cases x with
  | none => simp
  | some d =>
    simp only [Option.some.injEq, exists_eq_left']
    induction l with
    | nil => simp
    | cons y r ih =>
      show cond (Nat.beq d y) true _ = true ↔ _
      cases hq : Nat.beq d y with
      | true => have := beq_iff.1 hq; subst this; simp
      | false =>
        have hne : d ≠ y := fun e => by rw [beq_iff.2 e] at hq; cases hq
        simp only [cond_false, List.mem_cons, hne, false_or]
        exact ih
theorem sameT_false {x y : Option Tmp} (h : sameT x y = false) : ∀ d, x = some d → y ≠ some d := by
  intro d hx hy
  subst hx; subst hy
  unfold sameT at h
  simp only at h
  rw [beq_iff.2 rfl] at h
  cases h

theorem okPair_spec {P : Program} {ops : List Oper} {A : List Nat} {i : Nat} {o : Oper} : ∀ (l : List Oper) (b : Nat), okPair P ops A i o l b = true → ∀ (j : Nat) (p : Oper), l[j]? = some p →
    (i ≠ b + j → (∀ x, p.dst = some x → x ∈ looksO ops o → (maskOf A i).testBit (b + j) = true ∨ ((maskOf A (b + j)).testBit i = true ∧ kindD P o ≠ 1)) ∧ (∀ x, o.dst = some x → p.dst ≠ some x)) ∧
    (i = b + j → kindD P o = 1 → ∀ x, o.dst = some x → x ∉ looksO ops o)
  | [], b, h, j, p, hp => by simp at hp
  | q :: r, b, h, j, p, hp => by
    unfold okPair at h
    generalize hc : (cond (Nat.beq i b) (!(Nat.beq (kindD P o) 1) || !(hasT o.dst (looksO ops o))) ((!(hasT q.dst (looksO ops o)) || (maskOf A i).testBit b || ((maskOf A b).testBit i && !(Nat.beq (kindD P o) 1))) && !(sameT o.dst q.dst))) = c at h
    cases c with
    | false => cases h
    | true =>
      cases j with
      | zero =>
        simp at hp
        subst hp
        rw [Nat.add_zero]
        refine ⟨fun hij => ?_, fun hij hk x hx hl => ?_⟩
        · have hib : Nat.beq i b = false := by
            cases hq : Nat.beq i b with
            | false => rfl
            | true => exact absurd (beq_iff.1 hq) hij
          rw [hib] at hc
          simp only [cond_false, Bool.and_eq_true, Bool.or_eq_true, Bool.not_eq_true'] at hc
          refine ⟨fun x hx hl => ?_, sameT_false hc.2⟩
          rcases hc.1 with (h1 | h1) | h1
          · rw [hasT_iff.2 ⟨x, hx, hl⟩] at h1; cases h1
          · exact .inl h1
          · exact .inr ⟨h1.1, fun e => by rw [beq_iff.2 e] at h1; cases h1.2⟩
        · rw [beq_iff.2 hij] at hc
          simp only [cond_true, Bool.or_eq_true, Bool.not_eq_true'] at hc
          rcases hc with h1 | h1
          · rw [beq_iff.2 hk] at h1; cases h1
          · rw [hasT_iff.2 ⟨x, hx, hl⟩] at h1; cases h1
      | succ j =>
        have := okPair_spec r (b + 1) h j p (by simpa using hp)
        rwa [show b + 1 + j = b + (j + 1) by omega] at this
theorem okPairs_spec {P : Program} {ops : List Oper} {A : List Nat} : ∀ (l : List Oper) (b : Nat), okPairs P ops A l b = true → ∀ (i : Nat) (o : Oper), l[i]? = some o → okPair P ops A (b + i) o ops 0 = true
  | [], b, h, i, o, ho => by simp at ho
  | q :: r, b, h, i, o, ho => by
    unfold okPairs at h
    generalize hc : okPair P ops A b q ops 0 = c at h
    cases c with
    | false => cases h
    | true =>
      cases i with
      | zero => simp at ho; subst ho; exact hc
      | succ i =>
        have := okPairs_spec r (b + 1) h i o (by simpa using ho)
        rwa [show b + 1 + i = b + (i + 1) by omega] at this

theorem looksO_eq (ops : Array Oper) (o : Oper) : looksO ops.toList o = o.looksAt ops := by
  unfold looksO Oper.looksAt
  congr 1
  cases o.guard with
  | none => rfl
  | some g =>
    obtain ⟨g, b⟩ := g
    simp only [nth_eq]
    have : ops.toList[g]? = ops[g]? := by simp
    rw [this]
    cases ops[g]? <;> rfl

theorem wanted_eq2 {ρ : Ren} {T : Nat → AV} {a : Act} {ops : Array Oper} {o : Oper} (h : ∀ t ∈ o.looksAt ops, VR ρ (T t) (a.tmps.getD t undef)) : wantedA ops.toList T o = Region.wanted o (yielded ops a.tmps) := by
  unfold wantedA Region.wanted
  cases hg : o.guard with
  | none => rfl
  | some p =>
    obtain ⟨j, want⟩ := p
    have hy : yieldedA ops.toList T j = yielded ops a.tmps j := by
      unfold yieldedA yielded
      rw [nth_eq]
      have e : ops.toList[j]? = ops[j]? := by simp
      rw [e]
      cases hj : ops[j]? with
      | none => rfl
      | some p =>
        simp only [Option.bind_some]
        cases hpd : p.dst with
        | none => rfl
        | some d =>
          simp only [Option.bind_some]
          have hd := h d (by unfold Oper.looksAt; rw [hg]; simp [hj, hpd])
          rw [Array.getD_eq_getD_getElem?] at hd
          cases ht : a.tmps[d]? with
          | none =>
            rw [ht] at hd
            simp only [Option.getD_none] at hd
            generalize T d = td at hd ⊢
            unfold undef at hd
            cases td <;> first | rfl | (cases hd; done)
          | some v =>
            rw [ht] at hd
            simp only [Option.getD_some] at hd
            generalize T d = td at hd ⊢
            cases hd <;> rfl
    simp only [hy]
    cases yielded ops a.tmps j with
    | none => rfl
    | some b => cases want <;> cases b <;> rfl
theorem wanted_congr {T T' : Nat → AV} {ops : Array Oper} {o : Oper} (h : ∀ t ∈ o.looksAt ops, T t = T' t) : wantedA ops.toList T o = wantedA ops.toList T' o := by
  unfold wantedA
  cases hg : o.guard with
  | none => rfl
  | some p =>
    obtain ⟨j, want⟩ := p
    have hy : yieldedA ops.toList T j = yieldedA ops.toList T' j := by
      unfold yieldedA
      rw [nth_eq]
      have e : ops.toList[j]? = ops[j]? := by simp
      rw [e]
      cases hj : ops[j]? with
      | none => rfl
      | some p =>
        cases hpd : p.dst with
        | none => simp [hpd]
        | some d => simp only [hpd, h d (by unfold Oper.looksAt; rw [hg]; simp [hj, hpd])]
    simp only [hy]

/-- What a quiet operation yields, whenever it comes up. -/
def QY (P : Program) (ops : Array Oper) (o : Oper) (V : Nat → AV) (H : HP) (v : AV) : Prop := ∀ (ρ : Ren) (a : Act), (∀ t ∈ o.looksAt ops, VR ρ (V t) (a.tmps.getD t undef)) →
  (Region.wanted o (yielded ops a.tmps) = true ∧ ∀ w, HR P ρ H w → ∃ u, (execOp a.eval o).run P w = .ok (.value u) w ∧ VR ρ v u) ∨ (Region.wanted o (yielded ops a.tmps) = false ∧ v = AV.undef)

theorem looks_ev {ρ : Ren} {V : Nat → AV} {a : Act} {ops : Array Oper} {o : Oper} (h : ∀ t ∈ o.looksAt ops, VR ρ (V t) (a.tmps.getD t undef)) : ∀ x ∈ o.op.operands.toList, OpsRel ρ V a.eval x := by
  intro x hx
  refine ev_VR fun t ht => h t ?_
  subst ht
  exact List.mem_append_left _ (List.mem_filterMap.2 ⟨.tmp t, hx, rfl⟩)
theorem ev_congr {T T' : Nat → AV} {x : Operand} (h : ∀ t, x = .tmp t → T t = T' t) : ev T x = ev T' x := by
  cases x with
  | tmp t => simp only [ev, h t rfl]
  | _ => rfl
theorem looks_mem {ops : Array Oper} {o : Oper} {t : Tmp} (h : Operand.tmp t ∈ o.op.operands.toList) : t ∈ o.looksAt ops := List.mem_append_left _ (List.mem_filterMap.2 ⟨.tmp t, h, rfl⟩)

theorem QY.pure {P : Program} {ops : Array Oper} {o : Oper} {T V : Nat → AV} {K : AV → Prop} (h : pureA P o.op T K) (hw : wantedA ops.toList T o = true) (hV : ∀ t ∈ o.looksAt ops, V t = T t) : ∃ v, K v ∧ ∀ H, QY P ops o V H v := by
  obtain ⟨v, hK, hv⟩ := pure_sound h
  refine ⟨v, hK, fun H ρ a ha => .inl ⟨?_, fun w _ => ?_⟩⟩
  · rw [← wanted_eq2 ha, wanted_congr hV]; exact hw
  · exact hv ρ a.eval (fun x hx => by
      have := looks_ev (ops := ops) ha x hx
      intro y hy
      refine this y ?_
      rw [← hy]
      exact ev_congr fun t ht => hV t (by subst ht; exact looks_mem hx)) w
theorem QY.read {P : Program} {ops : Array Oper} {o : Oper} {T V : Nat → AV} {H : HP} {K : AV → Prop} (h : readA P o.op T H K) (hw : wantedA ops.toList T o = true) (hV : ∀ t ∈ o.looksAt ops, V t = T t) : ∃ v, K v ∧ QY P ops o V H v := by
  obtain ⟨v, hK, hv⟩ := read_sound h
  refine ⟨v, hK, fun ρ a ha => .inl ⟨?_, fun w hH => ?_⟩⟩
  · rw [← wanted_eq2 ha, wanted_congr hV]; exact hw
  · exact hv ρ a.eval w (fun x hx => by
      have := looks_ev (ops := ops) ha x hx
      intro y hy
      refine this y ?_
      rw [← hy]
      exact ev_congr fun t ht => hV t (by subst ht; exact looks_mem hx)) hH
theorem QY.skip {P : Program} {ops : Array Oper} {o : Oper} {T V : Nat → AV} (hw : wantedA ops.toList T o = false) (hV : ∀ t ∈ o.looksAt ops, V t = T t) (H : HP) : QY P ops o V H AV.undef := by
  intro ρ a ha
  refine .inr ⟨?_, rfl⟩
  rw [← wanted_eq2 ha, wanted_congr hV]; exact hw

theorem beq1_eq {a b : AV} (h : beq1 a b = true) : a = b := by
  unfold beq1 at h
  split at h
  · rename_i x y; cases x <;> cases y <;> first | rfl | cases h
  · simp only [Bool.and_eq_true, decide_eq_true_eq] at h; rw [kno_inj h.1, h.2]
  · simp only [Bool.and_eq_true] at h; rw [beq_iff.1 h.1, beq_iff.1 h.2]
  · simp only [Bool.and_eq_true] at h; rw [beq_iff.1 h.1.1.1, beq_iff.1 h.1.1.2, beq_iff.1 h.1.2, beq_iff.1 h.2]
  · simp only [Bool.and_eq_true] at h; rw [beq_iff.1 h.1.1.1, beq_iff.1 h.1.1.2, beq_iff.1 h.1.2, beq_iff.1 h.2]
  all_goals first | rfl | cases h
theorem beqs_eq : ∀ {l m : List AV}, beqs l m = true → l = m
  | [], [], _ => rfl
  | a :: r, b :: s, h => by
    unfold beqs at h
    cases hq : beq1 a b with
    | false => rw [hq] at h; cases h
    | true => rw [hq] at h; rw [beq1_eq hq, beqs_eq h]
  | [], _ :: _, h => by cases h
  | _ :: _, [], h => by cases h
theorem beqV_eq {a b : AV} (h : beqV a b = true) : a = b := by
  unfold beqV at h
  split at h
  · rw [beqs_eq h]
  · exact beq1_eq h
theorem same_eq {fc : Bool} {v w : AV} {p : Prop} (h : same fc v w p) : v = w ∧ p := by
  unfold same at h
  cases fc with
  | true => simp only [cond_true] at h; exact ⟨beqV_eq (need_iff.1 h).1, (need_iff.1 h).2⟩
  | false => exact h

theorem stabs_spec {P : Program} {fc : Bool} {ops : Array Oper} {m : Nat} {T : Nat → AV} {H : HP} : ∀ (pend : List Nat) {p : Prop}, stabs P fc ops.toList m T H pend p → p ∧ ∀ q ∈ pend, m.testBit q = false → ∃ o x, ops.toList[q]? = some o ∧ o.dst = some x ∧ readA P o.op T H (fun v => v = T x)
  | [], p, h => ⟨h, by simp⟩
  | q :: r, p, h => by
    unfold stabs at h
    cases hm : m.testBit q with
    | true =>
      rw [hm] at h
      obtain ⟨h1, h2⟩ := stabs_spec r h
      refine ⟨h1, fun q' hq' hm' => ?_⟩
      rcases List.mem_cons.1 hq' with rfl | hq'
      · rw [hm] at hm'; cases hm'
      · exact h2 q' hq' hm'
    | false =>
      rw [hm] at h
      simp only [cond_false, nth_eq] at h
      split at h
      · rename_i o ho
        split at h
        · rename_i x hx
          -- the continuation of a read
          have hread : ∀ {K : AV → Prop}, readA P o.op T H K → ∃ v, K v ∧ readA P o.op T H (fun u => u = v) := by
            intro K hK
            unfold readA at hK ⊢
            split at hK
            · split at hK
              · split at hK
                · split at hK
                  · exact ⟨_, hK, rfl⟩
                  · cases hK
                · split at hK
                  · split at hK
                    · exact ⟨_, hK, rfl⟩
                    · cases hK
                  · cases hK
                · cases hK
              · cases hK
            · cases hK
          obtain ⟨v, hv, hr⟩ := hread h
          obtain ⟨rfl, hp⟩ := same_eq hv
          obtain ⟨h1, h2⟩ := stabs_spec r hp
          refine ⟨h1, fun q' hq' hm' => ?_⟩
          rcases List.mem_cons.1 hq' with rfl | hq'
          · exact ⟨o, x, ho, hx, hr⟩
          · exact h2 q' hq' hm'
        · cases h
      · cases h
end Go.X
