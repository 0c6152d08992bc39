import Derived.Test.YtekjeadgknmokaaX12c
/- Regions whose order is open: any order comes to what ours comes to. -/
set_option linter.unusedVariables false
set_option linter.unusedSimpArgs false
namespace Go.X
open Go

theorem getD_set (listed : Array Bool) {i : Nat} (hi : i < listed.size) (j : Nat) : (listed.setIfInBounds i true).getD j false = (decide (i = j) || listed.getD j false) := by
  by_cases h : i = j
  · subst h; simp [Array.getD, hi]
  · rw [getD_set_ne false h]; simp [h]

section
variable {P : Program} {call : Call} {fc : Bool} {nt base : Nat} {ops : Array Oper} {A : List Nat} {K : (Nat → AV) → HP → Bool → Prop}
  {T0 : Nat → AV} {H0 : HP} {d0 : Bool} {ρ0 : Ren} {w0 : World} {listed : Array Bool} {k : Nat} {suffix r : List Nat} {done loud : Nat} {pend : List Nat} {T : Nat → AV} {H : HP} {d : Bool} {ρ : Ren} {a : Act} {w : World}

theorem getD_put (a : Act) {x t : Nat} (u : Value) (h : t ≠ x) : (a.put (some x) u).tmps.getD t undef = a.tmps.getD t undef := by
  simp [Act.put, Array.getD_eq_getD_getElem?, Array.getElem?_setIfInBounds_ne (Ne.symm h)]
theorem getD_puto (a : Act) {o : Option Tmp} {t : Nat} (u : Value) (h : o ≠ some t) : (a.put o u).tmps.getD t undef = a.tmps.getD t undef := by
  cases o with
  | none => rfl
  | some x => exact getD_put a u fun e => h (by rw [e])
theorem getD_putself (a : Act) {x : Nat} (u : Value) (h : x < a.tmps.size) : (a.put (some x) u).tmps.getD x undef = u := by
  simp [Act.put, Array.getD, h]

/-- What an operation that comes up looks at is as our order had it. -/
theorem INV.looks (hp : Plan P ops A) (h : INV P call fc nt base ops A K T0 H0 d0 ρ0 w0 listed suffix done loud pend T H d ρ a w) {i : Nat} {o : Oper} (hi : ops.toList[i]? = some o) (hl : listed.getD i false = false)
    (hdeps : ∀ e ∈ o.after.toList, binding e = true → listed.getD e.on false = true) (hanc : ∀ j, (maskOf A i).testBit j = true → done.testBit j = true) :
    ∀ t ∈ o.looksAt ops, VR ρ (VQ ops A T0 T i t) (a.tmps.getD t undef) := by
  intro t ht
  have hlk : ∀ j, (maskOf A i).testBit j = true → listed.getD j false = true := fun j hj =>
    hp.closed (S := fun i => listed.getD i false) h.i3 i i o (Nat.le_refl _) hi hdeps j hj
  have hwr : ∀ (j j' : Nat) (p p' : Oper), ops.toList[j]? = some p → p.dst = some t → ops.toList[j']? = some p' → p'.dst = some t → j' = j := by
    intro j j' p p' hj hpt hj' hpt'
    rcases Nat.decEq j' j with hne | he
    · exact absurd hpt ((hp.pair j' j p' p hj' hj hne).2 t hpt')
    · exact he
  unfold VQ
  split
  · rename_i hex
    obtain ⟨j, p, hj, hpj, hm⟩ := hex
    exact h.t1 t fun j' p' hj' hpt' => by rw [hwr j j' p p' hj hpj hj' hpt', hlk j hm, hanc j hm]
  · rename_i hex
    by_cases hw : ∃ (j : Nat) (p : Oper), ops.toList[j]? = some p ∧ p.dst = some t
    · obtain ⟨j, p, hj, hpt⟩ := hw
      have hjl : listed.getD j false = false := by
        by_cases hji : j = i
        · subst hji; exact hl
        · rcases (hp.pair i j o p hi hj (Ne.symm hji)).1 t hpt ht with hh | ⟨hh, _⟩
          · exact absurd ⟨j, p, hj, hpt, hh⟩ hex
          · cases hlj : listed.getD j false with
            | false => rfl
            | true =>
              have := hp.closed (S := fun i => listed.getD i false) h.i3 j j p (Nat.le_refl _) hj (h.i3 j p hj hlj) i hh
              rw [hl] at this; cases this
      cases hdj : done.testBit j with
      | true => exact h.t2 j p t hj hpt hdj hjl
      | false =>
        have e1 := h.t3 t fun j' p' hj' hpt' => by rw [hwr j j' p p' hj hpt hj' hpt']; exact hdj
        rw [← e1]
        exact h.t1 t fun j' p' hj' hpt' => by rw [hwr j j' p p' hj hpt hj' hpt', hjl, hdj]
    · have e1 := h.t3 t fun j' p' hj' hpt' => absurd ⟨j', p', hj', hpt'⟩ hw
      rw [← e1]
      exact h.t1 t fun j' p' hj' hpt' => absurd ⟨j', p', hj', hpt'⟩ hw

/-- An operation that our order has taken comes up. -/
theorem INV.come (hp : Plan P ops A) (h : INV P call fc nt base ops A K T0 H0 d0 ρ0 w0 listed suffix done loud pend T H d ρ a w) {i : Nat} {o : Oper} (hi : ops.toList[i]? = some o) (hl : listed.getD i false = false) (hd : done.testBit i = true)
    (hdeps : ∀ e ∈ o.after.toList, binding e = true → listed.getD e.on false = true) (hdst : dstOk nt o.dst = true) {u : Value} {v : AV} (hv : VR ρ v u) (hT : ∀ x, o.dst = some x → T x = v) :
    INV P call fc nt base ops A K T0 H0 d0 ρ0 w0 (listed.setIfInBounds i true) suffix done loud pend T H d ρ (a.put o.dst u) w := by
  have his : i < listed.size := by rw [h.lsz]; simpa using (List.getElem?_eq_some_iff.1 hi).1
  have hls := getD_set listed his
  have huniq : ∀ (j : Nat) (p : Oper) t, ops.toList[j]? = some p → p.dst = some t → o.dst = some t → j = i := by
    intro j p t hj hpt hot
    rcases Nat.decEq j i with hne | he
    · exact absurd hot ((hp.pair j i p o hj hi hne).2 t hpt)
    · exact he
  have hlf : ∀ j, (listed.setIfInBounds i true).getD j false = false → i ≠ j ∧ listed.getD j false = false := by
    intro j hj
    rw [hls] at hj
    simpa using hj
  have hsz : (a.put o.dst u).tmps.size = nt := by cases hod : o.dst <;> simp [Act.put, h.sz]
  refine ⟨by simp [h.lsz], h.run, h.ord, h.ldm, h.dc, ?_, ?_, ?_, ?_, ?_, h.t3, ?_, ?_, ?_, ?_, h.hr, h.st, h.cl, ?_, hsz, h.bn⟩
  · intro j p hj hlj
    rw [hls] at hlj
    replace hlj := (Bool.or_eq_true _ _).mp hlj
    rcases hlj with hlj | hlj
    · have := of_decide_eq_true hlj
      subst this
      exact .inl hd
    · exact h.i1 j p hj hlj
  · intro j p hj hdj hlj
    exact h.i2 j p hj hdj (hlf j hlj).2
  · intro j p hj hlj e he hb
    rw [hls] at hlj ⊢
    replace hlj := (Bool.or_eq_true _ _).mp hlj
    rcases hlj with hlj | hlj
    · have := of_decide_eq_true hlj
      subst this
      rw [hi] at hj; cases hj
      rw [hdeps e he hb]; simp
    · rw [h.i3 j p hj hlj e he hb]; simp
  · intro t ht
    by_cases hot : o.dst = some t
    · rw [hT t hot]
      rw [hot] at hdst ⊢
      have hlt : t < nt := Nat.lt_of_succ_le (ble_iff.1 hdst)
      rw [getD_putself a u (by rw [h.sz]; exact hlt)]
      exact hv
    · rw [getD_puto a u hot]
      refine h.t1 t fun j p hj hpt => ?_
      have := ht j p hj hpt
      rw [hls] at this
      have hij : ¬ i = j := fun e => by subst e; rw [hi] at hj; cases hj; exact hot hpt
      simpa [hij] using this
  · intro j p t hj hpt hdj hlj
    obtain ⟨hij, hlj⟩ := hlf j hlj
    rw [getD_puto a u fun hot => hij (huniq j p t hj hpt hot).symm]
    exact h.t2 j p t hj hpt hdj hlj
  · intro q p hq hdq hlq
    exact h.qy q p hq hdq (hlf q hlq).2
  · intro q p hq hdq hlq
    exact h.pd q p hq hdq (hlf q hlq).2
  · intro j p hj hlj hdj
    rw [hls] at hlj
    replace hlj := (Bool.or_eq_true _ _).mp hlj
    rcases hlj with hlj | hlj
    · have := of_decide_eq_true hlj
      subst this
      rw [hd] at hdj; cases hdj
    · obtain ⟨el, x, z, zv, g, c1, c2, c3, c4, c5, c6, c7, c8, c9⟩ := h.al j p hj hlj hdj
      refine ⟨el, x, z, zv, g, c1, c2, c3, c4, c5, c6, c7, c8, ?_⟩
      rw [getD_puto a u fun hot => ?_]
      · exact c9
      · have := huniq j p x hj c3 hot
        subst this
        rw [hd] at hdj; cases hdj
  · intro j j' p p' y y' hj hj' hne hlj hdj hlj' hdj' hy hy'
    rw [hls] at hlj hlj'
    have e1 : ¬ i = j := fun e => by subst e; rw [hd] at hdj; cases hdj
    have e2 : ¬ i = j' := fun e => by subst e; rw [hd] at hdj'; cases hdj'
    rw [getD_puto a u fun hot => e1 (huniq j p y hj hy hot).symm, getD_puto a u fun hot => e2 (huniq j' p' y' hj' hy' hot).symm]
    exact h.ald j j' p p' y y' hj hj' hne (by simpa [e1] using hlj) hdj (by simpa [e2] using hlj') hdj' hy hy'
  · cases hod : o.dst <;> exact h.df

/-- A new variable comes up ahead of our order. -/
theorem INV.early (hp : Plan P ops A) (h : INV P call fc nt base ops A K T0 H0 d0 ρ0 w0 listed suffix done loud pend T H d ρ a w) {i : Nat} {o : Oper} (hi : ops.toList[i]? = some o) (hl : listed.getD i false = false) (hd : done.testBit i = false)
    (hdeps : ∀ e ∈ o.after.toList, binding e = true → listed.getD e.on false = true) {el : TypeId} {x : Tmp} {z : AV} {zv : Value} (e1 : o.op = .alloc el) (e2 : o.guard = none) (e3 : o.dst = some x) (e4 : zeroOf P el = some z) (e5 : ∀ σ, VR σ z zv)
    (hk : kindD P o = 3) (hx : x < nt) :
    INV P call fc nt base ops A K T0 H0 d0 ρ0 w0 (listed.setIfInBounds i true) suffix done loud pend T H d ρ (a.put o.dst (.pointer (some ⟨w.heap.size, 0, none⟩))) (w.alloc (.cells zv.cells el (0, 0))) := by
  have his : i < listed.size := by rw [h.lsz]; simpa using (List.getElem?_eq_some_iff.1 hi).1
  have hls := getD_set listed his
  have huniq : ∀ (j : Nat) (p : Oper) t, ops.toList[j]? = some p → p.dst = some t → o.dst = some t → j = i := by
    intro j p t hj hpt hot
    rcases Nat.decEq j i with hne | he
    · exact absurd hot ((hp.pair j i p o hj hi hne).2 t hpt)
    · exact he
  have hlf : ∀ j, (listed.setIfInBounds i true).getD j false = false → i ≠ j ∧ listed.getD j false = false := by
    intro j hj
    rw [hls] at hj
    simpa using hj
  have hsz : (a.put o.dst (.pointer (some ⟨w.heap.size, 0, none⟩))).tmps.size = nt := by cases hod : o.dst <;> simp [Act.put, h.sz]
  have hold : ∀ g, g < w.heap.size → (w.alloc (.cells zv.cells el (0, 0))).heap[g]? = w.heap[g]? := fun g hg => by
    show (w.heap.push _)[g]? = _
    rw [Array.getElem?_push, if_neg (by omega)]
  have hgr := Step.grow h.hr (.cells zv.cells el (0, 0))
  refine ⟨by simp [h.lsz], h.run, h.ord, h.ldm, h.dc, ?_, ?_, ?_, ?_, ?_, h.t3, ?_, ?_, ?_, ?_, hgr.hr, h.st.trans hgr, h.cl, ?_, hsz, h.bn⟩
  · intro j p hj hlj
    rw [hls] at hlj
    replace hlj := (Bool.or_eq_true _ _).mp hlj
    rcases hlj with hlj | hlj
    · have := of_decide_eq_true hlj
      subst this
      rw [hi] at hj; cases hj
      exact .inr hk
    · exact h.i1 j p hj hlj
  · intro j p hj hdj hlj
    exact h.i2 j p hj hdj (hlf j hlj).2
  · intro j p hj hlj e he hb
    rw [hls] at hlj ⊢
    replace hlj := (Bool.or_eq_true _ _).mp hlj
    rcases hlj with hlj | hlj
    · have := of_decide_eq_true hlj
      subst this
      rw [hi] at hj; cases hj
      rw [hdeps e he hb]; simp
    · rw [h.i3 j p hj hlj e he hb]; simp
  · intro t ht
    by_cases hot : o.dst = some t
    · have := ht i o hi hot
      rw [hls, hd] at this
      simp at this
    · rw [getD_puto a _ hot]
      refine h.t1 t fun j p hj hpt => ?_
      have := ht j p hj hpt
      rw [hls] at this
      have hij : ¬ i = j := fun e => by subst e; rw [hi] at hj; cases hj; exact hot hpt
      simpa [hij] using this
  · intro j p t hj hpt hdj hlj
    obtain ⟨hij, hlj⟩ := hlf j hlj
    rw [getD_puto a _ fun hot => hij (huniq j p t hj hpt hot).symm]
    exact h.t2 j p t hj hpt hdj hlj
  · intro q p hq hdq hlq
    exact h.qy q p hq hdq (hlf q hlq).2
  · intro q p hq hdq hlq
    exact h.pd q p hq hdq (hlf q hlq).2
  · intro j p hj hlj hdj
    by_cases hij : i = j
    · subst hij
      rw [hi] at hj; cases hj
      refine ⟨el, x, z, zv, w.heap.size, e1, e2, e3, e4, e5, ?_, fun j r hr => ?_, h.st.fr.size, ?_⟩
      · show (w.heap.push _)[w.heap.size]? = _
        rw [Array.getElem?_push, if_pos rfl]
      · have := h.hr.rng j r hr
        omega
      · rw [e3, getD_putself a _ (by rw [h.sz]; exact hx)]
    · rw [hls] at hlj
      obtain ⟨el', x', z', zv', g, c1, c2, c3, c4, c5, c6, c7, c8, c9⟩ := h.al j p hj (by simpa [hij] using hlj) hdj
      refine ⟨el', x', z', zv', g, c1, c2, c3, c4, c5, ?_, c7, c8, ?_⟩
      · rw [hold g (Array.getElem?_eq_some_iff.1 c6).1]; exact c6
      · rw [getD_puto a _ fun hot => hij (huniq j p x' hj c3 hot).symm]; exact c9
  · have main : ∀ (j : Nat) (p : Oper) y, ops.toList[j]? = some p → i ≠ j → listed.getD j false = true → done.testBit j = false → p.dst = some y → a.tmps.getD y undef ≠ .pointer (some ⟨w.heap.size, 0, none⟩) := by
      intro j p y hj hij hlj hdj hy
      obtain ⟨el', x', z', zv', g, c1, c2, c3, c4, c5, c6, c7, c8, c9⟩ := h.al j p hj hlj hdj
      rw [hy] at c3; cases c3
      rw [c9]
      have := (Array.getElem?_eq_some_iff.1 c6).1
      intro e
      simp at e
      omega
    intro j j' p p' y y' hj hj' hne hlj hdj hlj' hdj' hy hy'
    rw [hls] at hlj hlj'
    by_cases e1' : i = j
    · subst e1'
      rw [hi] at hj; cases hj
      rw [e3] at hy; cases hy
      rw [e3, getD_putself a _ (by rw [h.sz]; exact hx), ← e3, getD_puto a _ fun hot => hne (huniq j' p' y' hj' hy' hot).symm]
      exact (main j' p' y' hj' hne (by simpa [hne] using hlj') hdj' hy').symm
    · rw [getD_puto a _ fun hot => e1' (huniq j p y hj hy hot).symm]
      by_cases e2' : i = j'
      · subst e2'
        rw [hi] at hj'; cases hj'
        rw [e3] at hy'; cases hy'
        rw [e3, getD_putself a _ (by rw [h.sz]; exact hx)]
        exact main j p y hj e1' (by simpa [e1'] using hlj) hdj hy
      · rw [getD_puto a _ fun hot => e2' (huniq j' p' y' hj' hy' hot).symm]
        exact h.ald j j' p p' y y' hj hj' hne (by simpa [e1'] using hlj) hdj (by simpa [e2'] using hlj') hdj' hy hy'
  · cases hod : o.dst <;> exact h.df

/-- A loud operation comes up, and our order takes it. -/
theorem INV.loudly (hp : Plan P ops A) (h : INV P call fc nt base ops A K T0 H0 d0 ρ0 w0 listed (k :: r) done loud pend T H d ρ a w) {o : Oper} (ho : ops.toList[k]? = some o) (hl : listed.getD k false = false)
    (f : Facts P call fc nt base ops A K T0 T H d k r pend done loud o)
    (hdeps : ∀ e ∈ o.after.toList, binding e = true → listed.getD e.on false = true) (hnq : quietO P o = false) {u : Value} {v : AV} {H' : HP} {d' : Bool} {ρ' : Ren} {w' : World} (hv : VR ρ' v u) (hst : Step P ρ H w ρ' H' w') (hcl : CL base H d' H')
    (hrun : runP P call fc nt base ops.toList A r pend (putO T o.dst v) H' (cond d' true d) K)
    (hag : ∀ (q : Nat) (p : Oper), ops.toList[q]? = some p → done.testBit q = true → listed.getD q false = false → ∃ u, QY P ops p (VQ ops A T0 (putO T o.dst v) q) H' u ∧ ∀ x, p.dst = some x → putO T o.dst v x = u) :
    INV P call fc nt base ops A K T0 H0 d0 ρ0 w0 (listed.setIfInBounds k true) r (done ||| 2 ^ k) (loud ||| 2 ^ k) pend (putO T o.dst v) H' (cond d' true d) ρ' (a.put o.dst u) w' := by
  have his : k < listed.size := by rw [h.lsz]; simpa using (List.getElem?_eq_some_iff.1 ho).1
  have hls := getD_set listed his
  have hlf : ∀ j, (listed.setIfInBounds k true).getD j false = false → k ≠ j ∧ listed.getD j false = false := by
    intro j hj
    rw [hls] at hj
    simpa using hj
  have hsz : (a.put o.dst u).tmps.size = nt := by cases hod : o.dst <;> simp [Act.put, h.sz]
  have hord := f.ord
  rw [hnq] at hord
  refine ⟨by simp [h.lsz], hrun, hord, ?_, ?_, ?_, ?_, ?_, ?_, ?_, ?_, ?_, ?_, ?_, ?_, hst.hr, h.st.trans hst, ?_, ?_, hsz, Nat.le_trans h.bn hst.n⟩
  · intro i p hi hdi hqi
    rw [done_bit] at hdi ⊢
    replace hdi := (Bool.or_eq_true _ _).mp hdi
    rcases hdi with hdi | hdi
    · rw [h.ldm i p hi hdi hqi]; rfl
    · rw [hdi]; simp
  · intro i p hi hdi e he hb
    rw [done_bit] at hdi ⊢
    replace hdi := (Bool.or_eq_true _ _).mp hdi
    rcases hdi with hdi | hdi
    · rw [h.dc i p hi hdi e he hb]; rfl
    · have := of_decide_eq_true hdi
      subst this
      rw [ho] at hi; cases hi
      rw [f.deps e he hb]; rfl
  · intro i p hi hli
    rw [done_bit]
    rw [hls] at hli
    replace hli := (Bool.or_eq_true _ _).mp hli
    rcases hli with hli | hli
    · left; rw [hli]; simp
    · exact (h.i1 i p hi hli).imp (fun h => by rw [h]; rfl) id
  · intro i p hi hdi hli
    obtain ⟨hki, hli⟩ := hlf i hli
    rw [done_bit] at hdi
    exact h.i2 i p hi (by simpa [hki] using hdi) hli
  · intro i p hi hli e he hb
    rw [hls] at hli ⊢
    replace hli := (Bool.or_eq_true _ _).mp hli
    rcases hli with hli | hli
    · have := of_decide_eq_true hli
      subst this
      rw [ho] at hi; cases hi
      rw [hdeps e he hb]; simp
    · rw [h.i3 i p hi hli e he hb]; simp
  · intro t ht
    by_cases hot : o.dst = some t
    · rw [f.ts v t hot]
      have hd := f.dst
      rw [hot] at hd ⊢
      have hlt : t < nt := Nat.lt_of_succ_le (ble_iff.1 hd)
      rw [getD_putself a u (by rw [h.sz]; exact hlt)]
      exact hv
    · rw [f.to v t hot, getD_puto a u hot]
      refine (h.t1 t fun j p hj hpt => ?_).mono hst.ext
      have := ht j p hj hpt
      rw [hls, done_bit] at this
      have hij : ¬ k = j := fun e => by subst e; rw [ho] at hj; cases hj; exact hot hpt
      simpa [hij] using this
  · intro i p t hi hpt hdi hli
    obtain ⟨hki, hli⟩ := hlf i hli
    rw [done_bit] at hdi
    rw [getD_puto a u fun hot => hki (f.uniq i p t hi hpt hot).symm]
    exact (h.t2 i p t hi hpt (by simpa [hki] using hdi) hli).mono hst.ext
  · intro t ht
    have hot : o.dst ≠ some t := fun hot => by
      have := ht k o ho hot
      rw [done_bit] at this
      simp at this
    rw [f.to v t hot]
    refine h.t3 t fun i p hi hpt => ?_
    have := ht i p hi hpt
    rw [done_bit] at this
    simp only [Bool.or_eq_false_iff] at this
    exact this.1
  · intro q p hq hdq hlq
    obtain ⟨hkq, hlq⟩ := hlf q hlq
    rw [done_bit] at hdq
    exact hag q p hq (by simpa [hkq] using hdq) hlq
  · intro q p hq hdq hlq
    obtain ⟨hkq, hlq⟩ := hlf q hlq
    rw [done_bit] at hdq
    have hdq : done.testBit q = true := by simpa [hkq] using hdq
    rcases h.pd q p hq hdq hlq with ⟨v', h1, h2⟩ | ⟨h1, h2, h3⟩
    · left
      refine ⟨v', by rw [f.vq _ q p hq hdq]; exact h1, fun y hy => ?_⟩
      rw [f.to _ y fun hot => hkq (f.uniq q p y hq hy hot).symm]
      exact h2 y hy
    · right
      refine ⟨h1, h2, ?_⟩
      rw [wanted_congr (T' := T) fun t ht => ?_]
      · exact h3
      · refine f.to _ t fun hot => ?_
        rcases (hp.pair q k p o hq ho (Ne.symm hkq)).1 t hot ht with hh | ⟨_, hh⟩
        · have := f.ancq q p hq hdq k hh; rw [f.nd] at this; cases this
        · exact hh h2
  · intro j p hj hlj hdj
    rw [done_bit] at hdj
    simp only [Bool.or_eq_false_iff, decide_eq_false_iff_not] at hdj
    rw [hls] at hlj
    obtain ⟨el', x', z', zv', g, c1, c2, c3, c4, c5, c6, c7, c8, c9⟩ := h.al j p hj (by simpa [hdj.2] using hlj) hdj.1
    have hgl := (Array.getElem?_eq_some_iff.1 c6).1
    refine ⟨el', x', z', zv', g, c1, c2, c3, c4, c5, ?_, fun i r hr => ?_, c8, ?_⟩
    · rw [hst.fr.block g hgl]
      · exact c6
      · rintro ⟨i, m, e, c, r, hi, hm, hr, e'⟩
        exact c7 i r hr e'
    · rcases hst.img i r hr with ⟨i', r', hr', e'⟩ | hge
      · rw [← e']; exact c7 i' r' hr'
      · omega
    · rw [getD_puto a u fun hot => hdj.2 (f.uniq j p x' hj c3 hot).symm]; exact c9
  · intro i j p p' y y' hi hj hne hli hdi hlj hdj hy hy'
    rw [done_bit] at hdi hdj
    simp only [Bool.or_eq_false_iff, decide_eq_false_iff_not] at hdi hdj
    rw [hls] at hli hlj
    rw [getD_puto a u fun hot => hdi.2 (f.uniq i p y hi hy hot).symm, getD_puto a u fun hot => hdj.2 (f.uniq j p' y' hj hy' hot).symm]
    exact h.ald i j p p' y y' hi hj hne (by simpa [hdi.2] using hli) hdi.1 (by simpa [hdj.2] using hlj) hdj.1 hy hy'
  · intro HH hH
    exact (h.cl HH hH).trans hcl
  · cases hod : o.dst <;> exact h.df
end
end Go.X
