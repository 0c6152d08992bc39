import Derived.Test.YtekjeadgknmokaaX12b
/- Regions whose order is open: any order comes to what ours comes to. -/
set_option linter.unusedVariables false
set_option linter.unusedSimpArgs false
namespace Go.X
open Go

section
variable {P : Program} {call : Call} {fc : Bool} {nt base : Nat} {ops : Array Oper} {A : List Nat} {K : (Nat → AV) → HP → Bool → Prop}
  {T0 : Nat → AV} {H0 : HP} {d0 : Bool} {ρ0 : Ren} {w0 : World} {listed : Array Bool} {k : Nat} {r : List Nat} {done loud : Nat} {pend : List Nat} {T : Nat → AV} {H : HP} {d : Bool} {ρ : Ren} {a : Act} {w : World}

theorem upd_same (T : Nat → AV) (x : Nat) (v : AV) : upd T x v x = v := by
  unfold upd
  rw [beq_iff.2 rfl]
theorem upd_ne (T : Nat → AV) {x t : Nat} (v : AV) (h : t ≠ x) : upd T x v t = T t := by
  unfold upd
  have : Nat.beq t x = false := by
    cases hq : Nat.beq t x with
    | false => rfl
    | true => exact absurd (beq_iff.1 hq) h
  rw [this]

structure Facts (P : Program) (call : Call) (fc : Bool) (nt base : Nat) (ops : Array Oper) (A : List Nat) (K : (Nat → AV) → HP → Bool → Prop) (T0 T : Nat → AV) (H : HP) (d : Bool) (k : Nat) (r pend : List Nat) (done loud : Nat) (o : Oper) : Prop where
  nd : done.testBit k = false
  deps : ∀ e ∈ o.after.toList, binding e = true → done.testBit e.on = true
  ld : kindD P o = 3 ∨ loud &&& maskOf A k = loud
  ord : okOrder P ops.toList A r (done ||| 2 ^ k) (cond (quietO P o) loud (loud ||| 2 ^ k)) = true
  anc : ∀ j, (maskOf A k).testBit j = true → done.testBit j = true
  ancq : ∀ (q : Nat) (p : Oper), ops.toList[q]? = some p → done.testBit q = true → ∀ j, (maskOf A q).testBit j = true → done.testBit j = true
  uniq : ∀ (i : Nat) (p : Oper) t, ops.toList[i]? = some p → p.dst = some t → o.dst = some t → i = k
  to : ∀ v t, o.dst ≠ some t → putO T o.dst v t = T t
  ts : ∀ v x, o.dst = some x → putO T o.dst v x = v
  vq : ∀ v (q : Nat) (p : Oper), ops.toList[q]? = some p → done.testBit q = true → VQ ops A T0 (putO T o.dst v) q = VQ ops A T0 T q
  dst : dstOk nt o.dst = true
  run : cond (wantedA ops.toList T o)
      (match kindA P o.op with
        | 0 => pureA P o.op T fun v => fzV fc v fun v => runP P call fc nt base ops.toList A r pend (putO T o.dst v) H d K
        | 1 => readA P o.op T H fun v => fzV fc v fun v => runP P call fc nt base ops.toList A r (k :: pend) (putO T o.dst v) H d K
        | _ => loudA P call fc base o.op T H fun v H' d' => fzV fc v fun v => stabs P fc ops.toList (maskOf A k) (putO T o.dst v) H' pend (runP P call fc nt base ops.toList A r pend (putO T o.dst v) H' (cond d' true d) K))
      (runP P call fc nt base ops.toList A r pend (putO T o.dst AV.undef) H d K)

theorem INV.facts (hp : Plan P ops A) (h : INV P call fc nt base ops A K T0 H0 d0 ρ0 w0 listed (k :: r) done loud pend T H d ρ a w) {o : Oper} (ho : ops.toList[k]? = some o) :
    Facts P call fc nt base ops A K T0 T H d k r pend done loud o := by
  have hord := h.ord
  unfold okOrder at hord
  rw [nth_eq, ho] at hord
  simp only at hord
  generalize hc : (!(done.testBit k) && depsIn done o.after.toList && (Nat.beq (kindD P o) 3 || Nat.beq (loud &&& maskOf A k) loud)) = c at hord
  cases c with
  | false => cases hord
  | true =>
    simp only [cond_true] at hord
    simp only [Bool.and_eq_true, Bool.not_eq_true', Bool.or_eq_true] at hc
    obtain ⟨⟨hnd, hdeps⟩, hld⟩ := hc
    have hdeps' := depsIn_iff.1 hdeps
    have hrun := h.run
    unfold runP at hrun
    rw [nth_eq, ho] at hrun
    simp only at hrun
    have hancq : ∀ (q : Nat) (p : Oper), ops.toList[q]? = some p → done.testBit q = true → ∀ j, (maskOf A q).testBit j = true → done.testBit j = true := fun q p hq' hdq j hj =>
      hp.closed (S := fun i => done.testBit i) h.dc q q p (Nat.le_refl _) hq' (h.dc q p hq' hdq) j hj
    have huniq : ∀ (i : Nat) (p : Oper) t, ops.toList[i]? = some p → p.dst = some t → o.dst = some t → i = k := by
      intro i p t hi hpt hot
      rcases Nat.decEq i k with hne | he
      · exact absurd hot ((hp.pair i k p o hi ho hne).2 t hpt)
      · exact he
    have hTo : ∀ v t, o.dst ≠ some t → putO T o.dst v t = T t := by
      intro v t ht
      cases hd : o.dst with
      | none => rfl
      | some x => exact upd_ne T v (fun e => ht (by rw [hd, e]))
    refine ⟨hnd, hdeps', hld.imp beq_iff.1 beq_iff.1, hord, fun j hj => hp.closed (S := fun i => done.testBit i) h.dc k k o (Nat.le_refl _) ho hdeps' j hj, hancq, huniq, hTo, ?_, ?_, (need_iff.1 hrun).1, (need_iff.1 hrun).2⟩
    · intro v x hx
      rw [hx]
      exact upd_same T x v
    · intro v q p hq' hdq
      funext t
      unfold VQ
      split
      · rename_i hex
        obtain ⟨j, p', hj, hpj, hm⟩ := hex
        refine hTo v t fun hot => ?_
        have := huniq j p' t hj hpj hot
        subst this
        have := hancq q p hq' hdq j hm
        rw [hnd] at this; cases this
      · rfl

theorem done_bit (done k j : Nat) : (done ||| 2 ^ k).testBit j = (done.testBit j || decide (k = j)) := by rw [Nat.testBit_or, Nat.testBit_two_pow]

/-- A pending read, once more. -/
theorem INV.again (hp : Plan P ops A) (h : INV P call fc nt base ops A K T0 H0 d0 ρ0 w0 listed (k :: r) done loud pend T H d ρ a w) {o : Oper} (ho : ops.toList[k]? = some o)
    (f : Facts P call fc nt base ops A K T0 T H d k r pend done loud o) {v : AV} {H' : HP} (hst : ∀ q ∈ pend, (maskOf A k).testBit q = false → ∃ o' x, ops.toList[q]? = some o' ∧ o'.dst = some x ∧ readA P o'.op (putO T o.dst v) H' (fun u => u = putO T o.dst v x))
    (hk : ∀ j, (maskOf A k).testBit j = true → listed.getD j false = true) :
    ∀ (q : Nat) (p : Oper), ops.toList[q]? = some p → done.testBit q = true → listed.getD q false = false → ∃ u, QY P ops p (VQ ops A T0 (putO T o.dst v) q) H' u ∧ ∀ x, p.dst = some x → putO T o.dst v x = u := by
  intro q p hq hdq hlq
  have hne : q ≠ k := fun e => by subst e; rw [f.nd] at hdq; cases hdq
  have hxt : ∀ x, p.dst = some x → putO T o.dst v x = T x := fun x hx => f.to v x fun hot => hne (f.uniq q p x hq hx hot)
  rcases h.pd q p hq hdq hlq with ⟨u, h1, h2⟩ | ⟨h1, h2, h3⟩
  · exact ⟨u, by rw [f.vq v q p hq hdq]; exact h1 H', fun x hx => by rw [hxt x hx]; exact h2 x hx⟩
  · have hnm : (maskOf A k).testBit q = false := by
      cases hh : (maskOf A k).testBit q with
      | false => rfl
      | true => have := hk q hh; rw [hlq] at this; cases this
    obtain ⟨o', x, ho', hx, hr⟩ := hst q h1 hnm
    rw [hq] at ho'; cases ho'
    have hlk : ∀ t ∈ p.looksAt ops, putO T o.dst v t = T t := by
      intro t ht
      refine f.to v t fun hot => ?_
      rcases (hp.pair q k p o hq ho hne).1 t hot ht with hh | ⟨_, hh⟩
      · have := f.ancq q p hq hdq k hh; rw [f.nd] at this; cases this
      · exact hh h2
    have hV : ∀ t ∈ p.looksAt ops, VQ ops A T0 (putO T o.dst v) q t = putO T o.dst v t := by
      intro t ht
      rw [f.vq v q p hq hdq, hlk t ht]
      unfold VQ
      split
      · rfl
      · rename_i hex
        symm
        refine h.t3 t fun j p' hj hpt => ?_
        exfalso
        by_cases hjq : j = q
        · subst hjq
          rw [hq] at hj; cases hj
          exact hp.own j p hq h2 t hpt ht
        · rcases (hp.pair q j p p' hq hj (Ne.symm hjq)).1 t hpt ht with hh | ⟨_, hh⟩
          · exact hex ⟨j, p', hj, hpt, hh⟩
          · exact hh h2
    obtain ⟨u, hu, hqy⟩ := QY.read (ops := ops) (o := p) (T := putO T o.dst v) (V := VQ ops A T0 (putO T o.dst v) q) hr (by rw [wanted_congr hlk]; exact h3) hV
    subst hu
    exact ⟨_, hqy, fun y hy => by rw [hx] at hy; cases hy; rfl⟩

/-- Our order takes a new variable that has come up before. -/
theorem INV.adopt (hp : Plan P ops A) (h : INV P call fc nt base ops A K T0 H0 d0 ρ0 w0 listed (k :: r) done loud pend T H d ρ a w) {o : Oper} (ho : ops.toList[k]? = some o) (hk3 : kindD P o = 3) (hl : listed.getD k false = true) :
    ∃ T' H' ρ', INV P call fc nt base ops A K T0 H0 d0 ρ0 w0 listed r (done ||| 2 ^ k) (loud ||| 2 ^ k) pend T' H' d ρ' a w := by
  have f := h.facts hp ho
  have hnq : quietO P o = false := by
    cases hh : quietO P o with
    | false => rfl
    | true => rcases quiet_iff.1 hh with e | e <;> omega
  obtain ⟨el, x, z, zv, g, e1, e2, e3, e4, e5, e6, e7, e8, e9⟩ := h.al k o ho hl f.nd
  have hrun := f.run
  have hw : wantedA ops.toList T o = true := by unfold wantedA; rw [e2]
  rw [hw] at hrun
  simp only [cond_true] at hrun
  have hkA : kindA P o.op = 2 := by rw [e1]; rfl
  rw [hkA] at hrun
  simp only [fzV_eq] at hrun
  unfold loudA at hrun
  rw [e1] at hrun
  simp only [e4] at hrun
  obtain ⟨hrun, hst⟩ := stabs_spec pend hrun
  have hlk : ∀ j, (maskOf A k).testBit j = true → listed.getD j false = true := fun j hj =>
    hp.closed (S := fun i => listed.getD i false) h.i3 k k o (Nat.le_refl _) ho (h.i3 k o ho hl) j hj
  have hag := h.again hp ho f hst hlk
  obtain ⟨ρ', a1, a2, a3, a4⟩ := h.hr.adopt el el z.cells zv.cells g (e5 ρ).cells e6 e7
  have hord := f.ord
  rw [hnq] at hord
  refine ⟨_, _, ρ', ⟨h.lsz, hrun, hord, ?_, ?_, ?_, ?_, h.i3, ?_, ?_, ?_, ?_, ?_, ?_, ?_, a4, ?_, ?_, h.df, h.sz, Nat.le_succ_of_le h.bn⟩⟩
  · intro i p hi hdi hqi
    rw [done_bit] at hdi ⊢
    replace hdi := (Bool.or_eq_true _ _).mp hdi
    rcases hdi with hdi | hdi
    · rw [h.ldm i p hi hdi hqi]; rfl
    · rw [hdi]; simp
  · intro i p hi hdi e he hb
    rw [done_bit] at hdi ⊢
    replace hdi := (Bool.or_eq_true _ _).mp hdi
    rcases hdi with hdi | hdi
    · rw [h.dc i p hi hdi e he hb]; rfl
    · have := of_decide_eq_true hdi
      subst this
      rw [ho] at hi; cases hi
      rw [f.deps e he hb]; rfl
  · intro i p hi hli
    rw [done_bit]
    exact (h.i1 i p hi hli).imp (fun h => by rw [h]; rfl) id
  · intro i p hi hdi hli
    rw [done_bit] at hdi
    replace hdi := (Bool.or_eq_true _ _).mp hdi
    rcases hdi with hdi | hdi
    · exact h.i2 i p hi hdi hli
    · have := of_decide_eq_true hdi
      subst this
      rw [hl] at hli; cases hli
  · intro t ht
    by_cases hot : o.dst = some t
    · rw [f.ts _ t hot]
      rw [e3] at hot; cases hot
      rw [e9]
      simpa using VR.ptr (ρ := ρ') H.n 0 _ a1
    · rw [f.to _ t hot]
      refine (h.t1 t fun i p hi hpt => ?_).mono a3
      have := ht i p hi hpt
      rw [done_bit] at this
      have hik : ¬ k = i := fun e => by subst e; rw [ho] at hi; cases hi; exact hot hpt
      simpa [hik] using this
  · intro i p t hi hpt hdi hli
    rw [done_bit] at hdi
    replace hdi := (Bool.or_eq_true _ _).mp hdi
    rcases hdi with hdi | hdi
    · exact (h.t2 i p t hi hpt hdi hli).mono a3
    · have := of_decide_eq_true hdi
      subst this
      rw [hl] at hli; cases hli
  · intro t ht
    have hot : o.dst ≠ some t := fun hot => by
      have := ht k o ho hot
      rw [done_bit] at this
      simp at this
    rw [f.to _ t hot]
    refine h.t3 t fun i p hi hpt => ?_
    have := ht i p hi hpt
    rw [done_bit] at this
    simp only [Bool.or_eq_false_iff] at this
    exact this.1
  · intro q p hq hdq hlq
    rw [done_bit] at hdq
    replace hdq := (Bool.or_eq_true _ _).mp hdq
    rcases hdq with hdq | hdq
    · exact hag q p hq hdq hlq
    · have := of_decide_eq_true hdq
      subst this
      rw [hl] at hlq; cases hlq
  · intro q p hq hdq hlq
    rw [done_bit] at hdq
    replace hdq := (Bool.or_eq_true _ _).mp hdq
    rcases hdq with hdq | hdq
    · have hne : q ≠ k := fun e => by subst e; rw [f.nd] at hdq; cases hdq
      rcases h.pd q p hq hdq hlq with ⟨v', h1, h2⟩ | ⟨h1, h2, h3⟩
      · left
        refine ⟨v', by rw [f.vq _ q p hq hdq]; exact h1, fun y hy => ?_⟩
        rw [f.to _ y fun hot => hne (f.uniq q p y hq hy hot)]
        exact h2 y hy
      · right
        refine ⟨h1, h2, ?_⟩
        rw [wanted_congr (T' := T) fun t ht => ?_]
        · exact h3
        · refine f.to _ t fun hot => ?_
          rcases (hp.pair q k p o hq ho hne).1 t hot ht with hh | ⟨_, hh⟩
          · have := f.ancq q p hq hdq k hh; rw [f.nd] at this; cases this
          · exact hh h2
    · have := of_decide_eq_true hdq
      subst this
      rw [hl] at hlq; cases hlq
  · intro i p hi hli hdi
    rw [done_bit] at hdi
    simp only [Bool.or_eq_false_iff, decide_eq_false_iff_not] at hdi
    obtain ⟨el', x', z', zv', g', c1, c2, c3, c4, c5, c6, c7, c8, c9⟩ := h.al i p hi hli hdi.1
    refine ⟨el', x', z', zv', g', c1, c2, c3, c4, c5, c6, fun j r hj => ?_, c8, c9⟩
    by_cases hjn : j = H.n
    · subst hjn
      rw [a1] at hj; cases hj
      intro e
      have e' : g = g' := e
      have := h.ald k i o p x x' ho hi hdi.2 hl f.nd hli hdi.1 e3 c3
      rw [e9, c9, e'] at this
      exact this rfl
    · rw [a2 j hjn] at hj
      exact c7 j r hj
  · intro i j p p' y y' hi hj hne hli hdi hlj hdj hy hy'
    rw [done_bit] at hdi hdj
    simp only [Bool.or_eq_false_iff] at hdi hdj
    exact h.ald i j p p' y y' hi hj hne hli hdi.1 hlj hdj.1 hy hy'
  · refine ⟨fun i r hi => a3 i r (h.st.ext i r hi), Nat.le_succ_of_le h.st.n, a4, h.st.fr, ?_, ?_⟩
    · rintro g' ⟨i, m, e, c, r, hi, hm, hr, rfl⟩
      rw [HP.get_push h.hr.len] at hi
      by_cases hin : i = H.n
      · subst hin
        rw [a1] at hr; cases hr
        exact .inr e8
      · rw [if_neg hin] at hi
        rw [a2 i hin] at hr
        exact h.st.wr _ ⟨i, m, e, c, r, hi, hm, hr, rfl⟩
    · intro i r hi
      by_cases hin : i = H.n
      · subst hin
        rw [a1] at hi; cases hi
        exact .inr e8
      · rw [a2 i hin] at hi
        exact h.st.img i r hi
  · intro HH hH
    have := (h.cl HH hH).trans (CL.push (base := base) h.hr.len h.bn (.row .own el z.cells))
    simpa using this
end
end Go.X
