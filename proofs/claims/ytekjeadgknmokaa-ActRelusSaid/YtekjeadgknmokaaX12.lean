import Derived.Test.YtekjeadgknmokaaX12d
/- Regions whose order is open: the theorem. -/
set_option linter.unusedVariables false
set_option linter.unusedSimpArgs false
namespace Go.X
open Go

theorem countP_le' {α : Type} {p q : α → Bool} : ∀ {l : List α}, (∀ x ∈ l, p x = true → q x = true) → l.countP p ≤ l.countP q
  | [], _ => by simp
  | y :: r, h => by
    have ih := countP_le' (l := r) fun x hx => h x (List.mem_cons_of_mem _ hx)
    have hy := h y (List.mem_cons_self ..)
    rw [List.countP_cons, List.countP_cons]
    cases hp : p y with
    | false => simp; omega
    | true => simp [hy hp]; omega
theorem countP_lt {α : Type} {p q : α → Bool} : ∀ {l : List α}, (∀ x ∈ l, p x = true → q x = true) → (∃ x ∈ l, q x = true ∧ p x = false) → l.countP p < l.countP q
  | [], _, ⟨x, hx, _⟩ => by simp at hx
  | y :: r, h, ⟨x, hx, h1, h2⟩ => by
    have hle := countP_le' (l := r) fun x hx => h x (List.mem_cons_of_mem _ hx)
    rw [List.countP_cons, List.countP_cons]
    rcases List.mem_cons.1 hx with rfl | hx
    · simp [h1, h2]; omega
    · have ih := countP_lt (l := r) (fun x hx => h x (List.mem_cons_of_mem _ hx)) ⟨x, hx, h1, h2⟩
      have hy := h y (List.mem_cons_self ..)
      cases hp : p y with
      | false => simp; omega
      | true => simp [hy hp]; omega

def unlisted (n : Nat) (listed : Array Bool) : Nat := (List.range n).countP fun i => !(listed.getD i false)

section
variable {P : Program} {call : Call} {fc : Bool} {nt base : Nat} {ops : Array Oper} {A : List Nat} {K : (Nat → AV) → HP → Bool → Prop}
  {T0 : Nat → AV} {H0 : HP} {d0 : Bool} {ρ0 : Ren} {w0 : World}

/-- All that are left are new variables that have come up: our order takes them. -/
theorem INV.finish (hp : Plan P ops A) : ∀ (suffix : List Nat) {listed : Array Bool} {done loud : Nat} {pend : List Nat} {T : Nat → AV} {H : HP} {d : Bool} {ρ : Ren} {a : Act} {w : World},
    INV P call fc nt base ops A K T0 H0 d0 ρ0 w0 listed suffix done loud pend T H d ρ a w → (∀ i, i < ops.size → listed.getD i false = true) →
    ∃ T' H' d' ρ', K T' H' d' ∧ SR P nt ρ' T' H' a w ∧ Step P ρ0 H0 w0 ρ' H' w ∧ (∀ HH, CL base HH d0 H0 → CL base HH d' H')
  | [], listed, done, loud, pend, T, H, d, ρ, a, w, h, hall => by
    refine ⟨T, H, d, ρ, h.run, ⟨fun t => h.t1 t fun i o hi _ => ?_, h.sz, h.df, h.hr⟩, h.st, h.cl⟩
    have hil : i < ops.toList.length := (List.getElem?_eq_some_iff.1 hi).1
    rw [hall i (by simpa using hil)]
    have hord := h.ord
    unfold okOrder at hord
    rw [beq_iff.1 hord, lenR_eq, Nat.testBit_two_pow_sub_one]
    exact (decide_eq_true hil).symm
  | k :: r, listed, done, loud, pend, T, H, d, ρ, a, w, h, hall => by
    obtain ⟨o, ho⟩ : ∃ o, ops.toList[k]? = some o := by
      have hord := h.ord
      unfold okOrder at hord
      rw [nth_eq] at hord
      cases hk : ops.toList[k]? with
      | none => rw [hk] at hord; cases hord
      | some o => exact ⟨o, rfl⟩
    have hlk := hall k (by simpa using (List.getElem?_eq_some_iff.1 ho).1)
    have f := h.facts hp ho
    rcases h.i1 k o ho hlk with hd | hk3
    · rw [f.nd] at hd; cases hd
    · obtain ⟨T', H', ρ', h'⟩ := h.adopt hp ho hk3 hlk
      exact INV.finish hp r h' hall

variable {Q : Exit → Act → World → Prop}

theorem okOrder_anc : ∀ (suffix : List Nat) {done loud : Nat}, okOrder P ops.toList A suffix done loud = true → ∀ {i k : Nat} {o : Oper}, ops.toList[i]? = some o → kindD P o ≠ 3 → done.testBit i = false → loud.testBit k = true → (maskOf A i).testBit k = true
  | [], done, loud, h, i, k, o, ho, hk3, hd, hl => by
    unfold okOrder at h
    rw [beq_iff.1 h, lenR_eq, Nat.testBit_two_pow_sub_one] at hd
    have := (List.getElem?_eq_some_iff.1 ho).1
    rw [decide_eq_true this] at hd
    cases hd
  | j :: r, done, loud, h, i, k, o, ho, hk3, hd, hl => by
    unfold okOrder at h
    rw [nth_eq] at h
    split at h
    · cases h
    · rename_i p hpj
      generalize hc : (!(done.testBit j) && depsIn done p.after.toList && (Nat.beq (kindD P p) 3 || Nat.beq (loud &&& maskOf A j) loud)) = c at h
      cases c with
      | false => cases h
      | true =>
        simp only [cond_true] at h
        by_cases hji : j = i
        · subst hji
          rw [ho] at hpj; cases hpj
          simp only [Bool.and_eq_true, Bool.or_eq_true] at hc
          rcases hc.2 with h3 | h3
          · exact absurd (beq_iff.1 h3) hk3
          · have := beq_iff.1 h3
            rw [← this, Nat.testBit_and] at hl
            simp at hl
            exact hl.2
        · refine okOrder_anc r h ho hk3 (by rw [done_bit, hd]; simp [hji]) ?_
          cases quietO P p with
          | true => exact hl
          | false => simp only [cond_false]; rw [done_bit, hl]; rfl

/-- Our order goes on to an operation that comes up. -/
theorem INV.advance (hp : Plan P ops A) {i : Nat} {o : Oper} (ho : ops.toList[i]? = some o) (hk3 : kindD P o ≠ 3) :
    ∀ (suffix : List Nat) {listed : Array Bool} {done loud : Nat} {pend : List Nat} {T : Nat → AV} {H : HP} {d : Bool} {ρ : Ren} {a : Act} {w : World},
    INV P call fc nt base ops A K T0 H0 d0 ρ0 w0 listed suffix done loud pend T H d ρ a w → listed.getD i false = false → (∀ e ∈ o.after.toList, binding e = true → listed.getD e.on false = true) → done.testBit i = false →
    ∃ r done' loud' pend' T' H' ρ', INV P call fc nt base ops A K T0 H0 d0 ρ0 w0 listed (i :: r) done' loud' pend' T' H' d ρ' a w
  | [], listed, done, loud, pend, T, H, d, ρ, a, w, h, hl, hdeps, hd => by
    have hord := h.ord
    unfold okOrder at hord
    rw [beq_iff.1 hord, lenR_eq, Nat.testBit_two_pow_sub_one] at hd
    have := (List.getElem?_eq_some_iff.1 ho).1
    rw [decide_eq_true this] at hd
    cases hd
  | k :: r, listed, done, loud, pend, T, H, d, ρ, a, w, h, hl, hdeps, hd => by
    by_cases hki : k = i
    · subst hki
      exact ⟨r, done, loud, pend, T, H, ρ, h⟩
    · obtain ⟨p, hpk⟩ : ∃ p, ops.toList[k]? = some p := by
        have hord := h.ord
        unfold okOrder at hord
        rw [nth_eq] at hord
        cases hk : ops.toList[k]? with
        | none => rw [hk] at hord; cases hord
        | some o => exact ⟨o, rfl⟩
      have f := h.facts hp hpk
      have hdi : (done ||| 2 ^ k).testBit i = false := by rw [done_bit, hd]; simp [hki]
      cases hqk : quietO P p with
      | true =>
        have hlk : listed.getD k false = false := by
          cases hlk : listed.getD k false with
          | false => rfl
          | true =>
            rcases h.i1 k p hpk hlk with hh | hh
            · rw [f.nd] at hh; cases hh
            · rcases quiet_iff.1 hqk with e | e <;> omega
        obtain ⟨pend', T', h'⟩ := h.quiet hp hpk hqk hlk
        exact INV.advance hp ho hk3 r h' hl hdeps hdi
      | false =>
        have hord := f.ord
        rw [hqk] at hord
        have hak := okOrder_anc r hord ho hk3 hdi (k := k) (by rw [cond_false, done_bit]; simp)
        have hlk := hp.closed (S := fun i => listed.getD i false) h.i3 i i o (Nat.le_refl _) ho hdeps k hak
        rcases h.i1 k p hpk hlk with hh | hh
        · rw [f.nd] at hh; cases hh
        · obtain ⟨T', H', ρ', h'⟩ := h.adopt hp hpk hh hlk
          exact INV.advance hp ho hk3 r h' hl hdeps hdi

theorem INV.vq_eq (hp : Plan P ops A) {listed : Array Bool} {k : Nat} {r : List Nat} {done loud : Nat} {pend : List Nat} {T : Nat → AV} {H : HP} {d : Bool} {ρ : Ren} {a : Act} {w : World}
    (h : INV P call fc nt base ops A K T0 H0 d0 ρ0 w0 listed (k :: r) done loud pend T H d ρ a w) {o : Oper} (ho : ops.toList[k]? = some o) (f : Facts P call fc nt base ops A K T0 T H d k r pend done loud o) :
    ∀ t ∈ o.looksAt ops, VQ ops A T0 T k t = T t := by
  intro t ht
  unfold VQ
  split
  · rfl
  · rename_i hex
    symm
    refine h.t3 t fun j p hj hpt => ?_
    by_cases hjk : j = k
    · subst hjk; exact f.nd
    · rcases (hp.pair k j o p ho hj (Ne.symm hjk)).1 t hpt ht with hh | ⟨hh, _⟩
      · exact absurd ⟨j, p, hj, hpt, hh⟩ hex
      · cases hdj : done.testBit j with
        | false => rfl
        | true => have := f.ancq j p hj hdj k hh; rw [f.nd] at this; cases this

theorem INV.any (hcall : CallOk P call) (hng : NoNumG P) (hp : Plan P ops A) (hdk : ∀ (i : Nat) (o : Oper), ops.toList[i]? = some o → dstOk nt o.dst = true)
    (hq : ∀ T' H' d' ρ' a' w', K T' H' d' → SR P nt ρ' T' H' a' w' → Step P ρ0 H0 w0 ρ' H' w' → (∀ HH, CL base HH d0 H0 → CL base HH d' H') → Q .normal a' w') :
    ∀ (fuel : Nat) {listed : Array Bool} {suffix : List Nat} {done loud : Nat} {pend : List Nat} {T : Nat → AV} {H : HP} {d : Bool} {ρ : Ren} {a : Act} {w : World},
    INV P call fc nt base ops A K T0 H0 d0 ρ0 w0 listed suffix done loud pend T H d ρ a w → unlisted ops.size listed ≤ fuel → wpAny P .any ops Q fuel listed a w := by
  -- if none may come up, all have
  have hend : ∀ {listed : Array Bool} {suffix : List Nat} {done loud : Nat} {pend : List Nat} {T : Nat → AV} {H : HP} {d : Bool} {ρ : Ren} {a : Act} {w : World},
      INV P call fc nt base ops A K T0 H0 d0 ρ0 w0 listed suffix done loud pend T H d ρ a w → (∀ i, i < ops.size → listed.getD i false = true) → Q .normal a w := by
    intro listed suffix done loud pend T H d ρ a w h hall
    obtain ⟨T', H', d', ρ', h1, h2, h3, h4⟩ := h.finish hp suffix hall
    exact hq T' H' d' ρ' a w h1 h2 h3 h4
  have hready : ∀ {listed : Array Bool}, listed.size = ops.size → Region.ready .any ops listed = [] → ∀ n i, i ≤ n → i < ops.size → listed.getD i false = true := by
    intro listed hsz hr n
    induction n with
    | zero =>
      intro i hi hlt
      cases hl : listed.getD i false with
      | true => rfl
      | false =>
        exfalso
        obtain ⟨o, ho⟩ : ∃ o, ops[i]? = some o := ⟨_, Array.getElem?_eq_getElem hlt⟩
        have : i ∈ Region.ready .any ops listed := mem_ready.2 ⟨by simp [Array.getD, hsz, hlt] at hl ⊢; exact hl, o, ho, fun e he hb => by
          have := hp.lt i o (by simpa using ho) e (by simpa using he) (by rw [binding_eq]; exact hb)
          omega⟩
        rw [hr] at this; cases this
    | succ n ihn =>
      intro i hi hlt
      cases hl : listed.getD i false with
      | true => rfl
      | false =>
        exfalso
        obtain ⟨o, ho⟩ : ∃ o, ops[i]? = some o := ⟨_, Array.getElem?_eq_getElem hlt⟩
        have : i ∈ Region.ready .any ops listed := mem_ready.2 ⟨by simp [Array.getD, hsz, hlt] at hl ⊢; exact hl, o, ho, fun e he hb => by
          have := hp.lt i o (by simpa using ho) e (by simpa using he) (by rw [binding_eq]; exact hb)
          exact ihn e.on (by omega) (by omega)⟩
        rw [hr] at this; cases this
  intro fuel
  induction fuel with
  | zero =>
    intro listed suffix done loud pend T H d ρ a w h hu
    have hall : ∀ i, i < ops.size → listed.getD i false = true := by
      intro i hi
      cases hl : listed.getD i false with
      | true => rfl
      | false =>
        have : 0 < unlisted ops.size listed := List.countP_pos_iff.2 ⟨i, List.mem_range.2 hi, by simp [hl]⟩
        omega
    refine ⟨?_, hend h hall⟩
    cases hr : Region.ready .any ops listed with
    | nil => rfl
    | cons i l =>
      have hi : i ∈ Region.ready .any ops listed := by rw [hr]; exact List.mem_cons_self ..
      obtain ⟨h0, o, ho, _⟩ := mem_ready.1 hi
      have hlt := (Array.getElem?_eq_some_iff.1 ho).1
      have := hall i hlt
      have hls : i < listed.size := by rw [h.lsz]; exact hlt
      simp [Array.getD, hls] at h0 this
      rw [h0] at this; cases this
  | succ fuel ih =>
    intro listed suffix done loud pend T H d ρ a w h hu
    refine ⟨fun hr => hend h fun i hi => hready h.lsz hr i i (Nat.le_refl _) hi, ?_⟩
    intro i hir
    obtain ⟨h0, o, ho', hdr⟩ := mem_ready.1 hir
    have ho : ops.toList[i]? = some o := by simpa using ho'
    have hlt := (Array.getElem?_eq_some_iff.1 ho').1
    have hls : i < listed.size := by rw [h.lsz]; exact hlt
    have hl : listed.getD i false = false := by simp [Array.getD, hls] at h0 ⊢; exact h0
    have hdeps : ∀ e ∈ o.after.toList, binding e = true → listed.getD e.on false = true := fun e he hb => hdr e (by simpa using he) (by rw [← binding_eq]; exact hb)
    have hu' : unlisted ops.size (listed.setIfInBounds i true) ≤ fuel := by
      have : unlisted ops.size (listed.setIfInBounds i true) < unlisted ops.size listed := by
        refine countP_lt (fun j _ hj => ?_) ⟨i, List.mem_range.2 hlt, by simp [hl], by rw [getD_set listed hls]; simp⟩
        rw [getD_set listed hls] at hj
        simp at hj ⊢
        exact hj.2
      omega
    unfold wpOp
    rw [ho']
    simp only
    -- our order has taken it
    have caseA : ∀ {suffix : List Nat} {done loud : Nat} {pend : List Nat} {T : Nat → AV} {H : HP} {ρ : Ren}, INV P call fc nt base ops A K T0 H0 d0 ρ0 w0 listed suffix done loud pend T H d ρ a w → done.testBit i = true →
        if Region.wanted o (yielded ops a.tmps) = true then o.wp P a w (wpAny P .any ops Q fuel (listed.setIfInBounds i true)) Q ∨ o.asks P a w ∧ LetsOut Q else wpAny P .any ops Q fuel (listed.setIfInBounds i true) (a.put o.dst undef) w := by
      intro suffix done loud pend T H ρ h hd
      obtain ⟨v, hqy, hT⟩ := h.qy i o ho hd hl
      have hanc : ∀ j, (maskOf A i).testBit j = true → done.testBit j = true := fun j hj => hp.closed (S := fun i => done.testBit i) h.dc i i o (Nat.le_refl _) ho (h.dc i o ho hd) j hj
      have hlk := h.looks hp ho hl hdeps hanc
      rcases hqy ρ a hlk with ⟨hw, hrun⟩ | ⟨hw, hv⟩
      · rw [if_pos hw]
        left
        obtain ⟨u, hr, hv⟩ := hrun w h.hr
        unfold Oper.wp
        rw [hr]
        exact ih (h.come hp ho hl hd hdeps (hdk i o ho) hv hT) hu'
      · rw [if_neg (by rw [hw]; simp)]
        subst hv
        exact ih (h.come hp ho hl hd hdeps (hdk i o ho) (undef_VR ρ) hT) hu'
    cases hd : done.testBit i with
    | true => exact caseA h hd
    | false =>
      rcases kindD_cases P o with ⟨hkd, hk2⟩ | ⟨hk3, el, x, z, e1, e3, e2, e4⟩
      · have hk3 : kindD P o ≠ 3 := by omega
        obtain ⟨r, done', loud', pend', T', H', ρ', h'⟩ := h.advance hp ho hk3 suffix hl hdeps hd
        have f := h'.facts hp ho
        cases hqi : quietO P o with
        | true =>
          obtain ⟨pend'', T'', h''⟩ := h'.quiet hp ho hqi hl
          exact caseA h'' (by rw [done_bit]; simp)
        | false =>
          have hkA : kindA P o.op = 2 := by
            have : ¬ (kindD P o = 0 ∨ kindD P o = 1) := fun e => by rw [quiet_iff.2 e] at hqi; cases hqi
            omega
          have hlk : ∀ t ∈ o.looksAt ops, VR ρ' (T' t) (a.tmps.getD t undef) := fun t ht => by
            rw [← h'.vq_eq hp ho f t ht]
            exact h'.looks hp ho hl hdeps f.anc t ht
          have hanl : ∀ j, (maskOf A i).testBit j = true → listed.getD j false = true := fun j hj =>
            hp.closed (S := fun i => listed.getD i false) h'.i3 i i o (Nat.le_refl _) ho hdeps j hj
          have hw := wanted_eq2 hlk
          have hrun := f.run
          cases hwa : wantedA ops.toList T' o with
          | false =>
            rw [hwa] at hw hrun
            rw [if_neg (by rw [← hw]; simp)]
            refine ih (h'.loudly hp ho hl f hdeps hqi (d' := false) (undef_VR ρ') (.refl h'.hr) .refl hrun ?_) hu'
            intro q p hq hdq hlq
            have hne : q ≠ i := fun e => by subst e; rw [f.nd] at hdq; cases hdq
            obtain ⟨u, h1, h2⟩ := h'.qy q p hq hdq hlq
            exact ⟨u, by rw [f.vq _ q p hq hdq]; exact h1, fun y hy => by rw [f.to _ y fun hot => hne (f.uniq q p y hq hy hot)]; exact h2 y hy⟩
          | true =>
            rw [hwa] at hw hrun
            rw [if_pos hw.symm]
            left
            simp only [cond_true, hkA, fzV_eq] at hrun
            have fin : ∀ {v : AV} {H'' : HP} {d' : Bool} {u : Value} {ρ'' : Ren} {w' : World}, stabs P fc ops.toList (maskOf A i) (putO T' o.dst v) H'' pend' (runP P call fc nt base ops.toList A r pend' (putO T' o.dst v) H'' (cond d' true d) K) →
                VR ρ'' v u → Step P ρ' H' w ρ'' H'' w' → CL base H' d' H'' → wpAny P .any ops Q fuel (listed.setIfInBounds i true) (a.put o.dst u) w' := by
              intro v H'' d' u ρ'' w' hK hv hst hcl
              obtain ⟨hr, hs⟩ := stabs_spec pend' hK
              exact ih (h'.loudly hp ho hl f hdeps hqi hv hst hcl hr (h'.again hp ho f hs hanl)) hu'
            unfold Oper.wp
            rcases loud_sound hcall hng hrun (looks_ev (ops := ops) hlk) h'.hr h'.bn with ⟨v, H'', d', u, ρ'', w', hK, hr, hv, hst, hcl⟩ | ⟨g, us, hr, hC⟩
            · rcases hr with hr | ⟨hr, rfl⟩
              · rw [hr]; exact fin hK hv hst hcl
              · rw [hr]; exact fin hK hv hst hcl
            · rw [hr]
              refine hC.mono ?_
              rintro en w' ⟨v, H'', d', u, ρ'', rfl, hK, hv, hst, hcl⟩
              exact fin hK hv hst hcl
      · obtain ⟨zv, hz1, hz2⟩ := zeroOf_sound e4
        have hw : Region.wanted o (yielded ops a.tmps) = true := by unfold Region.wanted; rw [e2]
        rw [if_pos hw]
        left
        have hx := hdk i o ho
        rw [e3] at hx
        have hxl : x < nt := Nat.lt_of_succ_le (ble_iff.1 hx)
        have hrun : (execOp a.eval o).run P w = .ok (.value (.pointer (some ⟨w.heap.size, 0, none⟩))) (w.alloc (.cells zv.cells el (0, 0))) := by
          unfold execOp
          rw [e1]
          simp [Instr.alloc, hz1, newVar, newRow]
        unfold Oper.wp
        rw [hrun]
        exact ih (h.early hp ho hl hd hdeps e1 e2 e3 e4 hz2 hk3 hxl) hu'
end

theorem draw_sound {P : Program} {call : Call} (hcall : CallOk P call) (hng : NoNumG P) {fc : Bool} {nt base : Nat} {ops : Array Oper} {Q : Exit → Act → World → Prop} {K : (Nat → AV) → HP → Bool → Prop}
    {T : Nat → AV} {H : HP} {d : Bool} {ρ : Ren} {a : Act} {w : World} (h : drawA P call fc nt base ops.toList T H d K) (hs : SR P nt ρ T H a w) (hb : base ≤ H.n)
    (hq : ∀ T' H' d' ρ' a' w', K T' H' d' → SR P nt ρ' T' H' a' w' → Step P ρ H w ρ' H' w' → (∀ H0, CL base H0 d H → CL base H0 d' H') → Q .normal a' w') :
    wpAny P .any ops Q ops.size (Array.replicate ops.size false) a w := by
  unfold drawA at h
  have hok := (need_iff.1 h).1
  have hdk := (need_iff.1 (need_iff.1 h).2).1
  replace h := (need_iff.1 (need_iff.1 h).2).2
  rw [allR_eq] at hdk
  unfold okPlan at hok
  simp only [Bool.and_eq_true] at hok
  obtain ⟨⟨hok1, hok2⟩, hok3⟩ := hok
  have hp : Plan P ops (ancs ops.toList []) := by
    refine ⟨fun i o ho k hk => ?_, fun i j o p ho hp' hne => ?_, fun i o ho e he hb => ?_, fun i o ho hk x hx => ?_⟩
    · have := (okAnc_spec ops.toList 0 hok1 i o ho).2 k (by simpa using hk)
      simpa using this
    · have h1 := okPairs_spec ops.toList 0 hok2 i o ho
      have := (okPair_spec ops.toList 0 h1 j p hp').1 (by omega)
      rw [looksO_eq] at this
      simpa using this
    · have := (okAnc_spec ops.toList 0 hok1 i o ho).1 e he hb
      simpa using this
    · have h1 := okPairs_spec ops.toList 0 hok2 i o ho
      have := (okPair_spec ops.toList 0 h1 i o ho).2 (by omega) hk x hx
      rwa [looksO_eq] at this
  have hl0 : ∀ i, (Array.replicate ops.size false).getD i false = false := by
    intro i
    simp [Array.getD_eq_getD_getElem?, Array.getElem?_replicate]
    split <;> rfl
  refine INV.any hcall hng hp (fun i o ho => List.all_eq_true.1 hdk o (List.mem_of_getElem? ho)) hq ops.size (T0 := T) (done := 0) (loud := 0) (pend := []) (ρ := ρ)
    ⟨by simp, h, hok3, ?_, ?_, ?_, ?_, ?_, ?_, ?_, ?_, ?_, ?_, ?_, ?_, hs.heap, .refl hs.heap, fun _ h => h, hs.defers, hs.size, hb⟩ ?_
  · intro i o _ h; simp at h
  · intro i o _ h; simp at h
  · intro i o _ h; rw [hl0] at h; cases h
  · intro i o _ h; simp at h
  · intro i o _ h; rw [hl0] at h; cases h
  · intro t _; exact hs.tmps t
  · intro i o t _ _ h; simp at h
  · intro t _; rfl
  · intro q o _ h; simp at h
  · intro q o _ h; simp at h
  · intro i o _ h; rw [hl0] at h; cases h
  · intro i j o p x y _ _ _ h; rw [hl0] at h; cases h
  · unfold unlisted
    exact Nat.le_trans List.countP_le_length (by simp)
end Go.X
