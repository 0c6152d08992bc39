import Derived.Test.YtekjeadgknmokaaX12a
/- Regions whose order is open: any order comes to what ours comes to. -/
set_option linter.unusedVariables false
set_option linter.unusedSimpArgs false
namespace Go.X
open Go

theorem HR.adopt {P : Program} {ρ : Ren} {H : HP} {w : World} (h : HR P ρ H w) (e te : TypeId) (cells : List AV) (row : Array Value) (g : Nat)
    (hc : VRL ρ cells row.toList) (hg : w.heap[g]? = some (.cells row te (0, 0))) (hi : ∀ i r, ρ i = some r → r.g ≠ g) :
    ∃ ρ', ρ' H.n = some ⟨g, 0, 0⟩ ∧ (∀ i, i ≠ H.n → ρ' i = ρ i) ∧ (∀ i r, ρ i = some r → ρ' i = some r) ∧ HR P ρ' (H.push (.row .own e cells)) w := by
  let ρ' : Ren := fun i => if i = H.n then some ⟨g, 0, 0⟩ else ρ i
  have hn : ρ H.n = none := by
    cases hh : ρ H.n with
    | none => rfl
    | some r => exact absurd (h.dom _ _ hh) (Nat.lt_irrefl _)
  have hx : ∀ i r, ρ i = some r → ρ' i = some r := fun i r hi => by
    have : i ≠ H.n := fun e => by rw [e, hn] at hi; cases hi
    simp [ρ', this, hi]
  have hget := HP.get_push h.len (.row .own e cells)
  have hlt : g < w.heap.size := (Array.getElem?_eq_some_iff.1 hg).1
  refine ⟨ρ', by simp [ρ'], fun i hi => by simp [ρ', hi], hx, ⟨by simp [HP.push, h.len], ?_, ?_, ?_, ?_⟩⟩
  · intro i r hi
    by_cases hin : i = H.n
    · subst hin; exact Nat.lt_succ_self _
    · have : ρ i = some r := by simpa [ρ', hin] using hi
      exact Nat.lt_succ_of_lt (h.dom _ _ this)
  · intro i b hb
    rw [hget] at hb
    by_cases hin : i = H.n
    · rw [if_pos hin] at hb
      cases hb
      subst hin
      refine ⟨⟨g, 0, 0⟩, row, te, (0, 0), by simp [ρ'], hg, fun k c hk => ?_, fun _ o _ => by simp, fun hm => by cases hm⟩
      obtain ⟨u, hu, hv⟩ := hc.get hk
      exact ⟨u, by simpa using hu, hv.mono hx⟩
    · rw [if_neg hin] at hb
      exact (h.blk i b hb).mono hx fun r hr m' e' c' he => rfl
  · intro i j mi ei ci mj ej cj ri rj hne hi' hj hm hri hrj
    rw [hget] at hi' hj
    by_cases hin : i = H.n
    · have hjn : j ≠ H.n := fun e => hne (hin.trans e.symm)
      rw [if_neg hjn] at hj
      have hrj' : ρ j = some rj := by simpa [ρ', hjn] using hrj
      have : ri = ⟨g, 0, 0⟩ := by simpa [ρ', hin] using hri.symm
      subst this
      exact (hi j rj hrj').symm
    · rw [if_neg hin] at hi'
      have hri' : ρ i = some ri := by simpa [ρ', hin] using hri
      by_cases hjn : j = H.n
      · have : rj = ⟨g, 0, 0⟩ := by simpa [ρ', hjn] using hrj.symm
        subst this
        exact hi i ri hri'
      · rw [if_neg hjn] at hj
        exact h.sep i j _ _ _ _ _ _ _ _ hne hi' hj hm hri' (by simpa [ρ', hjn] using hrj)
  · intro i r hi'
    by_cases hin : i = H.n
    · have : r = ⟨g, 0, 0⟩ := by simpa [ρ', hin] using hi'.symm
      subst this
      exact hlt
    · exact h.rng i r (by simpa [ρ', hin] using hi')

theorem HR.grow {P : Program} {ρ : Ren} {H : HP} {w : World} (h : HR P ρ H w) (o : Obj) : HR P ρ H (w.alloc o) := by
  have hold : ∀ g, g < w.heap.size → (w.alloc o).heap[g]? = w.heap[g]? := fun g hg => by
    show (w.heap.push _)[g]? = _
    rw [Array.getElem?_push, if_neg (by omega)]
  refine ⟨h.len, h.dom, fun i b hb => (h.blk i b hb).mono (fun _ _ h => h) fun r hr m' e' c' he => hold _ (h.rng i r hr), h.sep, fun i r hi => ?_⟩
  have := h.rng i r hi
  simp; omega
theorem Step.grow {P : Program} {ρ : Ren} {H : HP} {w : World} (h : HR P ρ H w) (o : Obj) : Step P ρ H w ρ H (w.alloc o) :=
  ⟨fun _ _ h => h, Nat.le_refl _, h.grow o, ⟨rfl, rfl, rfl, by simp, fun k hk _ => by show (w.heap.push _)[k]? = _; rw [Array.getElem?_push, if_neg (by omega)]⟩, fun g hg => .inl hg, fun i r hi => .inl ⟨i, r, hi, rfl⟩⟩

section
variable (P : Program) (call : Call) (fc : Bool) (nt base : Nat) (ops : Array Oper) (A : List Nat) (K : (Nat → AV) → HP → Bool → Prop)

open Classical in
/-- The temporaries as they are when an operation comes up. -/
noncomputable def VQ (T0 T : Nat → AV) (q : Nat) : Nat → AV := fun t => if ∃ j p, ops.toList[j]? = some p ∧ p.dst = some t ∧ (maskOf A q).testBit j = true then T t else T0 t

/-- What holds while a region's operations come up in whatever order: 'listed': those that have; 'done': those that our order has taken. -/
structure INV (T0 : Nat → AV) (H0 : HP) (d0 : Bool) (ρ0 : Ren) (w0 : World) (listed : Array Bool) (suffix : List Nat) (done loud : Nat) (pend : List Nat) (T : Nat → AV) (H : HP) (d : Bool) (ρ : Ren) (a : Act) (w : World) : Prop where
  lsz : listed.size = ops.size
  run : runP P call fc nt base ops.toList A suffix pend T H d K
  ord : okOrder P ops.toList A suffix done loud = true
  ldm : ∀ (i : Nat) (o : Oper), ops.toList[i]? = some o → done.testBit i = true → quietO P o = false → loud.testBit i = true
  dc : ∀ (i : Nat) (o : Oper), ops.toList[i]? = some o → done.testBit i = true → ∀ e ∈ o.after.toList, binding e = true → done.testBit e.on = true
  i1 : ∀ (i : Nat) (o : Oper), ops.toList[i]? = some o → listed.getD i false = true → done.testBit i = true ∨ kindD P o = 3
  i2 : ∀ (i : Nat) (o : Oper), ops.toList[i]? = some o → done.testBit i = true → listed.getD i false = false → quietO P o = true
  i3 : ∀ (i : Nat) (o : Oper), ops.toList[i]? = some o → listed.getD i false = true → ∀ e ∈ o.after.toList, binding e = true → listed.getD e.on false = true
  t1 : ∀ t, (∀ (i : Nat) (o : Oper), ops.toList[i]? = some o → o.dst = some t → listed.getD i false = done.testBit i) → VR ρ (T t) (a.tmps.getD t undef)
  t2 : ∀ (i : Nat) (o : Oper) t, ops.toList[i]? = some o → o.dst = some t → done.testBit i = true → listed.getD i false = false → VR ρ (T0 t) (a.tmps.getD t undef)
  t3 : ∀ t, (∀ (i : Nat) (o : Oper), ops.toList[i]? = some o → o.dst = some t → done.testBit i = false) → T t = T0 t
  qy : ∀ (q : Nat) (o : Oper), ops.toList[q]? = some o → done.testBit q = true → listed.getD q false = false → ∃ v, QY P ops o (VQ ops A T0 T q) H v ∧ ∀ x, o.dst = some x → T x = v
  pd : ∀ (q : Nat) (o : Oper), ops.toList[q]? = some o → done.testBit q = true → listed.getD q false = false → (∃ v, (∀ H', QY P ops o (VQ ops A T0 T q) H' v) ∧ ∀ x, o.dst = some x → T x = v) ∨ (q ∈ pend ∧ kindD P o = 1 ∧ wantedA ops.toList T o = true)
  al : ∀ (i : Nat) (o : Oper), ops.toList[i]? = some o → listed.getD i false = true → done.testBit i = false → ∃ el x z zv g, o.op = .alloc el ∧ o.guard = none ∧ o.dst = some x ∧ zeroOf P el = some z ∧ (∀ σ, VR σ z zv) ∧
    w.heap[g]? = some (.cells zv.cells el (0, 0)) ∧ (∀ j r, ρ j = some r → r.g ≠ g) ∧ w0.heap.size ≤ g ∧ a.tmps.getD x undef = .pointer (some ⟨g, 0, none⟩)
  ald : ∀ (i j : Nat) (o p : Oper) x y, ops.toList[i]? = some o → ops.toList[j]? = some p → i ≠ j → listed.getD i false = true → done.testBit i = false → listed.getD j false = true → done.testBit j = false → o.dst = some x → p.dst = some y → a.tmps.getD x undef ≠ a.tmps.getD y undef
  hr : HR P ρ H w
  st : Step P ρ0 H0 w0 ρ H w
  cl : ∀ HH, CL base HH d0 H0 → CL base HH d H
  df : a.defers = []
  sz : a.tmps.size = nt
  bn : base ≤ H.n
end

section
variable {P : Program} {call : Call} {fc : Bool} {nt base : Nat} {ops : Array Oper} {A : List Nat} {K : (Nat → AV) → HP → Bool → Prop}

/-- What a plan's check gives. -/
structure Plan (P : Program) (ops : Array Oper) (A : List Nat) : Prop where
  anc : ∀ (i : Nat) (o : Oper), ops.toList[i]? = some o → ∀ k, (maskOf A i).testBit k = true → k < i ∧ ∃ e ∈ o.after.toList, binding e = true ∧ e.on < i ∧ (e.on = k ∨ (maskOf A e.on).testBit k = true)
  pair : ∀ (i j : Nat) (o p : Oper), ops.toList[i]? = some o → ops.toList[j]? = some p → i ≠ j → (∀ x, p.dst = some x → x ∈ o.looksAt ops → (maskOf A i).testBit j = true ∨ ((maskOf A j).testBit i = true ∧ kindD P o ≠ 1)) ∧ (∀ x, o.dst = some x → p.dst ≠ some x)
  lt : ∀ (i : Nat) (o : Oper), ops.toList[i]? = some o → ∀ e ∈ o.after.toList, binding e = true → e.on < i
  own : ∀ (i : Nat) (o : Oper), ops.toList[i]? = some o → kindD P o = 1 → ∀ x, o.dst = some x → x ∉ o.looksAt ops

theorem Plan.closed (hp : Plan P ops A) {S : Nat → Bool} (hS : ∀ (i : Nat) (o : Oper), ops.toList[i]? = some o → S i = true → ∀ e ∈ o.after.toList, binding e = true → S e.on = true) :
    ∀ (n i : Nat) (o : Oper), i ≤ n → ops.toList[i]? = some o → (∀ e ∈ o.after.toList, binding e = true → S e.on = true) → ∀ k, (maskOf A i).testBit k = true → S k = true
  | n, i, o, hin, ho, hd, k, hk => by
    obtain ⟨hki, e, he, hb, hlt, hor⟩ := hp.anc i o ho k hk
    have hse := hd e he hb
    rcases hor with rfl | hor
    · exact hse
    · cases n with
      | zero => omega
      | succ n =>
        have hil : i < ops.toList.length := (List.getElem?_eq_some_iff.1 ho).1
        obtain ⟨p, hp'⟩ : ∃ p, ops.toList[e.on]? = some p := ⟨_, List.getElem?_eq_getElem (by omega)⟩
        exact hp.closed hS n e.on p (by omega) hp' (hS e.on p hp' hse) k hor

theorem kindD_cases (P : Program) (o : Oper) : (kindD P o = kindA P o.op ∧ kindA P o.op ≤ 2) ∨ (kindD P o = 3 ∧ ∃ el x z, o.op = .alloc el ∧ o.dst = some x ∧ o.guard = none ∧ zeroOf P el = some z) := by
  have h2 : kindA P o.op ≤ 2 := by
    unfold kindA
    split <;> try omega
    · split <;> omega
    · split <;> omega
  unfold kindD
  split
  · rename_i el hop
    split
    · rename_i x z hd hg hz
      exact .inr ⟨rfl, el, x, z, hop, hd, hg, hz⟩
    · left
      exact ⟨by rw [hop]; rfl, h2⟩
  · exact .inl ⟨rfl, h2⟩

theorem quiet_iff {o : Oper} : quietO P o = true ↔ kindD P o = 0 ∨ kindD P o = 1 := by
  unfold quietO
  rw [ble_iff]
  omega

/-- Our order takes a quiet operation that has not come up. -/
theorem INV.quiet (hp : Plan P ops A) {T0 : Nat → AV} {H0 : HP} {d0 : Bool} {ρ0 : Ren} {w0 : World} {listed : Array Bool} {k : Nat} {r : List Nat} {done loud : Nat} {pend : List Nat} {T : Nat → AV} {H : HP} {d : Bool} {ρ : Ren} {a : Act} {w : World}
    (h : INV P call fc nt base ops A K T0 H0 d0 ρ0 w0 listed (k :: r) done loud pend T H d ρ a w) {o : Oper} (ho : ops.toList[k]? = some o) (hq : quietO P o = true) (hl : listed.getD k false = false) :
    ∃ pend' T', INV P call fc nt base ops A K T0 H0 d0 ρ0 w0 listed r (done ||| 2 ^ k) loud pend' T' H d ρ a w := by
  have hord := h.ord
  unfold okOrder at hord
  rw [nth_eq, ho] at hord
  simp only at hord
  generalize hc : (!(done.testBit k) && depsIn done o.after.toList && (Nat.beq (kindD P o) 3 || Nat.beq (loud &&& maskOf A k) loud)) = c at hord
  cases c with
  | false => cases hord
  | true =>
    simp only [cond_true, hq] at hord
    simp only [Bool.and_eq_true, Bool.not_eq_true'] at hc
    obtain ⟨⟨hnd, hdeps⟩, _⟩ := hc
    have hdeps' := depsIn_iff.1 hdeps
    have hrun := h.run
    unfold runP at hrun
    rw [nth_eq, ho] at hrun
    simp only at hrun
    have hdst := (need_iff.1 hrun).1
    replace hrun := (need_iff.1 hrun).2
    have htb : ∀ j, (done ||| 2 ^ k).testBit j = (done.testBit j || decide (k = j)) := fun j => by rw [Nat.testBit_or, Nat.testBit_two_pow]
    -- ancestors have been taken
    have hanc : ∀ j, (maskOf A k).testBit j = true → done.testBit j = true := fun j hj => hp.closed (S := fun i => done.testBit i) h.dc k k o (Nat.le_refl _) ho hdeps' j hj
    have hancq : ∀ (q : Nat) (p : Oper), ops.toList[q]? = some p → done.testBit q = true → ∀ j, (maskOf A q).testBit j = true → done.testBit j = true := fun q p hq' hdq j hj =>
      hp.closed (S := fun i => done.testBit i) h.dc q q p (Nat.le_refl _) hq' (h.dc q p hq' hdq) j hj
    have hself : (maskOf A k).testBit k = false := by
      cases hh : (maskOf A k).testBit k with
      | false => rfl
      | true => have := hanc k hh; rw [hnd] at this; cases this
    -- the new temporaries
    have fin : ∀ (v : AV) (pend' : List Nat), runP P call fc nt base ops.toList A r pend' (putO T o.dst v) H d K → (∀ q ∈ pend, q ∈ pend') →
        ((∀ H', QY P ops o (VQ ops A T0 (putO T o.dst v) k) H' v) ∨ (QY P ops o (VQ ops A T0 (putO T o.dst v) k) H v ∧ k ∈ pend' ∧ kindD P o = 1 ∧ wantedA ops.toList (putO T o.dst v) o = true)) →
        ∃ pend' T', INV P call fc nt base ops A K T0 H0 d0 ρ0 w0 listed r (done ||| 2 ^ k) loud pend' T' H d ρ a w := by
      intro v pend' hr hpd hqy
      have hTo : ∀ t, o.dst ≠ some t → putO T o.dst v t = T t := by
        intro t ht
        cases hd : o.dst with
        | none => rfl
        | some x =>
          have hne : ¬ t = x := fun e => ht (by rw [hd, e])
          show upd T x v t = T t
          unfold upd
          have : Nat.beq t x = false := by
            cases hq : Nat.beq t x with
            | false => rfl
            | true => exact absurd (beq_iff.1 hq) hne
          rw [this]
      have hTs : ∀ x, o.dst = some x → putO T o.dst v x = v := by
        intro x hx
        rw [hx]
        show upd T x v x = v
        unfold upd
        rw [beq_iff.2 rfl]
      have huniq : ∀ (i : Nat) (p : Oper) t, ops.toList[i]? = some p → p.dst = some t → o.dst = some t → i = k := by
        intro i p t hi hpt hot
        rcases Nat.decEq i k with hne | he
        · exact absurd hot ((hp.pair i k p o hi ho hne).2 t hpt)
        · exact he
      have hVQ : ∀ (q : Nat) (p : Oper), ops.toList[q]? = some p → done.testBit q = true → VQ ops A T0 (putO T o.dst v) q = VQ ops A T0 T q := by
        intro q p hq' hdq
        funext t
        unfold VQ
        split
        · rename_i hex
          obtain ⟨j, p', hj, hpj, hm⟩ := hex
          refine hTo t fun hot => ?_
          have := huniq j p' t hj hpj hot
          subst this
          have := hancq q p hq' hdq j hm
          rw [hnd] at this; cases this
        · rfl
      refine ⟨pend', putO T o.dst v, ⟨h.lsz, hr, hord, ?_, ?_, ?_, ?_, h.i3, ?_, ?_, ?_, ?_, ?_, ?_, ?_, h.hr, h.st, h.cl, h.df, h.sz, h.bn⟩⟩
      · intro i p hi hdi hqi
        rw [htb] at hdi
        replace hdi := (Bool.or_eq_true _ _).mp hdi
        rcases hdi with hdi | hdi
        · exact h.ldm i p hi hdi hqi
        · have := of_decide_eq_true hdi
          subst this
          rw [ho] at hi; cases hi
          rw [hq] at hqi; cases hqi
      · intro i p hi hdi e he hb
        rw [htb] at hdi ⊢
        replace hdi := (Bool.or_eq_true _ _).mp hdi
        rcases hdi with hdi | hdi
        · rw [h.dc i p hi hdi e he hb]; rfl
        · have := of_decide_eq_true hdi
          subst this
          rw [ho] at hi; cases hi
          rw [hdeps' e he hb]; rfl
      · intro i p hi hli
        rw [htb]
        exact (h.i1 i p hi hli).imp (fun h => by rw [h]; rfl) id
      · intro i p hi hdi hli
        rw [htb] at hdi
        replace hdi := (Bool.or_eq_true _ _).mp hdi
        rcases hdi with hdi | hdi
        · exact h.i2 i p hi hdi hli
        · have := of_decide_eq_true hdi
          subst this
          rw [ho] at hi; cases hi
          exact hq
      · intro t ht
        by_cases hot : o.dst = some t
        · have := ht k o ho hot
          rw [hl, htb] at this
          simp at this
        · rw [hTo t hot]
          refine h.t1 t fun i p hi hpt => ?_
          have := ht i p hi hpt
          rw [htb] at this
          have hik : ¬ k = i := fun e => by subst e; rw [ho] at hi; cases hi; exact hot hpt
          simpa [hik] using this
      · intro i p t hi hpt hdi hli
        rw [htb] at hdi
        replace hdi := (Bool.or_eq_true _ _).mp hdi
        rcases hdi with hdi | hdi
        · exact h.t2 i p t hi hpt hdi hli
        · have hki := of_decide_eq_true hdi
          subst hki
          rw [ho] at hi; cases hi
          have e1 := h.t3 t fun i p hi hpt' => by rw [huniq i p t hi hpt' hpt]; exact hnd
          rw [← e1]
          exact h.t1 t fun i p hi hpt' => by rw [huniq i p t hi hpt' hpt, hl, hnd]
      · intro t ht
        have hot : o.dst ≠ some t := fun hot => by
          have := ht k o ho hot
          rw [htb] at this
          simp at this
        rw [hTo t hot]
        refine h.t3 t fun i p hi hpt => ?_
        have := ht i p hi hpt
        rw [htb] at this
        simp only [Bool.or_eq_false_iff] at this
        exact this.1
      · intro q p hq' hdq hlq
        rw [htb] at hdq
        replace hdq := (Bool.or_eq_true _ _).mp hdq
        rcases hdq with hdq | hdq
        · obtain ⟨v', h1, h2⟩ := h.qy q p hq' hdq hlq
          refine ⟨v', by rw [hVQ q p hq' hdq]; exact h1, fun x hx => ?_⟩
          rw [hTo x fun hot => ?_]
          · exact h2 x hx
          · have := huniq q p x hq' hx hot
            subst this
            rw [hnd] at hdq; cases hdq
        · have hki := of_decide_eq_true hdq
          subst hki
          rw [ho] at hq'; cases hq'
          refine ⟨v, ?_, hTs⟩
          rcases hqy with hqy | hqy
          · exact hqy H
          · exact hqy.1
      · intro q p hq' hdq hlq
        rw [htb] at hdq
        replace hdq := (Bool.or_eq_true _ _).mp hdq
        rcases hdq with hdq | hdq
        · have hne : q ≠ k := fun e => by subst e; rw [hnd] at hdq; cases hdq
          rcases h.pd q p hq' hdq hlq with ⟨v', h1, h2⟩ | ⟨h1, h2, h3⟩
          · left
            refine ⟨v', by rw [hVQ q p hq' hdq]; exact h1, fun x hx => ?_⟩
            rw [hTo x fun hot => hne (huniq q p x hq' hx hot)]
            exact h2 x hx
          · right
            refine ⟨hpd q h1, h2, ?_⟩
            rw [wanted_congr (T' := T) fun t ht => ?_]
            · exact h3
            · refine hTo t fun hot => ?_
              rcases (hp.pair q k p o hq' ho hne).1 t hot ht with hh | ⟨_, hh⟩
              · have := hancq q p hq' hdq k hh; rw [hnd] at this; cases this
              · exact hh h2
        · have hki := of_decide_eq_true hdq
          subst hki
          rw [ho] at hq'; cases hq'
          rcases hqy with hqy | hqy
          · exact .inl ⟨v, hqy, hTs⟩
          · exact .inr hqy.2
      · intro i p hi hli hdi
        rw [htb] at hdi
        simp only [Bool.or_eq_false_iff] at hdi
        exact h.al i p hi hli hdi.1
      · intro i j p p' x y hi hj hne hli hdi hlj hdj hx hy
        rw [htb] at hdi hdj
        simp only [Bool.or_eq_false_iff] at hdi hdj
        exact h.ald i j p p' x y hi hj hne hli hdi.1 hlj hdj.1 hx hy
    -- what it looks at
    have hV : ∀ v, ∀ t ∈ o.looksAt ops, VQ ops A T0 (putO T o.dst v) k t = T t := by
      intro v t ht
      have hnot : ∀ (j : Nat) (p : Oper), ops.toList[j]? = some p → p.dst = some t → (maskOf A k).testBit j = false → done.testBit j = false := by
        intro j p hj hpt hm
        by_cases hjk : j = k
        · subst hjk; exact hnd
        · rcases (hp.pair k j o p ho hj (Ne.symm hjk)).1 t hpt ht with hh | ⟨hh, _⟩
          · rw [hm] at hh; cases hh
          · cases hdj : done.testBit j with
            | false => rfl
            | true => have := hancq j p hj hdj k hh; rw [hnd] at this; cases this
      unfold VQ
      split
      · rename_i hex
        obtain ⟨j, p, hj, hpj, hm⟩ := hex
        cases hd : o.dst with
        | none => rfl
        | some x =>
          have hne : ¬ t = x := fun e => by
            subst e
            have hjk : j = k := by
              rcases Nat.decEq j k with hne | he
              · exact absurd hd ((hp.pair j k p o hj ho hne).2 t hpj)
              · exact he
            subst hjk
            rw [hself] at hm; cases hm
          show upd T x v t = T t
          unfold upd
          have : Nat.beq t x = false := by
            cases hq : Nat.beq t x with
            | false => rfl
            | true => exact absurd (beq_iff.1 hq) hne
          rw [this]
      · rename_i hex
        symm
        refine h.t3 t fun j p hj hpt => hnot j p hj hpt ?_
        cases hm : (maskOf A k).testBit j with
        | false => rfl
        | true => exact absurd ⟨j, p, hj, hpt, hm⟩ hex
    cases hw : wantedA ops.toList T o with
    | false =>
      rw [hw] at hrun
      exact fin AV.undef pend hrun (fun _ h => h) (.inl fun H' => QY.skip hw (hV AV.undef) H')
    | true =>
      rw [hw] at hrun
      simp only [cond_true] at hrun
      rcases quiet_iff.1 hq with hk | hk
      · have hkA : kindA P o.op = 0 := by
          rcases kindD_cases P o with ⟨e, _⟩ | ⟨e, _⟩
          · rw [← e]; exact hk
          · omega
        rw [hkA] at hrun
        simp only [fzV_eq] at hrun
        obtain ⟨v, hK, _⟩ := pure_sound hrun
        obtain ⟨v, hK, hv⟩ := QY.pure (V := T) hrun hw (fun _ _ => rfl)
        refine fin v pend hK (fun _ h => h) (.inl fun H' => ?_)
        intro σ b hb
        refine hv H' σ b fun t ht => ?_
        rw [← hV v t ht]
        exact hb t ht
      · have hkA : kindA P o.op = 1 := by
          rcases kindD_cases P o with ⟨e, _⟩ | ⟨e, _⟩
          · rw [← e]; exact hk
          · omega
        rw [hkA] at hrun
        simp only [fzV_eq] at hrun
        obtain ⟨v, hK, hv⟩ := QY.read (V := T) hrun hw (fun _ _ => rfl)
        refine fin v (k :: pend) hK (fun _ h => List.mem_cons_of_mem _ h) (.inr ⟨?_, List.mem_cons_self .., hk, ?_⟩)
        · intro σ b hb
          refine hv σ b fun t ht => ?_
          rw [← hV v t ht]
          exact hb t ht
        · rw [wanted_congr (T' := T) fun t ht => ?_]
          · exact hw
          · cases hd : o.dst with
            | none => rfl
            | some x =>
              have hne : ¬ t = x := fun e => by subst e; exact hp.own k o ho hk t hd ht
              show upd T x v t = T t
              unfold upd
              have : Nat.beq t x = false := by
                cases hq : Nat.beq t x with
                | false => rfl
                | true => exact absurd (beq_iff.1 hq) hne
              rw [this]
end
end Go.X
