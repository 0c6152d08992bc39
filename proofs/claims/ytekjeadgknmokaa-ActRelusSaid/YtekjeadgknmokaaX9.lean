import Derived.Test.YtekjeadgknmokaaX8
/- Operations that make memory: appends. -/
set_option linter.unusedVariables false
set_option linter.unusedSimpArgs false
namespace Go.X
open Go

theorem repl_get (n : Nat) (l : List AV) (k : Nat) : (repl n l)[k]? = if k < n * l.length then l[k % l.length]? else none := by
  induction n generalizing k with
  | zero => simp [repl]
  | succ n ih =>
    simp only [repl, appR_eq]
    by_cases hk : k < l.length
    · have h1 : k < (n + 1) * l.length := Nat.lt_of_lt_of_le hk (Nat.le_mul_of_pos_left _ (by omega))
      rw [List.getElem?_append_left hk, if_pos h1, Nat.mod_eq_of_lt hk]
    · rw [List.getElem?_append_right (by omega), ih, Nat.succ_mul]
      have hm : (k - l.length) % l.length = k % l.length := by rw [Nat.mod_eq_sub_mod (by omega : k ≥ l.length)]
      rw [hm]
      by_cases h2 : k - l.length < n * l.length
      · rw [if_pos h2, if_pos (by omega)]
      · rw [if_neg h2, if_neg (by omega)]
theorem repl_length (n : Nat) (l : List AV) : (repl n l).length = n * l.length := by
  induction n with
  | zero => simp [repl]
  | succ n ih => simp [repl, appR_eq, ih, Nat.succ_mul, Nat.add_comm]

/-- A row of nothing but noughts. -/
theorem zeros_VRL {ρ : Ren} {z : AV} {v : Value} (hz : VR ρ z v) (n s : Nat) (hs : z.cells.length = s) (zero : Array Value) (h0 : n * s = 0 ∨ zero = v.cells) :
    VRL ρ (repl n z.cells) ((Array.range (n * s)).map fun i => zero[i % zero.size]!).toList := by
  have hl := hz.cells.1
  refine ⟨by simp [repl_length, hs], fun i a u ha hu => ?_⟩
  rw [repl_get, hs] at ha
  split at ha
  · rename_i hi
    rcases h0 with h0 | h0
    · omega
    · subst h0
      have hsz : v.cells.size = s := by rw [← hs, hl]; simp
      have hu' : some v.cells[i % v.cells.size]! = some u := by
        have : ((Array.range (n * s)).map fun i => v.cells[i % v.cells.size]!).toList[i]? = some v.cells[i % v.cells.size]! := by simp [hi]
        rw [this] at hu; exact hu
      have hp : 0 < s := by
        rcases Nat.eq_zero_or_pos s with h | h
        · subst h; simp at hi
        · exact h
      have hlt : i % v.cells.size < v.cells.size := Nat.mod_lt _ (by omega)
      have e1 : v.cells[i % v.cells.size]! = v.cells[i % v.cells.size] := by simp [hlt]
      rw [e1] at hu'
      cases hu'
      refine hz.cells.2 (i % s) a _ ha ?_
      rw [← hsz]
      simp [hlt]
  · cases ha

theorem VRL.alloc {ρ : Ren} {x : List AV} {xs : Array Value} (h : VRL ρ x xs.toList) : ∀ (k : Nat) (c : AV), x[k]? = some c → ∃ u : Value, xs[k]? = some u ∧ VR ρ c u := by
  intro k c hk
  obtain ⟨u, hu, hv⟩ := h.get hk
  exact ⟨u, by simpa using hu, hv⟩

/-- What is appended or copied. -/
theorem src_sound {P : Program} {ρ : Ren} {H : HP} {w : World} (hH : HR P ρ H w) {size m : Nat} {x : AV} {new : List AV} {v : Value} (hl : lenA x = some m) (hs : srcCells H size m x = some new) (hv : VR ρ x v) :
    (∀ w, (Builtin.lenOf v).run P w = .ok m w) ∧ ∃ us : List Value, VRL ρ new us ∧ ∀ w', w'.heap = w.heap → (Builtin.firstCells size m v).run P w' = .ok us.toArray w' := by
  have hcell : ∀ w' : World, w'.heap = w.heap → ∀ a, w'.cell? a = w.cell? a := fun w' h a => by simp [World.cell?, h]
  have hrd : ∀ (b o n' cap' : Nat) (r : RB), ρ b = some r → (cond (Nat.beq (n' * size) 0) (some []) (rd H b o (n' * size))) = some new →
      ∃ us : List Value, VRL ρ new us ∧ ∀ w', w'.heap = w.heap → (Builtin.firstCells size n' (.slice (some ⟨r.g, r.d + o, none⟩) n' cap')).run P w' = .ok us.toArray w' := by
    intro b o n' cap' r hr h
    cases hq : Nat.beq (n' * size) 0 with
    | true =>
      rw [hq] at h
      cases h
      have h0 := beq_iff.1 hq
      exact ⟨[], .nil, fun w' _ => by simp [Builtin.firstCells, h0, loadCells, loadCellsFrom]⟩
    | false =>
      rw [hq] at h
      obtain ⟨r', us, h1, h2, h3, h4⟩ := rd_cells hH h
      rw [hr] at h1; cases h1
      refine ⟨us, h2, fun w' hw' => ?_⟩
      have hload := run_loadCells_list (P := P) w' ⟨r.g, r.d + o, none⟩ us (fun j v hv => by rw [Addr.add_lit, hcell w' hw']; exact h4 j v hv)
      rw [h3] at hload
      simpa [Builtin.firstCells] using hload
  unfold lenA at hl
  unfold srcCells at hs
  cases hv with
  | sl b o n cap r hr =>
    simp only [Option.some.injEq] at hl; subst hl
    exact ⟨fun w => rfl, hrd b o n cap r hr hs⟩
  | sg b o n z cap r hr h1 h2 =>
    simp only [Option.some.injEq] at hl; subst hl
    exact ⟨fun w => rfl, hrd b o n cap r hr hs⟩
  | sg0 b o z a r hr =>
    simp only [Option.some.injEq] at hl; subst hl
    refine ⟨fun w => rfl, [], ?_, fun w' _ => by simp [Builtin.firstCells, loadCells, loadCellsFrom]⟩
    have h' : some [] = some new := by simpa using hs
    cases h'
    exact .nil
  | nils =>
    simp only [Option.some.injEq] at hl; subst hl
    have h' : some [] = some new := hs
    cases h'
    exact ⟨fun w => rfl, [], .nil, fun w' _ => rfl⟩
  | str s =>
    simp only [Option.some.injEq] at hl; subst hl
    have h' : some (mapR (fun b : UInt8 => AV.int .u8 b.toNat) ((s.extract 0 s.size).data.toList)) = some new := hs
    cases h'
    refine ⟨fun w => rfl, (s.extract 0 s.size).data.toList.map (fun b => .int .u8 b.toNat), ?_, fun w' _ => ?_⟩
    · rw [mapR_eq]
      refine ⟨by simp, fun i a u ha hu => ?_⟩
      simp only [List.getElem?_map, Option.map_eq_some_iff] at ha hu
      obtain ⟨b, hb, rfl⟩ := ha
      obtain ⟨b', hb', rfl⟩ := hu
      rw [hb] at hb'; cases hb'
      exact .int _ _
    · simp only [Builtin.firstCells, Sem.run_pure]
      congr 1
      apply Array.ext'
      simp
  | _ => cases hl

def CArgs (P : Program) (ts : Array TypeId) (t u : TypeId) : Prop := ts[0]? = some t ∧ ts[1]? = some u ∧ ((∃ l, P.underlying u = some (.slice l)) ∨ P.underlying u = some .string)

theorem append_sound {P : Program} {fc : Bool} {base : Nat} {t u : TypeId} {ts : Array TypeId} {s x : AV} {H : HP} {K : AV → HP → Bool → Prop} (h : appendA P fc base t s x H K) (hts : CArgs P ts t u)
    {ρ : Ren} {w : World} (hH : HR P ρ H w) (hb : base ≤ H.n) {vs vx : Value} (hvs : VR ρ s vs) (hvx : VR ρ x vx) (ty : TypeId) :
    ∃ v H' d y ρ' w', K v H' d ∧ (Builtin.append_ ts ty #[vs, vx]).run P w = .ok y w' ∧ VR ρ' v y ∧ Step P ρ H w ρ' H' w' ∧ CL base H d H' := by
  obtain ⟨h0, h1, hud⟩ := hts
  obtain ⟨d, hu, hd⟩ : ∃ d, P.underlying u = some d ∧ ((∃ l, d = .slice l) ∨ d = .string) := by
    rcases hud with ⟨l, hl⟩ | hl
    · exact ⟨_, hl, .inl ⟨l, rfl⟩⟩
    · exact ⟨_, hl, .inr rfl⟩
  unfold appendA at h
  split at h
  · cases h
  · rename_i e size he
    obtain ⟨ht, hs⟩ := elemA_sound he
    split at h
    · cases h
    · rename_i i hi
      have hsz : i.size = size := by simpa [sizeOfA, hi] using hs
      split at h
      · cases h
      · rename_i m hm
        split at h
        · cases h
        · rename_i new hnew
          obtain ⟨hlen, us, hus, hfc⟩ := src_sound hH hm hnew hvx
          -- the way that makes a new row
          have grow : ∀ (old : List AV) (olds : List Value) (bs : Option Addr) (len cap : Nat) (H1 : HP),
              growA P fc e size m H.n i.bytes new K old len H1 →
              VRL ρ old olds → old.length = len * size → ¬ len + m ≤ cap → (∀ w', w'.heap = w.heap → (Builtin.firstCells size len (.slice bs len cap)).run P w' = .ok olds.toArray w') →
              H1.n = H.n → Step P ρ H w ρ H1 w.drew → CL base H false H1 → new.length = m * size →
              ∃ v H' d y ρ' w', K v H' d ∧ (Builtin.append_ ts ty #[.slice bs len cap, vx]).run P w = .ok y w' ∧ VR ρ' v y ∧ Step P ρ H w ρ' H' w' ∧ CL base H d H' := by
            intro old olds bs len cap H1 hK hold hol hgt hfo hn1 hst hcl hnl
            unfold growA at hK
            have hby := ble_iff.1 (need_iff.1 hK).1
            replace hK := (need_iff.1 hK).2
            have hb1 := ble_iff.1 (need_iff.1 hK).1
            replace hK := (need_iff.1 hK).2
            split at hK
            · rename_i z hz
              have hzl := beq_iff.1 (need_iff.1 hK).1
              replace hK := (need_iff.1 hK).2
              rw [lenR_eq] at hzl
              rw [fzSp_eq, appR_eq] at hK
              have hzz : ∃ v, i.zero = some v ∧ ofVal v = some z := by
                unfold zeroOf at hz
                rw [hi] at hz
                simp only at hz
                split at hz
                · rename_i v hv; exact ⟨v, hv, hz⟩
                · cases hz
              obtain ⟨zv, hzv, hzo⟩ := hzz
              have hzr : VR ρ z zv := ofVal_VR ρ hzo
              have hzs : zv.cells.size = size := by rw [← hzl, hzr.cells.1]; simp
              obtain ⟨c', hc', hrun⟩ := run_append_new (ty := ty) (sCap := cap) h0 h1 ht hu hd hi hsz hlen bs hgt hby hb1 zv hzv w olds.toArray hfo hfc
              have hrow : VRL ρ (old ++ new) ((olds ++ us)) := hold.append hus
              obtain ⟨ρ', hρ', hstep⟩ := hst.hr.alloc .grown e e (old ++ new) (olds.toArray ++ us.toArray ++ Builtin.zeroCells zv.cells (c' - (len + m))) (c' * size) (0, 0)
                (fun k c hk => by
                  obtain ⟨u, hu, hv⟩ := hrow.get hk
                  refine ⟨u, ?_, hv⟩
                  have hlt := (List.getElem?_eq_some_iff.1 hu).1
                  simp at hlt
                  have : (olds ++ us).toArray[k]? = some u := by simpa using hu
                  rw [Array.getElem?_append_left (by simpa using hlt)]
                  simpa using this)
                (fun o _ => by simp)
                (fun _ => by
                  have e1 : (Builtin.zeroCells zv.cells (c' - (len + m))).size = (c' - (len + m)) * size := by simp [Builtin.zeroCells, hzs]
                  have e2 : c' * size = (len + m) * size + (c' - (len + m)) * size := by rw [← Nat.add_mul]; congr 1; omega
                  have e3 := hold.1
                  have e4 := hus.1
                  have e5 : (len + m) * size = len * size + m * size := Nat.add_mul _ _ _
                  exact ⟨by simp [e1]; omega, by simp; omega⟩)
              refine ⟨_, _, _, _, ρ', _, hK, hrun, ?_, hst.trans hstep, ?_⟩
              · rw [← hn1]
                have := VR.sg (ρ := ρ') H1.n 0 (len + m) size c' ⟨w.drew.heap.size, 0, c' * size⟩ hρ' (by simp) hc'
                simpa using this
              · have := hcl.trans (CL.push (base := base) hst.hr.len (by omega) (.row .grown e (old ++ new)))
                simpa using this
            · cases hK
          have hone : new.all AV.one = true := by rw [← allR_eq]; exact (need_iff.1 (need_iff.1 h).2).1
          have hnl : new.length = m * size := by rw [← lenR_eq]; exact beq_iff.1 (need_iff.1 h).1
          replace h := (need_iff.1 (need_iff.1 h).2).2
          split at h
          · -- nil
            cases hvs
            cases hq : Nat.beq m 0 with
            | true =>
              rw [hq] at h
              have := beq_iff.1 hq
              subst this
              exact ⟨_, _, _, _, ρ, w, h, run_append_nil0 (ty := ty) h0 h1 ht hu hd hs hlen w (hfc w rfl), .nils, .refl hH, .refl⟩
            | false =>
              rw [hq] at h
              have hm0 : ¬ m = 0 := fun e => by rw [e] at hq; cases hq
              exact grow [] [] none 0 0 H h .nil (by simp) (by omega) (fun w' _ => rfl) rfl (Step.drew (.refl hH)) .refl hnl
          · -- an exact slice
            rename_i b o len cap
            cases hvs with
            | sl b o len cap r hr =>
              cases hq : Nat.beq m 0 with
              | true =>
                rw [hq] at h
                have := beq_iff.1 hq
                subst this
                have hle := ble_iff.1 (need_iff.1 h).1
                replace h := (need_iff.1 h).2
                have hemp : us = [] := by have := hus.1; rw [hnl] at this; simp at this; exact List.length_eq_zero_iff.1 this.symm
                subst hemp
                exact ⟨_, _, _, _, ρ, w, h, run_append_in (ty := ty) h0 h1 ht hu hd hs hlen w (hfc w rfl) _ (by omega) w (by rfl), .sl _ _ _ _ r hr, .refl hH, .refl⟩
              | false =>
                rw [hq] at h
                simp only [cond_false] at h
                split at h
                · rename_i old hold
                  cases hc : Nat.ble (len + m) cap with
                  | true =>
                    rw [hc] at h
                    simp only [cond_true] at h
                    obtain ⟨H', hK, hn', hcl, hw⟩ := wr_sound (P := P) h
                    obtain ⟨r', w', hr', hst, hstep⟩ := hw ρ w us hH hus
                    rw [hr] at hr'; cases hr'
                    refine ⟨_, _, _, _, ρ, w', hK, run_append_in (ty := ty) h0 h1 ht hu hd hs hlen w (hfc w rfl) _ (ble_iff.1 hc) w' ?_, .sl _ _ _ _ r hr, hstep, hcl base hb hH.len⟩
                    rw [Addr.add_lit, Nat.add_assoc]
                    exact hst
                  | false =>
                    rw [hc] at h
                    obtain ⟨r', olds, h2, h3, h4, h5⟩ := rd_cells hH hold
                    rw [hr] at h2; cases h2
                    refine grow old olds (some ⟨r.g, r.d + o, none⟩) len cap H h h3 (by rw [h3.1, h4]) (fun e => by rw [ble_iff.2 e] at hc; cases hc) (fun w' hw' => ?_) rfl (Step.drew (.refl hH)) .refl hnl
                    have hload := run_loadCells_list (P := P) w' ⟨r.g, r.d + o, none⟩ olds (fun j v hv => by
                      rw [Addr.add_lit]
                      have : w'.cell? ⟨r.g, r.d + o + j, none⟩ = w.cell? ⟨r.g, r.d + o + j, none⟩ := by simp [World.cell?, hw']
                      rw [this]; exact h5 j v hv)
                    rw [h4] at hload
                    simpa [Builtin.firstCells] using hload
                · cases h
          · -- a grown slice
            rename_i b o len z
            cases hq : Nat.beq m 0 with
            | true =>
              rw [hq] at h
              have := beq_iff.1 hq
              subst this
              have hemp : us = [] := by have := hus.1; rw [hnl] at this; simp at this; exact List.length_eq_zero_iff.1 this.symm
              subst hemp
              cases hvs with
              | sg _ _ _ _ cap r hr h2 h3 =>
                exact ⟨_, _, _, _, ρ, w, h, run_append_in (ty := ty) h0 h1 ht hu hd hs hlen w (hfc w rfl) _ (by omega) w (by rfl), .sg _ _ _ _ _ r hr h2 h3, .refl hH, .refl⟩
              | sg0 _ _ _ a r hr =>
                exact ⟨_, _, _, _, ρ, w, h, run_append_in (ty := ty) h0 h1 ht hu hd hs hlen w (hfc w rfl) _ (by omega) w (by rfl), .sg0 _ _ _ a r hr, .refl hH, .refl⟩
            | false =>
              rw [hq] at h
              have hm0 : ¬ m = 0 := fun e => by rw [e] at hq; cases hq
              simp only [cond_false] at h
              split at h
              · rename_i e' old hg
                have hz := (beq_iff.1 (need_iff.1 h).1).symm
                replace h := (need_iff.1 h).2
                have ho := beq_iff.1 (need_iff.1 h).1
                replace h := (need_iff.1 h).2
                have hol := beq_iff.1 (need_iff.1 h).1
                replace h := (need_iff.1 h).2
                rw [lenR_eq] at hol
                rw [fzSp_eq] at h
                subst hz
                subst ho
                have hbn := HP.get_lt hg
                have hget := HP.get_set hH.len hbn .dead
                -- the block is given up
                have hdead : HR P ρ (H.set b .dead) w := by
                  refine ⟨by show (setn H.l _ _).length = H.n; rw [setn_eq, List.length_set, hH.len], hH.dom, fun i blk hi => ?_, fun i j mi ei ci mj ej cj ri rj hne hi hj => ?_, hH.rng⟩
                  · rw [hget] at hi
                    split at hi
                    · cases hi; trivial
                    · exact hH.blk i blk hi
                  · rw [hget] at hi hj
                    split at hi
                    · cases hi
                    · split at hj
                      · cases hj
                      · exact hH.sep i j _ _ _ _ _ _ _ _ hne hi hj
                have hwrd : ∀ g, wrG ρ (H.set b .dead) g → wrG ρ H g := by
                  rintro g ⟨i, mi, ei, ci, ri, hi, hm', hri, rfl⟩
                  rw [hget] at hi
                  split at hi
                  · cases hi
                  · exact ⟨i, mi, ei, ci, ri, hi, hm', hri, rfl⟩
                have hsd : Step P ρ H w ρ (H.set b .dead) w := ⟨fun _ _ h => h, Nat.le_refl _, hdead, .refl _ _, fun g hg' => .inl (hwrd g hg'), fun i r hi => .inl ⟨i, r, hi, rfl⟩⟩
                have hcd := CL.dead (base := base) hH.len hbn
                obtain ⟨r, row, te, fz, b1, b2, b3, b4, b5⟩ := hH.blk b _ hg
                obtain ⟨olds, hov, horow⟩ := row_VRL b3
                obtain ⟨b5, b6⟩ := b5 rfl
                have hfo : ∀ (a : Addr) (cap : Nat), a = ⟨r.g, r.d, none⟩ → ∀ w', w'.heap = w.heap → (Builtin.firstCells size len (.slice (some a) len cap)).run P w' = .ok olds.toArray w' := by
                  intro a cap ha w' hw'
                  subst ha
                  have hload := run_loadCells_list (P := P) w' ⟨r.g, r.d, none⟩ olds (fun j v hv => by
                    rw [Addr.add_lit]
                    simp [World.cell?, hw', b2, horow j v hv])
                  rw [← hov.1, hol] at hload
                  simpa [Builtin.firstCells] using hload
                cases hvs with
                | sg0 _ _ _ a r' hr' =>
                  have hol0 : old = [] := by simpa using hol
                  subst hol0
                  have : olds = [] := hov.of_nil
                  subst this
                  exact grow [] [] (some a) 0 0 (H.set b .dead) h .nil (by simp) (by omega) (fun w' _ => by simp [Builtin.firstCells, loadCells, loadCellsFrom]) rfl hsd.drew hcd hnl
                | sg _ _ _ _ cap r' hr' h2 h3 =>
                  rw [b1] at hr'; cases hr'
                  by_cases hfit : len + m ≤ cap
                  · -- room enough
                    unfold growA at h
                    have hK := (need_iff.1 (need_iff.1 h).2).2
                    split at hK
                    · rename_i zz hzz
                      have hK := (need_iff.1 hK).2
                      rw [fzSp_eq, appR_eq] at hK
                      change K (AV.sg H.n 0 (len + m) size) ((H.set b .dead).push (.row .grown e (old ++ new))) false at hK
                      have hcs : (len + m) * size ≤ cap * size := Nat.mul_le_mul_right _ hfit
                      have e5 : (len + m) * size = len * size + m * size := Nat.add_mul _ _ _
                      have hul := hus.1
                      have hol2 := hov.1
                      obtain ⟨cur', c1, c2, c3⟩ := store_row (P := P) us 0 (r.d + len * size) r.g row te fz w b2 (b4 rfl) (.inr (by omega)) (fun v hv' => by
                        obtain ⟨k, hk⟩ := List.mem_iff_getElem?.1 hv'
                        obtain ⟨a, ha⟩ : ∃ a, new[k]? = some a := ⟨_, List.getElem?_eq_getElem (by rw [hus.1]; exact (List.getElem?_eq_some_iff.1 hk).1)⟩
                        exact (hus.2 k a v ha hk).oneCell (List.all_eq_true.1 hone a (List.mem_of_getElem? ha)))
                      have hn : ρ H.n = none := by
                        cases hh : ρ H.n with
                        | none => rfl
                        | some r => exact absurd (hH.dom _ _ hh) (Nat.lt_irrefl _)
                      let ρ' : Ren := fun i => if i = H.n then some r else ρ i
                      have hx : ∀ i r, ρ i = some r → ρ' i = some r := fun i r hi => by
                        have : i ≠ H.n := fun e => by rw [e, hn] at hi; cases hi
                        simp [ρ', this, hi]
                      have hgp := HP.get_push hdead.len (.row .grown e (old ++ new))
                      have hot : ∀ k, k ≠ r.g → (w.setRow r.g cur').heap[k]? = w.heap[k]? := fun k hk => setRow_other w r.g k cur' hk
                      have hsep : ∀ i mi ei ci ri, i ≠ b → H.get i = some (.row mi ei ci) → ρ i = some ri → r.g ≠ ri.g := fun i mi ei ci ri hi hg' hri => hH.sep b i _ _ _ _ _ _ _ _ (Ne.symm hi) hg hg' rfl b1 hri
                      have hpn : (H.set b .dead).n = H.n := rfl
                      refine ⟨_, _, _, _, ρ', w.setRow r.g cur', hK, run_append_in (ty := ty) h0 h1 ht hu hd hs hlen w (hfc w rfl) _ hfit _ (by rw [Addr.add_lit]; exact c3), ?_, ⟨hx, Nat.le_succ _, ⟨?_, ?_, ?_, ?_, fun i r' hi => by
                        by_cases hin : i = H.n
                        · have : r' = r := by simpa [ρ', hin] using hi.symm
                          subst this
                          simpa using hH.rng b r' b1
                        · simpa using hH.rng i r' (by simpa [ρ', hin] using hi)⟩, ⟨rfl, rfl, rfl, by simp, fun k hk hn' => hot k (fun e' => hn' ⟨b, .grown, _, old, r, hg, rfl, b1, e'.symm⟩)⟩, ?_, fun i r' hi => by
                        by_cases hin : i = H.n
                        · have : r' = r := by simpa [ρ', hin] using hi.symm
                          subst this
                          exact .inl ⟨b, r', b1, rfl⟩
                        · exact .inl ⟨i, r', by simpa [ρ', hin] using hi, rfl⟩⟩, ?_⟩
                      · exact VR.sg (ρ := ρ') H.n 0 (len + m) size cap r (by simp [ρ']) (by omega) hfit
                      · show (_ :: (H.set b .dead).l).length = H.n + 1
                        have := hdead.len
                        simp only [List.length_cons, this, hpn]
                      · intro i r' hi
                        by_cases hin : i = H.n
                        · subst hin; exact Nat.lt_succ_self _
                        · have : ρ i = some r' := by simpa [ρ', hin] using hi
                          exact Nat.lt_succ_of_lt (hH.dom _ _ this)
                      · intro i blk hi
                        rw [hgp, hpn] at hi
                        by_cases hin : i = H.n
                        · rw [if_pos hin] at hi
                          cases hi
                          subst hin
                          refine ⟨r, cur', te, fz, by simp [ρ'], setRow_heap w r.g row cur' te fz b2, ?_, fun _ o' ho' => b4 rfl o' (by omega), fun _ => ⟨by omega, by simp; omega⟩⟩
                          intro k c hk
                          obtain ⟨u', hu', hv'⟩ := (hov.append hus).get hk
                          refine ⟨u', ?_, hv'.mono hx⟩
                          rw [c2]
                          by_cases hk1 : k < olds.length
                          · rw [List.getElem?_append_left hk1] at hu'
                            rw [if_neg (by omega)]
                            exact horow k u' hu'
                          · rw [List.getElem?_append_right (by omega)] at hu'
                            have hlt := (List.getElem?_eq_some_iff.1 hu').1
                            rw [if_pos (by omega), ← hu']
                            congr 1
                            omega
                        · rw [if_neg hin, hget] at hi
                          split at hi
                          · cases hi; trivial
                          · rename_i hib
                            refine (hH.blk i blk hi).mono hx fun r' hr' m' e' c' he' => ?_
                            subst he'
                            exact hot _ (hsep i _ _ _ r' hib hi hr').symm
                      · intro i j mi ei ci mj ej cj ri rj hne hi hj hm' hri hrj
                        rw [hgp, hpn] at hi hj
                        by_cases hin : i = H.n
                        · have hjn : j ≠ H.n := fun e => hne (hin.trans e.symm)
                          rw [if_neg hjn, hget] at hj
                          split at hj
                          · cases hj
                          · rename_i hjb
                            have hrj' : ρ j = some rj := by simpa [ρ', hjn] using hrj
                            have : ri = r := by simpa [ρ', hin] using hri.symm
                            subst this
                            exact hsep j _ _ _ rj hjb hj hrj'
                        · rw [if_neg hin, hget] at hi
                          split at hi
                          · cases hi
                          · rename_i hib
                            have hri' : ρ i = some ri := by simpa [ρ', hin] using hri
                            by_cases hjn : j = H.n
                            · have : rj = r := by simpa [ρ', hjn] using hrj.symm
                              subst this
                              exact (hsep i _ _ _ ri hib hi hri').symm
                            · rw [if_neg hjn, hget] at hj
                              split at hj
                              · cases hj
                              · exact hH.sep i j _ _ _ _ _ _ _ _ hne hi hj hm' hri' (by simpa [ρ', hjn] using hrj)
                      · rintro g ⟨i, mi, ei, ci, ri, hi, hm', hri, rfl⟩
                        rw [hgp, hpn] at hi
                        by_cases hin : i = H.n
                        · have : ri = r := by simpa [ρ', hin] using hri.symm
                          subst this
                          exact .inl ⟨b, .grown, _, old, ri, hg, rfl, b1, rfl⟩
                        · rw [if_neg hin] at hi
                          exact .inl (hwrd _ ⟨i, mi, ei, ci, ri, hi, hm', by simpa [ρ', hin] using hri, rfl⟩)
                      · have := hcd.trans (CL.push (base := base) hdead.len hb (.row .grown e (old ++ new)))
                        simpa using this
                    · cases hK
                  · exact grow old olds (some ⟨r.g, r.d + 0, none⟩) len cap (H.set b .dead) h hov hol hfit (hfo _ cap rfl) rfl hsd.drew hcd hnl
              · cases h
          · cases h
end Go.X
