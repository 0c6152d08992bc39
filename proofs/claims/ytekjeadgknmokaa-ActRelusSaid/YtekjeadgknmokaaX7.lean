import Derived.Test.YtekjeadgknmokaaX6
/- Operations that read, write or make memory. -/
set_option linter.unusedVariables false
set_option linter.unusedSimpArgs false
namespace Go.X
open Go

/-- All addresses of a value lie below m. -/
def Bel (m : Nat) (a : AV) : Prop := ∀ (ρ : Ren) (v : Value), VR ρ a v → VR (fun i => if i < m then ρ i else none) a v
theorem Bel.of_plain1 {m : Nat} {a : AV} (h : a.plain1 = true) : Bel m a := fun ρ v hv => hv.plain1 h _
theorem Bel.of_VR {ρ : Ren} {a : AV} {v : Value} {m : Nat} (h : VR ρ a v) (hd : Dom ρ m) : Bel m a := by
  have hat : ∀ {σ : Ren} {b : Nat} {r : RB}, b < m → σ b = some r → (fun i => if i < m then σ i else none) b = some r := by
    intro σ b r hb hr; simp [hb, hr]
  induction h with
  | ptr b o r h => intro σ u hu; cases hu with | ptr _ _ r' h' => exact .ptr _ _ _ (hat (hd _ _ h) h')
  | sl b o l c r h => intro σ u hu; cases hu with | sl _ _ _ _ r' h' => exact .sl _ _ _ _ _ (hat (hd _ _ h) h')
  | sg b o l z c r h h1 h2 => intro σ u hu; cases hu with
    | sg _ _ _ _ c' r' h' h1' h2' => exact .sg _ _ _ _ _ _ (hat (hd _ _ h) h') h1' h2'
    | sg0 _ _ _ a r' h' => exact .sg0 _ _ _ _ _ (hat (hd _ _ h) h')
  | sg0 b o z a r h => intro σ u hu; cases hu with
    | sg _ _ _ _ c' r' h' h1' h2' => exact .sg _ _ _ _ _ _ (hat (hd _ _ h) h') h1' h2'
    | sg0 _ _ _ a r' h' => exact .sg0 _ _ _ _ _ (hat (hd _ _ h) h')
  | fn f x y xs ys h1 h2 h3 h4 ih1 ih2 =>
    intro σ u hu; cases hu with
    | fn _ _ _ xs' ys' k1 k2 k3 k4 =>
      refine .fn _ _ _ _ _ k1 (fun i a v ha hv => ?_) k3 (fun i a v ha hv => ?_)
      · obtain ⟨u0, hu0⟩ : ∃ u0, xs[i]? = some u0 := ⟨_, List.getElem?_eq_getElem (by rw [← h1]; exact (List.getElem?_eq_some_iff.1 ha).1)⟩
        exact ih1 i a u0 ha hu0 σ v (k2 i a v ha hv)
      · obtain ⟨u0, hu0⟩ : ∃ u0, ys[i]? = some u0 := ⟨_, List.getElem?_eq_getElem (by rw [← h3]; exact (List.getElem?_eq_some_iff.1 ha).1)⟩
        exact ih2 i a u0 ha hu0 σ v (k4 i a v ha hv)
  | iface t a v h ih => intro σ u hu; cases hu with | iface _ _ v' h' => exact .iface _ _ _ (ih σ v' h')
  | agg x xs h1 h2 ih =>
    intro σ u hu; cases hu with
    | agg _ xs' k1 k2 =>
      refine .agg _ _ k1 (fun i a v ha hv => ?_)
      obtain ⟨u0, hu0⟩ : ∃ u0, xs[i]? = some u0 := ⟨_, List.getElem?_eq_getElem (by rw [← h1]; exact (List.getElem?_eq_some_iff.1 ha).1)⟩
      exact ih i a u0 ha hu0 σ v (k2 i a v ha hv)
  | tup x xs h1 h2 ih =>
    intro σ u hu; cases hu with
    | tup _ xs' k1 k2 =>
      refine .tup _ _ k1 (fun i a v ha hv => ?_)
      obtain ⟨u0, hu0⟩ : ∃ u0, xs[i]? = some u0 := ⟨_, List.getElem?_eq_getElem (by rw [← h1]; exact (List.getElem?_eq_some_iff.1 ha).1)⟩
      exact ih i a u0 ha hu0 σ v (k2 i a v ha hv)
  | _ => exact Bel.of_plain1 rfl

def Clean (m : Nat) (H : HP) : Prop := ∀ i md e cells, i < m → H.get i = some (.row md e cells) → ∀ c ∈ cells, Bel m c
/-- Nothing that was written has spoilt what lies below. -/
def CL (base : Nat) (H : HP) (d : Bool) (H' : HP) : Prop := d = false → ∀ m, m ≤ base → Clean m H → Clean m H'
theorem CL.refl {base : Nat} {H : HP} : CL base H false H := fun _ _ _ h => h
theorem CL.push {base : Nat} {H : HP} (hl : H.l.length = H.n) (hb : base ≤ H.n) (b : ABlk) : CL base H false (H.push b) := by
  intro _ m hm h i md e cells hi hg
  rw [HP.get_push hl, if_neg (by omega)] at hg
  exact h i md e cells hi hg
theorem CL.dead {base : Nat} {H : HP} (hl : H.l.length = H.n) {b : Nat} (hb : b < H.n) : CL base H false (H.set b .dead) := by
  intro _ m hm h i md e cells hi hg
  rw [HP.get_set hl hb] at hg
  split at hg
  · cases hg
  · exact h i md e cells hi hg
theorem CL.trans {base : Nat} {H H₁ H₂ : HP} {d d' : Bool} (h : CL base H d H₁) (k : CL base H₁ d' H₂) : CL base H (cond d' true d) H₂ := by
  intro hd m hm hc
  cases d' with
  | true => cases hd
  | false => exact k rfl m hm (h hd m hm hc)
theorem CL.mono {base base' : Nat} {H H' : HP} {d : Bool} (h : CL base H d H') (hb : base' ≤ base) : CL base' H d H' := fun hd m hm hc => h hd m (Nat.le_trans hm hb) hc
theorem HR.clean {P : Program} {ρ : Ren} {H : HP} {w : World} (h : HR P ρ H w) : Clean H.n H := by
  intro i md e cells hi hg c hc
  obtain ⟨r, row, te, fz, h1, h2, h3, _⟩ := h.blk i _ hg
  obtain ⟨k, hk⟩ := List.mem_iff_getElem?.1 hc
  obtain ⟨u, hu, hv⟩ := h3 k c hk
  exact Bel.of_VR hv h.dom

/-- A row's cells as a list. -/
theorem row_VRL {ρ : Ren} {cells : List AV} {row : Array Value} {d : Nat} (h : ∀ (k : Nat) (c : AV), cells[k]? = some c → ∃ u : Value, row[d + k]? = some u ∧ VR ρ c u) :
    ∃ us : List Value, VRL ρ cells us ∧ ∀ (k : Nat) (u : Value), us[k]? = some u → row[d + k]? = some u := by
  refine ⟨(row.toList.drop d).take cells.length, ⟨?_, ?_⟩, ?_⟩
  · simp only [List.length_take, List.length_drop, Array.length_toList]
    by_cases h0 : cells.length = 0
    · omega
    · obtain ⟨u, hu, _⟩ := h (cells.length - 1) _ (List.getElem?_eq_getElem (by omega))
      have := (Array.getElem?_eq_some_iff.1 hu).1
      omega
  · intro i a v ha hv
    have hlt := (List.getElem?_eq_some_iff.1 ha).1
    rw [List.getElem?_take_of_lt hlt, List.getElem?_drop] at hv
    obtain ⟨u, hu, hr⟩ := h i a ha
    have : row.toList[d + i]? = some u := by simpa using hu
    rw [this] at hv
    cases hv
    exact hr
  · intro k u hu
    have hlt : k < cells.length := by
      have := (List.getElem?_eq_some_iff.1 hu).1
      simp at this
      omega
    rw [List.getElem?_take_of_lt hlt, List.getElem?_drop] at hu
    simpa using hu

theorem rd_cells {P : Program} {ρ : Ren} {H : HP} {w : World} (hH : HR P ρ H w) {b o n : Nat} {m : List AV} (h : rd H b o n = some m) :
    ∃ r us, ρ b = some r ∧ VRL ρ m us ∧ us.length = n ∧ ∀ (j : Nat) (u : Value), us[j]? = some u → w.cell? ⟨r.g, r.d + o + j, none⟩ = some u := by
  unfold rd at h
  split at h
  · rename_i md e cells hg
    obtain ⟨r, row, te, fz, h1, h2, h3, _⟩ := hH.blk b _ hg
    obtain ⟨us, hv, hrow⟩ := row_VRL h3
    obtain ⟨s1, s2, s3⟩ := seg_sound hv h
    refine ⟨r, (us.drop o).take n, h1, s3, by rw [← s3.1, s2], fun j u hu => ?_⟩
    have hj : j < n := by have := (List.getElem?_eq_some_iff.1 hu).1; simp at this; omega
    rw [List.getElem?_take_of_lt hj, List.getElem?_drop] at hu
    have := hrow _ u hu
    rw [← Nat.add_assoc] at this
    simp [World.cell?, h2, this]
  · cases h

theorem read_sound {P : Program} {o : Oper} {T : Nat → AV} {H : HP} {K : AV → Prop} (h : readA P o.op T H K) :
    ∃ v, K v ∧ ∀ (ρ : Ren) (e : Operand → Value) (w : World), (∀ x ∈ o.op.operands.toList, OpsRel ρ T e x) → HR P ρ H w → ∃ u, (execOp e o).run P w = .ok (.value u) w ∧ VR ρ v u := by
  obtain ⟨dst, op, type, pos, after, guard⟩ := o
  simp only at h ⊢
  unfold readA at h
  split at h
  · rename_i t a
    split at h
    · rename_i b o' ha
      split at h
      · rename_i n hag hs
        split at h
        · rename_i l hl
          refine ⟨_, h, fun ρ e w hx hH => ?_⟩
          have := hx a (by simp [Op.operands]) _ ha
          generalize hea : e a = ea at this
          cases this with
          | ptr b o' r hr =>
            obtain ⟨r', us, h1, h2, h3, h4⟩ := rd_cells hH hl
            rw [hr] at h1; cases h1
            have hload := run_loadCells_list (P := P) w ⟨r.g, r.d + o', none⟩ us (fun j v hv => by rw [Addr.add_lit]; exact h4 j v hv)
            rw [h3] at hload
            exact ⟨.agg us.toArray, by simp [execOp, Instr.loadAt, hea, Instr.sureAddr, loadVar, run_isAgg' hag, run_sizeOf' hs, hload], .agg _ _ h2.1 h2.2⟩
        · cases h
      · rename_i n hag hs
        split at h
        · rename_i md el cells hg
          split at h
          · rename_i v hv
            refine ⟨_, h, fun ρ e w hx hH => ?_⟩
            have := hx a (by simp [Op.operands]) _ ha
            generalize hea : e a = ea at this
            cases this with
            | ptr b o' r hr =>
              obtain ⟨r', row, te, fz, h1, h2, h3, _⟩ := hH.blk b _ hg
              rw [hr] at h1; cases h1
              rw [nth_eq] at hv
              obtain ⟨u, hu, hvr⟩ := h3 _ _ hv
              have hc : w.cell? ⟨r.g, r.d + o', none⟩ = some u := by simp [World.cell?, h2, hu]
              exact ⟨u, by simp [execOp, Instr.loadAt, hea, Instr.sureAddr, loadVar, run_isAgg' hag, hc], hvr⟩
          · cases h
        · cases h
      · cases h
    · cases h
  · cases h

/-- Cells are written. -/
theorem wr_sound {P : Program} {fc : Bool} {H : HP} {b o : Nat} {m : List AV} {K : HP → Prop} (h : wr fc H b o m K) :
    ∃ H', K H' ∧ H'.n = H.n ∧ (∀ base, base ≤ H.n → H.l.length = H.n → CL base H (!(Nat.ble base b) && !(allR AV.plain1 m)) H') ∧ ∀ (ρ : Ren) (w : World) (us : List Value), HR P ρ H w → VRL ρ m us →
      ∃ r w', ρ b = some r ∧ (storeCells ⟨r.g, r.d + o, none⟩ us).run P w = .ok () w' ∧ Step P ρ H w ρ H' w' := by
  unfold wr at h
  have hone := (need_iff.1 h).1
  replace h := (need_iff.1 h).2
  rw [allR_eq] at hone
  have main : ∀ (md : BM) (e : TypeId) (cells c : List AV), md.own? = true → H.get b = some (.row md e cells) → splice cells o m = some c → K (H.set b (.row md e c)) →
      ∃ H', K H' ∧ H'.n = H.n ∧ (∀ base, base ≤ H.n → H.l.length = H.n → CL base H (!(Nat.ble base b) && !(allR AV.plain1 m)) H') ∧ ∀ (ρ : Ren) (w : World) (us : List Value), HR P ρ H w → VRL ρ m us →
        ∃ r w', ρ b = some r ∧ (storeCells ⟨r.g, r.d + o, none⟩ us).run P w = .ok () w' ∧ Step P ρ H w ρ H' w' := by
    intro md e cells c hmd hg hc hK
    have hb := HP.get_lt hg
    refine ⟨_, hK, rfl, ?_, ?_⟩
    · intro base hbase hlen hd mm hmm hcl i md' e' cells' hi hg' x hx
      rw [HP.get_set hlen hb] at hg'
      split at hg'
      · rename_i hib
        cases hg'
        -- the written block
        have hsub : ∀ y ∈ c, y ∈ cells ∨ y ∈ m := by
          intro y hy
          unfold splice at hc
          rw [takeR_eq, dropR_eq, takeR_eq, lenR_eq] at hc
          split at hc
          · rename_i a ha
            split at ha
            · cases ha
              split at hc
              · cases hc
                simp only [appR_eq, dropR_eq] at hy
                rcases List.mem_append.1 hy with hy | hy
                · exact .inl (List.mem_of_mem_take hy)
                · rcases List.mem_append.1 hy with hy | hy
                  · exact .inr hy
                  · exact .inl (List.mem_of_mem_drop hy)
              · cases hc
            · cases ha
          · cases hc
        rcases hsub x hx with hx | hx
        · exact hcl b md e cells (by omega) hg x hx
        · cases hq : Nat.ble base b with
          | true => have := ble_iff.1 hq; omega
          | false =>
            rw [hq] at hd
            simp only [Bool.not_false, Bool.true_and, Bool.not_eq_false', allR_eq] at hd
            exact Bel.of_plain1 (List.all_eq_true.1 hd x hx)
      · exact hcl i md' e' cells' hi hg' x hx
    · intro ρ w us hH hus
      obtain ⟨r, row, te, fz, h1, h2, h3, h4, h5⟩ := hH.blk b _ hg
      obtain ⟨vs, hv, hrow⟩ := row_VRL h3
      obtain ⟨s1, s2, s3⟩ := splice_sound hv hus hc
      have hvl := hv.1
      -- the real row
      have hfit : us.length = 0 ∨ r.d + o + 0 + us.length ≤ row.size := by
        by_cases h0 : us.length = 0
        · exact .inl h0
        · obtain ⟨u, hu, _⟩ := h3 (cells.length - 1) _ (List.getElem?_eq_getElem (by omega))
          have := (Array.getElem?_eq_some_iff.1 hu).1
          exact .inr (by omega)
      obtain ⟨cur', c1, c2, c3⟩ := store_row (P := P) us 0 (r.d + o) r.g row te fz w h2 (h4 hmd) hfit (fun v hv' => by
        obtain ⟨k, hk⟩ := List.mem_iff_getElem?.1 hv'
        obtain ⟨a, ha⟩ : ∃ a, m[k]? = some a := ⟨_, List.getElem?_eq_getElem (by rw [hus.1]; exact (List.getElem?_eq_some_iff.1 hk).1)⟩
        exact (hus.2 k a v ha hk).oneCell (List.all_eq_true.1 hone a (List.mem_of_getElem? ha)))
      refine ⟨r, _, h1, c3, ?_⟩
      have hget := HP.get_set hH.len hb (.row md e c)
      have hot : ∀ k, k ≠ r.g → (w.setRow r.g cur').heap[k]? = w.heap[k]? := fun k hk => setRow_other w r.g k cur' hk
      refine ⟨fun _ _ h => h, Nat.le_refl _, ⟨?_, hH.dom, ?_, ?_, fun i r hi => by simpa using hH.rng i r hi⟩, ⟨rfl, rfl, rfl, by simp, fun k hk hn => hot k (fun e' => hn ⟨b, md, e, cells, r, hg, hmd, h1, e'.symm⟩)⟩, ?_, fun i r hi => .inl ⟨i, r, hi, rfl⟩⟩
      · show (setn H.l _ _).length = H.n
        rw [setn_eq, List.length_set, hH.len]
      · intro i blk hi
        rw [hget] at hi
        split at hi
        · rename_i hib
          subst hib
          cases hi
          refine ⟨r, cur', te, fz, h1, setRow_heap w r.g row cur' te fz h2, ?_, fun hm o' ho' => h4 hm o' (by omega), fun hm => ?_⟩
          · intro k x hx
            obtain ⟨u, hu, hvr⟩ := s3.get hx
            refine ⟨u, ?_, hvr⟩
            rw [c2]
            by_cases hin : r.d + o + 0 ≤ r.d + k ∧ r.d + k < r.d + o + 0 + us.length
            · rw [if_pos hin]
              have : ((vs.take o ++ us) ++ vs.drop (o + us.length))[k]? = us[k - o]? := by
                rw [List.getElem?_append_left (by simp; omega), List.getElem?_append_right (by simp; omega)]
                congr 1
                simp; omega
              rw [this] at hu
              rw [← hu]
              congr 1
              omega
            · rw [if_neg hin]
              by_cases hk : k < o
              · rw [List.append_assoc, List.getElem?_append_left (by simp; omega), List.getElem?_take_of_lt hk] at hu
                exact hrow k u hu
              · rw [List.getElem?_append_right (by simp; omega), List.getElem?_drop] at hu
                have e2 : o + us.length + (k - (vs.take o ++ us).length) = k := by simp; omega
                rw [e2] at hu
                exact hrow k u hu
          · obtain ⟨g1, g2⟩ := h5 hm
            exact ⟨by omega, by omega⟩
        · rename_i hib
          refine (hH.blk i blk hi).mono (fun _ _ h => h) fun r' hr' m' e' c' he' => ?_
          subst he'
          exact hot _ (hH.sep b i _ _ _ _ _ _ _ _ (Ne.symm hib) hg hi hmd h1 hr').symm
      · intro i j mi ei ci mj ej cj ri rj hne hi hj hm hri hrj
        rw [hget] at hi hj
        by_cases hib : i = b
        · rw [if_pos hib] at hi
          have hjb : j ≠ b := fun e' => hne (hib.trans e'.symm)
          rw [if_neg hjb] at hj
          subst hib
          exact hH.sep i j _ _ _ _ _ _ _ _ hne hg hj hmd hri hrj
        · rw [if_neg hib] at hi
          by_cases hjb : j = b
          · subst hjb
            exact hH.sep i j _ _ _ _ _ _ _ _ hne hi hg hm hri hrj
          · rw [if_neg hjb] at hj
            exact hH.sep i j _ _ _ _ _ _ _ _ hne hi hj hm hri hrj
      · rintro g ⟨i, mi, ei, ci, ri, hi, hm, hri, rfl⟩
        rw [hget] at hi
        by_cases hib : i = b
        · subst hib
          exact .inl ⟨i, md, e, cells, ri, hg, hmd, hri, rfl⟩
        · rw [if_neg hib] at hi
          exact .inl ⟨i, mi, ei, ci, ri, hi, hm, hri, rfl⟩
  split at h
  · rename_i e cells hg
    split at h
    · rename_i c hc
      simp only [fzSp_eq] at h
      exact main .own e cells c rfl hg hc h
    · cases h
  · rename_i e cells hg
    split at h
    · rename_i c hc
      simp only [fzSp_eq] at h
      exact main .grown e cells c rfl hg hc h
    · cases h
  · cases h
end Go.X
