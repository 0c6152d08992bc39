import Derived.Test.YtekjeadgknmokaaX5
/- Operations that neither read nor make memory: the theorem. -/
set_option linter.unusedVariables false
set_option linter.unusedSimpArgs false
namespace Go.X
open Go

theorem oev_sound {ρ : Ren} {T : Nat → AV} {e : Operand → Value} {x : Option Operand} {v : Option AV} (h : oev T x = some v) (hx : ∀ y, x = some y → OpsRel ρ T e y) : OVR ρ v (x.map e) := by
  unfold oev at h
  split at h
  · cases h; trivial
  · split at h
    · rename_i y _ a ha; cases h; exact hx _ rfl a ha
    · cases h

theorem minmax_sound {P : Program} {mx : Bool} {ρ : Ren} : ∀ (r : List AV) (a v : AV) (us : List Value) (u : Value), minmaxA mx a r = some v → VR ρ a u → VRL ρ r us →
    ∀ w, ∃ x, (us.foldlM (if mx then Builtin.max2 else Builtin.min2) u : Sem Value).run P w = .ok x w ∧ VR ρ v x
  | [], a, v, us, u, h, hu, hr, w => by
    rw [hr.of_nil]
    simp [minmaxA] at h
    subst h
    exact ⟨u, rfl, hu⟩
  | b :: r, a, v, us, u, h, hu, hr, w => by
    obtain ⟨y, ys, rfl, hy, hys⟩ := hr.of_cons
    unfold minmaxA at h
    split at h
    · rename_i e; cases e
    · rename_i k x k' x' r' e
      cases e
      cases hu; cases hy
      obtain ⟨z, h1, h2⟩ := minmax_sound (P := P) r _ v ys _ h (.int k _) hys w
      refine ⟨z, ?_, h2⟩
      rw [List.foldlM_cons]
      cases mx with
      | true => simp only [if_true] at h1 ⊢; simp [Builtin.max2]; simpa using h1
      | false => simp only [Bool.false_eq_true, if_false] at h1 ⊢; simp [Builtin.min2]; simpa using h1
    · cases h

theorem part_sound {P : Program} {ρ : Ren} {t : TypeId} {l : List AV} {cs : Array Value} {off : Nat} (hl : VRL ρ l cs.toList) :
    (∀ n m, isAggA P t = some true → sizeOfA P t = some n → seg l off n = some m → Gives P ρ (part t cs off) (.agg m)) ∧
    (∀ v, isAggA P t = some false → nth l off = some v → Gives P ρ (part t cs off) v) := by
  refine ⟨fun n m ha hs hm w => ?_, fun v ha hv w => ?_⟩
  · obtain ⟨h1, h2, h3⟩ := seg_sound hl hm
    refine ⟨.agg (cs.extract off (off + n)), by simp [part, run_isAgg' ha, run_sizeOf' hs], ?_⟩
    have e : cs.extract off (off + n) = ((cs.toList.drop off).take n).toArray := by
      apply Array.ext'
      simp [Array.toList_extract, List.extract_eq_take_drop]
    rw [e]
    exact .agg _ _ h3.1 h3.2
  · rw [nth_eq] at hv
    obtain ⟨u, hu, hr⟩ := hl.get hv
    refine ⟨u, ?_, hr⟩
    have hu' : cs[off]? = some u := by simpa using hu
    simp [part, run_isAgg' ha, hu']

theorem mem_ops {x : Operand} {a : Array Operand} (h : x ∈ a.toList) : x ∈ a := by simpa using h

theorem pure_sound {P : Program} {o : Oper} {T : Nat → AV} {K : AV → Prop} (h : pureA P o.op T K) :
    ∃ v, K v ∧ ∀ (ρ : Ren) (e : Operand → Value), (∀ x ∈ o.op.operands.toList, OpsRel ρ T e x) → ∀ w, ∃ u, (execOp e o).run P w = .ok (.value u) w ∧ VR ρ v u := by
  obtain ⟨dst, op, type, pos, after, guard⟩ := o
  simp only at h ⊢
  have fin : ∀ {v : AV} {s : (Operand → Value) → Sem Value}, K v → (∀ e, execOp e ⟨dst, op, type, pos, after, guard⟩ = (do pure (.value (← s e)))) → (∀ (ρ : Ren) (e : Operand → Value), (∀ x ∈ op.operands.toList, OpsRel ρ T e x) → Gives P ρ (s e) v) →
      ∃ v, K v ∧ ∀ (ρ : Ren) (e : Operand → Value), (∀ x ∈ op.operands.toList, OpsRel ρ T e x) → ∀ w, ∃ u, (execOp e ⟨dst, op, type, pos, after, guard⟩).run P w = .ok (.value u) w ∧ VR ρ v u := by
    intro v s hK he hg
    refine ⟨v, hK, fun ρ e hx w => ?_⟩
    obtain ⟨u, h1, h2⟩ := hg ρ e hx w
    exact ⟨u, by rw [he]; simp [h1], h2⟩
  unfold pureA at h
  split at h
  · -- move
    split at h
    · rename_i x _ v hv
      exact ⟨v, h, fun ρ e hx w => ⟨e x, by simp [execOp], hx x (by simp [Op.operands]) v hv⟩⟩
    · cases h
  · -- assign
    split at h
    · rename_i x _ v hv
      exact ⟨v, h, fun ρ e hx w => ⟨e x, by simp [execOp], hx x (by simp [Op.operands]) v hv⟩⟩
    · cases h
  · -- pick
    rename_i c a b
    split at h
    · rename_i t hc
      have key : ∀ {x y : AV}, ev T a = some x → ev T b = some y → ∀ (ρ : Ren) (e : Operand → Value), (∀ x ∈ (Op.pick c a b).operands.toList, OpsRel ρ T e x) → ∀ w, ∃ u, (execOp e ⟨dst, .pick c a b, type, pos, after, guard⟩).run P w = .ok (.value u) w ∧ VR ρ (if t then x else y) u := by
        intro x y hxa hyb ρ e hx w
        have hc' := hx c (by simp [Op.operands]) _ hc
        have ha' := hx a (by simp [Op.operands]) _ hxa
        have hb' := hx b (by simp [Op.operands]) _ hyb
        generalize hec : e c = ec at hc'
        cases hc'
        refine ⟨if t then e a else e b, by simp [execOp, hec, asBool], ?_⟩
        cases t
        · simpa using hb'
        · simpa using ha'
      split at h
      · rename_i x y hxa hyb
        refine ⟨_, h, fun ρ e hx w => ?_⟩
        obtain ⟨u, h1, h2⟩ := key hxa hyb ρ e hx w
        refine ⟨u, h1, ?_⟩
        cases t <;> simpa using h2
      · rename_i x y _ hxa hyb
        cases t with
        | true => exact ⟨x, h, fun ρ e hx w => by simpa using key hxa hyb ρ e hx w⟩
        | false => exact ⟨y, h, fun ρ e hx w => by simpa using key hxa hyb ρ e hx w⟩
      · cases h
    · cases h
  · -- build
    rename_i t parts
    split at h
    · rename_i ps hps
      split at h
      · rename_i v hv
        refine fin (s := fun e => Instr.build t (parts.map fun (i, x) => (i, e x))) h (fun e => rfl) (fun ρ e hx w => ?_)
        obtain ⟨p1, p2⟩ := evParts_sound (ρ := ρ) (e := e) parts.toList ps (fun x hx' => hx x.2 (by simp [Op.operands]; exact ⟨x.1, by simpa using hx'⟩)) hps
        unfold buildA at hv
        split at hv
        · cases hv
        · rename_i z hz
          obtain ⟨zv, hz1, hz2⟩ := zeroOf_sound hz
          have hmap : (parts.map fun (p : Nat × Operand) => (p.1, e p.2)).toList = parts.toList.map fun p => (p.1, e p.2) := by simp
          split at hv
          · rename_i fs hu
            split at hv
            · rename_i pl hpl
              split at hv
              · rename_i c hc
                cases hv
                obtain ⟨ys, h1, h2, h3⟩ := sets_sound (ρ := ρ) ps _ z.cells c zv.cells p1 p2 (hz2 ρ).cells hc
                refine ⟨.agg ys, ?_, ?_⟩
                · have hpf : (fun i => pl.toArray[i]?) = nth pl := by funext i; simp [nth_eq]
                  simp only [Instr.build, Sem.run_bind, hz1, run_underlying' hu, Result.andThen_ok]
                  have := places_array (w := w) fs pl hpl
                  simp only [bind_pure_comp] at *
                  rw [this]
                  simp only [Result.andThen_ok, hmap, hpf, h1]
                  rfl
                · have := VR.agg (ρ := ρ) c ys.toList h2.1 h2.2
                  simpa using this
              · cases hv
            · cases hv
          · rename_i len el hu
            split at hv
            · rename_i s hs
              split at hv
              · rename_i c hc
                cases hv
                obtain ⟨ys, h1, h2, h3⟩ := sets_sound (ρ := ρ) ps _ z.cells c zv.cells p1 p2 (hz2 ρ).cells hc
                refine ⟨.agg ys, ?_, ?_⟩
                · simp only [Instr.build, Sem.run_bind, hz1, run_underlying' hu, Result.andThen_ok, run_sizeOf' hs, hmap, h1]
                  rfl
                · have := VR.agg (ρ := ρ) c ys.toList h2.1 h2.2
                  simpa using this
              · cases hv
            · cases hv
          · cases hv
      · cases h
    · cases h
  · -- nilCheck
    rename_i x
    split at h
    · rename_i b o' hv
      refine ⟨_, h, fun ρ e hx w => ?_⟩
      have := hx x (by simp [Op.operands]) _ hv
      refine ⟨e x, ?_, this⟩
      generalize hex : e x = ex at this
      cases this
      simp [execOp, hex]
    · cases h
  · -- binOp
    rename_i op' t x y yt
    split at h
    · rename_i a b ha hb
      obtain ⟨v, hK, hg⟩ := binA_sound h
      exact fin (s := fun e => do eqGuard op' t x y (e x) (e y); binOp op' t (e x) (e y)) hK (fun e => rfl) (fun ρ e hx => hg ρ x y _ _ (hx x (by simp [Op.operands]) a ha) (hx y (by simp [Op.operands]) b hb))
    · cases h
  · -- unOp
    rename_i op' t x
    split at h
    · rename_i a ha
      obtain ⟨v, hK, hg⟩ := unA_sound (P := P) h
      exact fin (s := fun e => Op.unary op' (e x)) hK (fun e => rfl) (fun ρ e hx => hg ρ _ (hx x (by simp [Op.operands]) a ha))
    · cases h
  · -- convert
    rename_i src dst' x
    split at h
    · rename_i sd hsd
      split at h
      · rename_i k n k' hv hu
        refine fin (s := fun e => convert src dst' (e x)) h (fun e => rfl) (fun ρ e hx w => ?_)
        have := hx x (by simp [Op.operands]) _ hv
        generalize hex : e x = ex at this
        cases this
        refine ⟨.int k' (k'.wrap n), ?_, .int _ _⟩
        simp only [convert, Sem.run_bind, run_underlying' hsd, run_underlying' hu, Result.andThen_ok, hex]
        cases sd <;> rfl
      · cases h
    · cases h
  · -- makeFunc
    rename_i f a b
    split at h
    · rename_i x y hx1 hy1
      refine fin (s := fun e => Instr.makeFunc f (a.map e) (b.map e)) h (fun e => rfl) (fun ρ e hx w => ?_)
      have h1 := evs_VRL (ρ := ρ) (e := e) a.toList x (fun z hz => hx z (by simp [Op.operands]; left; simpa using hz)) hx1
      have h2 := evs_VRL (ρ := ρ) (e := e) b.toList y (fun z hz => hx z (by simp [Op.operands]; right; simpa using hz)) hy1
      refine ⟨.func f (a.map e) (b.map e), by simp [Instr.makeFunc], ?_⟩
      have := VR.fn (ρ := ρ) f x y _ _ h1.1 h1.2 h2.1 h2.2
      rw [show a.map e = (a.toList.map e).toArray by apply Array.ext'; simp, show b.map e = (b.toList.map e).toArray by apply Array.ext'; simp]
      exact this
    · cases h
  · -- slice
    rename_i t x lo hi
    split at h
    · rename_i v l h' hv hl hh
      obtain ⟨r, hK, hg⟩ := sliceA_sound h
      refine fin (s := fun e => Instr.sliceAt t (e x) (lo.map e) (hi.map e) none) hK (fun e => rfl) (fun ρ e hx => hg ρ _ _ _ (hx x (by simp [Op.operands]) v hv) (oev_sound hl fun y hy => hx y ?_) (oev_sound hh fun y hy => hx y ?_))
      · subst hy; simp [Op.operands]
      · subst hy; simp [Op.operands]
    · cases h
  · -- fieldAddr
    rename_i s x f
    split at h
    · rename_i b o' fs hv hu
      split at h
      · rename_i fd hfd
        split at h
        · rename_i n hn
          refine fin (s := fun e => Instr.fieldAt s (e x) f) h (fun e => rfl) (fun ρ e hx w => ?_)
          have := hx x (by simp [Op.operands]) _ hv
          rw [nth_eq] at hfd
          have hfd' : fs[f]? = some fd := by simpa using hfd
          generalize hex : e x = ex at this
          cases this with
          | ptr b o' r hr =>
            refine ⟨.pointer (some ⟨r.g, r.d + o' + fd.offset, none⟩), by simp [Instr.fieldAt, run_underlying' hu, hfd', Instr.sureAddr, fieldPlace, run_sizeOf' hn, Addr.add_lit], ?_⟩
            have := VR.ptr (ρ := ρ) b (o' + fd.offset) r hr
            rwa [← Nat.add_assoc] at this
        · cases h
      · cases h
    · cases h
  · -- field
    rename_i s x f
    split at h
    · rename_i l fs hv hu
      split at h
      · rename_i fd hfd
        rw [nth_eq] at hfd
        have hfd' : fs[f]? = some fd := by simpa using hfd
        have run : ∀ (e : Operand → Value) (cs : Array Value), e x = .agg cs → ∀ w, (Instr.field s (e x) f).run P w = (part fd.type cs fd.offset).run P w := by
          intro e cs hex w
          simp [Instr.field, run_underlying' hu, hfd', hex, asAgg]
        split at h
        · rename_i n ha hs
          split at h
          · rename_i m hm
            refine fin (s := fun e => Instr.field s (e x) f) h (fun e => rfl) (fun ρ e hx w => ?_)
            have := hx x (by simp [Op.operands]) _ hv
            generalize hex : e x = ex at this
            cases this with
            | agg _ xs h1 h2 =>
              have h12 : VRL ρ l xs := ⟨h1, h2⟩
              have := (part_sound (P := P) (t := fd.type) (off := fd.offset) (cs := xs.toArray) (by simpa using h12)).1 n m ha hs hm w
              rw [← hex, run e _ hex]
              exact this
          · cases h
        · rename_i n ha hs
          split at h
          · rename_i v' hm
            refine fin (s := fun e => Instr.field s (e x) f) h (fun e => rfl) (fun ρ e hx w => ?_)
            have := hx x (by simp [Op.operands]) _ hv
            generalize hex : e x = ex at this
            cases this with
            | agg _ xs h1 h2 =>
              have h12 : VRL ρ l xs := ⟨h1, h2⟩
              have := (part_sound (P := P) (t := fd.type) (off := fd.offset) (cs := xs.toArray) (by simpa using h12)).2 v' ha hm w
              rw [← hex, run e _ hex]
              exact this
          · cases h
        · cases h
      · cases h
    · cases h
  · -- indexAddr
    rename_i t x i
    split at h
    · rename_i k n hi
      split at h
      · rename_i b o' hv
        split at h
        · rename_i len el hu
          split at h
          · rename_i s hs
            have h0 := of_decide_eq_true (need_iff.1 h).1
            replace h := (need_iff.1 h).2
            refine fin (s := fun e => Instr.indexAt t (e x) (e i)) h (fun e => rfl) (fun ρ e hx w => ?_)
            have hxv := hx x (by simp [Op.operands]) _ hv
            have hxi := hx i (by simp [Op.operands]) _ hi
            generalize hex : e x = ex at hxv
            generalize hei : e i = ei at hxi
            cases hxi
            cases hxv with
            | ptr b o' r hr =>
              refine ⟨.pointer (some ⟨r.g, r.d + o' + n.toNat * s, none⟩), by simp [Instr.indexAt, asIntOf, run_underlying' hu, Instr.sureAddr, run_sizeOf' hs, h0, Addr.add_lit], ?_⟩
              have := VR.ptr (ρ := ρ) b (o' + n.toNat * s) r hr
              rwa [← Nat.add_assoc] at this
          · cases h
        · cases h
      · rename_i b o' len cap hv
        split at h
        · rename_i el s hp
          obtain ⟨hu, hs⟩ := elemA_sound hp
          have h0 := of_decide_eq_true (need_iff.1 h).1
          replace h := (need_iff.1 h).2
          refine fin (s := fun e => Instr.indexAt t (e x) (e i)) h (fun e => rfl) (fun ρ e hx w => ?_)
          have hxv := hx x (by simp [Op.operands]) _ hv
          have hxi := hx i (by simp [Op.operands]) _ hi
          generalize hex : e x = ex at hxv
          generalize hei : e i = ei at hxi
          cases hxi
          cases hxv with
          | sl b o' l c r hr =>
            refine ⟨.pointer (some ⟨r.g, r.d + o' + n.toNat * s, none⟩), by simp [Instr.indexAt, asIntOf, run_underlying' hu, run_sizeOf' hs, h0, Addr.add_lit], ?_⟩
            have := VR.ptr (ρ := ρ) b (o' + n.toNat * s) r hr
            rwa [← Nat.add_assoc] at this
        · cases h
      · rename_i b o' len z hv
        split at h
        · rename_i el s hp
          obtain ⟨hu, hs⟩ := elemA_sound hp
          have h0 := of_decide_eq_true (need_iff.1 h).1
          replace h := (need_iff.1 h).2
          refine fin (s := fun e => Instr.indexAt t (e x) (e i)) h (fun e => rfl) (fun ρ e hx w => ?_)
          have hxv := hx x (by simp [Op.operands]) _ hv
          have hxi := hx i (by simp [Op.operands]) _ hi
          generalize hex : e x = ex at hxv
          generalize hei : e i = ei at hxi
          cases hxi
          cases hxv with
          | sg b o' l z c r hr _ _ =>
            refine ⟨.pointer (some ⟨r.g, r.d + o' + n.toNat * s, none⟩), by simp [Instr.indexAt, asIntOf, run_underlying' hu, run_sizeOf' hs, h0, Addr.add_lit], ?_⟩
            have := VR.ptr (ρ := ρ) b (o' + n.toNat * s) r hr
            rwa [← Nat.add_assoc] at this
          | sg0 b o' z a r hr => exfalso; omega
        · cases h
      · cases h
    · cases h
  · -- index
    rename_i t x i
    split at h
    · rename_i k n hi
      split at h
      · rename_i l hv
        split at h
        · rename_i len el hu
          split at h
          · rename_i s ha hs
            have h0 := of_decide_eq_true (need_iff.1 h).1
            replace h := (need_iff.1 h).2
            split at h
            · rename_i m hm
              refine fin (s := fun e => Instr.index t (e x) (e i)) h (fun e => rfl) (fun ρ e hx w => ?_)
              have hxv := hx x (by simp [Op.operands]) _ hv
              have hxi := hx i (by simp [Op.operands]) _ hi
              generalize hex : e x = ex at hxv
              generalize hei : e i = ei at hxi
              cases hxi
              cases hxv with
              | agg _ xs h1 h2 =>
                have h12 : VRL ρ l xs := ⟨h1, h2⟩
                obtain ⟨u, hr, hu'⟩ := (part_sound (P := P) (t := el) (off := n.toNat * s) (cs := xs.toArray) (by simpa using h12)).1 s m ha hs hm w
                exact ⟨u, by simp [Instr.index, asIntOf, run_underlying' hu, run_sizeOf' hs, h0, hr], hu'⟩
            · cases h
          · rename_i s ha hs
            have h0 := of_decide_eq_true (need_iff.1 h).1
            replace h := (need_iff.1 h).2
            split at h
            · rename_i m hm
              refine fin (s := fun e => Instr.index t (e x) (e i)) h (fun e => rfl) (fun ρ e hx w => ?_)
              have hxv := hx x (by simp [Op.operands]) _ hv
              have hxi := hx i (by simp [Op.operands]) _ hi
              generalize hex : e x = ex at hxv
              generalize hei : e i = ei at hxi
              cases hxi
              cases hxv with
              | agg _ xs h1 h2 =>
                have h12 : VRL ρ l xs := ⟨h1, h2⟩
                obtain ⟨u, hr, hu'⟩ := (part_sound (P := P) (t := el) (off := n.toNat * s) (cs := xs.toArray) (by simpa using h12)).2 m ha hm w
                exact ⟨u, by simp [Instr.index, asIntOf, run_underlying' hu, run_sizeOf' hs, h0, hr], hu'⟩
            · cases h
          · cases h
        · cases h
      · rename_i s hv
        split at h
        · rename_i hu
          have h0 := of_decide_eq_true (need_iff.1 h).1
          replace h := (need_iff.1 h).2
          split at h
          · rename_i b hb
            refine fin (s := fun e => Instr.index t (e x) (e i)) h (fun e => rfl) (fun ρ e hx w => ?_)
            have hxv := hx x (by simp [Op.operands]) _ hv
            have hxi := hx i (by simp [Op.operands]) _ hi
            generalize hex : e x = ex at hxv
            generalize hei : e i = ei at hxi
            cases hxi
            cases hxv
            rw [nth_eq] at hb
            have hb' : s[n.toNat]? = some b := by
              have hlt := (List.getElem?_eq_some_iff.1 hb).1
              have hv' := (List.getElem?_eq_some_iff.1 hb).2
              have hlt' : n.toNat < s.size := by
                rw [Array.length_toList] at hlt
                exact hlt
              rw [getElem?_pos s n.toNat hlt']
              exact congrArg some hv'
            exact ⟨.int .u8 b.toNat, by simp [Instr.index, asIntOf, run_underlying' hu, h0, hb'], .int _ _⟩
          · cases h
        · cases h
      · cases h
    · cases h
  · -- extract
    rename_i x i
    split at h
    · rename_i l hv
      split at h
      · rename_i v hl
        refine fin (s := fun e => Instr.extract (e x) i) h (fun e => rfl) (fun ρ e hx w => ?_)
        have hxv := hx x (by simp [Op.operands]) _ hv
        generalize hex : e x = ex at hxv
        cases hxv with
        | tup _ xs h1 h2 =>
          rw [nth_eq] at hl
          obtain ⟨u, hu, hr⟩ := VRL.get (ρ := ρ) ⟨h1, h2⟩ hl
          have hu' : xs.toArray[i]? = some u := by simpa using hu
          exact ⟨u, by simp only [Instr.extract, hu']; rfl, hr⟩
      · cases h
    · cases h
  · -- makeInterface
    rename_i t x
    split at h
    · rename_i v hv
      split at h
      · cases h
      · rename_i d hd hu
        refine fin (s := fun e => Instr.makeInterface t (e x)) h (fun e => rfl) (fun ρ e hx w => ?_)
        have hxv := hx x (by simp [Op.operands]) _ hv
        refine ⟨.iface t (e x), ?_, .iface t _ _ hxv⟩
        simp only [Instr.makeInterface, Sem.run_bind, run_underlying' hu, Result.andThen_ok]
        cases d <;> first | rfl | (exact absurd hu (hd _))
      · cases h
    · cases h
  · -- call
    rename_i c
    obtain ⟨callee, args, argTypes⟩ := c
    simp only at h
    have hops : ∀ {ρ : Ren} {e : Operand → Value} {b : Builtin}, (∀ x ∈ (Op.call ⟨.builtin b, args, argTypes⟩).operands.toList, OpsRel ρ T e x) → ∀ x ∈ args.toList, OpsRel ρ T e x := by
      intro ρ e b hx x hxa
      exact hx x (by simp [Op.operands, Call.operands]; simpa using hxa)
    split at h
    · -- len
      split at h
      · rename_i t ht
        split at h
        · rename_i x hx1
          have run : ∀ (e : Operand → Value) (u : Value), args.toList.map e = [u] → ∀ w, (execOp e ⟨dst, .call ⟨.builtin .len, args, argTypes⟩, type, pos, after, guard⟩).run P w =
              ((Builtin.len_ argTypes type (args.map e)).run P w).andThen fun u w => .ok (.value u) w := by
            intro e u _ w
            simp [execOp, resolve, invoke, builtin]
          have arg : ∀ (ρ : Ren) (e : Operand → Value), (∀ x ∈ args.toList, OpsRel ρ T e x) → ∃ u, args.toList.map e = [u] ∧ (args.map e)[0]? = some u ∧ VR ρ x u := by
            intro ρ e hx
            have := evs_VRL (ρ := ρ) (e := e) args.toList [x] hx hx1
            obtain ⟨u, us, h1, h2, h3⟩ := this.of_cons
            rw [h3.of_nil] at h1
            refine ⟨u, h1, ?_, h2⟩
            have : (args.map e).toList[0]? = some u := by rw [Array.toList_map, h1]; rfl
            simpa using this
          split at h
          · rename_i hu
            split at h
            · refine ⟨_, h, fun ρ e hx w => ?_⟩
              obtain ⟨u, h1, h2, h3⟩ := arg ρ e (hops hx)
              cases h3
              exact ⟨_, by rw [run e _ h1]; simp [Builtin.len_, ht, h2, run_underlying' hu, goInt], .int _ _⟩
            · cases h
          · rename_i hu
            split at h
            · refine ⟨_, h, fun ρ e hx w => ?_⟩
              obtain ⟨u, h1, h2, h3⟩ := arg ρ e (hops hx)
              cases h3
              exact ⟨_, by rw [run e _ h1]; simp [Builtin.len_, ht, h2, run_underlying' hu, goInt], .int _ _⟩
            · refine ⟨_, h, fun ρ e hx w => ?_⟩
              obtain ⟨u, h1, h2, h3⟩ := arg ρ e (hops hx)
              cases h3 <;> exact ⟨_, by rw [run e _ h1]; simp [Builtin.len_, ht, h2, run_underlying' hu, goInt], .int _ _⟩
            · refine ⟨_, h, fun ρ e hx w => ?_⟩
              obtain ⟨u, h1, h2, h3⟩ := arg ρ e (hops hx)
              cases h3
              exact ⟨_, by rw [run e _ h1]; simp [Builtin.len_, ht, h2, run_underlying' hu, goInt], .int _ _⟩
            · cases h
          · rename_i n el hu
            refine ⟨_, h, fun ρ e hx w => ?_⟩
            obtain ⟨u, h1, h2, h3⟩ := arg ρ e (hops hx)
            refine ⟨.int .i64 n, ?_, .int _ _⟩
            rw [run e _ h1]
            simp only [Builtin.len_, ht, h2, Sem.run_bind, run_underlying' hu, Result.andThen_ok]
            cases u <;> rfl
          · cases h
        · cases h
      · cases h
    · -- min
      split at h
      · rename_i v r hx1
        split at h
        · rename_i x hm
          refine ⟨_, h, fun ρ e hx w => ?_⟩
          obtain ⟨u, us, h1, h2, h3⟩ := (evs_VRL (ρ := ρ) (e := e) args.toList (v :: r) (hops hx) hx1).of_cons
          obtain ⟨y, hy1, hy2⟩ := minmax_sound (P := P) r v x us u hm h2 h3 w
          refine ⟨y, ?_, hy2⟩
          simp only [Bool.false_eq_true, if_false] at hy1
          simp [execOp, resolve, invoke, builtin, Builtin.min_, h1, hy1]
        · cases h
      · cases h
    · -- max
      split at h
      · rename_i v r hx1
        split at h
        · rename_i x hm
          refine ⟨_, h, fun ρ e hx w => ?_⟩
          obtain ⟨u, us, h1, h2, h3⟩ := (evs_VRL (ρ := ρ) (e := e) args.toList (v :: r) (hops hx) hx1).of_cons
          obtain ⟨y, hy1, hy2⟩ := minmax_sound (P := P) r v x us u hm h2 h3 w
          refine ⟨y, ?_, hy2⟩
          simp only [if_true] at hy1
          simp [execOp, resolve, invoke, builtin, Builtin.max_, h1, hy1]
        · cases h
      · cases h
    · cases h
  · cases h
end Go.X
