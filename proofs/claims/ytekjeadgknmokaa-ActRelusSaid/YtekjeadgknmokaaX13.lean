import Derived.Test.YtekjeadgknmokaaX12
import Derived.LoopN
/- Code, and calls. -/
set_option linter.unusedVariables false
set_option linter.unusedSimpArgs false
namespace Go.X
open Go

theorem comp_sound {fc : Bool} {nt : Nat} {T : Nat → AV} {k : (Nat → AV) → Prop} (h : comp fc nt T k) : ∃ T', k T' ∧ ∀ t, (t < nt → T' t = T t) ∧ (nt ≤ t → T' t = T t ∨ T' t = AV.undef) := by
  unfold comp at h
  cases fc with
  | false => exact ⟨T, h, fun t => ⟨fun _ => rfl, fun _ => .inl rfl⟩⟩
  | true =>
    simp only [cond_true, compL_eq] at h
    refine ⟨_, h, fun t => ⟨fun ht => ?_, fun ht => ?_⟩⟩
    · simp only [nth_eq, List.append_nil]
      rw [List.getElem?_map, List.getElem?_range ht]
      rfl
    · right
      simp only [nth_eq, List.append_nil]
      rw [List.getElem?_eq_none (by simpa using ht)]

theorem SR.comp {P : Program} {nt : Nat} {ρ : Ren} {T T' : Nat → AV} {H : HP} {a : Act} {w : World} (h : SR P nt ρ T H a w) (hT : ∀ t, (t < nt → T' t = T t) ∧ (nt ≤ t → T' t = T t ∨ T' t = AV.undef)) : SR P nt ρ T' H a w := by
  refine ⟨fun t => ?_, h.size, h.defers, h.heap⟩
  by_cases ht : t < nt
  · rw [(hT t).1 ht]; exact h.tmps t
  · rcases (hT t).2 (by omega) with e | e
    · rw [e]; exact h.tmps t
    · rw [e]
      have : a.tmps.getD t undef = undef := by simp [Array.getD_eq_getD_getElem?, Array.getElem?_eq_none (by rw [h.size]; omega : a.tmps.size ≤ t)]
      rw [this]
      exact undef_VR ρ

/-- What is shown of a piece of code. -/
def CodeOk (P : Program) (nt base : Nat) (c : Code) (f : (Nat → AV) → HP → Bool → Kont → Prop) : Prop :=
  ∀ (T : Nat → AV) (H : HP) (d : Bool) (K : Kont) (ρ : Ren) (a : Act) (w : World) (Q : Exit → Act → World → Prop), f T H d K → SR P nt ρ T H a w → base ≤ H.n →
    (∀ e T' H' d' ρ' a' w', K e T' H' d' → SR P nt ρ' T' H' a' w' → Step P ρ H w ρ' H' w' → (∀ H0, CL base H0 d H → CL base H0 d' H') → Q e a' w') → c.wp P Q a w

theorem loop_sound {P : Program} {fc : Bool} {nt base : Nat} {c : Code} {body : (Nat → AV) → HP → Bool → Kont → Prop} (hb : CodeOk P nt base c body) :
    ∀ (n : Nat) (T : Nat → AV) (H : HP) (d : Bool) (K : Kont) (ρ : Ren) (a : Act) (w : World) (Q : Exit → Act → World → Prop), loopA fc nt body n T H d K → SR P nt ρ T H a w → base ≤ H.n →
    (∀ e T' H' d' ρ' a' w', K e T' H' d' → SR P nt ρ' T' H' a' w' → Step P ρ H w ρ' H' w' → (∀ H0, CL base H0 d H → CL base H0 d' H') → Q e a' w') → Code.rounds P c Q n a w
  | 0, T, H, d, K, ρ, a, w, Q, h, hs, hbn, hq => h.elim
  | n + 1, T, H, d, K, ρ, a, w, Q, h, hs, hbn, hq => by
    rw [rounds_succ]
    obtain ⟨T1, h1, hT1⟩ := comp_sound (show comp fc nt T _ from h)
    refine hb T1 H d _ ρ a w _ h1 (hs.comp hT1) hbn ?_
    intro e T' H' d' ρ' a' w' hK hs' hst hcl
    cases e with
    | normal => exact loop_sound hb n T' H' d' K ρ' a' w' Q hK hs' (Nat.le_trans hbn hst.n) fun e T'' H'' d'' ρ'' a'' w'' k1 k2 k3 k4 => hq e T'' H'' d'' ρ'' a'' w'' k1 k2 (hst.trans k3) fun H0 h0 => k4 H0 (hcl H0 h0)
    | exit id => exact hq _ _ _ _ _ _ _ hK hs' hst hcl
    | goto l => exact hq _ _ _ _ _ _ _ hK hs' hst hcl
    | ret => exact hq _ _ _ _ _ _ _ hK hs' hst hcl
    | panic ch => exact hK.elim
    | outgrown => exact hK.elim

theorem code_sound {P : Program} {call : Call} (hcall : CallOk P call) (hng : NoNumG P) (hmix : P.follows .mixedOrders = true) {fc : Bool} {lf nt base : Nat} (c : Code) : CodeOk P nt base c (codeA P call fc lf nt base c) := by
  induction c with
  | skip => intro T H d K ρ a w Q h hs hbn hq; exact wp_skip (hq _ _ _ _ _ _ _ h hs (.refl hs.heap) fun _ h => h)
  | region id ops draw =>
    intro T H d K ρ a w Q h hs hbn hq
    unfold codeA at h
    cases draw with
    | false =>
      exact wp_region_list (ops_sound hcall hng ops.toList T H d ρ a w h hs hbn fun T' H' d' ρ' a' w' k1 k2 k3 k4 => hq _ _ _ _ _ _ _ k1 k2 k3 k4)
    | true =>
      refine wp_region_any hmix ?_
      exact draw_sound hcall hng h ⟨hs.tmps, hs.size, hs.defers, hs.heap.drew⟩ hbn fun T' H' d' ρ' a' w' k1 k2 k3 k4 => hq _ _ _ _ _ _ _ k1 k2 ((Step.refl hs.heap).drew.trans k3) k4
  | seq x y ihx ihy =>
    intro T H d K ρ a w Q h hs hbn hq
    refine wp_seq (ihx T H d _ ρ a w _ h hs hbn ?_)
    intro e T' H' d' ρ' a' w' hK hs' hst hcl
    cases e with
    | normal => exact ihy T' H' d' K ρ' a' w' Q hK hs' (Nat.le_trans hbn hst.n) fun e T'' H'' d'' ρ'' a'' w'' k1 k2 k3 k4 => hq e T'' H'' d'' ρ'' a'' w'' k1 k2 (hst.trans k3) fun H0 h0 => k4 H0 (hcl H0 h0)
    | exit id => exact hq _ _ _ _ _ _ _ hK hs' hst hcl
    | goto l => exact hq _ _ _ _ _ _ _ hK hs' hst hcl
    | ret => exact hq _ _ _ _ _ _ _ hK hs' hst hcl
    | panic ch => exact hK.elim
    | outgrown => exact hK.elim
  | cond c x y ihx ihy =>
    intro T H d K ρ a w Q h hs hbn hq
    unfold codeA at h
    split at h
    · rename_i t hc
      have hv := ev_VR (a := a) (x := c) (T := T) (ρ := ρ) (fun t _ => hs.tmps t) _ hc
      generalize hec : a.eval c = ec at hv
      cases hv
      refine wp_cond hec ?_
      cases t with
      | true => exact ihx T H d K ρ a w Q h hs hbn hq
      | false => exact ihy T H d K ρ a w Q h hs hbn hq
    · cases h
  | block id c ih =>
    intro T H d K ρ a w Q h hs hbn hq
    refine wp_block (ih T H d _ ρ a w _ h hs hbn ?_)
    intro e T' H' d' ρ' a' w' hK hs' hst hcl
    cases e with
    | normal => exact hq _ _ _ _ _ _ _ hK hs' hst hcl
    | exit id' =>
      unfold Exit.inBlock
      simp only
      cases hq' : Nat.beq id' id with
      | true =>
        have := beq_iff.1 hq'
        simp only [hq', cond_true] at hK
        rw [if_pos this]
        exact hq _ _ _ _ _ _ _ hK hs' hst hcl
      | false =>
        simp only [hq', cond_false] at hK
        rw [if_neg (fun e => by rw [beq_iff.2 e] at hq'; cases hq')]
        exact hq _ _ _ _ _ _ _ hK hs' hst hcl
    | goto l => exact hq _ _ _ _ _ _ _ hK hs' hst hcl
    | ret => exact hq _ _ _ _ _ _ _ hK hs' hst hcl
    | panic ch => exact hK.elim
    | outgrown => exact hK.elim
  | loop c ih =>
    intro T H d K ρ a w Q h hs hbn hq
    exact wp_loop_rounds lf (loop_sound (fc := fc) ih lf T H d K ρ a w Q h hs hbn hq)
  | rangeFunc f params assign body ih1 ih2 => intro T H d K ρ a w Q h; exact h.elim
  | exit id => intro T H d K ρ a w Q h hs hbn hq; exact wp_exit (hq _ _ _ _ _ _ _ h hs (.refl hs.heap) fun _ h => h)
  | scope c ih => intro T H d K ρ a w Q h; exact h.elim
  | label l => intro T H d K ρ a w Q h hs hbn hq; exact wp_label (hq _ _ _ _ _ _ _ h hs (.refl hs.heap) fun _ h => h)
  | goto l => intro T H d K ρ a w Q h; exact h.elim
  | ret => intro T H d K ρ a w Q h hs hbn hq; exact wp_ret (hq _ _ _ _ _ _ _ h hs (.refl hs.heap) fun _ h => h)
  | refuse why => intro T H d K ρ a w Q h; exact h.elim

/-- Results. -/
theorem res_sound {P : Program} {T : Nat → AV} {H : HP} {ρ : Ren} {a : Act} {w : World} (hT : ∀ t, VR ρ (T t) (a.tmps.getD t undef)) (hH : HR P ρ H w) :
    ∀ (rs : List ResultVar) (K : List AV → Prop), resA P T H rs K → ∃ l us, K l ∧ VRL ρ l us ∧
      (rs.mapM (fun r => match r with | .tmp t => pure (a.tmps.getD t undef) | .cell x t => do loadVar t (← asAddr (a.tmps.getD x undef))) : Sem (List Value)).run P w = .ok us w
  | [], K, h => ⟨[], [], h, .nil, rfl⟩
  | .tmp t :: r, K, h => by
    obtain ⟨l, us, h1, h2, h3⟩ := res_sound hT hH r _ h
    exact ⟨_, _, h1, VRL.cons (hT t) h2, by rw [List.mapM_cons]; simp only [Sem.run_bind, Sem.run_pure, Result.andThen_ok, h3]⟩
  | .cell x t :: r, K, h => by
    unfold resA at h
    obtain ⟨v, hK, hv⟩ := read_sound (o := ⟨none, .load t (.tmp x), 0, "", #[], none⟩) h
    obtain ⟨l, us, h1, h2, h3⟩ := res_sound hT hH r _ hK
    obtain ⟨u, k1, k2⟩ := hv ρ a.eval w (fun y hy => ev_VR fun t' ht' => hT t') hH
    refine ⟨_, _, h1, VRL.cons k2 h2, ?_⟩
    have hld : (do loadVar t (← asAddr (a.tmps.getD x undef)) : Sem Value).run P w = .ok u w := by
      have k1' : ((Instr.loadAt t (a.eval (.tmp x))).run P w).andThen (fun u w => .ok (Next.value u) w) = .ok (.value u) w := by
        simpa [execOp] using k1
      have e : a.eval (.tmp x) = a.tmps.getD x undef := rfl
      rw [e] at k1'
      cases hx : a.tmps.getD x undef with
      | pointer p =>
        cases p with
        | none => rw [hx] at k1'; simp [Instr.loadAt, Instr.sureAddr] at k1'
        | some q =>
          rw [hx] at k1'
          simp only [Instr.loadAt, Instr.sureAddr, Sem.run_bind, Sem.run_pure, Result.andThen_ok, asAddr] at k1' ⊢
          cases hl : (loadVar t q).run P w with
          | ok u' w' => rw [hl] at k1'; simp at k1'; obtain ⟨rfl, rfl⟩ := k1'; rfl
          | halt hh w' => rw [hl] at k1'; simp at k1'
      | _ => rw [hx] at k1'; simp [Instr.loadAt, Instr.sureAddr] at k1'
    rw [List.mapM_cons]
    simp only [Sem.run_bind, hld, Result.andThen_ok, h3, Sem.run_pure]

def oneV : List Value → Value
  | [x] => x
  | l => .tuple l.toArray
theorem results_eq {P : Program} (fn : Func) (a : Act) (w : World) (us : List Value)
    (h : (fn.results.toList.mapM (fun r => match r with | .tmp t => pure (a.tmps.getD t undef) | .cell x t => do loadVar t (← asAddr (a.tmps.getD x undef))) : Sem (List Value)).run P w = .ok us w) :
    (results fn a.tmps).run P w = .ok (oneV us) w := by
  have hm : (fn.results.mapM (fun r => match r with | .tmp t => pure (a.tmps.getD t undef) | .cell x t => do loadVar t (← asAddr (a.tmps.getD x undef))) : Sem (Array Value)).run P w = .ok us.toArray w := by
    rw [← Array.toArray_toList (xs := fn.results), List.mapM_toArray]
    simp only [Sem.run_map, h, Result.andThen_ok]
  unfold results
  rw [Sem.run_bind]
  refine (congrArg (fun x => Result.andThen x _) hm).trans ?_
  simp only [Result.andThen_ok, Sem.run_pure]
  congr 1
  match us with
  | [] => rfl
  | [x] => rfl
  | x :: y :: r => rfl

theorem fin_sound {P : Program} {fc : Bool} {base : Nat} {fn : Func} {T : Nat → AV} {H : HP} {d : Bool} {K : AV → HP → Bool → Prop} (h : finA P fc base fn T H d K) {nt : Nat} {ρ0 ρ : Ren} {H0 : HP} {a : Act} {w0 w : World}
    (hs : SR P nt ρ T H a w) (h0 : HR P ρ0 H0 w0) (hst : Step P ρ0 H0 w0 ρ H w) (hbase : base = H0.n) (hcl : CL base H0 d H) :
    ∃ u, (results fn a.tmps).run P w = .ok u w ∧ CallEnd P ρ0 H0 w0 H0.n K (.returned u) w := by
  unfold finA at h
  obtain ⟨l, us, hK, hrel, hrun⟩ := res_sound hs.tmps hs.heap _ _ h
  simp only [fzV_eq, fzSp_eq] at hK
  have hres := results_eq fn a w us hrun
  have hv : VR ρ (oneA l) (oneV us) := by
    have hlen := hrel.1
    match l, us, hrel, hlen with
    | [], [], hr, _ => exact .tup _ _ hr.1 hr.2
    | [x], [y], hr, _ => exact hr.2 0 x y rfl rfl
    | x :: x' :: r, y :: y' :: s, hr, _ => exact .tup _ _ hr.1 hr.2
    | [], _ :: _, _, h => simp at h
    | _ :: _, [], _, h => simp at h
    | [_], _ :: _ :: _, _, h => simp at h
    | _ :: _ :: _, [_], _, h => simp at h
  refine ⟨_, hres, ?_⟩
  generalize oneA l = v at hv hK
  generalize oneV us = u at hv hres ⊢
  cases hd : cond d false v.plain with
  | false =>
    rw [hd] at hK
    exact ⟨v, H, d, u, ρ, rfl, hK, hv, hst, by rw [← hbase]; exact hcl⟩
  | true =>
    rw [hd] at hK
    have hd' : d = false ∧ v.plain = true := by cases d <;> simp_all
    obtain ⟨hdf, hvp⟩ := hd'
    -- what the call made is forgotten
    have hclean := hcl hdf base (Nat.le_refl _) (by rw [hbase]; exact h0.clean)
    have hbn : base ≤ H.n := by rw [hbase]; exact hst.n
    have hget := HP.get_trim hs.heap.len hbn
    let ρ' : Ren := fun i => if i < base then ρ i else none
    have hx : ∀ i r, ρ' i = some r → ρ i = some r := fun i r hi => by
      simp only [ρ'] at hi
      split at hi
      · exact hi
      · cases hi
    refine ⟨v, H.trim base, false, u, ρ', rfl, hK, hv.plain hvp ρ', ⟨?_, ?_, ⟨?_, ?_, ?_, ?_, fun i r hi => hs.heap.rng i r (hx i r hi)⟩, hst.fr, ?_, ?_⟩, ?_⟩
    · intro i r hi
      have : i < base := by rw [hbase]; exact h0.dom i r hi
      simp only [ρ', if_pos this]
      exact hst.ext i r hi
    · show H0.n ≤ base; omega
    · show (dropR H.l (H.n - base)).length = base
      rw [dropR_eq, List.length_drop, hs.heap.len]; omega
    · intro i r hi
      simp only [ρ'] at hi
      split at hi
      · assumption
      · cases hi
    · intro i blk hi
      rw [hget] at hi
      split at hi
      · rename_i hib
        cases blk with
        | dead => trivial
        | row m e cells =>
          obtain ⟨r, row, te, fz, b1, b2, b3, b4, b5⟩ := hs.heap.blk i _ hi
          refine ⟨r, row, te, fz, by simp only [ρ', if_pos hib]; exact b1, b2, fun k c hk => ?_, b4, b5⟩
          obtain ⟨u, hu, hvr⟩ := b3 k c hk
          exact ⟨u, hu, hclean i m e cells hib hi c (List.mem_of_getElem? hk) ρ u hvr⟩
      · cases hi
    · intro i j mi ei ci mj ej cj ri rj hne hi hj hm hri hrj
      rw [hget] at hi hj
      split at hi
      · split at hj
        · exact hs.heap.sep i j _ _ _ _ _ _ _ _ hne hi hj hm (hx _ _ hri) (hx _ _ hrj)
        · cases hj
      · cases hi
    · rintro g ⟨i, m, e, c, r, hi, hm, hr, rfl⟩
      rw [hget] at hi
      split at hi
      · exact hst.wr _ ⟨i, m, e, c, r, hi, hm, hx _ _ hr, rfl⟩
      · cases hi
    · intro i r hi
      exact hst.img i r (hx i r hi)
    · intro _ m hm hc i md e cells hi hg c hcc
      rw [hget] at hg
      split at hg
      · exact (hcl hdf m (by omega) hc) i md e cells hi hg c hcc
      · cases hg

/-- A call by its body. -/
theorem body_sound {P : Program} {call : Call} (hcall : CallOk P call) (hng : NoNumG P) (hmix : P.follows .mixedOrders = true) {fc : Bool} {lf : Nat} {f : FuncId} {fn : Func} {c : Code} {args : List AV} {H : HP} {K : AV → HP → Bool → Prop}
    (hfn : P.funcs[f]? = some fn) (hc : fn.body = some c) (hsz : args.length ≤ fn.ntmps)
    (h : codeA P call fc lf fn.ntmps H.n c (argsT args) H false fun e T' H' d => match e with
      | .normal => finA P fc H.n fn T' H' d K
      | .ret => finA P fc H.n fn T' H' d K
      | _ => False) : ∀ ρ w us, HR P ρ H w → VRL ρ args us → Calls P f us.toArray w (CallEnd P ρ H w H.n K) := by
  intro ρ w us hH hus
  refine calls_of_wp hfn hc ?_
  refine code_sound hcall hng hmix c (argsT args) H false _ ρ _ w _ h ⟨?_, ?_, rfl, hH⟩ (Nat.le_refl _) ?_
  · intro t
    unfold argsT
    rw [nth_eq]
    by_cases ht : t < us.length
    · obtain ⟨x, hx⟩ : ∃ x, args[t]? = some x := ⟨_, List.getElem?_eq_getElem (by rw [hus.1]; exact ht)⟩
      rw [hx]
      have e : (us.toArray ++ Array.replicate (fn.ntmps - us.toArray.size) undef).getD t undef = us[t] := by
        rw [Array.getD_eq_getD_getElem?, Array.getElem?_append_left (by simpa using ht)]
        simp [ht]
      simp only
      rw [e]
      exact hus.2 t x _ hx (List.getElem?_eq_getElem ht)
    · have hx : args[t]? = none := List.getElem?_eq_none (by rw [hus.1]; omega)
      rw [hx]
      have e : (us.toArray ++ Array.replicate (fn.ntmps - us.toArray.size) undef).getD t undef = undef := by
        rw [Array.getD_eq_getD_getElem?, Array.getElem?_append_right (by simp; omega), Array.getElem?_replicate]
        split <;> rfl
      simp only
      rw [e]
      exact undef_VR ρ
  · simp [hus.1.symm]; omega
  · intro e T' H' d' ρ' a' w' hK hs hst hcl
    have fin : finA P fc H.n fn T' H' d' K → a'.defers = [] ∧ ∃ v, (results fn a'.tmps).run P w' = .ok v w' ∧ CallEnd P ρ H w H.n K (.returned v) w' := by
      intro hf
      obtain ⟨u, h1, h2⟩ := fin_sound hf hs hH hst rfl (hcl H .refl)
      exact ⟨hs.defers, u, h1, h2⟩
    cases e with
    | normal => exact fin hK
    | ret => exact fin hK
    | exit id => exact hK.elim
    | goto l => exact hK.elim
    | panic ch => exact hK.elim
    | outgrown => exact hK.elim

theorem call_sound {P : Program} (hng : NoNumG P) (hmix : P.follows .mixedOrders = true) {fc : Bool} {lf : Nat} : ∀ n, CallOk P (callA P fc lf n)
  | 0 => fun f args H K h => h.elim
  | n + 1 => by
    intro f args H K h
    unfold callA at h
    split at h
    · rename_i fn hfn
      split at h
      · rename_i c hc
        have hsz := ble_iff.1 (need_iff.1 h).1
        replace h := (need_iff.1 h).2
        rw [lenR_eq] at hsz
        exact ⟨⟨fn, hfn, by rw [hc]; rfl⟩, body_sound (call_sound hng hmix n) hng hmix hfn hc hsz h⟩
      · cases h
    · cases h
end Go.X
