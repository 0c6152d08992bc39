import Derived.Test.YtekjeadgknmokaaX9
import Derived.Laws.Rows
/- Operations that write or make memory, and calls. -/
set_option linter.unusedVariables false
set_option linter.unusedSimpArgs false
namespace Go.X
open Go

/-- What a call comes to. -/
def CallEnd (P : Program) (ρ : Ren) (H : HP) (w : World) (base : Nat) (K : AV → HP → Bool → Prop) (en : Ending) (w' : World) : Prop :=
  ∃ v H' d u ρ', en = .returned u ∧ K v H' d ∧ VR ρ' v u ∧ Step P ρ H w ρ' H' w' ∧ CL base H d H'
def CallOk (P : Program) (call : Call) : Prop := ∀ f args H K, call f args H K → (∃ fn, P.funcs[f]? = some fn ∧ fn.body.isSome = true) ∧
  ∀ ρ w us, HR P ρ H w → VRL ρ args us → Calls P f us.toArray w (CallEnd P ρ H w H.n K)
/-- No function that has a body is the one that counts goroutines. -/
def NoNumG (P : Program) : Prop := ∀ (f : Nat) (fn : Func), P.funcs[f]? = some fn → fn.body.isSome = true → (fn.name == "runtime.NumGoroutine") = false

theorem box_step {P : Program} {ρ : Ren} {H : HP} {w : World} (hH : HR P ρ H w) {base : Nat} (hb : base ≤ H.n) (e : TypeId) {a : AV} {v : Value} (h : VR ρ a v) :
    ∃ ρ', VR ρ' (.ptr H.n 0) (.pointer (some ⟨w.heap.size, 0, none⟩)) ∧ Step P ρ H w ρ' (H.push (.row .own e a.cells)) (w.alloc (.cells v.cells e)) ∧ CL base H false (H.push (.row .own e a.cells)) := by
  obtain ⟨ρ', h1, h2⟩ := hH.alloc .own e e a.cells v.cells 0 (0, 0) (VRL.alloc h.cells) (fun o _ => by simp) (fun h => by cases h)
  exact ⟨ρ', by simpa using VR.ptr (ρ := ρ') H.n 0 _ h1, h2, CL.push hH.len hb _⟩

theorem row_step {P : Program} {ρ : Ren} {H : HP} {w : World} (hH : HR P ρ H w) {base : Nat} (hb : base ≤ H.n) (e : TypeId) {c : List AV} {xs : Array Value} (h : VRL ρ c xs.toList) (len cap : Nat) :
    ∃ ρ', VR ρ' (.sl H.n 0 len cap) (.slice (some ⟨w.heap.size, 0, none⟩) len cap) ∧ Step P ρ H w ρ' (H.push (.row .own e c)) (w.alloc (.cells xs e)) ∧ CL base H false (H.push (.row .own e c)) := by
  obtain ⟨ρ', h1, h2⟩ := hH.alloc .own e e c xs 0 (0, 0) (VRL.alloc h) (fun o _ => by simp) (fun h => by cases h)
  exact ⟨ρ', by simpa using VR.sl (ρ := ρ') H.n 0 len cap _ h1, h2, CL.push hH.len hb _⟩

theorem freeze_new (w : World) (row : Array Value) (e : TypeId) : (w.alloc (.cells row e)).freeze ⟨w.heap.size, row.size, none⟩ 1 = w.alloc (.cells row e (row.size, row.size + 1)) := by
  unfold World.freeze
  rw [if_neg (by omega)]
  show ({ w with heap := (w.heap.push (.cells row e)).modify w.heap.size _ } : World) = { w with heap := w.heap.push _ }
  congr 1
  apply Array.ext
  · simp
  · intro i h1 h2
    rw [Array.getElem_modify]
    by_cases hi : w.heap.size = i
    · subst hi
      simp
    · rw [if_neg hi]
      have : i < w.heap.size := by simp at h1; omega
      simp [Array.getElem_push, this]

theorem loud_sound {P : Program} {call : Call} (hcall : CallOk P call) (hng : NoNumG P) {fc : Bool} {base : Nat} {o : Oper} {T : Nat → AV} {H : HP} {K : AV → HP → Bool → Prop} (h : loudA P call fc base o.op T H K)
    {ρ : Ren} {e : Operand → Value} {w : World} (hx : ∀ x ∈ o.op.operands.toList, OpsRel ρ T e x) (hH : HR P ρ H w) (hb : base ≤ H.n) :
    (∃ v H' d u ρ' w', K v H' d ∧ ((execOp e o).run P w = .ok (.value u) w' ∨ ((execOp e o).run P w = .ok .skip w' ∧ u = undef)) ∧ VR ρ' v u ∧ Step P ρ H w ρ' H' w' ∧ CL base H d H') ∨
    (∃ g us, (execOp e o).run P w = .ok (.enter g us) w ∧ Calls P g us w (CallEnd P ρ H w base K)) := by
  obtain ⟨dst, op, type, pos, after, guard⟩ := o
  simp only at h hx ⊢
  unfold loudA at h
  split at h
  · -- alloc
    rename_i el
    split at h
    · rename_i z hz
      obtain ⟨v, hv1, hv2⟩ := zeroOf_sound hz
      obtain ⟨ρ', s1, s2, s3⟩ := box_step hH hb el (hv2 ρ)
      exact .inl ⟨_, _, _, _, ρ', _, h, .inl (by simp [execOp, Instr.alloc, hv1, newVar, newRow]), s1, s2, s3⟩
    · cases h
  · -- box
    rename_i el x
    split at h
    · rename_i v hv
      obtain ⟨ρ', s1, s2, s3⟩ := box_step hH hb el (hx x (by simp [Op.operands]) v hv)
      exact .inl ⟨_, _, _, _, ρ', _, h, .inl (by simp [execOp, Instr.box, newVar, newRow]), s1, s2, s3⟩
    · cases h
  · -- buildSlice
    rename_i t len parts
    split at h
    · rename_i el s he
      obtain ⟨hu, hs⟩ := elemA_sound he
      split at h
      · rename_i ps hps
        split at h
        · rename_i z hz
          have h24 := ble_iff.1 (need_iff.1 h).1
          replace h := (need_iff.1 h).2
          have hzl := beq_iff.1 (need_iff.1 h).1
          replace h := (need_iff.1 h).2
          rw [lenR_eq] at hzl
          split at h
          · rename_i c hc
            rw [fzSp_eq] at h
            obtain ⟨zv, hz1, hz2⟩ := zeroOf_sound hz
            obtain ⟨p1, p2⟩ := evParts_sound (ρ := ρ) (e := e) parts.toList ps (fun x hx' => hx x.2 (by simp [Op.operands]; exact ⟨x.1, by simpa using hx'⟩)) hps
            have hmap : (parts.map fun (p : Nat × Operand) => (p.1, e p.2)).toList = parts.toList.map fun p => (p.1, e p.2) := by simp
            by_cases h0 : len * s = 0
            · obtain ⟨ys, q1, q2, q3⟩ := sets_sound (ρ := ρ) ps _ (repl len z.cells) c ((Array.range (len * s)).map fun i => (#[] : Array Value)[i % (#[] : Array Value).size]!) p1 p2 (zeros_VRL (hz2 ρ) len s hzl #[] (.inl h0)) hc
              obtain ⟨ρ', s1, s2, s3⟩ := row_step hH hb el q2 len len
              refine .inl ⟨_, _, _, _, ρ', _, h, .inl ?_, s1, s2, s3⟩
              simp only [execOp, Instr.buildSlice, Sem.run_bind, run_underlying' hu, run_sizeOf' hs, Result.andThen_ok]
              rw [if_neg (by omega)]
              simp only [h0, if_true, Sem.run_pure, Sem.run_bind, Result.andThen_ok, hmap]
              rw [h0] at q1
              simp only [q1]
              simp [newRow]
            · obtain ⟨ys, q1, q2, q3⟩ := sets_sound (ρ := ρ) ps _ (repl len z.cells) c ((Array.range (len * s)).map fun i => zv.cells[i % zv.cells.size]!) p1 p2 (zeros_VRL (hz2 ρ) len s hzl zv.cells (.inr rfl)) hc
              obtain ⟨ρ', s1, s2, s3⟩ := row_step hH hb el q2 len len
              refine .inl ⟨_, _, _, _, ρ', _, h, .inl ?_, s1, s2, s3⟩
              simp only [execOp, Instr.buildSlice, Sem.run_bind, run_underlying' hu, run_sizeOf' hs, Result.andThen_ok]
              rw [if_neg (by omega)]
              simp only [h0, if_false, Sem.run_pure, Sem.run_bind, Result.andThen_ok, hmap, hz1]
              simp only [q1]
              simp [newRow]
          · cases h
        · cases h
      · cases h
    · cases h
  · -- store
    rename_i t a x
    split at h
    · rename_i b o' ha
      split at h
      · rename_i v hv
        split at h
        · rename_i n hn
          have hvl := beq_iff.1 (need_iff.1 h).1
          replace h := (need_iff.1 h).2
          rw [lenR_eq] at hvl
          obtain ⟨H', hK, hn', hcl, hw⟩ := wr_sound (P := P) h
          have hva := hx x (by simp [Op.operands]) v hv
          obtain ⟨r, w', hr, hst, hstep⟩ := hw ρ w _ hH hva.cells
          have haa := hx a (by simp [Op.operands]) _ ha
          generalize hea : e a = ea at haa
          cases haa with
          | ptr _ _ r' hr' =>
            rw [hr] at hr'; cases hr'
            have hsz : (e x).cells.size = n := by rw [← hvl, hva.cells.1]; simp
            refine .inl ⟨_, _, _, undef, ρ, w', hK, .inr ⟨?_, rfl⟩, undef_VR ρ, hstep, hcl base hb hH.len⟩
            simp [execOp, Instr.storeAt, hea, Instr.sureAddr, storeVar, run_sizeOf' hn, hsz, hst]
        · cases h
      · cases h
    · cases h
  · -- convert
    rename_i src dst' x
    split at h
    · cases h
    · rename_i sd hsd
      split at h
      · rename_i s hs
        split at h
        · rename_i el hu
          split at h
          · rename_i hue
            split at h
            · rename_i hse
              have hxx := hx x (by simp [Op.operands]) _ hs
              generalize hex : e x = ex at hxx
              cases hxx
              let q : Question := .appendCap s.size 0 el
              have hq : ∃ c, s.size ≤ c ∧ q.cut (w.tape w.drawn q) = c := ⟨_, by simp [q, Question.cut], rfl⟩
              obtain ⟨c, hc, hqc⟩ := hq
              let row : Array Value := (s.data.map fun b => Value.int .u8 b.toNat) ++ Array.replicate (c - s.size) (.int .u8 0)
              have hrs : row.size = c := by
                have : s.data.size = s.size := rfl
                simp [row, this]; omega
              have hrow : ∀ (k : Nat) (a : AV), (mapR (fun b : UInt8 => AV.int .u8 b.toNat) s.data.toList)[k]? = some a → ∃ u : Value, row[k]? = some u ∧ VR ρ a u := by
                intro k a hk
                rw [mapR_eq, List.getElem?_map] at hk
                obtain ⟨b, hb', rfl⟩ := Option.map_eq_some_iff.1 hk
                have hlt := (List.getElem?_eq_some_iff.1 hb').1
                refine ⟨.int .u8 b.toNat, ?_, .int _ _⟩
                rw [Array.getElem?_append_left (by simpa using hlt), Array.getElem?_map]
                have : s.data[k]? = some b := by simpa using hb'
                rw [this]; rfl
              obtain ⟨ρ', h1, h2⟩ := hH.drew.alloc .grown el el (mapR (fun b : UInt8 => AV.int .u8 b.toNat) s.data.toList) row c (row.size, row.size + 1) hrow
                (fun o ho => by simp; omega) (fun _ => ⟨by omega, by rw [mapR_eq]; have : s.data.size = s.size := rfl; simp [this]; omega⟩)
              have hstep := (Step.refl hH).drew.trans h2
              refine .inl ⟨_, _, _, _, ρ', _, h, .inl ?_, VR.sg (ρ := ρ') H.n 0 s.size 1 c _ h1 (by simp) hc, hstep, CL.push hH.len hb _⟩
              have hfz := freeze_new w.drew row el
              simp only [World.size_drew] at hfz
              have hconv : (convert src dst' (.string s)).run P w = (Conv.stringToBytes el s).run P w := by
                simp only [convert, Sem.run_bind, run_underlying' hsd, run_underlying' hu, Result.andThen_ok, run_underlying' hue]
              have hrun : (Conv.stringToBytes el s).run P w = .ok (.slice (some ⟨w.heap.size, 0, none⟩) s.size c) (w.drew.alloc (.cells row el (row.size, row.size + 1))) := by
                have hcut : (Question.appendCap s.size 0 el).cut (w.tape w.drawn (Question.appendCap s.size 0 el)) = c := hqc
                simp only [Conv.stringToBytes, Sem.run_bind, run_choose, Question.forced, hcut, Bool.false_eq_true, if_false, Result.andThen_ok, World.drew_eq, newRow, run_newObj, World.alloc_eq, Sem.run_pure]
                have hshape : (w.drew.alloc (.cells row el)).shape? w.drew.heap.size = some (el, row.size) := by
                  have := heap_alloc_new w.drew (.cells row el)
                  unfold World.shape?
                  rw [this]
                show ((markStringish ⟨w.drew.heap.size, 0, none⟩).run P (w.drew.alloc (.cells row el))).andThen _ = _
                simp only [markStringish, Sem.run_bind, run_shape, hshape, Result.andThen_ok, run_freeze]
                show Result.ok _ ((w.drew.alloc (.cells row el)).freeze ⟨w.heap.size, row.size, none⟩ 1) = _
                rw [hfz]
                rfl
              simp [execOp, hex, hconv, hrun]
            · cases h
          · cases h
        · cases h
      · cases h
  · -- makeSlice
    rename_i t l c
    split at h
    · rename_i el s he
      obtain ⟨hu, hs⟩ := elemA_sound he
      split at h
      · rename_i n hl
        split at h
        · rename_i m hm
          split at h
          · rename_i z i hz hi
            have hzl := beq_iff.1 (need_iff.1 h).1
            replace h := (need_iff.1 h).2
            have hbd := of_decide_eq_true (need_iff.1 h).1
            replace h := (need_iff.1 h).2
            rw [lenR_eq] at hzl
            obtain ⟨zv, hz1, hz2⟩ := zeroOf_sound hz
            have hll := hx l (by simp [Op.operands]) _ hl
            have hcc := hx c (by simp [Op.operands]) _ hm
            generalize hel : e l = ll at hll
            generalize hec : e c = cc at hcc
            cases hll; cases hcc
            have w1 : IntKind.i64.wrap n = n := by
              have : (0 ≤ n) := hbd.1
              simp [IntKind.wrap, IntKind.bits, IntKind.signed]; omega
            have w2 : IntKind.i64.wrap m = m := by
              simp [IntKind.wrap, IntKind.bits, IntKind.signed]; omega
            obtain ⟨q1, q2, q3, q4⟩ := hbd
            have n1 : ¬ m < 0 := by omega
            have n2 : ¬ (281474976710656 : Int) < i.bytes * m := by omega
            have n3 : ¬ n < 0 := by omega
            have n4 : ¬ m < n := by omega
            by_cases h0 : m.toNat * s = 0
            · have hz0 := zeros_VRL (hz2 ρ) m.toNat s hzl #[] (.inl h0)
              obtain ⟨ρ', s1, s2, s3⟩ := row_step hH hb el hz0 n.toNat m.toNat
              refine .inl ⟨_, _, _, _, ρ', _, h, .inl ?_, s1, s2, s3⟩
              have h0' : m.toNat = 0 ∨ s = 0 := by rcases Nat.mul_eq_zero.1 h0 with h | h <;> simp [h]
              simp [execOp, Instr.makeSlice, run_underlying' hu, asInt, asIntOf, hel, hec, typeInfo, hi, w1, w2, run_sizeOf' hs, n1, n2, n3, n4, h0, newRow]
            · have hz0 := zeros_VRL (hz2 ρ) m.toNat s hzl zv.cells (.inr rfl)
              obtain ⟨ρ', s1, s2, s3⟩ := row_step hH hb el hz0 n.toNat m.toNat
              refine .inl ⟨_, _, _, _, ρ', _, h, .inl ?_, s1, s2, s3⟩
              have h0' : ¬ (m.toNat = 0 ∨ s = 0) := fun h => h0 (Nat.mul_eq_zero.2 h)
              simp [execOp, Instr.makeSlice, run_underlying' hu, asInt, asIntOf, hel, hec, typeInfo, hi, w1, w2, run_sizeOf' hs, n1, n2, n3, n4, h0, hz1, newRow]
          · cases h
        · cases h
      · cases h
    · cases h
  · -- call
    rename_i c
    obtain ⟨callee, args, argTypes⟩ := c
    simp only at h
    split at h
    · -- append
      split at h
      · rename_i t u ht0 hu1
        split at h
        · rename_i s x hargs
          have hops : ∀ x ∈ args.toList, OpsRel ρ T e x := fun x hxa => hx x (by simp [Op.operands, Call.operands]; simpa using hxa)
          obtain ⟨vs, us, a1, a2, a3⟩ := (evs_VRL (ρ := ρ) (e := e) args.toList [s, x] hops hargs).of_cons
          obtain ⟨vx, us', b1, b2, b3⟩ := a3.of_cons
          rw [b3.of_nil] at b1
          rw [b1] at a1
          have hmap : args.map e = #[vs, vx] := by apply Array.ext'; rw [Array.toList_map, a1]
          have main : appendA P fc base t s x H K → CArgs P argTypes t u → (∃ v H' d u' ρ' w', K v H' d ∧ ((execOp e ⟨dst, .call ⟨.builtin .append, args, argTypes⟩, type, pos, after, guard⟩).run P w = .ok (.value u') w' ∨ ((execOp e ⟨dst, .call ⟨.builtin .append, args, argTypes⟩, type, pos, after, guard⟩).run P w = .ok .skip w' ∧ u' = undef)) ∧ VR ρ' v u' ∧ Step P ρ H w ρ' H' w' ∧ CL base H d H') := by
            intro ha hc
            obtain ⟨v, H', d, y, ρ', w', k1, k2, k3, k4, k5⟩ := append_sound ha hc hH hb a2 b2 type
            refine ⟨v, H', d, y, ρ', w', k1, .inl ?_, k3, k4, k5⟩
            simp [execOp, resolve, invoke, builtin, hmap, k2]
          split at h
          · rename_i el hu
            exact .inl (main h ⟨ht0, hu1, .inl ⟨el, hu⟩⟩)
          · rename_i hu
            exact .inl (main h ⟨ht0, hu1, .inr hu⟩)
          · cases h
        · cases h
      · cases h
    · -- a function
      rename_i f
      split at h
      · rename_i g first cap hf
        split at h
        · rename_i as has
          have hfv := hx f (by simp [Op.operands, Call.operands]) _ hf
          have hops : ∀ x ∈ args.toList, OpsRel ρ T e x := fun x hxa => hx x (by simp [Op.operands, Call.operands]; right; simpa using hxa)
          have hav := evs_VRL (ρ := ρ) (e := e) args.toList as hops has
          generalize hef : e f = ef at hfv
          cases hfv with
          | fn _ _ _ xs ys h1 h2 h3 h4 =>
            obtain ⟨⟨fn, hfn, hbody⟩, hC⟩ := hcall _ _ _ _ h
            have hrel : VRL ρ (appR first (appR as cap)) (xs ++ (args.toList.map e ++ ys)) := by
              rw [appR_eq, appR_eq]
              exact VRL.append ⟨h1, h2⟩ (hav.append ⟨h3, h4⟩)
            refine .inr ⟨g, (xs ++ (args.toList.map e ++ ys)).toArray, ?_, (hC ρ w _ hH hrel).mono ?_⟩
            · have hname := hng g fn hfn hbody
              have hname' : ¬ fn.name = "runtime.NumGoroutine" := by simpa using hname
              have hbn : ¬ fn.body = none := fun e => by rw [e] at hbody; cases hbody
              have harr : xs.toArray ++ args.map e ++ ys.toArray = (xs ++ (args.toList.map e ++ ys)).toArray := by
                apply Array.ext'
                simp
              simp [execOp, resolve, hef, Deferred.ofValue, invoke, callFunc, hfn, hname', hbn, harr]
            · rintro en w' ⟨v, H', d, u, ρ', k1, k2, k3, k4, k5⟩
              exact ⟨v, H', d, u, ρ', k1, k2, k3, k4, k5.mono hb⟩
        · cases h
      · cases h
    · cases h
  · cases h
end Go.X
