/- 'anneallaw15.ActRelus' answers true for every single number: a rectifier keeps, bit by bit, what is above nought and is a number, and answers nought, or the plain NaN, else; its slope is one or nought. -/
import Derived.Test.YtekjeadgknmokaaLRelv
import Derived.Test.YtekjeadgknmokaaRows
import Derived.WalkKit
import Derived.ProofKit
import Derived.OpenShut
namespace Go.Proofs.Ytekjeadgknmokaa.actRelus
open Go Go.X Go.ChangeShapes Go.WideShapes Go.ChangeAt Go.RowKit
set_option linter.unusedSimpArgs false
set_option linter.unusedVariables false      -- a walk need not use every 'w<i>' (that an integer argument fits its kind)

theorem own : ownKnob Try.prog.godebug = none := by kernel_rfl

theorem top31 {v : Int} (h0 : 0 ≤ v) (h1 : v < 4294967296) : (Int.fdiv v (2 ^ min (Int.toNat 31) IntKind.u32.bits) == (1 : Int)) = decide (2147483648 ≤ v) := by
  show (Int.fdiv v (2 ^ 31) == (1 : Int)) = _
  rw [Int.fdiv_eq_ediv_of_nonneg _ (by decide), show ((v / 2 ^ 31 == (1 : Int)) = decide (v / 2 ^ 31 = 1)) from rfl, decide_eq_decide]
  omega
theorem run_nan {v : Int} (h0 : 0 ≤ v) (h1 : v < 4294967296) (hc : cls v ≥ 4) : CallsA Try.prog 11 [.int .u32 v] ⟨0, []⟩ fun r _ _ => r = .bool true := by
  refine sem_body hng hmix (fc := false) (lf := 100) Try.func11 rfl (Nat.le_of_ble_eq_true rfl) ?_
  conv => whnf
  repeat (first | (refine known15.use ?_; conv => whnf) | (refine (rclass h0 h1).use ?_; conv => whnf) | (refine (valn h0 h1 hc).use ?_; conv => whnf) | (refine (sloz h0 h1 (pabove h0 h1 (pcmpn h0 h1 hc))).use ?_; conv => whnf) | (simp only [decide_eq_true hc]; conv => whnf))
  first | exact rfl | exact trivial
theorem run_zero {v : Int} (h0 : 0 ≤ v) (h1 : v < 4294967296) (hc : cls v = 0) : CallsA Try.prog 11 [.int .u32 v] ⟨0, []⟩ fun r _ _ => r = .bool true := by
  have hk : ∃ y, KnownOk Try.prog ⟨162, [.int .i64 2, .int .u32 v], .int .i64 y⟩ := by
    by_cases hs : 2147483648 ≤ v
    · exact ⟨_, pkeyn h0 h1 hs⟩
    · exact ⟨_, pkeyp h0 h1 hs⟩
  rcases hb : decide (2147483648 ≤ v) with _ | _
  · refine sem_body hng hmix (fc := false) (lf := 100) Try.func11 rfl (Nat.le_of_ble_eq_true rfl) ?_
    conv => whnf
    repeat (first | (refine known15.use ?_; conv => whnf) | (refine (rclass h0 h1).use ?_; conv => whnf) | (refine (valz h0 h1 (show ¬ cls v ≥ 4 by omega) (pabove h0 h1 (pcmpz h0 h1 hc hk))).use ?_; conv => whnf) | (refine (sloz h0 h1 (pabove h0 h1 (pcmpz h0 h1 hc hk))).use ?_; conv => whnf) | (simp only [top31 h0 h1, decide_eq_false (show ¬ cls v ≥ 4 by omega), beqT0 hc, hb]; conv => whnf))
    first | exact rfl | exact trivial
  · refine sem_body hng hmix (fc := false) (lf := 100) Try.func11 rfl (Nat.le_of_ble_eq_true rfl) ?_
    conv => whnf
    repeat (first | (refine known15.use ?_; conv => whnf) | (refine (rclass h0 h1).use ?_; conv => whnf) | (refine (valz h0 h1 (show ¬ cls v ≥ 4 by omega) (pabove h0 h1 (pcmpz h0 h1 hc hk))).use ?_; conv => whnf) | (refine (sloz h0 h1 (pabove h0 h1 (pcmpz h0 h1 hc hk))).use ?_; conv => whnf) | (simp only [top31 h0 h1, decide_eq_false (show ¬ cls v ≥ 4 by omega), beqT0 hc, hb]; conv => whnf))
    first | exact rfl | exact trivial
theorem run_neg {v : Int} (h0 : 0 ≤ v) (h1 : v < 4294967296) (hc : ¬ cls v = 0) (hd : ¬ cls v ≥ 4) (hs : 2147483648 ≤ v) : CallsA Try.prog 11 [.int .u32 v] ⟨0, []⟩ fun r _ _ => r = .bool true := by
  refine sem_body hng hmix (fc := false) (lf := 100) Try.func11 rfl (Nat.le_of_ble_eq_true rfl) ?_
  conv => whnf
  repeat (first | (refine known15.use ?_; conv => whnf) | (refine (rclass h0 h1).use ?_; conv => whnf) | (refine (valz h0 h1 hd (pabove h0 h1 (pcmps h0 h1 hc hd hs))).use ?_; conv => whnf) | (refine (sloz h0 h1 (pabove h0 h1 (pcmps h0 h1 hc hd hs))).use ?_; conv => whnf) | (simp only [top31 h0 h1, decide_eq_false hd, beqF0 hc, decide_eq_true hs]; conv => whnf))
  first | exact rfl | exact trivial
theorem run_pos {v : Int} (h0 : 0 ≤ v) (h1 : v < 4294967296) (hc : ¬ cls v = 0) (hd : ¬ cls v ≥ 4) (hs : ¬ 2147483648 ≤ v) (hv : 0 < v) : CallsA Try.prog 11 [.int .u32 v] ⟨0, []⟩ fun r _ _ => r = .bool true := by
  refine sem_body hng hmix (fc := false) (lf := 100) Try.func11 rfl (Nat.le_of_ble_eq_true rfl) ?_
  conv => whnf
  repeat (first | (refine known15.use ?_; conv => whnf) | (refine (rclass h0 h1).use ?_; conv => whnf) | (refine (valp h0 h1 hd (pabove h0 h1 (pcmpp h0 h1 hc hd hs hv))).use ?_; conv => whnf) | (refine (slop h0 h1 (pabove h0 h1 (pcmpp h0 h1 hc hd hs hv))).use ?_; conv => whnf) | (refine (rabove h0 h1 (rless h0 h1 (rcmpp h0 h1 hc hd hs hv))).use ?_; conv => whnf) | (simp only [top31 h0 h1, decide_eq_false hd, beqF0 hc, decide_eq_false hs, beqT0 (rfl : v = v)]; conv => whnf))
  first | exact rfl | exact trivial
theorem run {v : Int} (h0 : 0 ≤ v) (h1 : v < 4294967296) : CallsA Try.prog 11 [.int .u32 v] ⟨0, []⟩ fun r _ _ => r = .bool true := by
  by_cases hd : cls v ≥ 4
  · exact run_nan h0 h1 hd
  · by_cases hc : cls v = 0
    · exact run_zero h0 h1 hc
    · by_cases hs : 2147483648 ≤ v
      · exact run_neg h0 h1 hc hd hs
      · refine run_pos h0 h1 hc hd hs ?_
        by_cases hv : v = 0
        · exact absurd (by rw [hv]; decide) hc
        · omega
theorem u32_of {a : Int} (h : (Lit.int .u32 a).wf = true) : 0 ≤ a ∧ a < 4294967296 := by
  simp only [Lit.wf, IntKind.min, IntKind.max, IntKind.signed, IntKind.bits, Bool.and_eq_true] at h
  simp at h
  omega

theorem walk (a0 : Int) (w0 : (Lit.int .u32 a0).wf = true) (w : World) :
    Calls Try.prog 11 #[.int .u32 a0] w fun e w' => e = .returned (.bool true) ∧ RowKit.Below w.heap.size w w' := by
  obtain ⟨h0, h1⟩ := u32_of w0
  exact calls_of_sem (run h0 h1) rfl (vcons (.int _ _) vnil) _ told_bool w

/-! ### THE ROW's STEP: WRITTEN OUT: LEAVE IT -/
set_option maxRecDepth 100000 in
theorem lifted (os : Os) (started : os.Started) (H : Type) (enc : TypeId × Value → H) :
    ReturnsInHanded {} Try.checked os 11 .any (Rows.actRelusSpec.pre6 enc Try.prog Try.f11 Rows.actRelusRow.domain false) (Rows.actRelusSpec.post enc Try.prog Try.f11 false true false false) := by
  refine returnsInHanded_of_change (C := Try.checked) own started (by kernel_rfl) Try.func11
    (ChangeSpec.witness6 (enc := enc) (C := Try.checked) false ⟨#[], #[.int .u32 0], []⟩ 8 (by kernel_rfl) (by kernel_rfl) (by kernel_rfl) (by kernel_rfl)) ?_
  intro W base args ds gs before hval0 hW hcnd _
  have hval : ∀ (j : Nat) t v, Try.f11.params[j]? = some t → args[j]? = some v → Value.okWide Try.prog W .any base t v := hval0
  have hW' := hW
  obtain ⟨p, q, hA0, hV, rfl, hfz, hnd⟩ := hW
  have hA : DataW.TrodAll enc Try.prog W 0 (fun _ => true) true Try.f11.params.toList args.toList ds p := hA0
  rw [Try.params11] at hA hval
  obtain ⟨v0, vs0, d0, ds0, p0, q0, hargs, rfl, rfl, h0, r0⟩ := trodAll_cons hA
  obtain ⟨rfl, rfl, rfl⟩ := trodAll_nil r0
  obtain rfl : args = #[v0] := by cases args; simp_all
  obtain ⟨rfl, rfl⟩ := trodVars_none hV
  obtain ⟨a0, rfl, rfl, rfl, w0⟩ := open_int Try.underlying24 (hval 0 24 v0 rfl rfl) h0
  clear hA0 hval0
  simp only [List.append_nil] at hW'
  refine (walk a0 w0 W).mono fun e W' ⟨he, hg⟩ => ?_
  subst he
  exact ⟨_, rfl, post_of_below (pa := []) (pv := []) hW' (fun _ _ _ => (trodAll_cons_mk (shut_bool Try.underlying4 _) trodAll_mk0)) (fun sp _ => (trodAll_cons_mk (shut_int Try.underlying24 w0) trodAll_mk0)) (fun _ _ => rfl) rfl
    hg (ok_one (by kernel_rfl) rfl (okWide_bool_mk Try.underlying4 _))⟩

theorem over : Rows.actRelusRow.holds Try.pinned (OpenSpec.ofChange Rows.actRelusSpec) :=
  OpenClaim.holds_of_wide 11 Try.f11 rfl rfl rfl rfl rfl rfl rfl ⟨rfl, rfl, rfl, rfl, rfl⟩ rfl rfl rfl rfl rfl (by kernel_rfl) Try.func11 (by kernel_rfl)
    (of_decide_eq_true (by kernel_rfl)) (by unfold Func.isWrapper; first | (rw [if_pos (by decide +kernel)]; kernel_rfl) | (rw [if_neg (by decide +kernel)]; exact ⟨rfl, rfl⟩))
    (fun os started H enc _ => lifted os started H enc)

/-- ████ THE STATEMENT ████ -/
theorem proved : Rows.ActRelusSaid :=
  over
#print axioms proved
end Go.Proofs.Ytekjeadgknmokaa.actRelus
