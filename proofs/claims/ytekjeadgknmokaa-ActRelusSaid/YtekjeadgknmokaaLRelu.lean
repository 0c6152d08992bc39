import Derived.Test.YtekjeadgknmokaaLCls
import Derived.Laws.BitsAllLaws
set_option linter.unusedVariables false
set_option linter.unusedSimpArgs false
namespace Go.Proofs.Ytekjeadgknmokaa
open Go Go.X
set_option maxRecDepth 1000000
theorem pmask2 : KnownOk Try.prog ⟨138, [.int .i64 2], .int .u32 4294967295⟩ := known (by kernel_rfl) (by kernel_rfl)
theorem pkey0 : KnownOk Try.prog ⟨162, [.int .i64 2, .int .u32 0], .int .i64 0⟩ := known (by kernel_rfl) (by kernel_rfl)
theorem pnan0 : KnownOk Try.prog ⟨95, [.int .i64 2, .int .u32 0], .bool false⟩ := known (by kernel_rfl) (by kernel_rfl)
theorem pzero0 : KnownOk Try.prog ⟨61, [.int .i64 2, .int .u32 0], .bool true⟩ := known (by kernel_rfl) (by kernel_rfl)
theorem actplain : KnownOk Try.prog ⟨86, [], .int .u32 2143289344⟩ := known (by kernel_rfl) (by kernel_rfl)
theorem rkey0 : KnownOk Try.prog ⟨32, [.int .i64 2, .int .u32 0], .int .i64 0⟩ := known (by kernel_rfl) (by kernel_rfl)
theorem rzero0 : KnownOk Try.prog ⟨114, [.int .i64 2, .int .u32 0], .bool true⟩ := known (by kernel_rfl) (by kernel_rfl)
theorem rclass0 : KnownOk Try.prog ⟨30, [.int .i64 2, .int .u32 0], .int .i64 0⟩ := known (by kernel_rfl) (by kernel_rfl)
theorem pneg {v : Int} (h0 : 0 ≤ v) (h1 : v < 4294967296) : KnownOk Try.prog ⟨62, [.int .i64 2, .int .u32 v], .bool (decide (2147483648 ≤ v))⟩ := by
  unfold KnownOk
  refine fun_of (by simp [AV.plain, AV.plain2, AV.plain1]) ?_
  refine sem_body hng hmix (fc := false) (lf := 100) Try.func62 rfl (Nat.le_of_ble_eq_true rfl) ?_
  conv => whnf
  repeat (first | (refine (pparts h0 h1).use ?_; conv => whnf))
  first | exact ⟨rfl, rfl⟩ | exact ⟨rfl, trivial⟩
theorem rneg {v : Int} (h0 : 0 ≤ v) (h1 : v < 4294967296) : KnownOk Try.prog ⟨79, [.int .i64 2, .int .u32 v], .bool (decide (2147483648 ≤ v))⟩ := by
  unfold KnownOk
  refine fun_of (by simp [AV.plain, AV.plain2, AV.plain1]) ?_
  refine sem_body hng hmix (fc := false) (lf := 100) Try.func79 rfl (Nat.le_of_ble_eq_true rfl) ?_
  conv => whnf
  repeat (first | (refine (rparts h0 h1).use ?_; conv => whnf))
  first | exact ⟨rfl, rfl⟩ | exact ⟨rfl, trivial⟩
theorem pisnan {v : Int} (h0 : 0 ≤ v) (h1 : v < 4294967296) : KnownOk Try.prog ⟨95, [.int .i64 2, .int .u32 v], .bool (decide (cls v ≥ 4))⟩ := by
  unfold KnownOk
  refine fun_of (by simp [AV.plain, AV.plain2, AV.plain1]) ?_
  refine sem_body hng hmix (fc := false) (lf := 100) Try.func95 rfl (Nat.le_of_ble_eq_true rfl) ?_
  conv => whnf
  repeat (first | (refine (pclass h0 h1).use ?_; conv => whnf))
  first | exact ⟨rfl, rfl⟩ | exact ⟨rfl, trivial⟩
theorem fisnan {v : Int} (h0 : 0 ≤ v) (h1 : v < 4294967296) : KnownOk Try.prog ⟨59, [.int .u32 v], .bool (decide (cls v ≥ 4))⟩ := by
  unfold KnownOk
  refine fun_of (by simp [AV.plain, AV.plain2, AV.plain1]) ?_
  refine sem_body hng hmix (fc := false) (lf := 100) Try.func59 rfl (Nat.le_of_ble_eq_true rfl) ?_
  conv => whnf
  repeat (first | (refine (pisnan h0 h1).use ?_; conv => whnf))
  first | exact ⟨rfl, rfl⟩ | exact ⟨rfl, trivial⟩
theorem piszero {v : Int} (h0 : 0 ≤ v) (h1 : v < 4294967296) : KnownOk Try.prog ⟨61, [.int .i64 2, .int .u32 v], .bool (cls v == 0)⟩ := by
  unfold KnownOk
  refine fun_of (by simp [AV.plain, AV.plain2, AV.plain1]) ?_
  refine sem_body hng hmix (fc := false) (lf := 100) Try.func61 rfl (Nat.le_of_ble_eq_true rfl) ?_
  conv => whnf
  repeat (first | (refine (pclass h0 h1).use ?_; conv => whnf))
  first | exact ⟨rfl, rfl⟩ | exact ⟨rfl, trivial⟩
theorem rzero {v : Int} (h0 : 0 ≤ v) (h1 : v < 4294967296) : KnownOk Try.prog ⟨114, [.int .i64 2, .int .u32 v], .bool (cls v == 0)⟩ := by
  unfold KnownOk
  refine fun_of (by simp [AV.plain, AV.plain2, AV.plain1]) ?_
  refine sem_body hng hmix (fc := false) (lf := 100) Try.func114 rfl (Nat.le_of_ble_eq_true rfl) ?_
  conv => whnf
  repeat (first | (refine (rclass h0 h1).use ?_; conv => whnf))
  first | exact ⟨rfl, rfl⟩ | exact ⟨rfl, trivial⟩
def tn (v : Int) : Int := bits .xor .u32 (bits .and .u32 v (2 ^ 32 - 1)) (2 ^ 31)
theorem tn_in {v : Int} : 0 ≤ tn v ∧ tn v < 4294967296 := by
  unfold tn bits
  simp only [IntKind.wrap_u32']
  omega
theorem pturn {v : Int} (h0 : 0 ≤ v) (h1 : v < 4294967296) : KnownOk Try.prog ⟨99, [.int .i64 2, .int .u32 v], .int .u32 (tn v)⟩ := by
  unfold KnownOk
  refine fun_of (by simp [AV.plain, AV.plain2, AV.plain1]) ?_
  refine sem_body hng hmix (fc := false) (lf := 100) Try.func99 rfl (Nat.le_of_ble_eq_true rfl) ?_
  conv => whnf
  repeat (first | (refine pwidths2.use ?_; conv => whnf) | (refine pmask2.use ?_; conv => whnf))
  exact ⟨rfl, by kernel_rfl⟩
theorem pkeyp {v : Int} (h0 : 0 ≤ v) (h1 : v < 4294967296) (hs : ¬ 2147483648 ≤ v) : KnownOk Try.prog ⟨162, [.int .i64 2, .int .u32 v], .int .i64 v⟩ := by
  unfold KnownOk
  refine fun_of (by simp [AV.plain, AV.plain2, AV.plain1]) ?_
  refine sem_body hng hmix (fc := false) (lf := 100) Try.func162 rfl (Nat.le_of_ble_eq_true rfl) ?_
  conv => whnf
  repeat (first | (refine pmask2.use ?_; conv => whnf) | (refine (pneg h0 h1).use ?_; conv => whnf) | (simp only [decide_eq_false hs]; conv => whnf))
  refine ⟨rfl, ?_⟩
  refine Eq.trans (b := .int .i64 (IntKind.i64.wrap (bits .and .u32 v (2 ^ 32 - 1)))) (by kernel_rfl) ?_
  rw [u32_mask v 32 (by omega) h0 (by omega), IntKind.wrap_i64]
  exact intE (by omega)
theorem pkeyn {v : Int} (h0 : 0 ≤ v) (h1 : v < 4294967296) (hs : 2147483648 ≤ v) : KnownOk Try.prog ⟨162, [.int .i64 2, .int .u32 v], .int .i64 (-1 - tn v)⟩ := by
  unfold KnownOk
  refine fun_of (by simp [AV.plain, AV.plain2, AV.plain1]) ?_
  refine sem_body hng hmix (fc := false) (lf := 100) Try.func162 rfl (Nat.le_of_ble_eq_true rfl) ?_
  conv => whnf
  repeat (first | (refine pmask2.use ?_; conv => whnf) | (refine (pneg h0 h1).use ?_; conv => whnf) | (refine (pturn h0 h1).use ?_; conv => whnf) | (simp only [decide_eq_true hs]; conv => whnf))
  refine ⟨rfl, ?_⟩
  refine Eq.trans (b := .int .i64 (IntKind.i64.wrap (-1 - IntKind.i64.wrap (tn v)))) (by kernel_rfl) ?_
  have := @tn_in v
  rw [IntKind.wrap_i64, IntKind.wrap_i64]
  exact intE (by omega)
theorem pcmpn {v : Int} (h0 : 0 ≤ v) (h1 : v < 4294967296) (hc : cls v ≥ 4) : KnownOk Try.prog ⟨139, [.int .i64 2, .int .u32 0, .int .u32 v], .tup [.int .i64 0, .bool false]⟩ := by
  unfold KnownOk
  refine fun_of (by simp [AV.plain, AV.plain2, AV.plain1]) ?_
  refine sem_body hng hmix (fc := false) (lf := 100) Try.func139 rfl (Nat.le_of_ble_eq_true rfl) ?_
  conv => whnf
  repeat (first | (refine pnan0.use ?_; conv => whnf) | (refine (pisnan h0 h1).use ?_; conv => whnf) | (simp only [decide_eq_true hc]; conv => whnf))
  first | exact ⟨rfl, rfl⟩ | exact ⟨rfl, trivial⟩
theorem pcmpz {v : Int} (h0 : 0 ≤ v) (h1 : v < 4294967296) (hc : cls v = 0) (hk : ∃ y, KnownOk Try.prog ⟨162, [.int .i64 2, .int .u32 v], .int .i64 y⟩) : KnownOk Try.prog ⟨139, [.int .i64 2, .int .u32 0, .int .u32 v], .tup [.int .i64 0, .bool true]⟩ := by
  unfold KnownOk
  obtain ⟨y, hk⟩ := hk
  refine fun_of (by simp [AV.plain, AV.plain2, AV.plain1]) ?_
  refine sem_body hng hmix (fc := false) (lf := 100) Try.func139 rfl (Nat.le_of_ble_eq_true rfl) ?_
  conv => whnf
  repeat (first | (refine pnan0.use ?_; conv => whnf) | (refine (pisnan h0 h1).use ?_; conv => whnf) | (refine pkey0.use ?_; conv => whnf) | (refine hk.use ?_; conv => whnf) | (refine pzero0.use ?_; conv => whnf) | (refine (piszero h0 h1).use ?_; conv => whnf) | (simp only [decide_eq_false (show ¬ cls v ≥ 4 by omega), beqT0 hc]; conv => whnf))
  first | exact ⟨rfl, rfl⟩ | exact ⟨rfl, trivial⟩
theorem pcmps {v : Int} (h0 : 0 ≤ v) (h1 : v < 4294967296) (hc : ¬ cls v = 0) (hd : ¬ cls v ≥ 4) (hs : 2147483648 ≤ v) : KnownOk Try.prog ⟨139, [.int .i64 2, .int .u32 0, .int .u32 v], .tup [.int .i64 1, .bool true]⟩ := by
  unfold KnownOk
  refine fun_of (by simp [AV.plain, AV.plain2, AV.plain1]) ?_
  refine sem_body hng hmix (fc := false) (lf := 100) Try.func139 rfl (Nat.le_of_ble_eq_true rfl) ?_
  conv => whnf
  repeat (first | (refine pnan0.use ?_; conv => whnf) | (refine (pisnan h0 h1).use ?_; conv => whnf) | (refine pkey0.use ?_; conv => whnf) | (refine (pkeyn h0 h1 hs).use ?_; conv => whnf) | (refine pzero0.use ?_; conv => whnf) | (refine (piszero h0 h1).use ?_; conv => whnf) | (simp only [decide_eq_false hd, beqF0 hc, decide_eq_false (show ¬ 0 < -1 - tn v by have := @tn_in v; omega), decide_eq_true (show 0 > -1 - tn v by have := @tn_in v; omega)]; conv => whnf))
  first | exact ⟨rfl, rfl⟩ | exact ⟨rfl, trivial⟩
theorem pcmpp {v : Int} (h0 : 0 ≤ v) (h1 : v < 4294967296) (hc : ¬ cls v = 0) (hd : ¬ cls v ≥ 4) (hs : ¬ 2147483648 ≤ v) (hv : 0 < v) : KnownOk Try.prog ⟨139, [.int .i64 2, .int .u32 0, .int .u32 v], .tup [.int .i64 (-1), .bool true]⟩ := by
  unfold KnownOk
  refine fun_of (by simp [AV.plain, AV.plain2, AV.plain1]) ?_
  refine sem_body hng hmix (fc := false) (lf := 100) Try.func139 rfl (Nat.le_of_ble_eq_true rfl) ?_
  conv => whnf
  repeat (first | (refine pnan0.use ?_; conv => whnf) | (refine (pisnan h0 h1).use ?_; conv => whnf) | (refine pkey0.use ?_; conv => whnf) | (refine (pkeyp h0 h1 hs).use ?_; conv => whnf) | (refine pzero0.use ?_; conv => whnf) | (refine (piszero h0 h1).use ?_; conv => whnf) | (simp only [decide_eq_false hd, beqF0 hc, decide_eq_true hv]; conv => whnf))
  first | exact ⟨rfl, rfl⟩ | exact ⟨rfl, trivial⟩
end Go.Proofs.Ytekjeadgknmokaa
