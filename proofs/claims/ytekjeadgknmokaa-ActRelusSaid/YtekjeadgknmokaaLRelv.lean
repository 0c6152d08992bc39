import Derived.Test.YtekjeadgknmokaaLRelu
set_option linter.unusedVariables false
set_option linter.unusedSimpArgs false
namespace Go.Proofs.Ytekjeadgknmokaa
open Go Go.X
set_option maxRecDepth 1000000
theorem known15 : KnownOk Try.prog ⟨41, [], .bool true⟩ := known (by kernel_rfl) (by kernel_rfl)
theorem pless {v : Int} (h0 : 0 ≤ v) (h1 : v < 4294967296) {c : Int} {b : Bool} (hk : KnownOk Try.prog ⟨139, [.int .i64 2, .int .u32 0, .int .u32 v], .tup [.int .i64 c, .bool b]⟩) : KnownOk Try.prog ⟨100, [.int .i64 2, .int .u32 0, .int .u32 v], .bool (decide (c < 0))⟩ := by
  unfold KnownOk
  refine fun_of (by simp [AV.plain, AV.plain2, AV.plain1]) ?_
  refine sem_body hng hmix (fc := false) (lf := 100) Try.func100 rfl (Nat.le_of_ble_eq_true rfl) ?_
  conv => whnf
  repeat (first | (refine hk.use ?_; conv => whnf))
  first | exact ⟨rfl, rfl⟩ | exact ⟨rfl, trivial⟩
theorem pabove {v : Int} (h0 : 0 ≤ v) (h1 : v < 4294967296) {c : Int} {b : Bool} (hk : KnownOk Try.prog ⟨139, [.int .i64 2, .int .u32 0, .int .u32 v], .tup [.int .i64 c, .bool b]⟩) : KnownOk Try.prog ⟨64, [.int .u32 v, .int .u32 0], .bool (decide (c < 0))⟩ := by
  unfold KnownOk
  refine fun_of (by simp [AV.plain, AV.plain2, AV.plain1]) ?_
  refine sem_body hng hmix (fc := false) (lf := 100) Try.func64 rfl (Nat.le_of_ble_eq_true rfl) ?_
  conv => whnf
  repeat (first | (refine (pless h0 h1 hk).use ?_; conv => whnf))
  first | exact ⟨rfl, rfl⟩ | exact ⟨rfl, trivial⟩
theorem valn {v : Int} (h0 : 0 ≤ v) (h1 : v < 4294967296) (hc : cls v ≥ 4) : KnownOk Try.prog ⟨42, [.int .i64 1, .int .u32 v], .int .u32 2143289344⟩ := by
  unfold KnownOk
  refine fun_of (by simp [AV.plain, AV.plain2, AV.plain1]) ?_
  refine sem_body hng hmix (fc := false) (lf := 100) Try.func42 rfl (Nat.le_of_ble_eq_true rfl) ?_
  conv => whnf
  repeat (first | (refine (fisnan h0 h1).use ?_; conv => whnf) | (refine actplain.use ?_; conv => whnf) | (simp only [decide_eq_true hc]; conv => whnf))
  first | exact ⟨rfl, rfl⟩ | exact ⟨rfl, trivial⟩
theorem valz {v : Int} (h0 : 0 ≤ v) (h1 : v < 4294967296) (hc : ¬ cls v ≥ 4) (hk : KnownOk Try.prog ⟨64, [.int .u32 v, .int .u32 0], .bool false⟩) : KnownOk Try.prog ⟨42, [.int .i64 1, .int .u32 v], .int .u32 0⟩ := by
  unfold KnownOk
  refine fun_of (by simp [AV.plain, AV.plain2, AV.plain1]) ?_
  refine sem_body hng hmix (fc := false) (lf := 100) Try.func42 rfl (Nat.le_of_ble_eq_true rfl) ?_
  conv => whnf
  repeat (first | (refine (fisnan h0 h1).use ?_; conv => whnf) | (refine hk.use ?_; conv => whnf) | (simp only [decide_eq_false hc]; conv => whnf))
  first | exact ⟨rfl, rfl⟩ | exact ⟨rfl, trivial⟩
theorem valp {v : Int} (h0 : 0 ≤ v) (h1 : v < 4294967296) (hc : ¬ cls v ≥ 4) (hk : KnownOk Try.prog ⟨64, [.int .u32 v, .int .u32 0], .bool true⟩) : KnownOk Try.prog ⟨42, [.int .i64 1, .int .u32 v], .int .u32 v⟩ := by
  unfold KnownOk
  refine fun_of (by simp [AV.plain, AV.plain2, AV.plain1]) ?_
  refine sem_body hng hmix (fc := false) (lf := 100) Try.func42 rfl (Nat.le_of_ble_eq_true rfl) ?_
  conv => whnf
  repeat (first | (refine (fisnan h0 h1).use ?_; conv => whnf) | (refine hk.use ?_; conv => whnf) | (simp only [decide_eq_false hc]; conv => whnf))
  first | exact ⟨rfl, rfl⟩ | exact ⟨rfl, trivial⟩
theorem sloz {v : Int} (h0 : 0 ≤ v) (h1 : v < 4294967296) (hk : KnownOk Try.prog ⟨64, [.int .u32 v, .int .u32 0], .bool false⟩) : KnownOk Try.prog ⟨43, [.int .i64 1, .int .u32 v], .int .u32 0⟩ := by
  unfold KnownOk
  refine fun_of (by simp [AV.plain, AV.plain2, AV.plain1]) ?_
  refine sem_body hng hmix (fc := false) (lf := 100) Try.func43 rfl (Nat.le_of_ble_eq_true rfl) ?_
  conv => whnf
  repeat (first | (refine hk.use ?_; conv => whnf))
  first | exact ⟨rfl, rfl⟩ | exact ⟨rfl, trivial⟩
theorem slop {v : Int} (h0 : 0 ≤ v) (h1 : v < 4294967296) (hk : KnownOk Try.prog ⟨64, [.int .u32 v, .int .u32 0], .bool true⟩) : KnownOk Try.prog ⟨43, [.int .i64 1, .int .u32 v], .int .u32 1065353216⟩ := by
  unfold KnownOk
  refine fun_of (by simp [AV.plain, AV.plain2, AV.plain1]) ?_
  refine sem_body hng hmix (fc := false) (lf := 100) Try.func43 rfl (Nat.le_of_ble_eq_true rfl) ?_
  conv => whnf
  repeat (first | (refine hk.use ?_; conv => whnf))
  first | exact ⟨rfl, rfl⟩ | exact ⟨rfl, trivial⟩
theorem rkeyp {v : Int} (h0 : 0 ≤ v) (h1 : v < 4294967296) (hs : ¬ 2147483648 ≤ v) : KnownOk Try.prog ⟨32, [.int .i64 2, .int .u32 v], .int .i64 v⟩ := by
  unfold KnownOk
  refine fun_of (by simp [AV.plain, AV.plain2, AV.plain1]) ?_
  refine sem_body hng hmix (fc := false) (lf := 100) Try.func32 rfl (Nat.le_of_ble_eq_true rfl) ?_
  conv => whnf
  repeat (first | (refine rmask2.use ?_; conv => whnf) | (refine rsign2.use ?_; conv => whnf) | (refine (rneg h0 h1).use ?_; conv => whnf) | (simp only [decide_eq_false hs]; conv => whnf))
  refine ⟨rfl, ?_⟩
  refine Eq.trans (b := .int .i64 (IntKind.i64.wrap (bits .andNot .u32 (bits .and .u32 v (2 ^ 32 - 1)) 2147483648))) (by kernel_rfl) ?_
  rw [u32_mask v 32 (by omega) h0 (by omega), u32_andNot _ _ (by omega) (by omega) (by omega) (by omega), show (4294967295 - Int.toNat 2147483648) = 2 ^ 31 - 1 from rfl, Nat.and_two_pow_sub_one_eq_mod, IntKind.wrap_i64]
  exact intE (by omega)
theorem rcmpp {v : Int} (h0 : 0 ≤ v) (h1 : v < 4294967296) (hc : ¬ cls v = 0) (hd : ¬ cls v ≥ 4) (hs : ¬ 2147483648 ≤ v) (hv : 0 < v) : KnownOk Try.prog ⟨80, [.int .i64 2, .int .u32 0, .int .u32 v], .tup [.int .i64 (-1), .bool true]⟩ := by
  unfold KnownOk
  refine fun_of (by simp [AV.plain, AV.plain2, AV.plain1]) ?_
  refine sem_body hng hmix (fc := false) (lf := 100) Try.func80 rfl (Nat.le_of_ble_eq_true rfl) ?_
  conv => whnf
  refine sem_body hng hmix (fc := false) (lf := 100) Try.func83 rfl (Nat.le_of_ble_eq_true rfl) ?_
  conv => whnf
  repeat (first | (refine rclass0.use ?_; conv => whnf) | (refine (rclass h0 h1).use ?_; conv => whnf) | (refine rzero0.use ?_; conv => whnf) | (refine (rzero h0 h1).use ?_; conv => whnf) | (refine rkey0.use ?_; conv => whnf) | (refine (rkeyp h0 h1 hs).use ?_; conv => whnf) | (simp only [beqF0 hc, beqF0 (show ¬ cls v = 4 by omega), beqF0 (show ¬ cls v = 5 by omega), decide_eq_true hv]; conv => whnf))
  first | exact ⟨rfl, rfl⟩ | exact ⟨rfl, trivial⟩
theorem rless {v : Int} (h0 : 0 ≤ v) (h1 : v < 4294967296) (hk : KnownOk Try.prog ⟨80, [.int .i64 2, .int .u32 0, .int .u32 v], .tup [.int .i64 (-1), .bool true]⟩) : KnownOk Try.prog ⟨34, [.int .i64 2, .int .u32 0, .int .u32 v], .bool true⟩ := by
  unfold KnownOk
  refine fun_of (by simp [AV.plain, AV.plain2, AV.plain1]) ?_
  refine sem_body hng hmix (fc := false) (lf := 100) Try.func34 rfl (Nat.le_of_ble_eq_true rfl) ?_
  conv => whnf
  repeat (first | (refine hk.use ?_; conv => whnf))
  first | exact ⟨rfl, rfl⟩ | exact ⟨rfl, trivial⟩
theorem rabove {v : Int} (h0 : 0 ≤ v) (h1 : v < 4294967296) (hk : KnownOk Try.prog ⟨34, [.int .i64 2, .int .u32 0, .int .u32 v], .bool true⟩) : KnownOk Try.prog ⟨44, [.int .u32 v, .int .u32 0], .bool true⟩ := by
  unfold KnownOk
  refine fun_of (by simp [AV.plain, AV.plain2, AV.plain1]) ?_
  refine sem_body hng hmix (fc := false) (lf := 100) Try.func44 rfl (Nat.le_of_ble_eq_true rfl) ?_
  conv => whnf
  repeat (first | (refine hk.use ?_; conv => whnf))
  first | exact ⟨rfl, rfl⟩ | exact ⟨rfl, trivial⟩
end Go.Proofs.Ytekjeadgknmokaa
