import Derived.Test.YtekjeadgknmokaaLCosa
import Derived.Test.YtekjeadgknmokaaLKn12
set_option linter.unusedVariables false
set_option linter.unusedSimpArgs false
namespace Go.Proofs.Ytekjeadgknmokaa
open Go Go.X
set_option maxRecDepth 1000000
set_option maxHeartbeats 2000000 in
theorem cos_run_0 (a0 : Int) (hm : IntKind.i64.wrap (a0.tmod 9) = 0) : CallsA Try.prog 9 [.int .u8 a0] ⟨0, []⟩ fun r _ _ => r = .bool true := by
  refine sem_body hng hmix (fc := false) (lf := 100) Try.func9 rfl (Nat.le_of_ble_eq_true rfl) ?_
  conv => whnf
  refine known12.use ?_
  conv => whnf
  simp only [hm]
  refine int_0.use ?_
  conv => whnf
  refine int_8.use ?_
  conv => whnf
  refine div_0.use ?_
  conv => whnf
  simp only [hm]
  refine int_8.use ?_
  conv => whnf
  refine int_8.use ?_
  conv => whnf
  refine div_8.use ?_
  conv => whnf
  refine cos_0.use ?_
  conv => whnf
  refine cos_8.use ?_
  conv => whnf
  refine minus_0.use ?_
  conv => whnf
  refine less_0.use ?_
  conv => whnf
  exact rfl
set_option maxHeartbeats 2000000 in
theorem cos_run_1 (a0 : Int) (hm : IntKind.i64.wrap (a0.tmod 9) = 1) : CallsA Try.prog 9 [.int .u8 a0] ⟨0, []⟩ fun r _ _ => r = .bool true := by
  refine sem_body hng hmix (fc := false) (lf := 100) Try.func9 rfl (Nat.le_of_ble_eq_true rfl) ?_
  conv => whnf
  refine known12.use ?_
  conv => whnf
  simp only [hm]
  refine int_1.use ?_
  conv => whnf
  refine int_8.use ?_
  conv => whnf
  refine div_1.use ?_
  conv => whnf
  simp only [hm]
  refine int_7.use ?_
  conv => whnf
  refine int_8.use ?_
  conv => whnf
  refine div_7.use ?_
  conv => whnf
  refine cos_1.use ?_
  conv => whnf
  refine cos_7.use ?_
  conv => whnf
  refine minus_1.use ?_
  conv => whnf
  refine less_1.use ?_
  conv => whnf
  exact rfl
set_option maxHeartbeats 2000000 in
theorem cos_run_2 (a0 : Int) (hm : IntKind.i64.wrap (a0.tmod 9) = 2) : CallsA Try.prog 9 [.int .u8 a0] ⟨0, []⟩ fun r _ _ => r = .bool true := by
  refine sem_body hng hmix (fc := false) (lf := 100) Try.func9 rfl (Nat.le_of_ble_eq_true rfl) ?_
  conv => whnf
  refine known12.use ?_
  conv => whnf
  simp only [hm]
  refine int_2.use ?_
  conv => whnf
  refine int_8.use ?_
  conv => whnf
  refine div_2.use ?_
  conv => whnf
  simp only [hm]
  refine int_6.use ?_
  conv => whnf
  refine int_8.use ?_
  conv => whnf
  refine div_6.use ?_
  conv => whnf
  refine cos_2.use ?_
  conv => whnf
  refine cos_6.use ?_
  conv => whnf
  refine minus_2.use ?_
  conv => whnf
  refine less_2.use ?_
  conv => whnf
  exact rfl
set_option maxHeartbeats 2000000 in
theorem cos_run_3 (a0 : Int) (hm : IntKind.i64.wrap (a0.tmod 9) = 3) : CallsA Try.prog 9 [.int .u8 a0] ⟨0, []⟩ fun r _ _ => r = .bool true := by
  refine sem_body hng hmix (fc := false) (lf := 100) Try.func9 rfl (Nat.le_of_ble_eq_true rfl) ?_
  conv => whnf
  refine known12.use ?_
  conv => whnf
  simp only [hm]
  refine int_3.use ?_
  conv => whnf
  refine int_8.use ?_
  conv => whnf
  refine div_3.use ?_
  conv => whnf
  simp only [hm]
  refine int_5.use ?_
  conv => whnf
  refine int_8.use ?_
  conv => whnf
  refine div_5.use ?_
  conv => whnf
  refine cos_3.use ?_
  conv => whnf
  refine cos_5.use ?_
  conv => whnf
  refine minus_3.use ?_
  conv => whnf
  refine less_3.use ?_
  conv => whnf
  exact rfl
set_option maxHeartbeats 2000000 in
theorem cos_run_4 (a0 : Int) (hm : IntKind.i64.wrap (a0.tmod 9) = 4) : CallsA Try.prog 9 [.int .u8 a0] ⟨0, []⟩ fun r _ _ => r = .bool true := by
  refine sem_body hng hmix (fc := false) (lf := 100) Try.func9 rfl (Nat.le_of_ble_eq_true rfl) ?_
  conv => whnf
  refine known12.use ?_
  conv => whnf
  simp only [hm]
  refine int_4.use ?_
  conv => whnf
  refine int_8.use ?_
  conv => whnf
  refine div_4.use ?_
  conv => whnf
  simp only [hm]
  refine int_4.use ?_
  conv => whnf
  refine int_8.use ?_
  conv => whnf
  refine div_4.use ?_
  conv => whnf
  refine cos_4.use ?_
  conv => whnf
  refine cos_4.use ?_
  conv => whnf
  refine class_4.use ?_
  conv => whnf
  exact rfl
set_option maxHeartbeats 2000000 in
theorem cos_run_5 (a0 : Int) (hm : IntKind.i64.wrap (a0.tmod 9) = 5) : CallsA Try.prog 9 [.int .u8 a0] ⟨0, []⟩ fun r _ _ => r = .bool true := by
  refine sem_body hng hmix (fc := false) (lf := 100) Try.func9 rfl (Nat.le_of_ble_eq_true rfl) ?_
  conv => whnf
  refine known12.use ?_
  conv => whnf
  simp only [hm]
  refine int_5.use ?_
  conv => whnf
  refine int_8.use ?_
  conv => whnf
  refine div_5.use ?_
  conv => whnf
  simp only [hm]
  refine int_3.use ?_
  conv => whnf
  refine int_8.use ?_
  conv => whnf
  refine div_3.use ?_
  conv => whnf
  refine cos_5.use ?_
  conv => whnf
  refine cos_3.use ?_
  conv => whnf
  refine minus_5.use ?_
  conv => whnf
  refine less_5.use ?_
  conv => whnf
  exact rfl
set_option maxHeartbeats 2000000 in
theorem cos_run_6 (a0 : Int) (hm : IntKind.i64.wrap (a0.tmod 9) = 6) : CallsA Try.prog 9 [.int .u8 a0] ⟨0, []⟩ fun r _ _ => r = .bool true := by
  refine sem_body hng hmix (fc := false) (lf := 100) Try.func9 rfl (Nat.le_of_ble_eq_true rfl) ?_
  conv => whnf
  refine known12.use ?_
  conv => whnf
  simp only [hm]
  refine int_6.use ?_
  conv => whnf
  refine int_8.use ?_
  conv => whnf
  refine div_6.use ?_
  conv => whnf
  simp only [hm]
  refine int_2.use ?_
  conv => whnf
  refine int_8.use ?_
  conv => whnf
  refine div_2.use ?_
  conv => whnf
  refine cos_6.use ?_
  conv => whnf
  refine cos_2.use ?_
  conv => whnf
  refine minus_6.use ?_
  conv => whnf
  refine less_6.use ?_
  conv => whnf
  exact rfl
set_option maxHeartbeats 2000000 in
theorem cos_run_7 (a0 : Int) (hm : IntKind.i64.wrap (a0.tmod 9) = 7) : CallsA Try.prog 9 [.int .u8 a0] ⟨0, []⟩ fun r _ _ => r = .bool true := by
  refine sem_body hng hmix (fc := false) (lf := 100) Try.func9 rfl (Nat.le_of_ble_eq_true rfl) ?_
  conv => whnf
  refine known12.use ?_
  conv => whnf
  simp only [hm]
  refine int_7.use ?_
  conv => whnf
  refine int_8.use ?_
  conv => whnf
  refine div_7.use ?_
  conv => whnf
  simp only [hm]
  refine int_1.use ?_
  conv => whnf
  refine int_8.use ?_
  conv => whnf
  refine div_1.use ?_
  conv => whnf
  refine cos_7.use ?_
  conv => whnf
  refine cos_1.use ?_
  conv => whnf
  refine minus_7.use ?_
  conv => whnf
  refine less_7.use ?_
  conv => whnf
  exact rfl
set_option maxHeartbeats 2000000 in
theorem cos_run_8 (a0 : Int) (hm : IntKind.i64.wrap (a0.tmod 9) = 8) : CallsA Try.prog 9 [.int .u8 a0] ⟨0, []⟩ fun r _ _ => r = .bool true := by
  refine sem_body hng hmix (fc := false) (lf := 100) Try.func9 rfl (Nat.le_of_ble_eq_true rfl) ?_
  conv => whnf
  refine known12.use ?_
  conv => whnf
  simp only [hm]
  refine int_8.use ?_
  conv => whnf
  refine int_8.use ?_
  conv => whnf
  refine div_8.use ?_
  conv => whnf
  simp only [hm]
  refine int_0.use ?_
  conv => whnf
  refine int_8.use ?_
  conv => whnf
  refine div_0.use ?_
  conv => whnf
  refine cos_8.use ?_
  conv => whnf
  refine cos_0.use ?_
  conv => whnf
  refine minus_8.use ?_
  conv => whnf
  refine less_8.use ?_
  conv => whnf
  exact rfl
end Go.Proofs.Ytekjeadgknmokaa
