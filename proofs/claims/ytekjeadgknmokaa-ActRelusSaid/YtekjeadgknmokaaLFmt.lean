import Derived.Test.YtekjeadgknmokaaLFoot
import Derived.Laws.BitsLemmas
import Derived.Laws.Bits64
import Derived.IntWalk
set_option linter.unusedVariables false
set_option linter.unusedSimpArgs false
namespace Go.Proofs.Ytekjeadgknmokaa
open Go Go.X
set_option maxRecDepth 1000000
theorem tup3 {x y z a b c : AV} (h : x = a) (k : y = b) (l : z = c) : AV.tup [x, y, z] = .tup [a, b, c] := by rw [h, k, l]
theorem tup2 {x y a b : AV} (h : x = a) (k : y = b) : AV.tup [x, y] = .tup [a, b] := by rw [h, k]
theorem boolE {x y : Bool} (h : x = y) : AV.bool x = .bool y := by rw [h]
theorem intE {k : IntKind} {x y : Int} (h : x = y) : AV.int k x = .int k y := by rw [h]
/-- Tuples, too, can be compared by a run. -/
def beqT : AV → AV → Bool
  | .tup l, .tup m => beqL l m
  | a, b => beqV a b
theorem beqT_eq {a b : AV} (h : beqT a b = true) : a = b := by
  unfold beqT at h
  split at h
  · rw [beqL_eq h]
  · exact beqV_eq h
theorem knownT {k : Known} (hp : cond k.v.plain (allR AV.plain k.args) false = true) (h : callB Try.prog true 100000 [] 60 k.f k.args ⟨0, []⟩ (fun r _ _ => cond (beqT r k.v) True False) = True) : KnownOk Try.prog k := by
  have hvp : k.v.plain = true ∧ k.args.all AV.plain = true := by
    cases hv : k.v.plain with
    | false => rw [hv] at hp; cases hp
    | true => rw [hv] at hp; exact ⟨rfl, by rw [← allR_eq]; exact hp⟩
  refine fun_of (fun a ha => List.all_eq_true.1 hvp.2 a ha) ?_
  refine (sem_callB hng hmix tbl_nil (of_eq_true h)).mono fun v H' d hv => ?_
  cases hb : beqT v k.v with
  | false => rw [hb] at hv; exact hv.elim
  | true =>
    have := beqT_eq hb
    subst this
    exact ⟨hvp.1, rfl⟩
theorem u32_mask (a : Int) (k : Nat) (hk : k ≤ 32) (h0 : 0 ≤ a) (h1 : a ≤ 4294967295) : bits .and .u32 a (2 ^ k - 1) = a % 2 ^ k :=
  bits_mask .u32 32 (by decide) (fun n h0 h1 => IntWalk.u32_in n ⟨h0, by omega⟩) k hk a h0 (by omega)
theorem decT {p : Prop} {d : Decidable p} (h : p) : d = .isTrue h := Subsingleton.elim _ _
theorem decF {p : Prop} {d : Decidable p} (h : ¬p) : d = .isFalse h := Subsingleton.elim _ _
theorem rwidths2 : KnownOk Try.prog ⟨45, [.int .i64 2], .tup [.int .i64 8, .int .i64 23]⟩ := knownT (by kernel_rfl) (by kernel_rfl)
theorem rmask2 : KnownOk Try.prog ⟨77, [.int .i64 2], .int .u32 4294967295⟩ := known (by kernel_rfl) (by kernel_rfl)
theorem rsign2 : KnownOk Try.prog ⟨78, [.int .i64 2, .bool true], .int .u32 2147483648⟩ := known (by kernel_rfl) (by kernel_rfl)
theorem pwidths2 : KnownOk Try.prog ⟨111, [.int .i64 2], .tup [.int .i64 8, .int .i64 23]⟩ := knownT (by kernel_rfl) (by kernel_rfl)
theorem ptop2 : KnownOk Try.prog ⟨104, [.int .i64 2], .int .i64 255⟩ := known (by kernel_rfl) (by kernel_rfl)
/-- The three parts of a single number. -/
def parts3 (k : IntKind) (v : Int) : AV := .tup [.bool (decide (2147483648 ≤ v)), .int .i64 (v / 8388608 % 256), .int k (v % 8388608)]
def cls (v : Int) : Int := if v / 8388608 % 256 = 0 then (if v % 8388608 = 0 then 0 else 1) else if v / 8388608 % 256 < 255 then 2 else if v % 8388608 = 0 then 3 else if v % 8388608 / 4194304 = 1 then 4 else 5
theorem rparts {v : Int} (h0 : 0 ≤ v) (h1 : v < 4294967296) : KnownOk Try.prog ⟨73, [.int .i64 2, .int .u32 v], parts3 .u64 v⟩ := by
  unfold KnownOk
  refine fun_of (by simp [AV.plain, AV.plain2, AV.plain1]) ?_
  refine sem_body hng hmix (fc := false) (lf := 100) Try.func73 rfl (Nat.le_of_ble_eq_true rfl) ?_
  conv => whnf
  refine rwidths2.use ?_
  conv => whnf
  refine rmask2.use ?_
  conv => whnf
  refine ⟨rfl, ?_⟩
  refine Eq.trans (b := .tup [.bool (decide (Int.fdiv (bits .and .u32 v (2 ^ 32 - 1)) (2 ^ 31) = 1)), .int .i64 (IntKind.i64.wrap (bits .and .u32 (Int.fdiv (bits .and .u32 v (2 ^ 32 - 1)) (2 ^ 23)) (2 ^ 8 - 1))), .int .u64 (IntKind.u64.wrap (bits .and .u32 (bits .and .u32 v (2 ^ 32 - 1)) (2 ^ 23 - 1)))]) (by kernel_rfl) ?_
  rw [u32_mask v 32 (by omega) h0 (by omega), Int.fdiv_eq_ediv_of_nonneg _ (by decide), Int.fdiv_eq_ediv_of_nonneg _ (by decide), u32_mask _ 8 (by omega) (by omega) (by omega), u32_mask _ 23 (by omega) (by omega) (by omega), IntKind.wrap_i64, IntKind.wrap_u64]
  exact tup3 (boolE (decide_eq_decide.2 (by omega))) (intE (by omega)) (intE (by omega))
theorem pparts {v : Int} (h0 : 0 ≤ v) (h1 : v < 4294967296) : KnownOk Try.prog ⟨98, [.int .i64 2, .int .u32 v], parts3 .u32 v⟩ := by
  unfold KnownOk
  refine fun_of (by simp [AV.plain, AV.plain2, AV.plain1]) ?_
  refine sem_body hng hmix (fc := false) (lf := 100) Try.func98 rfl (Nat.le_of_ble_eq_true rfl) ?_
  conv => whnf
  refine pwidths2.use ?_
  conv => whnf
  refine ⟨rfl, ?_⟩
  refine Eq.trans (b := .tup [.bool (decide (bits .and .u32 (Int.fdiv v (2 ^ 31)) (2 ^ 1 - 1) = 1)), .int .i64 (IntKind.i64.wrap (bits .and .u32 (Int.fdiv v (2 ^ 23)) (2 ^ 8 - 1))), .int .u32 (bits .and .u32 v (2 ^ 23 - 1))]) (by kernel_rfl) ?_
  rw [Int.fdiv_eq_ediv_of_nonneg _ (by decide), Int.fdiv_eq_ediv_of_nonneg _ (by decide), u32_mask _ 1 (by omega) (by omega) (by omega), u32_mask _ 8 (by omega) (by omega) (by omega), u32_mask _ 23 (by omega) (by omega) (by omega), IntKind.wrap_i64]
  exact tup3 (boolE (decide_eq_decide.2 (by omega))) (intE (by omega)) (intE (by omega))
end Go.Proofs.Ytekjeadgknmokaa
