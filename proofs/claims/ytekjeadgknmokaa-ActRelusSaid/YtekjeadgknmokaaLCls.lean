import Derived.Test.YtekjeadgknmokaaLFmt
set_option linter.unusedVariables false
set_option linter.unusedSimpArgs false
namespace Go.Proofs.Ytekjeadgknmokaa
open Go Go.X
set_option maxRecDepth 1000000
theorem beqT0 {a b : Int} (h : a = b) : (a == b) = true := by simp [h]
theorem beqF0 {a b : Int} (h : ¬ a = b) : (a == b) = false := by simp [h]
theorem k255 : IntKind.i64.wrap (IntKind.i64.wrap (1 * 2 ^ min (Int.toNat 8) IntKind.i64.bits) - 1) = 255 := by kernel_rfl
theorem rclass {v : Int} (h0 : 0 ≤ v) (h1 : v < 4294967296) : KnownOk Try.prog ⟨30, [.int .i64 2, .int .u32 v], .int .i64 (cls v)⟩ := by
  unfold KnownOk
  refine fun_of (by simp [AV.plain, AV.plain2, AV.plain1]) ?_
  refine sem_body hng hmix (fc := false) (lf := 100) Try.func30 rfl (Nat.le_of_ble_eq_true rfl) ?_
  conv => whnf
  refine rwidths2.use ?_
  conv => whnf
  refine (rparts h0 h1).use ?_
  conv => whnf
  by_cases ha : v / 8388608 % 256 = 0
  · have ea := beqT0 ha
    by_cases hb : v % 8388608 = 0
    · have eb := beqT0 hb
      have hc : cls v = 0 := by unfold cls; rw [if_pos ha, if_pos hb]
      repeat (first | (simp only [k255, ea, eb, hc]; conv => whnf))
      first | exact ⟨rfl, rfl⟩ | exact ⟨rfl, trivial⟩
    · have eb := beqF0 hb
      have hc : cls v = 1 := by unfold cls; rw [if_pos ha, if_neg hb]
      repeat (first | (simp only [k255, ea, eb, hc]; conv => whnf))
      first | exact ⟨rfl, rfl⟩ | exact ⟨rfl, trivial⟩
  · have ea := beqF0 ha
    by_cases hl : v / 8388608 % 256 < 255
    · have el := decide_eq_true hl
      have hc : cls v = 2 := by unfold cls; rw [if_neg ha, if_pos hl]
      repeat (first | (simp only [k255, ea, el, hc]; conv => whnf))
      first | exact ⟨rfl, rfl⟩ | exact ⟨rfl, trivial⟩
    · have el := decide_eq_false hl
      by_cases hb : v % 8388608 = 0
      · have eb := beqT0 hb
        have hc : cls v = 3 := by unfold cls; rw [if_neg ha, if_neg hl, if_pos hb]
        repeat (first | (simp only [k255, ea, eb, el, hc]; conv => whnf))
        first | exact ⟨rfl, rfl⟩ | exact ⟨rfl, trivial⟩
      · have eb := beqF0 hb
        repeat (first | (simp only [k255, ea, eb, el]; conv => whnf))
        generalize hz : (Int.fdiv (v % 8388608) _ == (1 : Int)) = z
        have hf : Int.fdiv (v % 8388608) (2 ^ 22) = v % 8388608 / 4194304 := Int.fdiv_eq_ediv_of_nonneg _ (by decide)
        replace hz : (Int.fdiv (v % 8388608) (2 ^ 22) == (1 : Int)) = z := hz
        rw [hf] at hz
        cases z with
        | true =>
          have hc : cls v = 4 := by unfold cls; rw [if_neg ha, if_neg hl, if_neg hb, if_pos (by simpa using hz)]
          conv => whnf
          rw [hc]
          first | exact ⟨rfl, rfl⟩ | exact ⟨rfl, trivial⟩
        | false =>
          have hc : cls v = 5 := by unfold cls; rw [if_neg ha, if_neg hl, if_neg hb, if_neg (by simpa using hz)]
          conv => whnf
          rw [hc]
          first | exact ⟨rfl, rfl⟩ | exact ⟨rfl, trivial⟩
theorem pclass {v : Int} (h0 : 0 ≤ v) (h1 : v < 4294967296) : KnownOk Try.prog ⟨97, [.int .i64 2, .int .u32 v], .int .i64 (cls v)⟩ := by
  unfold KnownOk
  refine fun_of (by simp [AV.plain, AV.plain2, AV.plain1]) ?_
  refine sem_body hng hmix (fc := false) (lf := 100) Try.func97 rfl (Nat.le_of_ble_eq_true rfl) ?_
  conv => whnf
  refine pwidths2.use ?_
  conv => whnf
  refine (pparts h0 h1).use ?_
  conv => whnf
  by_cases ha : v / 8388608 % 256 = 0
  · have ea := beqT0 ha
    by_cases hb : v % 8388608 = 0
    · have eb := beqT0 hb
      have hc : cls v = 0 := by unfold cls; rw [if_pos ha, if_pos hb]
      repeat (first | (refine ptop2.use ?_; conv => whnf) | (simp only [k255, ea, eb, hc]; conv => whnf))
      first | exact ⟨rfl, rfl⟩ | exact ⟨rfl, trivial⟩
    · have eb := beqF0 hb
      have hc : cls v = 1 := by unfold cls; rw [if_pos ha, if_neg hb]
      repeat (first | (refine ptop2.use ?_; conv => whnf) | (simp only [k255, ea, eb, hc]; conv => whnf))
      first | exact ⟨rfl, rfl⟩ | exact ⟨rfl, trivial⟩
  · have ea := beqF0 ha
    by_cases hl : v / 8388608 % 256 < 255
    · have el := decide_eq_true hl
      have hc : cls v = 2 := by unfold cls; rw [if_neg ha, if_pos hl]
      repeat (first | (refine ptop2.use ?_; conv => whnf) | (simp only [k255, ea, el, hc]; conv => whnf))
      first | exact ⟨rfl, rfl⟩ | exact ⟨rfl, trivial⟩
    · have el := decide_eq_false hl
      by_cases hb : v % 8388608 = 0
      · have eb := beqT0 hb
        have hc : cls v = 3 := by unfold cls; rw [if_neg ha, if_neg hl, if_pos hb]
        repeat (first | (refine ptop2.use ?_; conv => whnf) | (simp only [k255, ea, eb, el, hc]; conv => whnf))
        first | exact ⟨rfl, rfl⟩ | exact ⟨rfl, trivial⟩
      · have eb := beqF0 hb
        repeat (first | (refine ptop2.use ?_; conv => whnf) | (simp only [k255, ea, eb, el]; conv => whnf))
        generalize hz : (Int.fdiv (v % 8388608) _ == (1 : Int)) = z
        have hf : Int.fdiv (v % 8388608) (2 ^ 22) = v % 8388608 / 4194304 := Int.fdiv_eq_ediv_of_nonneg _ (by decide)
        replace hz : (Int.fdiv (v % 8388608) (2 ^ 22) == (1 : Int)) = z := hz
        rw [hf] at hz
        cases z with
        | true =>
          have hc : cls v = 4 := by unfold cls; rw [if_neg ha, if_neg hl, if_neg hb, if_pos (by simpa using hz)]
          conv => whnf
          rw [hc]
          first | exact ⟨rfl, rfl⟩ | exact ⟨rfl, trivial⟩
        | false =>
          have hc : cls v = 5 := by unfold cls; rw [if_neg ha, if_neg hl, if_neg hb, if_neg (by simpa using hz)]
          conv => whnf
          rw [hc]
          first | exact ⟨rfl, rfl⟩ | exact ⟨rfl, trivial⟩
end Go.Proofs.Ytekjeadgknmokaa
