import Derived.Test.YtekjeadgknmokaaX15
import Derived.Test.YtekjeadgknmokaaRows
import Derived.KernelRfl
set_option linter.unusedVariables false
namespace Go.Proofs.Ytekjeadgknmokaa
open Go Go.X
set_option maxRecDepth 1000000
theorem noNum : (Try.prog.funcs.toList.all fun fn => fn.body.isNone || !(fn.name == "runtime.NumGoroutine")) = true := by kernel_rfl
theorem hng : NoNumG Try.prog := by
  intro f fn hf hb
  have h := List.all_eq_true.1 noNum fn (List.mem_of_getElem? (by simpa using hf : Try.prog.funcs.toList[f]? = some fn))
  cases hn : (fn.name == "runtime.NumGoroutine") with
  | false => rfl
  | true =>
    rw [hn] at h
    cases hbd : fn.body with
    | none => rw [hbd] at hb; cases hb
    | some c => rw [hbd] at h; cases h
theorem hmix : Try.prog.follows .mixedOrders = true := by kernel_rfl
/-- A run of a call in the kernel. -/
theorem known {k : Known} (hp : cond k.v.plain (allR AV.plain k.args) false = true) (h : callB Try.prog true 100000 [] 60 k.f k.args ⟨0, []⟩ (fun r _ _ => cond (beqV r k.v) True False) = True) : KnownOk Try.prog k :=
  known_of_run hng hmix tbl_nil hp h
end Go.Proofs.Ytekjeadgknmokaa
