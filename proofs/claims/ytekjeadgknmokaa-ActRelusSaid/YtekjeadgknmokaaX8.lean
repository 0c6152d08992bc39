import Derived.Test.YtekjeadgknmokaaX7
import Derived.Laws.Append
/- Operations that make memory. -/
set_option linter.unusedVariables false
set_option linter.unusedSimpArgs false
namespace Go.X
open Go

section
variable {P : Program} {ts : Array TypeId} {t u e : TypeId} {d : TypeDesc} {size n sLen sCap : Nat} {x : Value} {new : Array Value} {ty : TypeId} {i : TypeInfo}

theorem run_append_in (h0 : ts[0]? = some t) (h1 : ts[1]? = some u) (ht : P.underlying t = some (.slice e)) (hu : P.underlying u = some d) (hd : (∃ l, d = .slice l) ∨ d = .string) (hs : sizeOfA P e = some size)
    (hn : ∀ w, (Builtin.lenOf x).run P w = .ok n w) (w : World) (hf : (Builtin.firstCells size n x).run P w = .ok new w) (a : Addr) (hle : sLen + n ≤ sCap) (w' : World)
    (hst : (storeCells (a.add (sLen * size)) new.toList).run P w = .ok () w') :
    (Builtin.append_ ts ty #[.slice (some a) sLen sCap, x]).run P w = .ok (.slice (some a) (sLen + n) sCap) w' := by
  rcases hd with ⟨l, rfl⟩ | rfl
  all_goals
    simp [Builtin.append_, h0, h1, run_underlying' ht, run_underlying' hu, run_sizeOf' hs, hn, hf, hle, hst]
theorem run_append_nil0 (h0 : ts[0]? = some t) (h1 : ts[1]? = some u) (ht : P.underlying t = some (.slice e)) (hu : P.underlying u = some d) (hd : (∃ l, d = .slice l) ∨ d = .string) (hs : sizeOfA P e = some size)
    (hn : ∀ w, (Builtin.lenOf x).run P w = .ok 0 w) (w : World) (hf : (Builtin.firstCells size 0 x).run P w = .ok new w) :
    (Builtin.append_ ts ty #[.slice none 0 0, x]).run P w = .ok (.slice none 0 0) w := by
  rcases hd with ⟨l, rfl⟩ | rfl
  all_goals
    simp [Builtin.append_, h0, h1, run_underlying' ht, run_underlying' hu, run_sizeOf' hs, hn, hf]
theorem run_append_new (h0 : ts[0]? = some t) (h1 : ts[1]? = some u) (ht : P.underlying t = some (.slice e)) (hu : P.underlying u = some d) (hd : (∃ l, d = .slice l) ∨ d = .string) (hi : P.info? e = some i) (hs : i.size = size)
    (hn : ∀ w, (Builtin.lenOf x).run P w = .ok n w) (base : Option Addr) (hgt : ¬ sLen + n ≤ sCap) (hby : (sLen + n) * i.bytes ≤ 140737488355328) (hb1 : 1 ≤ i.bytes) (z : Value) (hz : i.zero = some z) (w : World)
    (old : Array Value) (ho : ∀ w', w'.heap = w.heap → (Builtin.firstCells size sLen (.slice base sLen sCap)).run P w' = .ok old w') (hf : ∀ w', w'.heap = w.heap → (Builtin.firstCells size n x).run P w' = .ok new w') :
    ∃ cap, sLen + n ≤ cap ∧ (Builtin.append_ ts ty #[.slice base sLen sCap, x]).run P w = .ok (.slice (some ⟨w.heap.size, 0, none⟩) (sLen + n) cap) (w.drew.alloc (.cells (old ++ new ++ Builtin.zeroCells z.cells (cap - (sLen + n))) e)) := by
  have hfit := growslice_fits (bytes := i.bytes) (show sCap < sLen + n by omega) hby
  have hmax : ¬ ((sLen + n : Nat) : Int) > 9223372036854775807 := by
    have : sLen + n ≤ (sLen + n) * i.bytes := Nat.le_mul_of_pos_right _ hb1
    omega
  refine ⟨(Question.appendCap (sLen + n) sCap e).cut (w.tape w.drawn (.appendCap (sLen + n) sCap e)), by simp [Question.cut], ?_⟩
  have hbn : ¬ i.bytes = 0 := by omega
  have hfit' : ¬ 2 ^ 48 < Builtin.nextslicecap (sLen + n) sCap * i.bytes := by omega
  rcases hd with ⟨l, rfl⟩ | rfl
  all_goals
    simp [Builtin.append_, h0, h1, run_underlying' ht, run_underlying' hu, sizeOf, typeInfo, zeroValue, hi, hz, hs, hn, hgt, hbn, hfit', Question.forced, ho w.drew rfl, hf w.drew rfl, newRow]
end
end Go.X
