/- Len, Next, When, New of Timers; no condition. -/
import Derived.Test.YtelfemhnijnhfaaTmD
import Derived.Carry
namespace Go.Proofs.Ytelfemhnijnhfaa.Fr.Tm
open Go.RowKit Go.Maps
set_option linter.unusedVariables false
set_option maxRecDepth 100000

theorem new_bad (w : World) (lim : Int) (h : lim < 1 ∨ 65536 < lim) :
    Calls Try.prog 42 #[.int .i64 lim] w fun e w' => e = .returned (.tuple #[.pointer none, .int .i64 1]) ∧ w' = w := by
  by_cases h1 : lim < 1
  · go_enter Try.func42, Try.ntmps42
    go_wp2
    go_ret2
    exact ⟨rfl, rfl⟩
  · have h2 : 65536 < lim := by omega
    go_enter Try.func42, Try.ntmps42
    go_wp2
    go_ret2
    exact ⟨rfl, rfl⟩
def NewPost (w : World) (lim : Int) (e : Ending) (w' : World) : Prop :=
  ∃ tb mb, e = .returned (.tuple #[.pointer (some ⟨tb, 0, none⟩), .int .i64 0]) ∧ TimersAt w' tb (.slice none 0 0) mb lim ⟨[], fun _ => none, 0⟩ ∧ Touch [] w w' ∧ w.heap.size ≤ tb ∧ w.heap.size ≤ mb
theorem new_good (w : World) (lim : Int) (h1 : 1 ≤ lim) (h2 : lim ≤ 65536) :
    Calls Try.prog 42 #[.int .i64 lim] w (NewPost w lim) := by
  have hmm := @run_makeMap Try.prog
  have g1 : ¬ lim < 1 := by omega
  have g2 : ¬ 65536 < lim := by omega
  go_enter Try.func42, Try.ntmps42
  go_wp2
  go_ret2
  refine ⟨w.heap.size + 1, w.heap.size, rfl, ⟨?_, PRow.nil _ _, ?_⟩, ((Touch.refl _ _).alloc _).alloc _, by omega, by omega⟩
  · have := heap_alloc_new (w.alloc (.map #[] 0)) (.cells #[.int .i64 lim, .slice none 0 0, .map (some w.heap.size)] 144)
    rw [World.size_alloc] at this
    exact this
  · exact (IMap.made w).kept (S := []) ((Touch.refl _ _).alloc _) (by simp)
end Go.Proofs.Ytelfemhnijnhfaa.Fr.Tm
