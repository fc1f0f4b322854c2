/- bytes.Compare; no condition. -/
import Derived.Test.YtnpeafhjcelpfaaGreatLL
import Derived.Laws.Externs
namespace Go.Proofs.YtnpeafhjcelpfaaGreat.Tri
open Go.RowKit Go.Maps
set_option linter.unusedVariables false
set_option linter.unusedSimpArgs false
set_option maxRecDepth 100000

theorem fn84 : ∃ fn, Tryz.prog.funcs[84]? = some fn ∧ (fn.name == "runtime.NumGoroutine") = false ∧ fn.body.isNone = true ∧ Extern.findNext fn = none ∧ Extern.find fn = some Extern.BytealgCompare.compare := ⟨Tryz.f84, by kernel_rfl, by kernel_rfl, by kernel_rfl, by kernel_rfl, by kernel_rfl⟩
set_option maxHeartbeats 2000000 in
theorem bcmp_calls {w : World} (xs ys : List Int) (a b : Addr) (hx : ∀ j x, xs[j]? = some x → w.cell? (a.add j) = some (.int .u8 x)) (hy : ∀ j x, ys[j]? = some x → w.cell? (b.add j) = some (.int .u8 x)) (c d : Nat) :
    Calls Tryz.prog 59 #[.slice (some a) xs.length c, .slice (some b) ys.length d] w fun e w' => e = .returned (.int .i64 (Lib.compareBytes (Lib.bytesOf xs) (Lib.bytesOf ys))) ∧ w' = w := by
  have HC := Lib.hid (compare_run xs ys a b hx hy c d)
  clear hx hy
  go_enter Tryz.func59, Tryz.ntmps59
  go_wp2_with fail
  obtain ⟨fn, f1, f2, f3, f4, f5⟩ := fn84
  rw [run_callFunc_extern f1 f2 f3 f4 f5, HC.out]
  simp only [Result.andThen]
  rw [Oper.upon_value]
  go_wp2
  go_ret
  exact ⟨rfl, rfl⟩
end Go.Proofs.YtnpeafhjcelpfaaGreat.Tri
