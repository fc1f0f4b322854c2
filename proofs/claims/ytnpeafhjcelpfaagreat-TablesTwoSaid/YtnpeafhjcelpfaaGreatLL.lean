/- bytes.Compare of six bytes; no condition. -/
import Derived.Test.YtnpeafhjcelpfaaGreatLK
import Derived.Lib.BytesEntry
import Derived.Lib.Bytealg
namespace Go.Proofs.YtnpeafhjcelpfaaGreat.Tri
open Go.RowKit Go.Maps
set_option linter.unusedVariables false
set_option linter.unusedSimpArgs false
set_option maxRecDepth 100000

theorem bytesOf_run {w : World} (xs : List Int) (a : Addr) (h : ∀ j x, xs[j]? = some x → w.cell? (a.add j) = some (.int .u8 x)) (c : Nat) :
    (Extern.Bytes.bytesOf (.slice (some a) xs.length c)).run Tryz.prog w = .ok ⟨(Lib.bytesOf xs).toArray⟩ w := by
  have e := Lib.run_loadBytesX (P := Tryz.prog) w xs a ByteArray.empty h
  show (Extern.Bytes.loadBytes a xs.length ByteArray.empty).run Tryz.prog w = _
  rw [e]
  simp
theorem compare_run {w : World} (xs ys : List Int) (a b : Addr) (hx : ∀ j x, xs[j]? = some x → w.cell? (a.add j) = some (.int .u8 x)) (hy : ∀ j x, ys[j]? = some x → w.cell? (b.add j) = some (.int .u8 x)) (c d : Nat) :
    (Extern.BytealgCompare.compare #[.slice (some a) xs.length c, .slice (some b) ys.length d]).run Tryz.prog w = .ok (.int .i64 (Lib.compareBytes (Lib.bytesOf xs) (Lib.bytesOf ys))) w := by
  change Sem.run Tryz.prog (do pure (goInt (Extern.BytealgCompare.cmp (← Extern.Bytes.bytesOf (.slice (some a) xs.length c)) (← Extern.Bytes.bytesOf (.slice (some b) ys.length d))))) w = _
  simp only [Sem.run_bind, Sem.run_pure, Result.andThen, bytesOf_run xs a hx c, bytesOf_run ys b hy d]
  rw [Lib.cmp_eq]
  rfl
end Go.Proofs.YtnpeafhjcelpfaaGreat.Tri
