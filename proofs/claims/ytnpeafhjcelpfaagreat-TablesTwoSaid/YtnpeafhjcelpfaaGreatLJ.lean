/- Methods by interface: the closed facts; no condition. -/
import Derived.Test.YtnpeafhjcelpfaaGreatLI
namespace Go.Proofs.YtnpeafhjcelpfaaGreat.Tri
open Go.RowKit Go.Maps
set_option linter.unusedVariables false
set_option maxRecDepth 100000

theorem nil1_drop (a : Addr) (w : World) : (nilAhead (Tryz.prog.types.size + Made.depth) 91 (.pointer (some a)) "weft/tables.drop").run Tryz.prog w = .ok (some false) w := by kernel_rfl
theorem met1_drop (a : Addr) (w : World) : (method (Tryz.prog.types.size + Made.depth) 91 (.pointer (some a)) "weft/tables.drop").run Tryz.prog w = .ok (162, .pointer (some a)) w := by kernel_rfl
theorem nil1_put (a : Addr) (w : World) : (nilAhead (Tryz.prog.types.size + Made.depth) 91 (.pointer (some a)) "weft/tables.put").run Tryz.prog w = .ok (some false) w := by kernel_rfl
theorem met1_put (a : Addr) (w : World) : (method (Tryz.prog.types.size + Made.depth) 91 (.pointer (some a)) "weft/tables.put").run Tryz.prog w = .ok (164, .pointer (some a)) w := by kernel_rfl
theorem nil1_has (a : Addr) (w : World) : (nilAhead (Tryz.prog.types.size + Made.depth) 91 (.pointer (some a)) "weft/tables.has").run Tryz.prog w = .ok (some false) w := by kernel_rfl
theorem met1_has (a : Addr) (w : World) : (method (Tryz.prog.types.size + Made.depth) 91 (.pointer (some a)) "weft/tables.has").run Tryz.prog w = .ok (163, .pointer (some a)) w := by kernel_rfl
theorem nil1_count (a : Addr) (w : World) : (nilAhead (Tryz.prog.types.size + Made.depth) 91 (.pointer (some a)) "weft/tables.count").run Tryz.prog w = .ok (some false) w := by kernel_rfl
theorem met1_count (a : Addr) (w : World) : (method (Tryz.prog.types.size + Made.depth) 91 (.pointer (some a)) "weft/tables.count").run Tryz.prog w = .ok (161, .pointer (some a)) w := by kernel_rfl
theorem nil2_drop (a : Addr) (w : World) : (nilAhead (Tryz.prog.types.size + Made.depth) 92 (.pointer (some a)) "weft/tables.drop").run Tryz.prog w = .ok (some false) w := by kernel_rfl
theorem met2_drop (a : Addr) (w : World) : (method (Tryz.prog.types.size + Made.depth) 92 (.pointer (some a)) "weft/tables.drop").run Tryz.prog w = .ok (166, .pointer (some a)) w := by kernel_rfl
theorem nil2_put (a : Addr) (w : World) : (nilAhead (Tryz.prog.types.size + Made.depth) 92 (.pointer (some a)) "weft/tables.put").run Tryz.prog w = .ok (some false) w := by kernel_rfl
theorem met2_put (a : Addr) (w : World) : (method (Tryz.prog.types.size + Made.depth) 92 (.pointer (some a)) "weft/tables.put").run Tryz.prog w = .ok (168, .pointer (some a)) w := by kernel_rfl
theorem nil2_has (a : Addr) (w : World) : (nilAhead (Tryz.prog.types.size + Made.depth) 92 (.pointer (some a)) "weft/tables.has").run Tryz.prog w = .ok (some false) w := by kernel_rfl
theorem met2_has (a : Addr) (w : World) : (method (Tryz.prog.types.size + Made.depth) 92 (.pointer (some a)) "weft/tables.has").run Tryz.prog w = .ok (167, .pointer (some a)) w := by kernel_rfl
theorem nil2_count (a : Addr) (w : World) : (nilAhead (Tryz.prog.types.size + Made.depth) 92 (.pointer (some a)) "weft/tables.count").run Tryz.prog w = .ok (some false) w := by kernel_rfl
theorem met2_count (a : Addr) (w : World) : (method (Tryz.prog.types.size + Made.depth) 92 (.pointer (some a)) "weft/tables.count").run Tryz.prog w = .ok (165, .pointer (some a)) w := by kernel_rfl
theorem nilR_drop (x : Value) (w : World) : (nilAhead (Tryz.prog.types.size + Made.depth) 90 (.agg #[x]) "weft/tables.drop").run Tryz.prog w = .ok (some false) w := by kernel_rfl
theorem metR_drop (x : Value) (w : World) : (method (Tryz.prog.types.size + Made.depth) 90 (.agg #[x]) "weft/tables.drop").run Tryz.prog w = .ok (150, .agg #[x]) w := by kernel_rfl
theorem nilR_put (x : Value) (w : World) : (nilAhead (Tryz.prog.types.size + Made.depth) 90 (.agg #[x]) "weft/tables.put").run Tryz.prog w = .ok (some false) w := by kernel_rfl
theorem metR_put (x : Value) (w : World) : (method (Tryz.prog.types.size + Made.depth) 90 (.agg #[x]) "weft/tables.put").run Tryz.prog w = .ok (152, .agg #[x]) w := by kernel_rfl
theorem nilR_has (x : Value) (w : World) : (nilAhead (Tryz.prog.types.size + Made.depth) 90 (.agg #[x]) "weft/tables.has").run Tryz.prog w = .ok (some false) w := by kernel_rfl
theorem metR_has (x : Value) (w : World) : (method (Tryz.prog.types.size + Made.depth) 90 (.agg #[x]) "weft/tables.has").run Tryz.prog w = .ok (151, .agg #[x]) w := by kernel_rfl
theorem nilR_count (x : Value) (w : World) : (nilAhead (Tryz.prog.types.size + Made.depth) 90 (.agg #[x]) "weft/tables.count").run Tryz.prog w = .ok (some false) w := by kernel_rfl
theorem metR_count (x : Value) (w : World) : (method (Tryz.prog.types.size + Made.depth) 90 (.agg #[x]) "weft/tables.count").run Tryz.prog w = .ok (149, .agg #[x]) w := by kernel_rfl
end Go.Proofs.YtnpeafhjcelpfaaGreat.Tri
