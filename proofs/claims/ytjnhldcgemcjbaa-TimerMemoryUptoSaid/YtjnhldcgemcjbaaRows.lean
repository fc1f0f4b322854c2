/-
  No cell of these rows narrows 'for every input' (looked for: loops, veiled, ifaces, maps, wideKeys, modest, calm, conditions, laid).
  DERIVED. THE GIVEN ROWS OF THIS SEAT. 5 by the template 'for every input the law returns true; each argument reads behind the call as it read before'; 0 by the template 'total and deterministic' (their statements: YtjnhldcgemcjbaaTotals.lean).
  GIVEN WITH THE SEED: the statements are not yours to turn. If you find one false, say at which input.
  Laid BY PROGRAM, IN A SANDBOX (cutbox-rows.mjs): the forced cells as the released guide's own fill.sh prints them over the translation 6344a0a4c59f8f00… (all of the seat's roots in one cut). By AI agents, Wed Nov 11 2026. No macro, syntax, notation, axiom, sorry.
-/
import Derived.Test.YtjnhldcgemcjbaaChecked
import GoSem.Claim
import GoSem.ClaimJoined
import GoSem.ClaimMapViews
import Derived.JoinedTies
import Derived.KernelRfl
namespace Go.Proofs.Ytjnhldcgemcjbaa
/- THE CELL 'sum', in the pinned program and in every row, IS THE sha256 OF THE DUMP (.gsa) THAT YtjnhldcgemcjbaaProg.lean LOADS. Nothing in Lean hashes anything: it is a label: what it is worth is what the hold of that sum in a sandbox is worth. -/
noncomputable def Try.pinned : Pinned := { name := "ytjnhldcgemcjbaa", sum := "6344a0a4c59f8f00483a41b43eb47f3188db641a9369f7dfa2a2cb7bfa539a36", checked := Try.checked }
namespace Rows
def none {H : Type} : Left H := { results := [], args := [] }

/-- 'weftlaw4.TimerAfters': WHATEVER THE INPUT: true; the input reads as it did. -/
def timerAftersSpec : ChangeSpec := { name := "timerAfters", fn := fun _ => fun
  | [d1, d2] => { results := [.lit (.bool true)], args := [d1, d2] }
  | _ => none }
def timerAftersRow : OpenClaim := { program := "ytjnhldcgemcjbaa", sum := "6344a0a4c59f8f00483a41b43eb47f3188db641a9369f7dfa2a2cb7bfa539a36", func := "weft/weftlaw4.TimerAfters", spec := "timerAfters", apart := false }
def TimerAftersSaid : Prop := timerAftersRow.holds Try.pinned (OpenSpec.ofChange timerAftersSpec)

/-- ITS FALSE NEIGHBOUR: 'it returns false'. Refute it at one input. -/
def timerAftersWrong : ChangeSpec := { name := "timerAfters", fn := fun _ => fun
  | [d1, d2] => { results := [.lit (.bool false)], args := [d1, d2] }
  | _ => none }
def TimerAftersWrongFalsely : Prop := timerAftersRow.holds Try.pinned (OpenSpec.ofChange timerAftersWrong)

/-- 'weftlaw4.TimerMemory': WHATEVER THE INPUT: true; the input reads as it did. -/
def timerMemorySpec : ChangeSpec := { name := "timerMemory", fn := fun _ => fun
  | [d1, d2] => { results := [.lit (.bool true)], args := [d1, d2] }
  | _ => none }
def timerMemoryRow : OpenClaim := { program := "ytjnhldcgemcjbaa", sum := "6344a0a4c59f8f00483a41b43eb47f3188db641a9369f7dfa2a2cb7bfa539a36", func := "weft/weftlaw4.TimerMemory", spec := "timerMemory", apart := false }
def TimerMemorySaid : Prop := timerMemoryRow.holds Try.pinned (OpenSpec.ofChange timerMemorySpec)

/-- ITS FALSE NEIGHBOUR: 'it returns false'. Refute it at one input. -/
def timerMemoryWrong : ChangeSpec := { name := "timerMemory", fn := fun _ => fun
  | [d1, d2] => { results := [.lit (.bool false)], args := [d1, d2] }
  | _ => none }
def TimerMemoryWrongFalsely : Prop := timerMemoryRow.holds Try.pinned (OpenSpec.ofChange timerMemoryWrong)

/-- 'weftlaw4.TimerSorts': WHATEVER THE INPUT: true; the input reads as it did. -/
def timerSortsSpec : ChangeSpec := { name := "timerSorts", fn := fun _ => fun
  | [d1, d2] => { results := [.lit (.bool true)], args := [d1, d2] }
  | _ => none }
def timerSortsRow : OpenClaim := { program := "ytjnhldcgemcjbaa", sum := "6344a0a4c59f8f00483a41b43eb47f3188db641a9369f7dfa2a2cb7bfa539a36", func := "weft/weftlaw4.TimerSorts", spec := "timerSorts", apart := false }
def TimerSortsSaid : Prop := timerSortsRow.holds Try.pinned (OpenSpec.ofChange timerSortsSpec)

/-- ITS FALSE NEIGHBOUR: 'it returns false'. Refute it at one input. -/
def timerSortsWrong : ChangeSpec := { name := "timerSorts", fn := fun _ => fun
  | [d1, d2] => { results := [.lit (.bool false)], args := [d1, d2] }
  | _ => none }
def TimerSortsWrongFalsely : Prop := timerSortsRow.holds Try.pinned (OpenSpec.ofChange timerSortsWrong)

/-- 'weftlaw4.TimerPlays': WHATEVER THE INPUT: true; the input reads as it did. -/
def timerPlaysSpec : ChangeSpec := { name := "timerPlays", fn := fun _ => fun
  | [d1, d2, d3] => { results := [.lit (.bool true)], args := [d1, d2, d3] }
  | _ => none }
def timerPlaysRow : OpenClaim := { program := "ytjnhldcgemcjbaa", sum := "6344a0a4c59f8f00483a41b43eb47f3188db641a9369f7dfa2a2cb7bfa539a36", func := "weft/weftlaw4.TimerPlays", spec := "timerPlays", apart := false }
def TimerPlaysSaid : Prop := timerPlaysRow.holds Try.pinned (OpenSpec.ofChange timerPlaysSpec)

/-- ITS FALSE NEIGHBOUR: 'it returns false'. Refute it at one input. -/
def timerPlaysWrong : ChangeSpec := { name := "timerPlays", fn := fun _ => fun
  | [d1, d2, d3] => { results := [.lit (.bool false)], args := [d1, d2, d3] }
  | _ => none }
def TimerPlaysWrongFalsely : Prop := timerPlaysRow.holds Try.pinned (OpenSpec.ofChange timerPlaysWrong)

/-- 'weftlaw4.TimerForgets': WHATEVER THE INPUT: true; the input reads as it did. -/
def timerForgetsSpec : ChangeSpec := { name := "timerForgets", fn := fun _ => fun
  | [d1, d2, d3] => { results := [.lit (.bool true)], args := [d1, d2, d3] }
  | _ => none }
def timerForgetsRow : OpenClaim := { program := "ytjnhldcgemcjbaa", sum := "6344a0a4c59f8f00483a41b43eb47f3188db641a9369f7dfa2a2cb7bfa539a36", func := "weft/weftlaw4.TimerForgets", spec := "timerForgets", apart := false }
def TimerForgetsSaid : Prop := timerForgetsRow.holds Try.pinned (OpenSpec.ofChange timerForgetsSpec)

/-- ITS FALSE NEIGHBOUR: 'it returns false'. Refute it at one input. -/
def timerForgetsWrong : ChangeSpec := { name := "timerForgets", fn := fun _ => fun
  | [d1, d2, d3] => { results := [.lit (.bool false)], args := [d1, d2, d3] }
  | _ => none }
def TimerForgetsWrongFalsely : Prop := timerForgetsRow.holds Try.pinned (OpenSpec.ofChange timerForgetsWrong)

/- THE SECOND FORM. 'bulk': how many values and letters a reading holds, each counted each time it is reached (what is shared counts as often as it is met; a slice's spare places count too). A statement '..UptoSaid' is the law's where the arguments, and the package variables that the reading takes, are together of bulk at most 1048576: NARROWER than '..Said'. Prove '..Said' where nothing that the law and all that it calls make is longer than what came in: it says more and counts as full. Else prove '..UptoSaid'. A law counts once. -/
mutual
def uptoBulk {H : Type} : DataW H → Nat
  | .lit (.string bytes) => bytes.length + 1
  | .lit _ => 1
  | .nil => 1
  | .ptr d => uptoBulk d + 1
  | .slice elems spare => uptoBulkAll elems + uptoBulkAll spare + 1
  | .agg parts => uptoBulkAll parts + 1
  | .iface _ d => uptoBulk d + 1
  | .map entries => uptoBulkEntries entries + 1
  | .held _ => 1
def uptoBulkAll {H : Type} : List (DataW H) → Nat
  | [] => 0
  | d :: r => uptoBulk d + uptoBulkAll r
def uptoBulkEntries {H : Type} : List (Lit × DataW H) → Nat
  | [] => 0
  | x :: r => uptoBulkEntry x + uptoBulkEntries r
def uptoBulkEntry {H : Type} : Lit × DataW H → Nat
  | (.string bytes, d) => bytes.length + uptoBulk d + 1
  | (_, d) => uptoBulk d + 1
 end
def uptoSmall : (H : Type) → List (DataW H) → Bool := fun _ ds => decide (uptoBulkAll ds ≤ 1048576)
def OpenSpec.upto (s : _root_.Go.ChangeSpec) : _root_.Go.OpenSpec := { _root_.Go.OpenSpec.ofChange s with cond := some uptoSmall }

/-- 'weftlaw4.TimerAfters', WHERE WHAT IT READS IS OF BULK AT MOST 1048576: true; the input reads as it did. -/
def timerAftersUptoRow : OpenClaim := { program := "ytjnhldcgemcjbaa", sum := "6344a0a4c59f8f00483a41b43eb47f3188db641a9369f7dfa2a2cb7bfa539a36", func := "weft/weftlaw4.TimerAfters", spec := "timerAfters", apart := false, narrowed := true }
def TimerAftersUptoSaid : Prop := timerAftersUptoRow.holds Try.pinned (OpenSpec.upto timerAftersSpec)

/-- 'weftlaw4.TimerMemory', WHERE WHAT IT READS IS OF BULK AT MOST 1048576: true; the input reads as it did. -/
def timerMemoryUptoRow : OpenClaim := { program := "ytjnhldcgemcjbaa", sum := "6344a0a4c59f8f00483a41b43eb47f3188db641a9369f7dfa2a2cb7bfa539a36", func := "weft/weftlaw4.TimerMemory", spec := "timerMemory", apart := false, narrowed := true }
def TimerMemoryUptoSaid : Prop := timerMemoryUptoRow.holds Try.pinned (OpenSpec.upto timerMemorySpec)

/-- 'weftlaw4.TimerSorts', WHERE WHAT IT READS IS OF BULK AT MOST 1048576: true; the input reads as it did. -/
def timerSortsUptoRow : OpenClaim := { program := "ytjnhldcgemcjbaa", sum := "6344a0a4c59f8f00483a41b43eb47f3188db641a9369f7dfa2a2cb7bfa539a36", func := "weft/weftlaw4.TimerSorts", spec := "timerSorts", apart := false, narrowed := true }
def TimerSortsUptoSaid : Prop := timerSortsUptoRow.holds Try.pinned (OpenSpec.upto timerSortsSpec)

/-- 'weftlaw4.TimerPlays', WHERE WHAT IT READS IS OF BULK AT MOST 1048576: true; the input reads as it did. -/
def timerPlaysUptoRow : OpenClaim := { program := "ytjnhldcgemcjbaa", sum := "6344a0a4c59f8f00483a41b43eb47f3188db641a9369f7dfa2a2cb7bfa539a36", func := "weft/weftlaw4.TimerPlays", spec := "timerPlays", apart := false, narrowed := true }
def TimerPlaysUptoSaid : Prop := timerPlaysUptoRow.holds Try.pinned (OpenSpec.upto timerPlaysSpec)

/-- 'weftlaw4.TimerForgets', WHERE WHAT IT READS IS OF BULK AT MOST 1048576: true; the input reads as it did. -/
def timerForgetsUptoRow : OpenClaim := { program := "ytjnhldcgemcjbaa", sum := "6344a0a4c59f8f00483a41b43eb47f3188db641a9369f7dfa2a2cb7bfa539a36", func := "weft/weftlaw4.TimerForgets", spec := "timerForgets", apart := false, narrowed := true }
def TimerForgetsUptoSaid : Prop := timerForgetsUptoRow.holds Try.pinned (OpenSpec.upto timerForgetsSpec)

end Rows
end Go.Proofs.Ytjnhldcgemcjbaa
