/-
  No cell of these rows narrows 'for every input' (looked for: loops, veiled, ifaces, maps, wideKeys, modest, calm, conditions, laid).
  DERIVED. THE GIVEN ROWS OF THIS SEAT. 13 by the template 'for every input the law returns true; each argument reads behind the call as it read before'; 0 by the template 'total and deterministic' (their statements: YtnpeafhjcelpfaaGreatTotals.lean).
  GIVEN WITH THE SEED: the statements are not yours to turn. If you find one false, say at which input.
  Laid BY PROGRAM, IN A SANDBOX (cutbox-rows.mjs): the forced cells as the released guide's own fill.sh prints them over the translation 173772110cee8bf1… (all of the seat's roots in one cut). By AI agents, Wed Nov 11 2026. No macro, syntax, notation, axiom, sorry.
-/
import Derived.Test.YtnpeafhjcelpfaaGreatChecked
import GoSem.Claim
import GoSem.ClaimJoined
import GoSem.ClaimMapViews
import Derived.JoinedTies
import Derived.KernelRfl
namespace Go.Proofs.YtnpeafhjcelpfaaGreat
/- THE CELL 'sum', in the pinned program and in every row, IS THE sha256 OF THE DUMP (.gsa) THAT YtnpeafhjcelpfaaGreatProg.lean LOADS. Nothing in Lean hashes anything: it is a label: what it is worth is what the hold of that sum in a sandbox is worth. -/
noncomputable def Tryz.pinned : Pinned := { name := "ytnpeafhjcelpfaagreat", sum := "173772110cee8bf10a73eccd6bc479beec7ab9a845d81438e898f7c9a624b920", checked := Tryz.checked }
namespace Rows
def none {H : Type} : Left H := { results := [], args := [] }

/-- 'weftlaw9.TablesNews': WHATEVER THE INPUT: true; the input reads as it did. -/
def tablesNewsSpec : ChangeSpec := { name := "tablesNews", fn := fun _ => fun
  | [d] => { results := [.lit (.bool true)], args := [d] }
  | _ => none }
def tablesNewsRow : OpenClaim := { program := "ytnpeafhjcelpfaagreat", sum := "173772110cee8bf10a73eccd6bc479beec7ab9a845d81438e898f7c9a624b920", func := "weft/weftlaw9.TablesNews", spec := "tablesNews", inPlace := ["internal/bytealg.Compare"], unfollowed := true, recurses := true, plainKeys := false, apart := false }
def TablesNewsSaid : Prop := tablesNewsRow.holds Tryz.pinned (OpenSpec.ofChange tablesNewsSpec)

/-- ITS FALSE NEIGHBOUR: 'it returns false'. Refute it at one input. -/
def tablesNewsWrong : ChangeSpec := { name := "tablesNews", fn := fun _ => fun
  | [d] => { results := [.lit (.bool false)], args := [d] }
  | _ => none }
def TablesNewsWrongFalsely : Prop := tablesNewsRow.holds Tryz.pinned (OpenSpec.ofChange tablesNewsWrong)

/-- 'weftlaw9.TablesDoes': WHATEVER THE INPUT: true; the input reads as it did. -/
def tablesDoesSpec : ChangeSpec := { name := "tablesDoes", fn := fun _ => fun
  | [d1, d2] => { results := [.lit (.bool true)], args := [d1, d2] }
  | _ => none }
def tablesDoesRow : OpenClaim := { program := "ytnpeafhjcelpfaagreat", sum := "173772110cee8bf10a73eccd6bc479beec7ab9a845d81438e898f7c9a624b920", func := "weft/weftlaw9.TablesDoes", spec := "tablesDoes", inPlace := ["internal/bytealg.Compare"], unfollowed := true, recurses := true, plainKeys := false, apart := false }
def TablesDoesSaid : Prop := tablesDoesRow.holds Tryz.pinned (OpenSpec.ofChange tablesDoesSpec)

/-- ITS FALSE NEIGHBOUR: 'it returns false'. Refute it at one input. -/
def tablesDoesWrong : ChangeSpec := { name := "tablesDoes", fn := fun _ => fun
  | [d1, d2] => { results := [.lit (.bool false)], args := [d1, d2] }
  | _ => none }
def TablesDoesWrongFalsely : Prop := tablesDoesRow.holds Tryz.pinned (OpenSpec.ofChange tablesDoesWrong)

/-- 'weftlaw9.TablesResolves': WHATEVER THE INPUT: true; the input reads as it did. -/
def tablesResolvesSpec : ChangeSpec := { name := "tablesResolves", fn := fun _ => fun
  | [d1, d2] => { results := [.lit (.bool true)], args := [d1, d2] }
  | _ => none }
def tablesResolvesRow : OpenClaim := { program := "ytnpeafhjcelpfaagreat", sum := "173772110cee8bf10a73eccd6bc479beec7ab9a845d81438e898f7c9a624b920", func := "weft/weftlaw9.TablesResolves", spec := "tablesResolves", inPlace := ["internal/bytealg.Compare"], unfollowed := true, recurses := true, plainKeys := false, apart := false }
def TablesResolvesSaid : Prop := tablesResolvesRow.holds Tryz.pinned (OpenSpec.ofChange tablesResolvesSpec)

/-- ITS FALSE NEIGHBOUR: 'it returns false'. Refute it at one input. -/
def tablesResolvesWrong : ChangeSpec := { name := "tablesResolves", fn := fun _ => fun
  | [d1, d2] => { results := [.lit (.bool false)], args := [d1, d2] }
  | _ => none }
def TablesResolvesWrongFalsely : Prop := tablesResolvesRow.holds Tryz.pinned (OpenSpec.ofChange tablesResolvesWrong)

/-- 'weftlaw9.TablesDumps': WHATEVER THE INPUT: true; the input reads as it did. -/
def tablesDumpsSpec : ChangeSpec := { name := "tablesDumps", fn := fun _ => fun
  | [d1, d2] => { results := [.lit (.bool true)], args := [d1, d2] }
  | _ => none }
def tablesDumpsRow : OpenClaim := { program := "ytnpeafhjcelpfaagreat", sum := "173772110cee8bf10a73eccd6bc479beec7ab9a845d81438e898f7c9a624b920", func := "weft/weftlaw9.TablesDumps", spec := "tablesDumps", inPlace := ["internal/bytealg.Compare"], unfollowed := true, recurses := true, plainKeys := false, apart := false }
def TablesDumpsSaid : Prop := tablesDumpsRow.holds Tryz.pinned (OpenSpec.ofChange tablesDumpsSpec)

/-- ITS FALSE NEIGHBOUR: 'it returns false'. Refute it at one input. -/
def tablesDumpsWrong : ChangeSpec := { name := "tablesDumps", fn := fun _ => fun
  | [d1, d2] => { results := [.lit (.bool false)], args := [d1, d2] }
  | _ => none }
def TablesDumpsWrongFalsely : Prop := tablesDumpsRow.holds Tryz.pinned (OpenSpec.ofChange tablesDumpsWrong)

/-- 'weftlaw9.TablesAll': WHATEVER THE INPUT: true; the input reads as it did. -/
def tablesAllSpec : ChangeSpec := { name := "tablesAll", fn := fun _ => fun
  | [d1, d2] => { results := [.lit (.bool true)], args := [d1, d2] }
  | _ => none }
def tablesAllRow : OpenClaim := { program := "ytnpeafhjcelpfaagreat", sum := "173772110cee8bf10a73eccd6bc479beec7ab9a845d81438e898f7c9a624b920", func := "weft/weftlaw9.TablesAll", spec := "tablesAll", inPlace := ["internal/bytealg.Compare"], unfollowed := true, recurses := true, plainKeys := false, apart := false }
def TablesAllSaid : Prop := tablesAllRow.holds Tryz.pinned (OpenSpec.ofChange tablesAllSpec)

/-- ITS FALSE NEIGHBOUR: 'it returns false'. Refute it at one input. -/
def tablesAllWrong : ChangeSpec := { name := "tablesAll", fn := fun _ => fun
  | [d1, d2] => { results := [.lit (.bool false)], args := [d1, d2] }
  | _ => none }
def TablesAllWrongFalsely : Prop := tablesAllRow.holds Tryz.pinned (OpenSpec.ofChange tablesAllWrong)

/-- 'weftlaw9.TablesTwo': WHATEVER THE INPUT: true; the input reads as it did. -/
def tablesTwoSpec : ChangeSpec := { name := "tablesTwo", fn := fun _ => fun
  | [d1, d2, d3, d4] => { results := [.lit (.bool true)], args := [d1, d2, d3, d4] }
  | _ => none }
def tablesTwoRow : OpenClaim := { program := "ytnpeafhjcelpfaagreat", sum := "173772110cee8bf10a73eccd6bc479beec7ab9a845d81438e898f7c9a624b920", func := "weft/weftlaw9.TablesTwo", spec := "tablesTwo", inPlace := ["internal/bytealg.Compare"], unfollowed := true, recurses := true, plainKeys := false, apart := false }
def TablesTwoSaid : Prop := tablesTwoRow.holds Tryz.pinned (OpenSpec.ofChange tablesTwoSpec)

/-- ITS FALSE NEIGHBOUR: 'it returns false'. Refute it at one input. -/
def tablesTwoWrong : ChangeSpec := { name := "tablesTwo", fn := fun _ => fun
  | [d1, d2, d3, d4] => { results := [.lit (.bool false)], args := [d1, d2, d3, d4] }
  | _ => none }
def TablesTwoWrongFalsely : Prop := tablesTwoRow.holds Tryz.pinned (OpenSpec.ofChange tablesTwoWrong)

/-- 'weftlaw9.TablesFrame': WHATEVER THE INPUT: true; the input reads as it did. -/
def tablesFrameSpec : ChangeSpec := { name := "tablesFrame", fn := fun _ => fun
  | [d1, d2] => { results := [.lit (.bool true)], args := [d1, d2] }
  | _ => none }
def tablesFrameRow : OpenClaim := { program := "ytnpeafhjcelpfaagreat", sum := "173772110cee8bf10a73eccd6bc479beec7ab9a845d81438e898f7c9a624b920", func := "weft/weftlaw9.TablesFrame", spec := "tablesFrame", inPlace := ["internal/bytealg.Compare"], unfollowed := true, recurses := true, plainKeys := false, apart := false }
def TablesFrameSaid : Prop := tablesFrameRow.holds Tryz.pinned (OpenSpec.ofChange tablesFrameSpec)

/-- ITS FALSE NEIGHBOUR: 'it returns false'. Refute it at one input. -/
def tablesFrameWrong : ChangeSpec := { name := "tablesFrame", fn := fun _ => fun
  | [d1, d2] => { results := [.lit (.bool false)], args := [d1, d2] }
  | _ => none }
def TablesFrameWrongFalsely : Prop := tablesFrameRow.holds Tryz.pinned (OpenSpec.ofChange tablesFrameWrong)

/-- 'weftlaw9.TablesBatch': WHATEVER THE INPUT: true; the input reads as it did. -/
def tablesBatchSpec : ChangeSpec := { name := "tablesBatch", fn := fun _ => fun
  | [d1, d2, d3] => { results := [.lit (.bool true)], args := [d1, d2, d3] }
  | _ => none }
def tablesBatchRow : OpenClaim := { program := "ytnpeafhjcelpfaagreat", sum := "173772110cee8bf10a73eccd6bc479beec7ab9a845d81438e898f7c9a624b920", func := "weft/weftlaw9.TablesBatch", spec := "tablesBatch", inPlace := ["internal/bytealg.Compare"], unfollowed := true, recurses := true, plainKeys := false, apart := false }
def TablesBatchSaid : Prop := tablesBatchRow.holds Tryz.pinned (OpenSpec.ofChange tablesBatchSpec)

/-- ITS FALSE NEIGHBOUR: 'it returns false'. Refute it at one input. -/
def tablesBatchWrong : ChangeSpec := { name := "tablesBatch", fn := fun _ => fun
  | [d1, d2, d3] => { results := [.lit (.bool false)], args := [d1, d2, d3] }
  | _ => none }
def TablesBatchWrongFalsely : Prop := tablesBatchRow.holds Tryz.pinned (OpenSpec.ofChange tablesBatchWrong)

/-- 'weftlaw9.TablesHops': WHATEVER THE INPUT: true; the input reads as it did. -/
def tablesHopsSpec : ChangeSpec := { name := "tablesHops", fn := fun _ => fun
  | [d1, d2, d3] => { results := [.lit (.bool true)], args := [d1, d2, d3] }
  | _ => none }
def tablesHopsRow : OpenClaim := { program := "ytnpeafhjcelpfaagreat", sum := "173772110cee8bf10a73eccd6bc479beec7ab9a845d81438e898f7c9a624b920", func := "weft/weftlaw9.TablesHops", spec := "tablesHops", inPlace := ["internal/bytealg.Compare"], unfollowed := true, recurses := true, plainKeys := false, apart := false }
def TablesHopsSaid : Prop := tablesHopsRow.holds Tryz.pinned (OpenSpec.ofChange tablesHopsSpec)

/-- ITS FALSE NEIGHBOUR: 'it returns false'. Refute it at one input. -/
def tablesHopsWrong : ChangeSpec := { name := "tablesHops", fn := fun _ => fun
  | [d1, d2, d3] => { results := [.lit (.bool false)], args := [d1, d2, d3] }
  | _ => none }
def TablesHopsWrongFalsely : Prop := tablesHopsRow.holds Tryz.pinned (OpenSpec.ofChange tablesHopsWrong)

/-- 'weftlaw9.TablesRebuilt': WHATEVER THE INPUT: true; the input reads as it did. -/
def tablesRebuiltSpec : ChangeSpec := { name := "tablesRebuilt", fn := fun _ => fun
  | [d1, d2, d3] => { results := [.lit (.bool true)], args := [d1, d2, d3] }
  | _ => none }
def tablesRebuiltRow : OpenClaim := { program := "ytnpeafhjcelpfaagreat", sum := "173772110cee8bf10a73eccd6bc479beec7ab9a845d81438e898f7c9a624b920", func := "weft/weftlaw9.TablesRebuilt", spec := "tablesRebuilt", inPlace := ["internal/bytealg.Compare"], unfollowed := true, recurses := true, plainKeys := false, apart := false }
def TablesRebuiltSaid : Prop := tablesRebuiltRow.holds Tryz.pinned (OpenSpec.ofChange tablesRebuiltSpec)

/-- ITS FALSE NEIGHBOUR: 'it returns false'. Refute it at one input. -/
def tablesRebuiltWrong : ChangeSpec := { name := "tablesRebuilt", fn := fun _ => fun
  | [d1, d2, d3] => { results := [.lit (.bool false)], args := [d1, d2, d3] }
  | _ => none }
def TablesRebuiltWrongFalsely : Prop := tablesRebuiltRow.holds Tryz.pinned (OpenSpec.ofChange tablesRebuiltWrong)

/-- 'weftlaw9.TablesTwice': WHATEVER THE INPUT: true; the input reads as it did. -/
def tablesTwiceSpec : ChangeSpec := { name := "tablesTwice", fn := fun _ => fun
  | [d1, d2] => { results := [.lit (.bool true)], args := [d1, d2] }
  | _ => none }
def tablesTwiceRow : OpenClaim := { program := "ytnpeafhjcelpfaagreat", sum := "173772110cee8bf10a73eccd6bc479beec7ab9a845d81438e898f7c9a624b920", func := "weft/weftlaw9.TablesTwice", spec := "tablesTwice", inPlace := ["internal/bytealg.Compare"], unfollowed := true, recurses := true, plainKeys := false, apart := false }
def TablesTwiceSaid : Prop := tablesTwiceRow.holds Tryz.pinned (OpenSpec.ofChange tablesTwiceSpec)

/-- ITS FALSE NEIGHBOUR: 'it returns false'. Refute it at one input. -/
def tablesTwiceWrong : ChangeSpec := { name := "tablesTwice", fn := fun _ => fun
  | [d1, d2] => { results := [.lit (.bool false)], args := [d1, d2] }
  | _ => none }
def TablesTwiceWrongFalsely : Prop := tablesTwiceRow.holds Tryz.pinned (OpenSpec.ofChange tablesTwiceWrong)

/-- 'weftlaw9.TablesRoom': WHATEVER THE INPUT: true; the input reads as it did. -/
def tablesRoomSpec : ChangeSpec := { name := "tablesRoom", fn := fun _ => fun
  | [d] => { results := [.lit (.bool true)], args := [d] }
  | _ => none }
def tablesRoomRow : OpenClaim := { program := "ytnpeafhjcelpfaagreat", sum := "173772110cee8bf10a73eccd6bc479beec7ab9a845d81438e898f7c9a624b920", func := "weft/weftlaw9.TablesRoom", spec := "tablesRoom", inPlace := ["internal/bytealg.Compare"], unfollowed := true, recurses := true, plainKeys := false, apart := false }
def TablesRoomSaid : Prop := tablesRoomRow.holds Tryz.pinned (OpenSpec.ofChange tablesRoomSpec)

/-- ITS FALSE NEIGHBOUR: 'it returns false'. Refute it at one input. -/
def tablesRoomWrong : ChangeSpec := { name := "tablesRoom", fn := fun _ => fun
  | [d] => { results := [.lit (.bool false)], args := [d] }
  | _ => none }
def TablesRoomWrongFalsely : Prop := tablesRoomRow.holds Tryz.pinned (OpenSpec.ofChange tablesRoomWrong)

/-- 'weftlaw9.TablesFresh': WHATEVER THE INPUT: true; the input reads as it did. -/
def tablesFreshSpec : ChangeSpec := { name := "tablesFresh", fn := fun _ => fun
  | [d1, d2] => { results := [.lit (.bool true)], args := [d1, d2] }
  | _ => none }
def tablesFreshRow : OpenClaim := { program := "ytnpeafhjcelpfaagreat", sum := "173772110cee8bf10a73eccd6bc479beec7ab9a845d81438e898f7c9a624b920", func := "weft/weftlaw9.TablesFresh", spec := "tablesFresh", inPlace := ["internal/bytealg.Compare"], unfollowed := true, recurses := true, plainKeys := false, apart := false }
def TablesFreshSaid : Prop := tablesFreshRow.holds Tryz.pinned (OpenSpec.ofChange tablesFreshSpec)

/-- ITS FALSE NEIGHBOUR: 'it returns false'. Refute it at one input. -/
def tablesFreshWrong : ChangeSpec := { name := "tablesFresh", fn := fun _ => fun
  | [d1, d2] => { results := [.lit (.bool false)], args := [d1, d2] }
  | _ => none }
def TablesFreshWrongFalsely : Prop := tablesFreshRow.holds Tryz.pinned (OpenSpec.ofChange tablesFreshWrong)

/- THE SECOND FORM. 'bulk': how many values and letters a reading holds, each counted each time it is reached (what is shared counts as often as it is met; a slice's spare places count too). A statement '..UptoSaid' is the law's where the arguments, and the package variables that the reading takes, are together of bulk at most 1048576: NARROWER than '..Said'. Prove '..Said' where nothing that the law and all that it calls make is longer than what came in: it says more and counts as full. Else prove '..UptoSaid'. A law counts once. -/
mutual
def uptoBulk {H : Type} : DataW H → Nat
  | .lit (.string bytes) => bytes.length + 1
  | .lit _ => 1
  | .nil => 1
  | .ptr d => uptoBulk d + 1
  | .slice elems spare => uptoBulkAll elems + uptoBulkAll spare + 1
  | .agg parts => uptoBulkAll parts + 1
  | .iface _ d => uptoBulk d + 1
  | .map entries => uptoBulkEntries entries + 1
  | .held _ => 1
def uptoBulkAll {H : Type} : List (DataW H) → Nat
  | [] => 0
  | d :: r => uptoBulk d + uptoBulkAll r
def uptoBulkEntries {H : Type} : List (Lit × DataW H) → Nat
  | [] => 0
  | x :: r => uptoBulkEntry x + uptoBulkEntries r
def uptoBulkEntry {H : Type} : Lit × DataW H → Nat
  | (.string bytes, d) => bytes.length + uptoBulk d + 1
  | (_, d) => uptoBulk d + 1
 end
def uptoSmall : (H : Type) → List (DataW H) → Bool := fun _ ds => decide (uptoBulkAll ds ≤ 1048576)
def OpenSpec.upto (s : _root_.Go.ChangeSpec) : _root_.Go.OpenSpec := { _root_.Go.OpenSpec.ofChange s with cond := some uptoSmall }

/-- 'weftlaw9.TablesNews', WHERE WHAT IT READS IS OF BULK AT MOST 1048576: true; the input reads as it did. -/
def tablesNewsUptoRow : OpenClaim := { program := "ytnpeafhjcelpfaagreat", sum := "173772110cee8bf10a73eccd6bc479beec7ab9a845d81438e898f7c9a624b920", func := "weft/weftlaw9.TablesNews", spec := "tablesNews", inPlace := ["internal/bytealg.Compare"], unfollowed := true, recurses := true, plainKeys := false, apart := false, narrowed := true }
def TablesNewsUptoSaid : Prop := tablesNewsUptoRow.holds Tryz.pinned (OpenSpec.upto tablesNewsSpec)

/-- 'weftlaw9.TablesDoes', WHERE WHAT IT READS IS OF BULK AT MOST 1048576: true; the input reads as it did. -/
def tablesDoesUptoRow : OpenClaim := { program := "ytnpeafhjcelpfaagreat", sum := "173772110cee8bf10a73eccd6bc479beec7ab9a845d81438e898f7c9a624b920", func := "weft/weftlaw9.TablesDoes", spec := "tablesDoes", inPlace := ["internal/bytealg.Compare"], unfollowed := true, recurses := true, plainKeys := false, apart := false, narrowed := true }
def TablesDoesUptoSaid : Prop := tablesDoesUptoRow.holds Tryz.pinned (OpenSpec.upto tablesDoesSpec)

/-- 'weftlaw9.TablesResolves', WHERE WHAT IT READS IS OF BULK AT MOST 1048576: true; the input reads as it did. -/
def tablesResolvesUptoRow : OpenClaim := { program := "ytnpeafhjcelpfaagreat", sum := "173772110cee8bf10a73eccd6bc479beec7ab9a845d81438e898f7c9a624b920", func := "weft/weftlaw9.TablesResolves", spec := "tablesResolves", inPlace := ["internal/bytealg.Compare"], unfollowed := true, recurses := true, plainKeys := false, apart := false, narrowed := true }
def TablesResolvesUptoSaid : Prop := tablesResolvesUptoRow.holds Tryz.pinned (OpenSpec.upto tablesResolvesSpec)

/-- 'weftlaw9.TablesDumps', WHERE WHAT IT READS IS OF BULK AT MOST 1048576: true; the input reads as it did. -/
def tablesDumpsUptoRow : OpenClaim := { program := "ytnpeafhjcelpfaagreat", sum := "173772110cee8bf10a73eccd6bc479beec7ab9a845d81438e898f7c9a624b920", func := "weft/weftlaw9.TablesDumps", spec := "tablesDumps", inPlace := ["internal/bytealg.Compare"], unfollowed := true, recurses := true, plainKeys := false, apart := false, narrowed := true }
def TablesDumpsUptoSaid : Prop := tablesDumpsUptoRow.holds Tryz.pinned (OpenSpec.upto tablesDumpsSpec)

/-- 'weftlaw9.TablesAll', WHERE WHAT IT READS IS OF BULK AT MOST 1048576: true; the input reads as it did. -/
def tablesAllUptoRow : OpenClaim := { program := "ytnpeafhjcelpfaagreat", sum := "173772110cee8bf10a73eccd6bc479beec7ab9a845d81438e898f7c9a624b920", func := "weft/weftlaw9.TablesAll", spec := "tablesAll", inPlace := ["internal/bytealg.Compare"], unfollowed := true, recurses := true, plainKeys := false, apart := false, narrowed := true }
def TablesAllUptoSaid : Prop := tablesAllUptoRow.holds Tryz.pinned (OpenSpec.upto tablesAllSpec)

/-- 'weftlaw9.TablesTwo', WHERE WHAT IT READS IS OF BULK AT MOST 1048576: true; the input reads as it did. -/
def tablesTwoUptoRow : OpenClaim := { program := "ytnpeafhjcelpfaagreat", sum := "173772110cee8bf10a73eccd6bc479beec7ab9a845d81438e898f7c9a624b920", func := "weft/weftlaw9.TablesTwo", spec := "tablesTwo", inPlace := ["internal/bytealg.Compare"], unfollowed := true, recurses := true, plainKeys := false, apart := false, narrowed := true }
def TablesTwoUptoSaid : Prop := tablesTwoUptoRow.holds Tryz.pinned (OpenSpec.upto tablesTwoSpec)

/-- 'weftlaw9.TablesFrame', WHERE WHAT IT READS IS OF BULK AT MOST 1048576: true; the input reads as it did. -/
def tablesFrameUptoRow : OpenClaim := { program := "ytnpeafhjcelpfaagreat", sum := "173772110cee8bf10a73eccd6bc479beec7ab9a845d81438e898f7c9a624b920", func := "weft/weftlaw9.TablesFrame", spec := "tablesFrame", inPlace := ["internal/bytealg.Compare"], unfollowed := true, recurses := true, plainKeys := false, apart := false, narrowed := true }
def TablesFrameUptoSaid : Prop := tablesFrameUptoRow.holds Tryz.pinned (OpenSpec.upto tablesFrameSpec)

/-- 'weftlaw9.TablesBatch', WHERE WHAT IT READS IS OF BULK AT MOST 1048576: true; the input reads as it did. -/
def tablesBatchUptoRow : OpenClaim := { program := "ytnpeafhjcelpfaagreat", sum := "173772110cee8bf10a73eccd6bc479beec7ab9a845d81438e898f7c9a624b920", func := "weft/weftlaw9.TablesBatch", spec := "tablesBatch", inPlace := ["internal/bytealg.Compare"], unfollowed := true, recurses := true, plainKeys := false, apart := false, narrowed := true }
def TablesBatchUptoSaid : Prop := tablesBatchUptoRow.holds Tryz.pinned (OpenSpec.upto tablesBatchSpec)

/-- 'weftlaw9.TablesHops', WHERE WHAT IT READS IS OF BULK AT MOST 1048576: true; the input reads as it did. -/
def tablesHopsUptoRow : OpenClaim := { program := "ytnpeafhjcelpfaagreat", sum := "173772110cee8bf10a73eccd6bc479beec7ab9a845d81438e898f7c9a624b920", func := "weft/weftlaw9.TablesHops", spec := "tablesHops", inPlace := ["internal/bytealg.Compare"], unfollowed := true, recurses := true, plainKeys := false, apart := false, narrowed := true }
def TablesHopsUptoSaid : Prop := tablesHopsUptoRow.holds Tryz.pinned (OpenSpec.upto tablesHopsSpec)

/-- 'weftlaw9.TablesRebuilt', WHERE WHAT IT READS IS OF BULK AT MOST 1048576: true; the input reads as it did. -/
def tablesRebuiltUptoRow : OpenClaim := { program := "ytnpeafhjcelpfaagreat", sum := "173772110cee8bf10a73eccd6bc479beec7ab9a845d81438e898f7c9a624b920", func := "weft/weftlaw9.TablesRebuilt", spec := "tablesRebuilt", inPlace := ["internal/bytealg.Compare"], unfollowed := true, recurses := true, plainKeys := false, apart := false, narrowed := true }
def TablesRebuiltUptoSaid : Prop := tablesRebuiltUptoRow.holds Tryz.pinned (OpenSpec.upto tablesRebuiltSpec)

/-- 'weftlaw9.TablesTwice', WHERE WHAT IT READS IS OF BULK AT MOST 1048576: true; the input reads as it did. -/
def tablesTwiceUptoRow : OpenClaim := { program := "ytnpeafhjcelpfaagreat", sum := "173772110cee8bf10a73eccd6bc479beec7ab9a845d81438e898f7c9a624b920", func := "weft/weftlaw9.TablesTwice", spec := "tablesTwice", inPlace := ["internal/bytealg.Compare"], unfollowed := true, recurses := true, plainKeys := false, apart := false, narrowed := true }
def TablesTwiceUptoSaid : Prop := tablesTwiceUptoRow.holds Tryz.pinned (OpenSpec.upto tablesTwiceSpec)

/-- 'weftlaw9.TablesRoom', WHERE WHAT IT READS IS OF BULK AT MOST 1048576: true; the input reads as it did. -/
def tablesRoomUptoRow : OpenClaim := { program := "ytnpeafhjcelpfaagreat", sum := "173772110cee8bf10a73eccd6bc479beec7ab9a845d81438e898f7c9a624b920", func := "weft/weftlaw9.TablesRoom", spec := "tablesRoom", inPlace := ["internal/bytealg.Compare"], unfollowed := true, recurses := true, plainKeys := false, apart := false, narrowed := true }
def TablesRoomUptoSaid : Prop := tablesRoomUptoRow.holds Tryz.pinned (OpenSpec.upto tablesRoomSpec)

/-- 'weftlaw9.TablesFresh', WHERE WHAT IT READS IS OF BULK AT MOST 1048576: true; the input reads as it did. -/
def tablesFreshUptoRow : OpenClaim := { program := "ytnpeafhjcelpfaagreat", sum := "173772110cee8bf10a73eccd6bc479beec7ab9a845d81438e898f7c9a624b920", func := "weft/weftlaw9.TablesFresh", spec := "tablesFresh", inPlace := ["internal/bytealg.Compare"], unfollowed := true, recurses := true, plainKeys := false, apart := false, narrowed := true }
def TablesFreshUptoSaid : Prop := tablesFreshUptoRow.holds Tryz.pinned (OpenSpec.upto tablesFreshSpec)

end Rows
end Go.Proofs.YtnpeafhjcelpfaaGreat
