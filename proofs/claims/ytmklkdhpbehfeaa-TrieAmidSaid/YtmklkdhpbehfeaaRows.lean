/-
  No cell of these rows narrows 'for every input' (looked for: loops, veiled, ifaces, maps, wideKeys, modest, calm, conditions, laid).
  DERIVED. THE GIVEN ROWS OF THIS SEAT. 12 by the template 'for every input the law returns true; each argument reads behind the call as it read before'; 0 by the template 'total and deterministic' (their statements: YtmklkdhpbehfeaaTotals.lean).
  GIVEN WITH THE SEED: the statements are not yours to turn. If you find one false, say at which input.
  Laid BY PROGRAM, IN A SANDBOX (cutbox-rows.mjs): the forced cells as the released guide's own fill.sh prints them over the translation d7c59cf7ca2cd8be… (all of the seat's roots in one cut). By AI agents, Wed Nov 11 2026. No macro, syntax, notation, axiom, sorry.
-/
import Derived.Test.YtmklkdhpbehfeaaChecked
import GoSem.Claim
import GoSem.ClaimJoined
import GoSem.ClaimMapViews
import Derived.JoinedTies
import Derived.KernelRfl
namespace Go.Proofs.Ytmklkdhpbehfeaa
/- THE CELL 'sum', in the pinned program and in every row, IS THE sha256 OF THE DUMP (.gsa) THAT YtmklkdhpbehfeaaProg.lean LOADS. Nothing in Lean hashes anything: it is a label: what it is worth is what the hold of that sum in a sandbox is worth. -/
noncomputable def Try.pinned : Pinned := { name := "ytmklkdhpbehfeaa", sum := "d7c59cf7ca2cd8be94f36c84a639a73e7f08a82e2ae979e8a05331340efdd7f9", checked := Try.checked }
namespace Rows
def none {H : Type} : Left H := { results := [], args := [] }

/-- 'weftlaw8.TrieLongest': WHATEVER THE INPUT: true; the input reads as it did. -/
def trieLongestSpec : ChangeSpec := { name := "trieLongest", fn := fun _ => fun
  | [d1, d2] => { results := [.lit (.bool true)], args := [d1, d2] }
  | _ => none }
def trieLongestRow : OpenClaim := { program := "ytmklkdhpbehfeaa", sum := "d7c59cf7ca2cd8be94f36c84a639a73e7f08a82e2ae979e8a05331340efdd7f9", func := "weft/weftlaw8.TrieLongest", spec := "trieLongest", recurses := true, apart := false }
def TrieLongestSaid : Prop := trieLongestRow.holds Try.pinned (OpenSpec.ofChange trieLongestSpec)

/-- ITS FALSE NEIGHBOUR: 'it returns false'. Refute it at one input. -/
def trieLongestWrong : ChangeSpec := { name := "trieLongest", fn := fun _ => fun
  | [d1, d2] => { results := [.lit (.bool false)], args := [d1, d2] }
  | _ => none }
def TrieLongestWrongFalsely : Prop := trieLongestRow.holds Try.pinned (OpenSpec.ofChange trieLongestWrong)

/-- 'weftlaw8.TrieNested': WHATEVER THE INPUT: true; the input reads as it did. -/
def trieNestedSpec : ChangeSpec := { name := "trieNested", fn := fun _ => fun
  | [d1, d2, d3] => { results := [.lit (.bool true)], args := [d1, d2, d3] }
  | _ => none }
def trieNestedRow : OpenClaim := { program := "ytmklkdhpbehfeaa", sum := "d7c59cf7ca2cd8be94f36c84a639a73e7f08a82e2ae979e8a05331340efdd7f9", func := "weft/weftlaw8.TrieNested", spec := "trieNested", unfollowed := true, recurses := true, apart := false }
def TrieNestedSaid : Prop := trieNestedRow.holds Try.pinned (OpenSpec.ofChange trieNestedSpec)

/-- ITS FALSE NEIGHBOUR: 'it returns false'. Refute it at one input. -/
def trieNestedWrong : ChangeSpec := { name := "trieNested", fn := fun _ => fun
  | [d1, d2, d3] => { results := [.lit (.bool false)], args := [d1, d2, d3] }
  | _ => none }
def TrieNestedWrongFalsely : Prop := trieNestedRow.holds Try.pinned (OpenSpec.ofChange trieNestedWrong)

/-- 'weftlaw8.TrieInside': WHATEVER THE INPUT: true; the input reads as it did. -/
def trieInsideSpec : ChangeSpec := { name := "trieInside", fn := fun _ => fun
  | [d1, d2] => { results := [.lit (.bool true)], args := [d1, d2] }
  | _ => none }
def trieInsideRow : OpenClaim := { program := "ytmklkdhpbehfeaa", sum := "d7c59cf7ca2cd8be94f36c84a639a73e7f08a82e2ae979e8a05331340efdd7f9", func := "weft/weftlaw8.TrieInside", spec := "trieInside", unfollowed := true, recurses := true, apart := false }
def TrieInsideSaid : Prop := trieInsideRow.holds Try.pinned (OpenSpec.ofChange trieInsideSpec)

/-- ITS FALSE NEIGHBOUR: 'it returns false'. Refute it at one input. -/
def trieInsideWrong : ChangeSpec := { name := "trieInside", fn := fun _ => fun
  | [d1, d2] => { results := [.lit (.bool false)], args := [d1, d2] }
  | _ => none }
def TrieInsideWrongFalsely : Prop := trieInsideRow.holds Try.pinned (OpenSpec.ofChange trieInsideWrong)

/-- 'weftlaw8.TrieAny': WHATEVER THE INPUT: true; the input reads as it did. -/
def trieAnySpec : ChangeSpec := { name := "trieAny", fn := fun _ => fun
  | [d1, d2] => { results := [.lit (.bool true)], args := [d1, d2] }
  | _ => none }
def trieAnyRow : OpenClaim := { program := "ytmklkdhpbehfeaa", sum := "d7c59cf7ca2cd8be94f36c84a639a73e7f08a82e2ae979e8a05331340efdd7f9", func := "weft/weftlaw8.TrieAny", spec := "trieAny", recurses := true, apart := false }
def TrieAnySaid : Prop := trieAnyRow.holds Try.pinned (OpenSpec.ofChange trieAnySpec)

/-- ITS FALSE NEIGHBOUR: 'it returns false'. Refute it at one input. -/
def trieAnyWrong : ChangeSpec := { name := "trieAny", fn := fun _ => fun
  | [d1, d2] => { results := [.lit (.bool false)], args := [d1, d2] }
  | _ => none }
def TrieAnyWrongFalsely : Prop := trieAnyRow.holds Try.pinned (OpenSpec.ofChange trieAnyWrong)

/-- 'weftlaw8.TrieOrderless': WHATEVER THE INPUT: true; the input reads as it did. -/
def trieOrderlessSpec : ChangeSpec := { name := "trieOrderless", fn := fun _ => fun
  | [d1, d2, d3] => { results := [.lit (.bool true)], args := [d1, d2, d3] }
  | _ => none }
def trieOrderlessRow : OpenClaim := { program := "ytmklkdhpbehfeaa", sum := "d7c59cf7ca2cd8be94f36c84a639a73e7f08a82e2ae979e8a05331340efdd7f9", func := "weft/weftlaw8.TrieOrderless", spec := "trieOrderless", unfollowed := true, recurses := true, apart := false }
def TrieOrderlessSaid : Prop := trieOrderlessRow.holds Try.pinned (OpenSpec.ofChange trieOrderlessSpec)

/-- ITS FALSE NEIGHBOUR: 'it returns false'. Refute it at one input. -/
def trieOrderlessWrong : ChangeSpec := { name := "trieOrderless", fn := fun _ => fun
  | [d1, d2, d3] => { results := [.lit (.bool false)], args := [d1, d2, d3] }
  | _ => none }
def TrieOrderlessWrongFalsely : Prop := trieOrderlessRow.holds Try.pinned (OpenSpec.ofChange trieOrderlessWrong)

/-- 'weftlaw8.TriePuts': WHATEVER THE INPUT: true; the input reads as it did. -/
def triePutsSpec : ChangeSpec := { name := "triePuts", fn := fun _ => fun
  | [d] => { results := [.lit (.bool true)], args := [d] }
  | _ => none }
def triePutsRow : OpenClaim := { program := "ytmklkdhpbehfeaa", sum := "d7c59cf7ca2cd8be94f36c84a639a73e7f08a82e2ae979e8a05331340efdd7f9", func := "weft/weftlaw8.TriePuts", spec := "triePuts", unfollowed := true, recurses := true, apart := false }
def TriePutsSaid : Prop := triePutsRow.holds Try.pinned (OpenSpec.ofChange triePutsSpec)

/-- ITS FALSE NEIGHBOUR: 'it returns false'. Refute it at one input. -/
def triePutsWrong : ChangeSpec := { name := "triePuts", fn := fun _ => fun
  | [d] => { results := [.lit (.bool false)], args := [d] }
  | _ => none }
def TriePutsWrongFalsely : Prop := triePutsRow.holds Try.pinned (OpenSpec.ofChange triePutsWrong)

/-- 'weftlaw8.TrieFinds': WHATEVER THE INPUT: true; the input reads as it did. -/
def trieFindsSpec : ChangeSpec := { name := "trieFinds", fn := fun _ => fun
  | [d] => { results := [.lit (.bool true)], args := [d] }
  | _ => none }
def trieFindsRow : OpenClaim := { program := "ytmklkdhpbehfeaa", sum := "d7c59cf7ca2cd8be94f36c84a639a73e7f08a82e2ae979e8a05331340efdd7f9", func := "weft/weftlaw8.TrieFinds", spec := "trieFinds", unfollowed := true, recurses := true, apart := false }
def TrieFindsSaid : Prop := trieFindsRow.holds Try.pinned (OpenSpec.ofChange trieFindsSpec)

/-- ITS FALSE NEIGHBOUR: 'it returns false'. Refute it at one input. -/
def trieFindsWrong : ChangeSpec := { name := "trieFinds", fn := fun _ => fun
  | [d] => { results := [.lit (.bool false)], args := [d] }
  | _ => none }
def TrieFindsWrongFalsely : Prop := trieFindsRow.holds Try.pinned (OpenSpec.ofChange trieFindsWrong)

/-- 'weftlaw8.TrieWalks': WHATEVER THE INPUT: true; the input reads as it did. -/
def trieWalksSpec : ChangeSpec := { name := "trieWalks", fn := fun _ => fun
  | [d] => { results := [.lit (.bool true)], args := [d] }
  | _ => none }
def trieWalksRow : OpenClaim := { program := "ytmklkdhpbehfeaa", sum := "d7c59cf7ca2cd8be94f36c84a639a73e7f08a82e2ae979e8a05331340efdd7f9", func := "weft/weftlaw8.TrieWalks", spec := "trieWalks", unfollowed := true, recurses := true, apart := false }
def TrieWalksSaid : Prop := trieWalksRow.holds Try.pinned (OpenSpec.ofChange trieWalksSpec)

/-- ITS FALSE NEIGHBOUR: 'it returns false'. Refute it at one input. -/
def trieWalksWrong : ChangeSpec := { name := "trieWalks", fn := fun _ => fun
  | [d] => { results := [.lit (.bool false)], args := [d] }
  | _ => none }
def TrieWalksWrongFalsely : Prop := trieWalksRow.holds Try.pinned (OpenSpec.ofChange trieWalksWrong)

/-- 'weftlaw8.TrieCounts': WHATEVER THE INPUT: true; the input reads as it did. -/
def trieCountsSpec : ChangeSpec := { name := "trieCounts", fn := fun _ => fun
  | [d] => { results := [.lit (.bool true)], args := [d] }
  | _ => none }
def trieCountsRow : OpenClaim := { program := "ytmklkdhpbehfeaa", sum := "d7c59cf7ca2cd8be94f36c84a639a73e7f08a82e2ae979e8a05331340efdd7f9", func := "weft/weftlaw8.TrieCounts", spec := "trieCounts", unfollowed := true, recurses := true, apart := false }
def TrieCountsSaid : Prop := trieCountsRow.holds Try.pinned (OpenSpec.ofChange trieCountsSpec)

/-- ITS FALSE NEIGHBOUR: 'it returns false'. Refute it at one input. -/
def trieCountsWrong : ChangeSpec := { name := "trieCounts", fn := fun _ => fun
  | [d] => { results := [.lit (.bool false)], args := [d] }
  | _ => none }
def TrieCountsWrongFalsely : Prop := trieCountsRow.holds Try.pinned (OpenSpec.ofChange trieCountsWrong)

/-- 'weftlaw8.TriePlays': WHATEVER THE INPUT: true; the input reads as it did. -/
def triePlaysSpec : ChangeSpec := { name := "triePlays", fn := fun _ => fun
  | [d] => { results := [.lit (.bool true)], args := [d] }
  | _ => none }
def triePlaysRow : OpenClaim := { program := "ytmklkdhpbehfeaa", sum := "d7c59cf7ca2cd8be94f36c84a639a73e7f08a82e2ae979e8a05331340efdd7f9", func := "weft/weftlaw8.TriePlays", spec := "triePlays", unfollowed := true, recurses := true, apart := false }
def TriePlaysSaid : Prop := triePlaysRow.holds Try.pinned (OpenSpec.ofChange triePlaysSpec)

/-- ITS FALSE NEIGHBOUR: 'it returns false'. Refute it at one input. -/
def triePlaysWrong : ChangeSpec := { name := "triePlays", fn := fun _ => fun
  | [d] => { results := [.lit (.bool false)], args := [d] }
  | _ => none }
def TriePlaysWrongFalsely : Prop := triePlaysRow.holds Try.pinned (OpenSpec.ofChange triePlaysWrong)

/-- 'weftlaw8.TrieAmid': WHATEVER THE INPUT: true; the input reads as it did. -/
def trieAmidSpec : ChangeSpec := { name := "trieAmid", fn := fun _ => fun
  | [d1, d2, d3] => { results := [.lit (.bool true)], args := [d1, d2, d3] }
  | _ => none }
def trieAmidRow : OpenClaim := { program := "ytmklkdhpbehfeaa", sum := "d7c59cf7ca2cd8be94f36c84a639a73e7f08a82e2ae979e8a05331340efdd7f9", func := "weft/weftlaw8.TrieAmid", spec := "trieAmid", unfollowed := true, recurses := true, apart := false }
def TrieAmidSaid : Prop := trieAmidRow.holds Try.pinned (OpenSpec.ofChange trieAmidSpec)

/-- ITS FALSE NEIGHBOUR: 'it returns false'. Refute it at one input. -/
def trieAmidWrong : ChangeSpec := { name := "trieAmid", fn := fun _ => fun
  | [d1, d2, d3] => { results := [.lit (.bool false)], args := [d1, d2, d3] }
  | _ => none }
def TrieAmidWrongFalsely : Prop := trieAmidRow.holds Try.pinned (OpenSpec.ofChange trieAmidWrong)

/-- 'weftlaw8.TrieGone': WHATEVER THE INPUT: true; the input reads as it did. -/
def trieGoneSpec : ChangeSpec := { name := "trieGone", fn := fun _ => fun
  | [d] => { results := [.lit (.bool true)], args := [d] }
  | _ => none }
def trieGoneRow : OpenClaim := { program := "ytmklkdhpbehfeaa", sum := "d7c59cf7ca2cd8be94f36c84a639a73e7f08a82e2ae979e8a05331340efdd7f9", func := "weft/weftlaw8.TrieGone", spec := "trieGone", unfollowed := true, recurses := true, apart := false }
def TrieGoneSaid : Prop := trieGoneRow.holds Try.pinned (OpenSpec.ofChange trieGoneSpec)

/-- ITS FALSE NEIGHBOUR: 'it returns false'. Refute it at one input. -/
def trieGoneWrong : ChangeSpec := { name := "trieGone", fn := fun _ => fun
  | [d] => { results := [.lit (.bool false)], args := [d] }
  | _ => none }
def TrieGoneWrongFalsely : Prop := trieGoneRow.holds Try.pinned (OpenSpec.ofChange trieGoneWrong)

/- THE SECOND FORM. 'bulk': how many values and letters a reading holds, each counted each time it is reached (what is shared counts as often as it is met; a slice's spare places count too). A statement '..UptoSaid' is the law's where the arguments, and the package variables that the reading takes, are together of bulk at most 1048576: NARROWER than '..Said'. Prove '..Said' where nothing that the law and all that it calls make is longer than what came in: it says more and counts as full. Else prove '..UptoSaid'. A law counts once. -/
mutual
def uptoBulk {H : Type} : DataW H → Nat
  | .lit (.string bytes) => bytes.length + 1
  | .lit _ => 1
  | .nil => 1
  | .ptr d => uptoBulk d + 1
  | .slice elems spare => uptoBulkAll elems + uptoBulkAll spare + 1
  | .agg parts => uptoBulkAll parts + 1
  | .iface _ d => uptoBulk d + 1
  | .map entries => uptoBulkEntries entries + 1
  | .held _ => 1
def uptoBulkAll {H : Type} : List (DataW H) → Nat
  | [] => 0
  | d :: r => uptoBulk d + uptoBulkAll r
def uptoBulkEntries {H : Type} : List (Lit × DataW H) → Nat
  | [] => 0
  | x :: r => uptoBulkEntry x + uptoBulkEntries r
def uptoBulkEntry {H : Type} : Lit × DataW H → Nat
  | (.string bytes, d) => bytes.length + uptoBulk d + 1
  | (_, d) => uptoBulk d + 1
 end
def uptoSmall : (H : Type) → List (DataW H) → Bool := fun _ ds => decide (uptoBulkAll ds ≤ 1048576)
def OpenSpec.upto (s : _root_.Go.ChangeSpec) : _root_.Go.OpenSpec := { _root_.Go.OpenSpec.ofChange s with cond := some uptoSmall }

/-- 'weftlaw8.TrieLongest', WHERE WHAT IT READS IS OF BULK AT MOST 1048576: true; the input reads as it did. -/
def trieLongestUptoRow : OpenClaim := { program := "ytmklkdhpbehfeaa", sum := "d7c59cf7ca2cd8be94f36c84a639a73e7f08a82e2ae979e8a05331340efdd7f9", func := "weft/weftlaw8.TrieLongest", spec := "trieLongest", recurses := true, apart := false, narrowed := true }
def TrieLongestUptoSaid : Prop := trieLongestUptoRow.holds Try.pinned (OpenSpec.upto trieLongestSpec)

/-- 'weftlaw8.TrieNested', WHERE WHAT IT READS IS OF BULK AT MOST 1048576: true; the input reads as it did. -/
def trieNestedUptoRow : OpenClaim := { program := "ytmklkdhpbehfeaa", sum := "d7c59cf7ca2cd8be94f36c84a639a73e7f08a82e2ae979e8a05331340efdd7f9", func := "weft/weftlaw8.TrieNested", spec := "trieNested", unfollowed := true, recurses := true, apart := false, narrowed := true }
def TrieNestedUptoSaid : Prop := trieNestedUptoRow.holds Try.pinned (OpenSpec.upto trieNestedSpec)

/-- 'weftlaw8.TrieInside', WHERE WHAT IT READS IS OF BULK AT MOST 1048576: true; the input reads as it did. -/
def trieInsideUptoRow : OpenClaim := { program := "ytmklkdhpbehfeaa", sum := "d7c59cf7ca2cd8be94f36c84a639a73e7f08a82e2ae979e8a05331340efdd7f9", func := "weft/weftlaw8.TrieInside", spec := "trieInside", unfollowed := true, recurses := true, apart := false, narrowed := true }
def TrieInsideUptoSaid : Prop := trieInsideUptoRow.holds Try.pinned (OpenSpec.upto trieInsideSpec)

/-- 'weftlaw8.TrieAny', WHERE WHAT IT READS IS OF BULK AT MOST 1048576: true; the input reads as it did. -/
def trieAnyUptoRow : OpenClaim := { program := "ytmklkdhpbehfeaa", sum := "d7c59cf7ca2cd8be94f36c84a639a73e7f08a82e2ae979e8a05331340efdd7f9", func := "weft/weftlaw8.TrieAny", spec := "trieAny", recurses := true, apart := false, narrowed := true }
def TrieAnyUptoSaid : Prop := trieAnyUptoRow.holds Try.pinned (OpenSpec.upto trieAnySpec)

/-- 'weftlaw8.TrieOrderless', WHERE WHAT IT READS IS OF BULK AT MOST 1048576: true; the input reads as it did. -/
def trieOrderlessUptoRow : OpenClaim := { program := "ytmklkdhpbehfeaa", sum := "d7c59cf7ca2cd8be94f36c84a639a73e7f08a82e2ae979e8a05331340efdd7f9", func := "weft/weftlaw8.TrieOrderless", spec := "trieOrderless", unfollowed := true, recurses := true, apart := false, narrowed := true }
def TrieOrderlessUptoSaid : Prop := trieOrderlessUptoRow.holds Try.pinned (OpenSpec.upto trieOrderlessSpec)

/-- 'weftlaw8.TriePuts', WHERE WHAT IT READS IS OF BULK AT MOST 1048576: true; the input reads as it did. -/
def triePutsUptoRow : OpenClaim := { program := "ytmklkdhpbehfeaa", sum := "d7c59cf7ca2cd8be94f36c84a639a73e7f08a82e2ae979e8a05331340efdd7f9", func := "weft/weftlaw8.TriePuts", spec := "triePuts", unfollowed := true, recurses := true, apart := false, narrowed := true }
def TriePutsUptoSaid : Prop := triePutsUptoRow.holds Try.pinned (OpenSpec.upto triePutsSpec)

/-- 'weftlaw8.TrieFinds', WHERE WHAT IT READS IS OF BULK AT MOST 1048576: true; the input reads as it did. -/
def trieFindsUptoRow : OpenClaim := { program := "ytmklkdhpbehfeaa", sum := "d7c59cf7ca2cd8be94f36c84a639a73e7f08a82e2ae979e8a05331340efdd7f9", func := "weft/weftlaw8.TrieFinds", spec := "trieFinds", unfollowed := true, recurses := true, apart := false, narrowed := true }
def TrieFindsUptoSaid : Prop := trieFindsUptoRow.holds Try.pinned (OpenSpec.upto trieFindsSpec)

/-- 'weftlaw8.TrieWalks', WHERE WHAT IT READS IS OF BULK AT MOST 1048576: true; the input reads as it did. -/
def trieWalksUptoRow : OpenClaim := { program := "ytmklkdhpbehfeaa", sum := "d7c59cf7ca2cd8be94f36c84a639a73e7f08a82e2ae979e8a05331340efdd7f9", func := "weft/weftlaw8.TrieWalks", spec := "trieWalks", unfollowed := true, recurses := true, apart := false, narrowed := true }
def TrieWalksUptoSaid : Prop := trieWalksUptoRow.holds Try.pinned (OpenSpec.upto trieWalksSpec)

/-- 'weftlaw8.TrieCounts', WHERE WHAT IT READS IS OF BULK AT MOST 1048576: true; the input reads as it did. -/
def trieCountsUptoRow : OpenClaim := { program := "ytmklkdhpbehfeaa", sum := "d7c59cf7ca2cd8be94f36c84a639a73e7f08a82e2ae979e8a05331340efdd7f9", func := "weft/weftlaw8.TrieCounts", spec := "trieCounts", unfollowed := true, recurses := true, apart := false, narrowed := true }
def TrieCountsUptoSaid : Prop := trieCountsUptoRow.holds Try.pinned (OpenSpec.upto trieCountsSpec)

/-- 'weftlaw8.TriePlays', WHERE WHAT IT READS IS OF BULK AT MOST 1048576: true; the input reads as it did. -/
def triePlaysUptoRow : OpenClaim := { program := "ytmklkdhpbehfeaa", sum := "d7c59cf7ca2cd8be94f36c84a639a73e7f08a82e2ae979e8a05331340efdd7f9", func := "weft/weftlaw8.TriePlays", spec := "triePlays", unfollowed := true, recurses := true, apart := false, narrowed := true }
def TriePlaysUptoSaid : Prop := triePlaysUptoRow.holds Try.pinned (OpenSpec.upto triePlaysSpec)

/-- 'weftlaw8.TrieAmid', WHERE WHAT IT READS IS OF BULK AT MOST 1048576: true; the input reads as it did. -/
def trieAmidUptoRow : OpenClaim := { program := "ytmklkdhpbehfeaa", sum := "d7c59cf7ca2cd8be94f36c84a639a73e7f08a82e2ae979e8a05331340efdd7f9", func := "weft/weftlaw8.TrieAmid", spec := "trieAmid", unfollowed := true, recurses := true, apart := false, narrowed := true }
def TrieAmidUptoSaid : Prop := trieAmidUptoRow.holds Try.pinned (OpenSpec.upto trieAmidSpec)

/-- 'weftlaw8.TrieGone', WHERE WHAT IT READS IS OF BULK AT MOST 1048576: true; the input reads as it did. -/
def trieGoneUptoRow : OpenClaim := { program := "ytmklkdhpbehfeaa", sum := "d7c59cf7ca2cd8be94f36c84a639a73e7f08a82e2ae979e8a05331340efdd7f9", func := "weft/weftlaw8.TrieGone", spec := "trieGone", unfollowed := true, recurses := true, apart := false, narrowed := true }
def TrieGoneUptoSaid : Prop := trieGoneUptoRow.holds Try.pinned (OpenSpec.upto trieGoneSpec)

end Rows
end Go.Proofs.Ytmklkdhpbehfeaa
