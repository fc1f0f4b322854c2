/-
  No cell of these rows narrows 'for every input' (looked for: loops, veiled, ifaces, maps, wideKeys, modest, calm, conditions, laid).
  DERIVED. THE GIVEN ROWS OF THIS SEAT. 8 by the template 'for every input the law returns true; each argument reads behind the call as it read before'; 0 by the template 'total and deterministic' (their statements: YtelfemhnijnhfaaTotals.lean).
  GIVEN WITH THE SEED: the statements are not yours to turn. If you find one false, say at which input.
  Laid BY PROGRAM, IN A SANDBOX (cutbox-rows.mjs): the forced cells as the released guide's own fill.sh prints them over the translation 4ddc742618900e50… (all of the seat's roots in one cut). By AI agents, Wed Nov 11 2026. No macro, syntax, notation, axiom, sorry.
-/
import Derived.Test.YtelfemhnijnhfaaChecked
import GoSem.Claim
import GoSem.ClaimJoined
import GoSem.ClaimMapViews
import Derived.JoinedTies
import Derived.KernelRfl
namespace Go.Proofs.Ytelfemhnijnhfaa
/- THE CELL 'sum', in the pinned program and in every row, IS THE sha256 OF THE DUMP (.gsa) THAT YtelfemhnijnhfaaProg.lean LOADS. Nothing in Lean hashes anything: it is a label: what it is worth is what the hold of that sum in a sandbox is worth. -/
noncomputable def Try.pinned : Pinned := { name := "ytelfemhnijnhfaa", sum := "4ddc742618900e509fe267df8a163785e70c1699789ffb17a34111e5b854531d", checked := Try.checked }
namespace Rows
def none {H : Type} : Left H := { results := [], args := [] }

/-- 'weftlaw5.FragSplits': WHATEVER THE INPUT: true; the input reads as it did. -/
def fragSplitsSpec : ChangeSpec := { name := "fragSplits", fn := fun _ => fun
  | [d] => { results := [.lit (.bool true)], args := [d] }
  | _ => none }
def fragSplitsRow : OpenClaim := { program := "ytelfemhnijnhfaa", sum := "4ddc742618900e509fe267df8a163785e70c1699789ffb17a34111e5b854531d", func := "weft/weftlaw5.FragSplits", spec := "fragSplits", plainKeys := false, apart := false }
def FragSplitsSaid : Prop := fragSplitsRow.holds Try.pinned (OpenSpec.ofChange fragSplitsSpec)

/-- ITS FALSE NEIGHBOUR: 'it returns false'. Refute it at one input. -/
def fragSplitsWrong : ChangeSpec := { name := "fragSplits", fn := fun _ => fun
  | [d] => { results := [.lit (.bool false)], args := [d] }
  | _ => none }
def FragSplitsWrongFalsely : Prop := fragSplitsRow.holds Try.pinned (OpenSpec.ofChange fragSplitsWrong)

/-- 'weftlaw5.FragCovers': WHATEVER THE INPUT: true; the input reads as it did. -/
def fragCoversSpec : ChangeSpec := { name := "fragCovers", fn := fun _ => fun
  | [d1, d2, d3, d4] => { results := [.lit (.bool true)], args := [d1, d2, d3, d4] }
  | _ => none }
def fragCoversRow : OpenClaim := { program := "ytelfemhnijnhfaa", sum := "4ddc742618900e509fe267df8a163785e70c1699789ffb17a34111e5b854531d", func := "weft/weftlaw5.FragCovers", spec := "fragCovers", plainKeys := false, apart := false }
def FragCoversSaid : Prop := fragCoversRow.holds Try.pinned (OpenSpec.ofChange fragCoversSpec)

/-- ITS FALSE NEIGHBOUR: 'it returns false'. Refute it at one input. -/
def fragCoversWrong : ChangeSpec := { name := "fragCovers", fn := fun _ => fun
  | [d1, d2, d3, d4] => { results := [.lit (.bool false)], args := [d1, d2, d3, d4] }
  | _ => none }
def FragCoversWrongFalsely : Prop := fragCoversRow.holds Try.pinned (OpenSpec.ofChange fragCoversWrong)

/-- 'weftlaw5.FragFirst': WHATEVER THE INPUT: true; the input reads as it did. -/
def fragFirstSpec : ChangeSpec := { name := "fragFirst", fn := fun _ => fun
  | [d1, d2] => { results := [.lit (.bool true)], args := [d1, d2] }
  | _ => none }
def fragFirstRow : OpenClaim := { program := "ytelfemhnijnhfaa", sum := "4ddc742618900e509fe267df8a163785e70c1699789ffb17a34111e5b854531d", func := "weft/weftlaw5.FragFirst", spec := "fragFirst", plainKeys := false, apart := false }
def FragFirstSaid : Prop := fragFirstRow.holds Try.pinned (OpenSpec.ofChange fragFirstSpec)

/-- ITS FALSE NEIGHBOUR: 'it returns false'. Refute it at one input. -/
def fragFirstWrong : ChangeSpec := { name := "fragFirst", fn := fun _ => fun
  | [d1, d2] => { results := [.lit (.bool false)], args := [d1, d2] }
  | _ => none }
def FragFirstWrongFalsely : Prop := fragFirstRow.holds Try.pinned (OpenSpec.ofChange fragFirstWrong)

/-- 'weftlaw5.FragBack': WHATEVER THE INPUT: true; the input reads as it did. -/
def fragBackSpec : ChangeSpec := { name := "fragBack", fn := fun _ => fun
  | [d1, d2, d3, d4, d5] => { results := [.lit (.bool true)], args := [d1, d2, d3, d4, d5] }
  | _ => none }
def fragBackRow : OpenClaim := { program := "ytelfemhnijnhfaa", sum := "4ddc742618900e509fe267df8a163785e70c1699789ffb17a34111e5b854531d", func := "weft/weftlaw5.FragBack", spec := "fragBack", plainKeys := false, apart := false }
def FragBackSaid : Prop := fragBackRow.holds Try.pinned (OpenSpec.ofChange fragBackSpec)

/-- ITS FALSE NEIGHBOUR: 'it returns false'. Refute it at one input. -/
def fragBackWrong : ChangeSpec := { name := "fragBack", fn := fun _ => fun
  | [d1, d2, d3, d4, d5] => { results := [.lit (.bool false)], args := [d1, d2, d3, d4, d5] }
  | _ => none }
def FragBackWrongFalsely : Prop := fragBackRow.holds Try.pinned (OpenSpec.ofChange fragBackWrong)

/-- 'weftlaw5.FragRoom': WHATEVER THE INPUT: true; the input reads as it did. -/
def fragRoomSpec : ChangeSpec := { name := "fragRoom", fn := fun _ => fun
  | [d1, d2, d3] => { results := [.lit (.bool true)], args := [d1, d2, d3] }
  | _ => none }
def fragRoomRow : OpenClaim := { program := "ytelfemhnijnhfaa", sum := "4ddc742618900e509fe267df8a163785e70c1699789ffb17a34111e5b854531d", func := "weft/weftlaw5.FragRoom", spec := "fragRoom", unfollowed := true, recurses := true, plainKeys := false, apart := false }
def FragRoomSaid : Prop := fragRoomRow.holds Try.pinned (OpenSpec.ofChange fragRoomSpec)

/-- ITS FALSE NEIGHBOUR: 'it returns false'. Refute it at one input. -/
def fragRoomWrong : ChangeSpec := { name := "fragRoom", fn := fun _ => fun
  | [d1, d2, d3] => { results := [.lit (.bool false)], args := [d1, d2, d3] }
  | _ => none }
def FragRoomWrongFalsely : Prop := fragRoomRow.holds Try.pinned (OpenSpec.ofChange fragRoomWrong)

/-- 'weftlaw5.FragRefuses': WHATEVER THE INPUT: true; the input reads as it did. -/
def fragRefusesSpec : ChangeSpec := { name := "fragRefuses", fn := fun _ => fun
  | [d1, d2, d3] => { results := [.lit (.bool true)], args := [d1, d2, d3] }
  | _ => none }
def fragRefusesRow : OpenClaim := { program := "ytelfemhnijnhfaa", sum := "4ddc742618900e509fe267df8a163785e70c1699789ffb17a34111e5b854531d", func := "weft/weftlaw5.FragRefuses", spec := "fragRefuses", unfollowed := true, recurses := true, plainKeys := false, apart := false }
def FragRefusesSaid : Prop := fragRefusesRow.holds Try.pinned (OpenSpec.ofChange fragRefusesSpec)

/-- ITS FALSE NEIGHBOUR: 'it returns false'. Refute it at one input. -/
def fragRefusesWrong : ChangeSpec := { name := "fragRefuses", fn := fun _ => fun
  | [d1, d2, d3] => { results := [.lit (.bool false)], args := [d1, d2, d3] }
  | _ => none }
def FragRefusesWrongFalsely : Prop := fragRefusesRow.holds Try.pinned (OpenSpec.ofChange fragRefusesWrong)

/-- 'weftlaw5.FragPlays': WHATEVER THE INPUT: true; the input reads as it did. -/
def fragPlaysSpec : ChangeSpec := { name := "fragPlays", fn := fun _ => fun
  | [d1, d2, d3] => { results := [.lit (.bool true)], args := [d1, d2, d3] }
  | _ => none }
def fragPlaysRow : OpenClaim := { program := "ytelfemhnijnhfaa", sum := "4ddc742618900e509fe267df8a163785e70c1699789ffb17a34111e5b854531d", func := "weft/weftlaw5.FragPlays", spec := "fragPlays", unfollowed := true, recurses := true, plainKeys := false, apart := false }
def FragPlaysSaid : Prop := fragPlaysRow.holds Try.pinned (OpenSpec.ofChange fragPlaysSpec)

/-- ITS FALSE NEIGHBOUR: 'it returns false'. Refute it at one input. -/
def fragPlaysWrong : ChangeSpec := { name := "fragPlays", fn := fun _ => fun
  | [d1, d2, d3] => { results := [.lit (.bool false)], args := [d1, d2, d3] }
  | _ => none }
def FragPlaysWrongFalsely : Prop := fragPlaysRow.holds Try.pinned (OpenSpec.ofChange fragPlaysWrong)

/-- 'weftlaw5.FragEnds': WHATEVER THE INPUT: true; the input reads as it did. -/
def fragEndsSpec : ChangeSpec := { name := "fragEnds", fn := fun _ => fun
  | [d1, d2, d3] => { results := [.lit (.bool true)], args := [d1, d2, d3] }
  | _ => none }
def fragEndsRow : OpenClaim := { program := "ytelfemhnijnhfaa", sum := "4ddc742618900e509fe267df8a163785e70c1699789ffb17a34111e5b854531d", func := "weft/weftlaw5.FragEnds", spec := "fragEnds", unfollowed := true, recurses := true, plainKeys := false, apart := false }
def FragEndsSaid : Prop := fragEndsRow.holds Try.pinned (OpenSpec.ofChange fragEndsSpec)

/-- ITS FALSE NEIGHBOUR: 'it returns false'. Refute it at one input. -/
def fragEndsWrong : ChangeSpec := { name := "fragEnds", fn := fun _ => fun
  | [d1, d2, d3] => { results := [.lit (.bool false)], args := [d1, d2, d3] }
  | _ => none }
def FragEndsWrongFalsely : Prop := fragEndsRow.holds Try.pinned (OpenSpec.ofChange fragEndsWrong)

/- THE SECOND FORM. 'bulk': how many values and letters a reading holds, each counted each time it is reached (what is shared counts as often as it is met; a slice's spare places count too). A statement '..UptoSaid' is the law's where the arguments, and the package variables that the reading takes, are together of bulk at most 1048576: NARROWER than '..Said'. Prove '..Said' where nothing that the law and all that it calls make is longer than what came in: it says more and counts as full. Else prove '..UptoSaid'. A law counts once. -/
mutual
def uptoBulk {H : Type} : DataW H → Nat
  | .lit (.string bytes) => bytes.length + 1
  | .lit _ => 1
  | .nil => 1
  | .ptr d => uptoBulk d + 1
  | .slice elems spare => uptoBulkAll elems + uptoBulkAll spare + 1
  | .agg parts => uptoBulkAll parts + 1
  | .iface _ d => uptoBulk d + 1
  | .map entries => uptoBulkEntries entries + 1
  | .held _ => 1
def uptoBulkAll {H : Type} : List (DataW H) → Nat
  | [] => 0
  | d :: r => uptoBulk d + uptoBulkAll r
def uptoBulkEntries {H : Type} : List (Lit × DataW H) → Nat
  | [] => 0
  | x :: r => uptoBulkEntry x + uptoBulkEntries r
def uptoBulkEntry {H : Type} : Lit × DataW H → Nat
  | (.string bytes, d) => bytes.length + uptoBulk d + 1
  | (_, d) => uptoBulk d + 1
 end
def uptoSmall : (H : Type) → List (DataW H) → Bool := fun _ ds => decide (uptoBulkAll ds ≤ 1048576)
def OpenSpec.upto (s : _root_.Go.ChangeSpec) : _root_.Go.OpenSpec := { _root_.Go.OpenSpec.ofChange s with cond := some uptoSmall }

/-- 'weftlaw5.FragSplits', WHERE WHAT IT READS IS OF BULK AT MOST 1048576: true; the input reads as it did. -/
def fragSplitsUptoRow : OpenClaim := { program := "ytelfemhnijnhfaa", sum := "4ddc742618900e509fe267df8a163785e70c1699789ffb17a34111e5b854531d", func := "weft/weftlaw5.FragSplits", spec := "fragSplits", plainKeys := false, apart := false, narrowed := true }
def FragSplitsUptoSaid : Prop := fragSplitsUptoRow.holds Try.pinned (OpenSpec.upto fragSplitsSpec)

/-- 'weftlaw5.FragCovers', WHERE WHAT IT READS IS OF BULK AT MOST 1048576: true; the input reads as it did. -/
def fragCoversUptoRow : OpenClaim := { program := "ytelfemhnijnhfaa", sum := "4ddc742618900e509fe267df8a163785e70c1699789ffb17a34111e5b854531d", func := "weft/weftlaw5.FragCovers", spec := "fragCovers", plainKeys := false, apart := false, narrowed := true }
def FragCoversUptoSaid : Prop := fragCoversUptoRow.holds Try.pinned (OpenSpec.upto fragCoversSpec)

/-- 'weftlaw5.FragFirst', WHERE WHAT IT READS IS OF BULK AT MOST 1048576: true; the input reads as it did. -/
def fragFirstUptoRow : OpenClaim := { program := "ytelfemhnijnhfaa", sum := "4ddc742618900e509fe267df8a163785e70c1699789ffb17a34111e5b854531d", func := "weft/weftlaw5.FragFirst", spec := "fragFirst", plainKeys := false, apart := false, narrowed := true }
def FragFirstUptoSaid : Prop := fragFirstUptoRow.holds Try.pinned (OpenSpec.upto fragFirstSpec)

/-- 'weftlaw5.FragBack', WHERE WHAT IT READS IS OF BULK AT MOST 1048576: true; the input reads as it did. -/
def fragBackUptoRow : OpenClaim := { program := "ytelfemhnijnhfaa", sum := "4ddc742618900e509fe267df8a163785e70c1699789ffb17a34111e5b854531d", func := "weft/weftlaw5.FragBack", spec := "fragBack", plainKeys := false, apart := false, narrowed := true }
def FragBackUptoSaid : Prop := fragBackUptoRow.holds Try.pinned (OpenSpec.upto fragBackSpec)

/-- 'weftlaw5.FragRoom', WHERE WHAT IT READS IS OF BULK AT MOST 1048576: true; the input reads as it did. -/
def fragRoomUptoRow : OpenClaim := { program := "ytelfemhnijnhfaa", sum := "4ddc742618900e509fe267df8a163785e70c1699789ffb17a34111e5b854531d", func := "weft/weftlaw5.FragRoom", spec := "fragRoom", unfollowed := true, recurses := true, plainKeys := false, apart := false, narrowed := true }
def FragRoomUptoSaid : Prop := fragRoomUptoRow.holds Try.pinned (OpenSpec.upto fragRoomSpec)

/-- 'weftlaw5.FragRefuses', WHERE WHAT IT READS IS OF BULK AT MOST 1048576: true; the input reads as it did. -/
def fragRefusesUptoRow : OpenClaim := { program := "ytelfemhnijnhfaa", sum := "4ddc742618900e509fe267df8a163785e70c1699789ffb17a34111e5b854531d", func := "weft/weftlaw5.FragRefuses", spec := "fragRefuses", unfollowed := true, recurses := true, plainKeys := false, apart := false, narrowed := true }
def FragRefusesUptoSaid : Prop := fragRefusesUptoRow.holds Try.pinned (OpenSpec.upto fragRefusesSpec)

/-- 'weftlaw5.FragPlays', WHERE WHAT IT READS IS OF BULK AT MOST 1048576: true; the input reads as it did. -/
def fragPlaysUptoRow : OpenClaim := { program := "ytelfemhnijnhfaa", sum := "4ddc742618900e509fe267df8a163785e70c1699789ffb17a34111e5b854531d", func := "weft/weftlaw5.FragPlays", spec := "fragPlays", unfollowed := true, recurses := true, plainKeys := false, apart := false, narrowed := true }
def FragPlaysUptoSaid : Prop := fragPlaysUptoRow.holds Try.pinned (OpenSpec.upto fragPlaysSpec)

/-- 'weftlaw5.FragEnds', WHERE WHAT IT READS IS OF BULK AT MOST 1048576: true; the input reads as it did. -/
def fragEndsUptoRow : OpenClaim := { program := "ytelfemhnijnhfaa", sum := "4ddc742618900e509fe267df8a163785e70c1699789ffb17a34111e5b854531d", func := "weft/weftlaw5.FragEnds", spec := "fragEnds", unfollowed := true, recurses := true, plainKeys := false, apart := false, narrowed := true }
def FragEndsUptoSaid : Prop := fragEndsUptoRow.holds Try.pinned (OpenSpec.upto fragEndsSpec)

end Rows
end Go.Proofs.Ytelfemhnijnhfaa
