/-
  No cell of these rows narrows 'for every input' (looked for: loops, veiled, ifaces, maps, wideKeys, modest, calm, conditions, laid).
  DERIVED. THE GIVEN ROWS OF THIS SEAT. 7 by the template 'for every input the law returns true; each argument reads behind the call as it read before'; 0 by the template 'total and deterministic' (their statements: YtgcemlilfdjjlaaTotals.lean).
  GIVEN WITH THE SEED: the statements are not yours to turn. If you find one false, say at which input.
  Laid BY PROGRAM, IN A SANDBOX (cutbox-rows.mjs): the forced cells as the released guide's own fill.sh prints them over the translation a3295733bacf8753… (all of the seat's roots in one cut). By AI agents, Wed Nov 11 2026. No macro, syntax, notation, axiom, sorry.
-/
import Derived.Test.YtgcemlilfdjjlaaChecked
import GoSem.Claim
import GoSem.ClaimJoined
import GoSem.ClaimMapViews
import Derived.JoinedTies
import Derived.KernelRfl
namespace Go.Proofs.Ytgcemlilfdjjlaa
/- THE CELL 'sum', in the pinned program and in every row, IS THE sha256 OF THE DUMP (.gsa) THAT YtgcemlilfdjjlaaProg.lean LOADS. Nothing in Lean hashes anything: it is a label: what it is worth is what the hold of that sum in a sandbox is worth. -/
noncomputable def Try.pinned : Pinned := { name := "ytgcemlilfdjjlaa", sum := "a3295733bacf875391029d717e6125a2aa5b93eb2a99e687aa2d95b1b61d6af9", checked := Try.checked }
namespace Rows
def none {H : Type} : Left H := { results := [], args := [] }

/-- 'osierlaw04.ChainNews': WHATEVER THE INPUT: true; the input reads as it did. -/
def chainNewsSpec : ChangeSpec := { name := "chainNews", fn := fun _ => fun
  | [d1, d2] => { results := [.lit (.bool true)], args := [d1, d2] }
  | _ => none }
def chainNewsRow : OpenClaim := { program := "ytgcemlilfdjjlaa", sum := "a3295733bacf875391029d717e6125a2aa5b93eb2a99e687aa2d95b1b61d6af9", func := "osier/osierlaw04.ChainNews", spec := "chainNews", apart := false }
def ChainNewsSaid : Prop := chainNewsRow.holds Try.pinned (OpenSpec.ofChange chainNewsSpec)

/-- ITS FALSE NEIGHBOUR: 'it returns false'. Refute it at one input. -/
def chainNewsWrong : ChangeSpec := { name := "chainNews", fn := fun _ => fun
  | [d1, d2] => { results := [.lit (.bool false)], args := [d1, d2] }
  | _ => none }
def ChainNewsWrongFalsely : Prop := chainNewsRow.holds Try.pinned (OpenSpec.ofChange chainNewsWrong)

/-- 'osierlaw04.ChainUndoes': WHATEVER THE INPUT: true; the input reads as it did. -/
def chainUndoesSpec : ChangeSpec := { name := "chainUndoes", fn := fun _ => fun
  | [d1, d2] => { results := [.lit (.bool true)], args := [d1, d2] }
  | _ => none }
def chainUndoesRow : OpenClaim := { program := "ytgcemlilfdjjlaa", sum := "a3295733bacf875391029d717e6125a2aa5b93eb2a99e687aa2d95b1b61d6af9", func := "osier/osierlaw04.ChainUndoes", spec := "chainUndoes", apart := false }
def ChainUndoesSaid : Prop := chainUndoesRow.holds Try.pinned (OpenSpec.ofChange chainUndoesSpec)

/-- ITS FALSE NEIGHBOUR: 'it returns false'. Refute it at one input. -/
def chainUndoesWrong : ChangeSpec := { name := "chainUndoes", fn := fun _ => fun
  | [d1, d2] => { results := [.lit (.bool false)], args := [d1, d2] }
  | _ => none }
def ChainUndoesWrongFalsely : Prop := chainUndoesRow.holds Try.pinned (OpenSpec.ofChange chainUndoesWrong)

/-- 'osierlaw04.ChainStops': WHATEVER THE INPUT: true; the input reads as it did. -/
def chainStopsSpec : ChangeSpec := { name := "chainStops", fn := fun _ => fun
  | [d1, d2] => { results := [.lit (.bool true)], args := [d1, d2] }
  | _ => none }
def chainStopsRow : OpenClaim := { program := "ytgcemlilfdjjlaa", sum := "a3295733bacf875391029d717e6125a2aa5b93eb2a99e687aa2d95b1b61d6af9", func := "osier/osierlaw04.ChainStops", spec := "chainStops", unfollowed := true, recurses := true, apart := false }
def ChainStopsSaid : Prop := chainStopsRow.holds Try.pinned (OpenSpec.ofChange chainStopsSpec)

/-- ITS FALSE NEIGHBOUR: 'it returns false'. Refute it at one input. -/
def chainStopsWrong : ChangeSpec := { name := "chainStops", fn := fun _ => fun
  | [d1, d2] => { results := [.lit (.bool false)], args := [d1, d2] }
  | _ => none }
def ChainStopsWrongFalsely : Prop := chainStopsRow.holds Try.pinned (OpenSpec.ofChange chainStopsWrong)

/-- 'osierlaw04.ChainJoins': WHATEVER THE INPUT: true; the input reads as it did. -/
def chainJoinsSpec : ChangeSpec := { name := "chainJoins", fn := fun _ => fun
  | [d1, d2] => { results := [.lit (.bool true)], args := [d1, d2] }
  | _ => none }
def chainJoinsRow : OpenClaim := { program := "ytgcemlilfdjjlaa", sum := "a3295733bacf875391029d717e6125a2aa5b93eb2a99e687aa2d95b1b61d6af9", func := "osier/osierlaw04.ChainJoins", spec := "chainJoins", unfollowed := true, recurses := true, apart := false }
def ChainJoinsSaid : Prop := chainJoinsRow.holds Try.pinned (OpenSpec.ofChange chainJoinsSpec)

/-- ITS FALSE NEIGHBOUR: 'it returns false'. Refute it at one input. -/
def chainJoinsWrong : ChangeSpec := { name := "chainJoins", fn := fun _ => fun
  | [d1, d2] => { results := [.lit (.bool false)], args := [d1, d2] }
  | _ => none }
def ChainJoinsWrongFalsely : Prop := chainJoinsRow.holds Try.pinned (OpenSpec.ofChange chainJoinsWrong)

/-- 'osierlaw04.ChainPlays': WHATEVER THE INPUT: true; the input reads as it did. -/
def chainPlaysSpec : ChangeSpec := { name := "chainPlays", fn := fun _ => fun
  | [d1, d2, d3] => { results := [.lit (.bool true)], args := [d1, d2, d3] }
  | _ => none }
def chainPlaysRow : OpenClaim := { program := "ytgcemlilfdjjlaa", sum := "a3295733bacf875391029d717e6125a2aa5b93eb2a99e687aa2d95b1b61d6af9", func := "osier/osierlaw04.ChainPlays", spec := "chainPlays", unfollowed := true, recurses := true, apart := false }
def ChainPlaysSaid : Prop := chainPlaysRow.holds Try.pinned (OpenSpec.ofChange chainPlaysSpec)

/-- ITS FALSE NEIGHBOUR: 'it returns false'. Refute it at one input. -/
def chainPlaysWrong : ChangeSpec := { name := "chainPlays", fn := fun _ => fun
  | [d1, d2, d3] => { results := [.lit (.bool false)], args := [d1, d2, d3] }
  | _ => none }
def ChainPlaysWrongFalsely : Prop := chainPlaysRow.holds Try.pinned (OpenSpec.ofChange chainPlaysWrong)

/-- 'osierlaw04.ChainTwo': WHATEVER THE INPUT: true; the input reads as it did. -/
def chainTwoSpec : ChangeSpec := { name := "chainTwo", fn := fun _ => fun
  | [d1, d2, d3] => { results := [.lit (.bool true)], args := [d1, d2, d3] }
  | _ => none }
def chainTwoRow : OpenClaim := { program := "ytgcemlilfdjjlaa", sum := "a3295733bacf875391029d717e6125a2aa5b93eb2a99e687aa2d95b1b61d6af9", func := "osier/osierlaw04.ChainTwo", spec := "chainTwo", unfollowed := true, recurses := true, apart := false }
def ChainTwoSaid : Prop := chainTwoRow.holds Try.pinned (OpenSpec.ofChange chainTwoSpec)

/-- ITS FALSE NEIGHBOUR: 'it returns false'. Refute it at one input. -/
def chainTwoWrong : ChangeSpec := { name := "chainTwo", fn := fun _ => fun
  | [d1, d2, d3] => { results := [.lit (.bool false)], args := [d1, d2, d3] }
  | _ => none }
def ChainTwoWrongFalsely : Prop := chainTwoRow.holds Try.pinned (OpenSpec.ofChange chainTwoWrong)

/-- 'osierlaw04.ChainBothWays': WHATEVER THE INPUT: true; the input reads as it did. -/
def chainBothWaysSpec : ChangeSpec := { name := "chainBothWays", fn := fun _ => fun
  | [d] => { results := [.lit (.bool true)], args := [d] }
  | _ => none }
def chainBothWaysRow : OpenClaim := { program := "ytgcemlilfdjjlaa", sum := "a3295733bacf875391029d717e6125a2aa5b93eb2a99e687aa2d95b1b61d6af9", func := "osier/osierlaw04.ChainBothWays", spec := "chainBothWays", unfollowed := true, recurses := true, apart := false }
def ChainBothWaysSaid : Prop := chainBothWaysRow.holds Try.pinned (OpenSpec.ofChange chainBothWaysSpec)

/-- ITS FALSE NEIGHBOUR: 'it returns false'. Refute it at one input. -/
def chainBothWaysWrong : ChangeSpec := { name := "chainBothWays", fn := fun _ => fun
  | [d] => { results := [.lit (.bool false)], args := [d] }
  | _ => none }
def ChainBothWaysWrongFalsely : Prop := chainBothWaysRow.holds Try.pinned (OpenSpec.ofChange chainBothWaysWrong)

/- THE SECOND FORM. 'bulk': how many values and letters a reading holds, each counted each time it is reached (what is shared counts as often as it is met; a slice's spare places count too). A statement '..UptoSaid' is the law's where the arguments, and the package variables that the reading takes, are together of bulk at most 1048576: NARROWER than '..Said'. Prove '..Said' where nothing that the law and all that it calls make is longer than what came in: it says more and counts as full. Else prove '..UptoSaid'. A law counts once. -/
mutual
def uptoBulk {H : Type} : DataW H → Nat
  | .lit (.string bytes) => bytes.length + 1
  | .lit _ => 1
  | .nil => 1
  | .ptr d => uptoBulk d + 1
  | .slice elems spare => uptoBulkAll elems + uptoBulkAll spare + 1
  | .agg parts => uptoBulkAll parts + 1
  | .iface _ d => uptoBulk d + 1
  | .map entries => uptoBulkEntries entries + 1
  | .held _ => 1
def uptoBulkAll {H : Type} : List (DataW H) → Nat
  | [] => 0
  | d :: r => uptoBulk d + uptoBulkAll r
def uptoBulkEntries {H : Type} : List (Lit × DataW H) → Nat
  | [] => 0
  | x :: r => uptoBulkEntry x + uptoBulkEntries r
def uptoBulkEntry {H : Type} : Lit × DataW H → Nat
  | (.string bytes, d) => bytes.length + uptoBulk d + 1
  | (_, d) => uptoBulk d + 1
 end
def uptoSmall : (H : Type) → List (DataW H) → Bool := fun _ ds => decide (uptoBulkAll ds ≤ 1048576)
def OpenSpec.upto (s : _root_.Go.ChangeSpec) : _root_.Go.OpenSpec := { _root_.Go.OpenSpec.ofChange s with cond := some uptoSmall }

/-- 'osierlaw04.ChainNews', WHERE WHAT IT READS IS OF BULK AT MOST 1048576: true; the input reads as it did. -/
def chainNewsUptoRow : OpenClaim := { program := "ytgcemlilfdjjlaa", sum := "a3295733bacf875391029d717e6125a2aa5b93eb2a99e687aa2d95b1b61d6af9", func := "osier/osierlaw04.ChainNews", spec := "chainNews", apart := false, narrowed := true }
def ChainNewsUptoSaid : Prop := chainNewsUptoRow.holds Try.pinned (OpenSpec.upto chainNewsSpec)

/-- 'osierlaw04.ChainUndoes', WHERE WHAT IT READS IS OF BULK AT MOST 1048576: true; the input reads as it did. -/
def chainUndoesUptoRow : OpenClaim := { program := "ytgcemlilfdjjlaa", sum := "a3295733bacf875391029d717e6125a2aa5b93eb2a99e687aa2d95b1b61d6af9", func := "osier/osierlaw04.ChainUndoes", spec := "chainUndoes", apart := false, narrowed := true }
def ChainUndoesUptoSaid : Prop := chainUndoesUptoRow.holds Try.pinned (OpenSpec.upto chainUndoesSpec)

/-- 'osierlaw04.ChainStops', WHERE WHAT IT READS IS OF BULK AT MOST 1048576: true; the input reads as it did. -/
def chainStopsUptoRow : OpenClaim := { program := "ytgcemlilfdjjlaa", sum := "a3295733bacf875391029d717e6125a2aa5b93eb2a99e687aa2d95b1b61d6af9", func := "osier/osierlaw04.ChainStops", spec := "chainStops", unfollowed := true, recurses := true, apart := false, narrowed := true }
def ChainStopsUptoSaid : Prop := chainStopsUptoRow.holds Try.pinned (OpenSpec.upto chainStopsSpec)

/-- 'osierlaw04.ChainJoins', WHERE WHAT IT READS IS OF BULK AT MOST 1048576: true; the input reads as it did. -/
def chainJoinsUptoRow : OpenClaim := { program := "ytgcemlilfdjjlaa", sum := "a3295733bacf875391029d717e6125a2aa5b93eb2a99e687aa2d95b1b61d6af9", func := "osier/osierlaw04.ChainJoins", spec := "chainJoins", unfollowed := true, recurses := true, apart := false, narrowed := true }
def ChainJoinsUptoSaid : Prop := chainJoinsUptoRow.holds Try.pinned (OpenSpec.upto chainJoinsSpec)

/-- 'osierlaw04.ChainPlays', WHERE WHAT IT READS IS OF BULK AT MOST 1048576: true; the input reads as it did. -/
def chainPlaysUptoRow : OpenClaim := { program := "ytgcemlilfdjjlaa", sum := "a3295733bacf875391029d717e6125a2aa5b93eb2a99e687aa2d95b1b61d6af9", func := "osier/osierlaw04.ChainPlays", spec := "chainPlays", unfollowed := true, recurses := true, apart := false, narrowed := true }
def ChainPlaysUptoSaid : Prop := chainPlaysUptoRow.holds Try.pinned (OpenSpec.upto chainPlaysSpec)

/-- 'osierlaw04.ChainTwo', WHERE WHAT IT READS IS OF BULK AT MOST 1048576: true; the input reads as it did. -/
def chainTwoUptoRow : OpenClaim := { program := "ytgcemlilfdjjlaa", sum := "a3295733bacf875391029d717e6125a2aa5b93eb2a99e687aa2d95b1b61d6af9", func := "osier/osierlaw04.ChainTwo", spec := "chainTwo", unfollowed := true, recurses := true, apart := false, narrowed := true }
def ChainTwoUptoSaid : Prop := chainTwoUptoRow.holds Try.pinned (OpenSpec.upto chainTwoSpec)

/-- 'osierlaw04.ChainBothWays', WHERE WHAT IT READS IS OF BULK AT MOST 1048576: true; the input reads as it did. -/
def chainBothWaysUptoRow : OpenClaim := { program := "ytgcemlilfdjjlaa", sum := "a3295733bacf875391029d717e6125a2aa5b93eb2a99e687aa2d95b1b61d6af9", func := "osier/osierlaw04.ChainBothWays", spec := "chainBothWays", unfollowed := true, recurses := true, apart := false, narrowed := true }
def ChainBothWaysUptoSaid : Prop := chainBothWaysUptoRow.holds Try.pinned (OpenSpec.upto chainBothWaysSpec)

end Rows
end Go.Proofs.Ytgcemlilfdjjlaa
