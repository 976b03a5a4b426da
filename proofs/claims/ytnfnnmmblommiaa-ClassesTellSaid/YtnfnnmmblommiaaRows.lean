/-
  No cell of these rows narrows 'for every input' (looked for: loops, veiled, ifaces, maps, wideKeys, modest, calm, conditions, laid).
  DERIVED. THE GIVEN ROWS OF THIS SEAT. 8 by the template 'for every input the law returns true; each argument reads behind the call as it read before'; 0 by the template 'total and deterministic' (their statements: YtnfnnmmblommiaaTotals.lean).
  GIVEN WITH THE SEED: the statements are not yours to turn. If you find one false, say at which input.
  Laid BY PROGRAM, IN A SANDBOX (cutbox-rows.mjs): the forced cells as the released guide's own fill.sh prints them over the translation 3d4b286f1b2fee6a… (all of the seat's roots in one cut). By AI agents, Wed Nov 11 2026. No macro, syntax, notation, axiom, sorry.
-/
import Derived.Test.YtnfnnmmblommiaaChecked
import GoSem.Claim
import GoSem.ClaimJoined
import GoSem.ClaimMapViews
import Derived.JoinedTies
import Derived.KernelRfl
namespace Go.Proofs.Ytnfnnmmblommiaa
/- THE CELL 'sum', in the pinned program and in every row, IS THE sha256 OF THE DUMP (.gsa) THAT YtnfnnmmblommiaaProg.lean LOADS. Nothing in Lean hashes anything: it is a label: what it is worth is what the hold of that sum in a sandbox is worth. -/
noncomputable def Try.pinned : Pinned := { name := "ytnfnnmmblommiaa", sum := "3d4b286f1b2fee6a0891fd365686157c6e2fd56faef1985718226b0481c3210d", checked := Try.checked }
namespace Rows
def none {H : Type} : Left H := { results := [], args := [] }

/-- 'hornbooklaw5.PropsTell': WHATEVER THE INPUT: true; the input reads as it did. -/
def propsTellSpec : ChangeSpec := { name := "propsTell", fn := fun _ => fun
  | [d1, d2, d3] => { results := [.lit (.bool true)], args := [d1, d2, d3] }
  | _ => none }
def propsTellRow : OpenClaim := { program := "ytnfnnmmblommiaa", sum := "3d4b286f1b2fee6a0891fd365686157c6e2fd56faef1985718226b0481c3210d", func := "hornbook/hornbooklaw5.PropsTell", spec := "propsTell", unfollowed := true, recurses := true, apart := false }
def PropsTellSaid : Prop := propsTellRow.holds Try.pinned (OpenSpec.ofChange propsTellSpec)

/-- ITS FALSE NEIGHBOUR: 'it returns false'. Refute it at one input. -/
def propsTellWrong : ChangeSpec := { name := "propsTell", fn := fun _ => fun
  | [d1, d2, d3] => { results := [.lit (.bool false)], args := [d1, d2, d3] }
  | _ => none }
def PropsTellWrongFalsely : Prop := propsTellRow.holds Try.pinned (OpenSpec.ofChange propsTellWrong)

/-- 'hornbooklaw5.PropsNames': WHATEVER THE INPUT: true; the input reads as it did. -/
def propsNamesSpec : ChangeSpec := { name := "propsNames", fn := fun _ => fun
  | [d] => { results := [.lit (.bool true)], args := [d] }
  | _ => none }
def propsNamesRow : OpenClaim := { program := "ytnfnnmmblommiaa", sum := "3d4b286f1b2fee6a0891fd365686157c6e2fd56faef1985718226b0481c3210d", func := "hornbook/hornbooklaw5.PropsNames", spec := "propsNames", unfollowed := true, recurses := true, apart := false }
def PropsNamesSaid : Prop := propsNamesRow.holds Try.pinned (OpenSpec.ofChange propsNamesSpec)

/-- ITS FALSE NEIGHBOUR: 'it returns false'. Refute it at one input. -/
def propsNamesWrong : ChangeSpec := { name := "propsNames", fn := fun _ => fun
  | [d] => { results := [.lit (.bool false)], args := [d] }
  | _ => none }
def PropsNamesWrongFalsely : Prop := propsNamesRow.holds Try.pinned (OpenSpec.ofChange propsNamesWrong)

/-- 'hornbooklaw5.PropsHold': WHATEVER THE INPUT: true; the input reads as it did. -/
def propsHoldSpec : ChangeSpec := { name := "propsHold", fn := fun _ => fun
  | [d] => { results := [.lit (.bool true)], args := [d] }
  | _ => none }
def propsHoldRow : OpenClaim := { program := "ytnfnnmmblommiaa", sum := "3d4b286f1b2fee6a0891fd365686157c6e2fd56faef1985718226b0481c3210d", func := "hornbook/hornbooklaw5.PropsHold", spec := "propsHold", unfollowed := true, recurses := true, apart := false }
def PropsHoldSaid : Prop := propsHoldRow.holds Try.pinned (OpenSpec.ofChange propsHoldSpec)

/-- ITS FALSE NEIGHBOUR: 'it returns false'. Refute it at one input. -/
def propsHoldWrong : ChangeSpec := { name := "propsHold", fn := fun _ => fun
  | [d] => { results := [.lit (.bool false)], args := [d] }
  | _ => none }
def PropsHoldWrongFalsely : Prop := propsHoldRow.holds Try.pinned (OpenSpec.ofChange propsHoldWrong)

/-- 'hornbooklaw4.ClassesFew': WHATEVER THE INPUT: true; the input reads as it did. -/
def classesFewSpec : ChangeSpec := { name := "classesFew", fn := fun _ => fun
  | [d1, d2] => { results := [.lit (.bool true)], args := [d1, d2] }
  | _ => none }
def classesFewRow : OpenClaim := { program := "ytnfnnmmblommiaa", sum := "3d4b286f1b2fee6a0891fd365686157c6e2fd56faef1985718226b0481c3210d", func := "hornbook/hornbooklaw4.ClassesFew", spec := "classesFew", unfollowed := true, recurses := true, apart := false }
def ClassesFewSaid : Prop := classesFewRow.holds Try.pinned (OpenSpec.ofChange classesFewSpec)

/-- ITS FALSE NEIGHBOUR: 'it returns false'. Refute it at one input. -/
def classesFewWrong : ChangeSpec := { name := "classesFew", fn := fun _ => fun
  | [d1, d2] => { results := [.lit (.bool false)], args := [d1, d2] }
  | _ => none }
def ClassesFewWrongFalsely : Prop := classesFewRow.holds Try.pinned (OpenSpec.ofChange classesFewWrong)

/-- 'hornbooklaw4.ClassesTell': WHATEVER THE INPUT: true; the input reads as it did. -/
def classesTellSpec : ChangeSpec := { name := "classesTell", fn := fun _ => fun
  | [d1, d2] => { results := [.lit (.bool true)], args := [d1, d2] }
  | _ => none }
def classesTellRow : OpenClaim := { program := "ytnfnnmmblommiaa", sum := "3d4b286f1b2fee6a0891fd365686157c6e2fd56faef1985718226b0481c3210d", func := "hornbook/hornbooklaw4.ClassesTell", spec := "classesTell", unfollowed := true, recurses := true, apart := false }
def ClassesTellSaid : Prop := classesTellRow.holds Try.pinned (OpenSpec.ofChange classesTellSpec)

/-- ITS FALSE NEIGHBOUR: 'it returns false'. Refute it at one input. -/
def classesTellWrong : ChangeSpec := { name := "classesTell", fn := fun _ => fun
  | [d1, d2] => { results := [.lit (.bool false)], args := [d1, d2] }
  | _ => none }
def ClassesTellWrongFalsely : Prop := classesTellRow.holds Try.pinned (OpenSpec.ofChange classesTellWrong)

/-- 'hornbooklaw4.ClassesUnite': WHATEVER THE INPUT: true; the input reads as it did. -/
def classesUniteSpec : ChangeSpec := { name := "classesUnite", fn := fun _ => fun
  | [d1, d2] => { results := [.lit (.bool true)], args := [d1, d2] }
  | _ => none }
def classesUniteRow : OpenClaim := { program := "ytnfnnmmblommiaa", sum := "3d4b286f1b2fee6a0891fd365686157c6e2fd56faef1985718226b0481c3210d", func := "hornbook/hornbooklaw4.ClassesUnite", spec := "classesUnite", unfollowed := true, recurses := true, apart := false }
def ClassesUniteSaid : Prop := classesUniteRow.holds Try.pinned (OpenSpec.ofChange classesUniteSpec)

/-- ITS FALSE NEIGHBOUR: 'it returns false'. Refute it at one input. -/
def classesUniteWrong : ChangeSpec := { name := "classesUnite", fn := fun _ => fun
  | [d1, d2] => { results := [.lit (.bool false)], args := [d1, d2] }
  | _ => none }
def ClassesUniteWrongFalsely : Prop := classesUniteRow.holds Try.pinned (OpenSpec.ofChange classesUniteWrong)

/-- 'hornbooklaw4.ClassesMore': WHATEVER THE INPUT: true; the input reads as it did. -/
def classesMoreSpec : ChangeSpec := { name := "classesMore", fn := fun _ => fun
  | [d1, d2] => { results := [.lit (.bool true)], args := [d1, d2] }
  | _ => none }
def classesMoreRow : OpenClaim := { program := "ytnfnnmmblommiaa", sum := "3d4b286f1b2fee6a0891fd365686157c6e2fd56faef1985718226b0481c3210d", func := "hornbook/hornbooklaw4.ClassesMore", spec := "classesMore", unfollowed := true, recurses := true, apart := false }
def ClassesMoreSaid : Prop := classesMoreRow.holds Try.pinned (OpenSpec.ofChange classesMoreSpec)

/-- ITS FALSE NEIGHBOUR: 'it returns false'. Refute it at one input. -/
def classesMoreWrong : ChangeSpec := { name := "classesMore", fn := fun _ => fun
  | [d1, d2] => { results := [.lit (.bool false)], args := [d1, d2] }
  | _ => none }
def ClassesMoreWrongFalsely : Prop := classesMoreRow.holds Try.pinned (OpenSpec.ofChange classesMoreWrong)

/-- 'hornbooklaw4.ClassesPart': WHATEVER THE INPUT: true; the input reads as it did. -/
def classesPartSpec : ChangeSpec := { name := "classesPart", fn := fun _ => fun
  | [d1, d2, d3] => { results := [.lit (.bool true)], args := [d1, d2, d3] }
  | _ => none }
def classesPartRow : OpenClaim := { program := "ytnfnnmmblommiaa", sum := "3d4b286f1b2fee6a0891fd365686157c6e2fd56faef1985718226b0481c3210d", func := "hornbook/hornbooklaw4.ClassesPart", spec := "classesPart", unfollowed := true, recurses := true, apart := false }
def ClassesPartSaid : Prop := classesPartRow.holds Try.pinned (OpenSpec.ofChange classesPartSpec)

/-- ITS FALSE NEIGHBOUR: 'it returns false'. Refute it at one input. -/
def classesPartWrong : ChangeSpec := { name := "classesPart", fn := fun _ => fun
  | [d1, d2, d3] => { results := [.lit (.bool false)], args := [d1, d2, d3] }
  | _ => none }
def ClassesPartWrongFalsely : Prop := classesPartRow.holds Try.pinned (OpenSpec.ofChange classesPartWrong)

/- THE SECOND FORM. 'bulk': how many values and letters a reading holds, each counted each time it is reached (what is shared counts as often as it is met; a slice's spare places count too). A statement '..UptoSaid' is the law's where the arguments, and the package variables that the reading takes, are together of bulk at most 1048576: NARROWER than '..Said'. Prove '..Said' where nothing that the law and all that it calls make is longer than what came in: it says more and counts as full. Else prove '..UptoSaid'. A law counts once. -/
mutual
def uptoBulk {H : Type} : DataW H → Nat
  | .lit (.string bytes) => bytes.length + 1
  | .lit _ => 1
  | .nil => 1
  | .ptr d => uptoBulk d + 1
  | .slice elems spare => uptoBulkAll elems + uptoBulkAll spare + 1
  | .agg parts => uptoBulkAll parts + 1
  | .iface _ d => uptoBulk d + 1
  | .map entries => uptoBulkEntries entries + 1
  | .held _ => 1
def uptoBulkAll {H : Type} : List (DataW H) → Nat
  | [] => 0
  | d :: r => uptoBulk d + uptoBulkAll r
def uptoBulkEntries {H : Type} : List (Lit × DataW H) → Nat
  | [] => 0
  | x :: r => uptoBulkEntry x + uptoBulkEntries r
def uptoBulkEntry {H : Type} : Lit × DataW H → Nat
  | (.string bytes, d) => bytes.length + uptoBulk d + 1
  | (_, d) => uptoBulk d + 1
 end
def uptoSmall : (H : Type) → List (DataW H) → Bool := fun _ ds => decide (uptoBulkAll ds ≤ 1048576)
def OpenSpec.upto (s : _root_.Go.ChangeSpec) : _root_.Go.OpenSpec := { _root_.Go.OpenSpec.ofChange s with cond := some uptoSmall }

/-- 'hornbooklaw5.PropsTell', WHERE WHAT IT READS IS OF BULK AT MOST 1048576: true; the input reads as it did. -/
def propsTellUptoRow : OpenClaim := { program := "ytnfnnmmblommiaa", sum := "3d4b286f1b2fee6a0891fd365686157c6e2fd56faef1985718226b0481c3210d", func := "hornbook/hornbooklaw5.PropsTell", spec := "propsTell", unfollowed := true, recurses := true, apart := false, narrowed := true }
def PropsTellUptoSaid : Prop := propsTellUptoRow.holds Try.pinned (OpenSpec.upto propsTellSpec)

/-- 'hornbooklaw5.PropsNames', WHERE WHAT IT READS IS OF BULK AT MOST 1048576: true; the input reads as it did. -/
def propsNamesUptoRow : OpenClaim := { program := "ytnfnnmmblommiaa", sum := "3d4b286f1b2fee6a0891fd365686157c6e2fd56faef1985718226b0481c3210d", func := "hornbook/hornbooklaw5.PropsNames", spec := "propsNames", unfollowed := true, recurses := true, apart := false, narrowed := true }
def PropsNamesUptoSaid : Prop := propsNamesUptoRow.holds Try.pinned (OpenSpec.upto propsNamesSpec)

/-- 'hornbooklaw5.PropsHold', WHERE WHAT IT READS IS OF BULK AT MOST 1048576: true; the input reads as it did. -/
def propsHoldUptoRow : OpenClaim := { program := "ytnfnnmmblommiaa", sum := "3d4b286f1b2fee6a0891fd365686157c6e2fd56faef1985718226b0481c3210d", func := "hornbook/hornbooklaw5.PropsHold", spec := "propsHold", unfollowed := true, recurses := true, apart := false, narrowed := true }
def PropsHoldUptoSaid : Prop := propsHoldUptoRow.holds Try.pinned (OpenSpec.upto propsHoldSpec)

/-- 'hornbooklaw4.ClassesFew', WHERE WHAT IT READS IS OF BULK AT MOST 1048576: true; the input reads as it did. -/
def classesFewUptoRow : OpenClaim := { program := "ytnfnnmmblommiaa", sum := "3d4b286f1b2fee6a0891fd365686157c6e2fd56faef1985718226b0481c3210d", func := "hornbook/hornbooklaw4.ClassesFew", spec := "classesFew", unfollowed := true, recurses := true, apart := false, narrowed := true }
def ClassesFewUptoSaid : Prop := classesFewUptoRow.holds Try.pinned (OpenSpec.upto classesFewSpec)

/-- 'hornbooklaw4.ClassesTell', WHERE WHAT IT READS IS OF BULK AT MOST 1048576: true; the input reads as it did. -/
def classesTellUptoRow : OpenClaim := { program := "ytnfnnmmblommiaa", sum := "3d4b286f1b2fee6a0891fd365686157c6e2fd56faef1985718226b0481c3210d", func := "hornbook/hornbooklaw4.ClassesTell", spec := "classesTell", unfollowed := true, recurses := true, apart := false, narrowed := true }
def ClassesTellUptoSaid : Prop := classesTellUptoRow.holds Try.pinned (OpenSpec.upto classesTellSpec)

/-- 'hornbooklaw4.ClassesUnite', WHERE WHAT IT READS IS OF BULK AT MOST 1048576: true; the input reads as it did. -/
def classesUniteUptoRow : OpenClaim := { program := "ytnfnnmmblommiaa", sum := "3d4b286f1b2fee6a0891fd365686157c6e2fd56faef1985718226b0481c3210d", func := "hornbook/hornbooklaw4.ClassesUnite", spec := "classesUnite", unfollowed := true, recurses := true, apart := false, narrowed := true }
def ClassesUniteUptoSaid : Prop := classesUniteUptoRow.holds Try.pinned (OpenSpec.upto classesUniteSpec)

/-- 'hornbooklaw4.ClassesMore', WHERE WHAT IT READS IS OF BULK AT MOST 1048576: true; the input reads as it did. -/
def classesMoreUptoRow : OpenClaim := { program := "ytnfnnmmblommiaa", sum := "3d4b286f1b2fee6a0891fd365686157c6e2fd56faef1985718226b0481c3210d", func := "hornbook/hornbooklaw4.ClassesMore", spec := "classesMore", unfollowed := true, recurses := true, apart := false, narrowed := true }
def ClassesMoreUptoSaid : Prop := classesMoreUptoRow.holds Try.pinned (OpenSpec.upto classesMoreSpec)

/-- 'hornbooklaw4.ClassesPart', WHERE WHAT IT READS IS OF BULK AT MOST 1048576: true; the input reads as it did. -/
def classesPartUptoRow : OpenClaim := { program := "ytnfnnmmblommiaa", sum := "3d4b286f1b2fee6a0891fd365686157c6e2fd56faef1985718226b0481c3210d", func := "hornbook/hornbooklaw4.ClassesPart", spec := "classesPart", unfollowed := true, recurses := true, apart := false, narrowed := true }
def ClassesPartUptoSaid : Prop := classesPartUptoRow.holds Try.pinned (OpenSpec.upto classesPartSpec)

end Rows
end Go.Proofs.Ytnfnnmmblommiaa
