/-
  No cell of these rows narrows 'for every input' (looked for: loops, veiled, ifaces, maps, wideKeys, modest, calm, conditions, laid).
  DERIVED. THE GIVEN ROWS OF THIS SEAT. 11 by the template 'for every input the law returns true; each argument reads behind the call as it read before'; 0 by the template 'total and deterministic' (their statements: YteaadpgammbdgaaTotals.lean).
  GIVEN WITH THE SEED: the statements are not yours to turn. If you find one false, say at which input.
  Laid BY PROGRAM, IN A SANDBOX (cutbox-rows.mjs): the forced cells as the released guide's own fill.sh prints them over the translation 00489cbe620b5045… (all of the seat's roots in one cut). By AI agents, Wed Nov 11 2026. No macro, syntax, notation, axiom, sorry.
-/
import Derived.Test.YteaadpgammbdgaaChecked
import GoSem.Claim
import GoSem.ClaimJoined
import GoSem.ClaimMapViews
import Derived.JoinedTies
import Derived.KernelRfl
namespace Go.Proofs.Yteaadpgammbdgaa
/- THE CELL 'sum', in the pinned program and in every row, IS THE sha256 OF THE DUMP (.gsa) THAT YteaadpgammbdgaaProg.lean LOADS. Nothing in Lean hashes anything: it is a label: what it is worth is what the hold of that sum in a sandbox is worth. -/
noncomputable def Try.pinned : Pinned := { name := "yteaadpgammbdgaa", sum := "00489cbe620b504561571181a90fcdb8136b75fbb551f19f4cc0f3e5fcfabdc8", checked := Try.checked }
namespace Rows
def none {H : Type} : Left H := { results := [], args := [] }

/-- 'hornbooklaw16.TrieEnds': WHATEVER THE INPUT: true; the input reads as it did. -/
def trieEndsSpec : ChangeSpec := { name := "trieEnds", fn := fun _ => fun
  | [d1, d2] => { results := [.lit (.bool true)], args := [d1, d2] }
  | _ => none }
def trieEndsRow : OpenClaim := { program := "yteaadpgammbdgaa", sum := "00489cbe620b504561571181a90fcdb8136b75fbb551f19f4cc0f3e5fcfabdc8", func := "hornbook/hornbooklaw16.TrieEnds", spec := "trieEnds", unfollowed := true, recurses := true, apart := false }
def TrieEndsSaid : Prop := trieEndsRow.holds Try.pinned (OpenSpec.ofChange trieEndsSpec)

/-- ITS FALSE NEIGHBOUR: 'it returns false'. Refute it at one input. -/
def trieEndsWrong : ChangeSpec := { name := "trieEnds", fn := fun _ => fun
  | [d1, d2] => { results := [.lit (.bool false)], args := [d1, d2] }
  | _ => none }
def TrieEndsWrongFalsely : Prop := trieEndsRow.holds Try.pinned (OpenSpec.ofChange trieEndsWrong)

/-- 'hornbooklaw3.SetPoint': WHATEVER THE INPUT: true; the input reads as it did. -/
def setPointSpec : ChangeSpec := { name := "setPoint", fn := fun _ => fun
  | [d] => { results := [.lit (.bool true)], args := [d] }
  | _ => none }
def setPointRow : OpenClaim := { program := "yteaadpgammbdgaa", sum := "00489cbe620b504561571181a90fcdb8136b75fbb551f19f4cc0f3e5fcfabdc8", func := "hornbook/hornbooklaw3.SetPoint", spec := "setPoint", unfollowed := true, recurses := true, apart := false }
def SetPointSaid : Prop := setPointRow.holds Try.pinned (OpenSpec.ofChange setPointSpec)

/-- ITS FALSE NEIGHBOUR: 'it returns false'. Refute it at one input. -/
def setPointWrong : ChangeSpec := { name := "setPoint", fn := fun _ => fun
  | [d] => { results := [.lit (.bool false)], args := [d] }
  | _ => none }
def SetPointWrongFalsely : Prop := setPointRow.holds Try.pinned (OpenSpec.ofChange setPointWrong)

/-- 'hornbooklaw3.SetBounds': WHATEVER THE INPUT: true; the input reads as it did. -/
def setBoundsSpec : ChangeSpec := { name := "setBounds", fn := fun _ => fun
  | [d1, d2] => { results := [.lit (.bool true)], args := [d1, d2] }
  | _ => none }
def setBoundsRow : OpenClaim := { program := "yteaadpgammbdgaa", sum := "00489cbe620b504561571181a90fcdb8136b75fbb551f19f4cc0f3e5fcfabdc8", func := "hornbook/hornbooklaw3.SetBounds", spec := "setBounds", unfollowed := true, recurses := true, apart := false }
def SetBoundsSaid : Prop := setBoundsRow.holds Try.pinned (OpenSpec.ofChange setBoundsSpec)

/-- ITS FALSE NEIGHBOUR: 'it returns false'. Refute it at one input. -/
def setBoundsWrong : ChangeSpec := { name := "setBounds", fn := fun _ => fun
  | [d1, d2] => { results := [.lit (.bool false)], args := [d1, d2] }
  | _ => none }
def SetBoundsWrongFalsely : Prop := setBoundsRow.holds Try.pinned (OpenSpec.ofChange setBoundsWrong)

/-- 'hornbooklaw3.SetMany': WHATEVER THE INPUT: true; the input reads as it did. -/
def setManySpec : ChangeSpec := { name := "setMany", fn := fun _ => fun
  | [d] => { results := [.lit (.bool true)], args := [d] }
  | _ => none }
def setManyRow : OpenClaim := { program := "yteaadpgammbdgaa", sum := "00489cbe620b504561571181a90fcdb8136b75fbb551f19f4cc0f3e5fcfabdc8", func := "hornbook/hornbooklaw3.SetMany", spec := "setMany", unfollowed := true, recurses := true, apart := false }
def SetManySaid : Prop := setManyRow.holds Try.pinned (OpenSpec.ofChange setManySpec)

/-- ITS FALSE NEIGHBOUR: 'it returns false'. Refute it at one input. -/
def setManyWrong : ChangeSpec := { name := "setMany", fn := fun _ => fun
  | [d] => { results := [.lit (.bool false)], args := [d] }
  | _ => none }
def SetManyWrongFalsely : Prop := setManyRow.holds Try.pinned (OpenSpec.ofChange setManyWrong)

/-- 'hornbooklaw16.TrieOrder': WHATEVER THE INPUT: true; the input reads as it did. -/
def trieOrderSpec : ChangeSpec := { name := "trieOrder", fn := fun _ => fun
  | [d] => { results := [.lit (.bool true)], args := [d] }
  | _ => none }
def trieOrderRow : OpenClaim := { program := "yteaadpgammbdgaa", sum := "00489cbe620b504561571181a90fcdb8136b75fbb551f19f4cc0f3e5fcfabdc8", func := "hornbook/hornbooklaw16.TrieOrder", spec := "trieOrder", unfollowed := true, recurses := true, apart := false }
def TrieOrderSaid : Prop := trieOrderRow.holds Try.pinned (OpenSpec.ofChange trieOrderSpec)

/-- ITS FALSE NEIGHBOUR: 'it returns false'. Refute it at one input. -/
def trieOrderWrong : ChangeSpec := { name := "trieOrder", fn := fun _ => fun
  | [d] => { results := [.lit (.bool false)], args := [d] }
  | _ => none }
def TrieOrderWrongFalsely : Prop := trieOrderRow.holds Try.pinned (OpenSpec.ofChange trieOrderWrong)

/-- 'hornbooklaw3.SetPoints': WHATEVER THE INPUT: true; the input reads as it did. -/
def setPointsSpec : ChangeSpec := { name := "setPoints", fn := fun _ => fun
  | [d1, d2, d3] => { results := [.lit (.bool true)], args := [d1, d2, d3] }
  | _ => none }
def setPointsRow : OpenClaim := { program := "yteaadpgammbdgaa", sum := "00489cbe620b504561571181a90fcdb8136b75fbb551f19f4cc0f3e5fcfabdc8", func := "hornbook/hornbooklaw3.SetPoints", spec := "setPoints", unfollowed := true, recurses := true, apart := false }
def SetPointsSaid : Prop := setPointsRow.holds Try.pinned (OpenSpec.ofChange setPointsSpec)

/-- ITS FALSE NEIGHBOUR: 'it returns false'. Refute it at one input. -/
def setPointsWrong : ChangeSpec := { name := "setPoints", fn := fun _ => fun
  | [d1, d2, d3] => { results := [.lit (.bool false)], args := [d1, d2, d3] }
  | _ => none }
def SetPointsWrongFalsely : Prop := setPointsRow.holds Try.pinned (OpenSpec.ofChange setPointsWrong)

/-- 'hornbooklaw3.SetLeast': WHATEVER THE INPUT: true; the input reads as it did. -/
def setLeastSpec : ChangeSpec := { name := "setLeast", fn := fun _ => fun
  | [d] => { results := [.lit (.bool true)], args := [d] }
  | _ => none }
def setLeastRow : OpenClaim := { program := "yteaadpgammbdgaa", sum := "00489cbe620b504561571181a90fcdb8136b75fbb551f19f4cc0f3e5fcfabdc8", func := "hornbook/hornbooklaw3.SetLeast", spec := "setLeast", unfollowed := true, recurses := true, apart := false }
def SetLeastSaid : Prop := setLeastRow.holds Try.pinned (OpenSpec.ofChange setLeastSpec)

/-- ITS FALSE NEIGHBOUR: 'it returns false'. Refute it at one input. -/
def setLeastWrong : ChangeSpec := { name := "setLeast", fn := fun _ => fun
  | [d] => { results := [.lit (.bool false)], args := [d] }
  | _ => none }
def SetLeastWrongFalsely : Prop := setLeastRow.holds Try.pinned (OpenSpec.ofChange setLeastWrong)

/-- 'hornbooklaw16.TriePlays': WHATEVER THE INPUT: true; the input reads as it did. -/
def triePlaysSpec : ChangeSpec := { name := "triePlays", fn := fun _ => fun
  | [d1, d2, d3] => { results := [.lit (.bool true)], args := [d1, d2, d3] }
  | _ => none }
def triePlaysRow : OpenClaim := { program := "yteaadpgammbdgaa", sum := "00489cbe620b504561571181a90fcdb8136b75fbb551f19f4cc0f3e5fcfabdc8", func := "hornbook/hornbooklaw16.TriePlays", spec := "triePlays", unfollowed := true, recurses := true, apart := false }
def TriePlaysSaid : Prop := triePlaysRow.holds Try.pinned (OpenSpec.ofChange triePlaysSpec)

/-- ITS FALSE NEIGHBOUR: 'it returns false'. Refute it at one input. -/
def triePlaysWrong : ChangeSpec := { name := "triePlays", fn := fun _ => fun
  | [d1, d2, d3] => { results := [.lit (.bool false)], args := [d1, d2, d3] }
  | _ => none }
def TriePlaysWrongFalsely : Prop := triePlaysRow.holds Try.pinned (OpenSpec.ofChange triePlaysWrong)

/-- 'hornbooklaw16.TrieGoes': WHATEVER THE INPUT: true; the input reads as it did. -/
def trieGoesSpec : ChangeSpec := { name := "trieGoes", fn := fun _ => fun
  | [d1, d2, d3] => { results := [.lit (.bool true)], args := [d1, d2, d3] }
  | _ => none }
def trieGoesRow : OpenClaim := { program := "yteaadpgammbdgaa", sum := "00489cbe620b504561571181a90fcdb8136b75fbb551f19f4cc0f3e5fcfabdc8", func := "hornbook/hornbooklaw16.TrieGoes", spec := "trieGoes", unfollowed := true, recurses := true, apart := false }
def TrieGoesSaid : Prop := trieGoesRow.holds Try.pinned (OpenSpec.ofChange trieGoesSpec)

/-- ITS FALSE NEIGHBOUR: 'it returns false'. Refute it at one input. -/
def trieGoesWrong : ChangeSpec := { name := "trieGoes", fn := fun _ => fun
  | [d1, d2, d3] => { results := [.lit (.bool false)], args := [d1, d2, d3] }
  | _ => none }
def TrieGoesWrongFalsely : Prop := trieGoesRow.holds Try.pinned (OpenSpec.ofChange trieGoesWrong)

/-- 'hornbooklaw3.SetLaws': WHATEVER THE INPUT: true; the input reads as it did. -/
def setLawsSpec : ChangeSpec := { name := "setLaws", fn := fun _ => fun
  | [d1, d2, d3] => { results := [.lit (.bool true)], args := [d1, d2, d3] }
  | _ => none }
def setLawsRow : OpenClaim := { program := "yteaadpgammbdgaa", sum := "00489cbe620b504561571181a90fcdb8136b75fbb551f19f4cc0f3e5fcfabdc8", func := "hornbook/hornbooklaw3.SetLaws", spec := "setLaws", unfollowed := true, recurses := true, apart := false }
def SetLawsSaid : Prop := setLawsRow.holds Try.pinned (OpenSpec.ofChange setLawsSpec)

/-- ITS FALSE NEIGHBOUR: 'it returns false'. Refute it at one input. -/
def setLawsWrong : ChangeSpec := { name := "setLaws", fn := fun _ => fun
  | [d1, d2, d3] => { results := [.lit (.bool false)], args := [d1, d2, d3] }
  | _ => none }
def SetLawsWrongFalsely : Prop := setLawsRow.holds Try.pinned (OpenSpec.ofChange setLawsWrong)

/-- 'hornbooklaw3.SetTells': WHATEVER THE INPUT: true; the input reads as it did. -/
def setTellsSpec : ChangeSpec := { name := "setTells", fn := fun _ => fun
  | [d1, d2, d3] => { results := [.lit (.bool true)], args := [d1, d2, d3] }
  | _ => none }
def setTellsRow : OpenClaim := { program := "yteaadpgammbdgaa", sum := "00489cbe620b504561571181a90fcdb8136b75fbb551f19f4cc0f3e5fcfabdc8", func := "hornbook/hornbooklaw3.SetTells", spec := "setTells", unfollowed := true, recurses := true, apart := false }
def SetTellsSaid : Prop := setTellsRow.holds Try.pinned (OpenSpec.ofChange setTellsSpec)

/-- ITS FALSE NEIGHBOUR: 'it returns false'. Refute it at one input. -/
def setTellsWrong : ChangeSpec := { name := "setTells", fn := fun _ => fun
  | [d1, d2, d3] => { results := [.lit (.bool false)], args := [d1, d2, d3] }
  | _ => none }
def SetTellsWrongFalsely : Prop := setTellsRow.holds Try.pinned (OpenSpec.ofChange setTellsWrong)

/- THE SECOND FORM. 'bulk': how many values and letters a reading holds, each counted each time it is reached (what is shared counts as often as it is met; a slice's spare places count too). A statement '..UptoSaid' is the law's where the arguments, and the package variables that the reading takes, are together of bulk at most 1048576: NARROWER than '..Said'. Prove '..Said' where nothing that the law and all that it calls make is longer than what came in: it says more and counts as full. Else prove '..UptoSaid'. A law counts once. -/
mutual
def uptoBulk {H : Type} : DataW H → Nat
  | .lit (.string bytes) => bytes.length + 1
  | .lit _ => 1
  | .nil => 1
  | .ptr d => uptoBulk d + 1
  | .slice elems spare => uptoBulkAll elems + uptoBulkAll spare + 1
  | .agg parts => uptoBulkAll parts + 1
  | .iface _ d => uptoBulk d + 1
  | .map entries => uptoBulkEntries entries + 1
  | .held _ => 1
def uptoBulkAll {H : Type} : List (DataW H) → Nat
  | [] => 0
  | d :: r => uptoBulk d + uptoBulkAll r
def uptoBulkEntries {H : Type} : List (Lit × DataW H) → Nat
  | [] => 0
  | x :: r => uptoBulkEntry x + uptoBulkEntries r
def uptoBulkEntry {H : Type} : Lit × DataW H → Nat
  | (.string bytes, d) => bytes.length + uptoBulk d + 1
  | (_, d) => uptoBulk d + 1
 end
def uptoSmall : (H : Type) → List (DataW H) → Bool := fun _ ds => decide (uptoBulkAll ds ≤ 1048576)
def OpenSpec.upto (s : _root_.Go.ChangeSpec) : _root_.Go.OpenSpec := { _root_.Go.OpenSpec.ofChange s with cond := some uptoSmall }

/-- 'hornbooklaw16.TrieEnds', WHERE WHAT IT READS IS OF BULK AT MOST 1048576: true; the input reads as it did. -/
def trieEndsUptoRow : OpenClaim := { program := "yteaadpgammbdgaa", sum := "00489cbe620b504561571181a90fcdb8136b75fbb551f19f4cc0f3e5fcfabdc8", func := "hornbook/hornbooklaw16.TrieEnds", spec := "trieEnds", unfollowed := true, recurses := true, apart := false, narrowed := true }
def TrieEndsUptoSaid : Prop := trieEndsUptoRow.holds Try.pinned (OpenSpec.upto trieEndsSpec)

/-- 'hornbooklaw3.SetPoint', WHERE WHAT IT READS IS OF BULK AT MOST 1048576: true; the input reads as it did. -/
def setPointUptoRow : OpenClaim := { program := "yteaadpgammbdgaa", sum := "00489cbe620b504561571181a90fcdb8136b75fbb551f19f4cc0f3e5fcfabdc8", func := "hornbook/hornbooklaw3.SetPoint", spec := "setPoint", unfollowed := true, recurses := true, apart := false, narrowed := true }
def SetPointUptoSaid : Prop := setPointUptoRow.holds Try.pinned (OpenSpec.upto setPointSpec)

/-- 'hornbooklaw3.SetBounds', WHERE WHAT IT READS IS OF BULK AT MOST 1048576: true; the input reads as it did. -/
def setBoundsUptoRow : OpenClaim := { program := "yteaadpgammbdgaa", sum := "00489cbe620b504561571181a90fcdb8136b75fbb551f19f4cc0f3e5fcfabdc8", func := "hornbook/hornbooklaw3.SetBounds", spec := "setBounds", unfollowed := true, recurses := true, apart := false, narrowed := true }
def SetBoundsUptoSaid : Prop := setBoundsUptoRow.holds Try.pinned (OpenSpec.upto setBoundsSpec)

/-- 'hornbooklaw3.SetMany', WHERE WHAT IT READS IS OF BULK AT MOST 1048576: true; the input reads as it did. -/
def setManyUptoRow : OpenClaim := { program := "yteaadpgammbdgaa", sum := "00489cbe620b504561571181a90fcdb8136b75fbb551f19f4cc0f3e5fcfabdc8", func := "hornbook/hornbooklaw3.SetMany", spec := "setMany", unfollowed := true, recurses := true, apart := false, narrowed := true }
def SetManyUptoSaid : Prop := setManyUptoRow.holds Try.pinned (OpenSpec.upto setManySpec)

/-- 'hornbooklaw16.TrieOrder', WHERE WHAT IT READS IS OF BULK AT MOST 1048576: true; the input reads as it did. -/
def trieOrderUptoRow : OpenClaim := { program := "yteaadpgammbdgaa", sum := "00489cbe620b504561571181a90fcdb8136b75fbb551f19f4cc0f3e5fcfabdc8", func := "hornbook/hornbooklaw16.TrieOrder", spec := "trieOrder", unfollowed := true, recurses := true, apart := false, narrowed := true }
def TrieOrderUptoSaid : Prop := trieOrderUptoRow.holds Try.pinned (OpenSpec.upto trieOrderSpec)

/-- 'hornbooklaw3.SetPoints', WHERE WHAT IT READS IS OF BULK AT MOST 1048576: true; the input reads as it did. -/
def setPointsUptoRow : OpenClaim := { program := "yteaadpgammbdgaa", sum := "00489cbe620b504561571181a90fcdb8136b75fbb551f19f4cc0f3e5fcfabdc8", func := "hornbook/hornbooklaw3.SetPoints", spec := "setPoints", unfollowed := true, recurses := true, apart := false, narrowed := true }
def SetPointsUptoSaid : Prop := setPointsUptoRow.holds Try.pinned (OpenSpec.upto setPointsSpec)

/-- 'hornbooklaw3.SetLeast', WHERE WHAT IT READS IS OF BULK AT MOST 1048576: true; the input reads as it did. -/
def setLeastUptoRow : OpenClaim := { program := "yteaadpgammbdgaa", sum := "00489cbe620b504561571181a90fcdb8136b75fbb551f19f4cc0f3e5fcfabdc8", func := "hornbook/hornbooklaw3.SetLeast", spec := "setLeast", unfollowed := true, recurses := true, apart := false, narrowed := true }
def SetLeastUptoSaid : Prop := setLeastUptoRow.holds Try.pinned (OpenSpec.upto setLeastSpec)

/-- 'hornbooklaw16.TriePlays', WHERE WHAT IT READS IS OF BULK AT MOST 1048576: true; the input reads as it did. -/
def triePlaysUptoRow : OpenClaim := { program := "yteaadpgammbdgaa", sum := "00489cbe620b504561571181a90fcdb8136b75fbb551f19f4cc0f3e5fcfabdc8", func := "hornbook/hornbooklaw16.TriePlays", spec := "triePlays", unfollowed := true, recurses := true, apart := false, narrowed := true }
def TriePlaysUptoSaid : Prop := triePlaysUptoRow.holds Try.pinned (OpenSpec.upto triePlaysSpec)

/-- 'hornbooklaw16.TrieGoes', WHERE WHAT IT READS IS OF BULK AT MOST 1048576: true; the input reads as it did. -/
def trieGoesUptoRow : OpenClaim := { program := "yteaadpgammbdgaa", sum := "00489cbe620b504561571181a90fcdb8136b75fbb551f19f4cc0f3e5fcfabdc8", func := "hornbook/hornbooklaw16.TrieGoes", spec := "trieGoes", unfollowed := true, recurses := true, apart := false, narrowed := true }
def TrieGoesUptoSaid : Prop := trieGoesUptoRow.holds Try.pinned (OpenSpec.upto trieGoesSpec)

/-- 'hornbooklaw3.SetLaws', WHERE WHAT IT READS IS OF BULK AT MOST 1048576: true; the input reads as it did. -/
def setLawsUptoRow : OpenClaim := { program := "yteaadpgammbdgaa", sum := "00489cbe620b504561571181a90fcdb8136b75fbb551f19f4cc0f3e5fcfabdc8", func := "hornbook/hornbooklaw3.SetLaws", spec := "setLaws", unfollowed := true, recurses := true, apart := false, narrowed := true }
def SetLawsUptoSaid : Prop := setLawsUptoRow.holds Try.pinned (OpenSpec.upto setLawsSpec)

/-- 'hornbooklaw3.SetTells', WHERE WHAT IT READS IS OF BULK AT MOST 1048576: true; the input reads as it did. -/
def setTellsUptoRow : OpenClaim := { program := "yteaadpgammbdgaa", sum := "00489cbe620b504561571181a90fcdb8136b75fbb551f19f4cc0f3e5fcfabdc8", func := "hornbook/hornbooklaw3.SetTells", spec := "setTells", unfollowed := true, recurses := true, apart := false, narrowed := true }
def SetTellsUptoSaid : Prop := setTellsUptoRow.holds Try.pinned (OpenSpec.upto setTellsSpec)

end Rows
end Go.Proofs.Yteaadpgammbdgaa
