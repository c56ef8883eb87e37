/-
  NARROWER THAN 'FOR EVERY INPUT', by the rows' own cells (each row's printed sentence says how): WireBack: laid · WireReads: laid · WireApart: laid · WirePieces: laid · WireAnswers: laid · WireReplies: laid.
  DERIVED. THE GIVEN ROWS OF THIS SEAT. 6 by the template 'for every input the law returns true; each argument reads behind the call as it read before'; 0 by the template 'total and deterministic' (their statements: YteapmebmgaggcaaDoorTotals.lean).
  GIVEN WITH THE SEED: the statements are not yours to turn. If you find one false, say at which input.
  Laid BY PROGRAM, IN A SANDBOX (cutbox-rows.mjs): the forced cells as the released guide's own fill.sh prints them over the translation 2f49b5c6e64b0562… (all of the seat's roots in one cut). By AI agents, Wed Nov 11 2026. No macro, syntax, notation, axiom, sorry.
-/
import Derived.Test.YteapmebmgaggcaaDoorChecked
import GoSem.Claim
import GoSem.ClaimJoined
import GoSem.ClaimMapViews
import Derived.JoinedTies
import Derived.KernelRfl
namespace Go.Proofs.YteapmebmgaggcaaDoor
/- THE CELL 'sum', in the pinned program and in every row, IS THE sha256 OF THE DUMP (.gsa) THAT YteapmebmgaggcaaDoorProg.lean LOADS. Nothing in Lean hashes anything: it is a label: what it is worth is what the hold of that sum in a sandbox is worth. -/
noncomputable def Tryd.pinned : Pinned := { name := "yteapmebmgaggcaadoor", sum := "2f49b5c6e64b0562fc688c99d1bd96e861f717e96db7320cd08608179f5cd2f0", checked := Tryd.checked }
namespace Rows
def none {H : Type} : Left H := { results := [], args := [] }

/- WHAT THE LISTED PACKAGE-LEVEL VARIABLES READ AS WHEN THE CALL BEGINS. Each datum BY PROGRAM (the guide's laid-datum.mjs) off the statement by which the dump's own 'gosem.cut.vars' lays the variable. In a bare row this is a premise. The card (YteapmebmgaggcaaDoorCards.lean) ties it to the program's text. -/
def laid_ringroad_wire_needs {H : Type} : DataW H := .agg [.lit (.int .i64 (-1)), .lit (.int .i64 15), .lit (.int .i64 1), .lit (.int .i64 1), .lit (.int .i64 1), .lit (.int .i64 9), .lit (.int .i64 0), .lit (.int .i64 1), .lit (.int .i64 9), .lit (.int .i64 1), .lit (.int .i64 3), .lit (.int .i64 3), .lit (.int .i64 9), .lit (.int .i64 8), .lit (.int .i64 0)]

/-- 'ringroadlaw26.WireBack': WHATEVER THE INPUT: true; the input reads as it did. -/
def wireBackSpec : ChangeSpec := { name := "wireBack", fn := fun _ => fun
  | [d1, d2] => { results := [.lit (.bool true)], args := [d1, d2] }
  | _ => none }
def wireBackRow : OpenClaim := { program := "yteapmebmgaggcaadoor", sum := "2f49b5c6e64b0562fc688c99d1bd96e861f717e96db7320cd08608179f5cd2f0", func := "ringroad/ringroadlaw26.WireBack", spec := "wireBack", unfollowed := true, recurses := true, named := ["ringroad/wire.needs"], apart := false, laid := [("ringroad/wire.needs", laid_ringroad_wire_needs)] }
def WireBackSaid : Prop := wireBackRow.holds Tryd.pinned (OpenSpec.ofChange wireBackSpec)

/-- ITS FALSE NEIGHBOUR: 'it returns false'. Refute it at one input. -/
def wireBackWrong : ChangeSpec := { name := "wireBack", fn := fun _ => fun
  | [d1, d2] => { results := [.lit (.bool false)], args := [d1, d2] }
  | _ => none }
def WireBackWrongFalsely : Prop := wireBackRow.holds Tryd.pinned (OpenSpec.ofChange wireBackWrong)

/-- 'ringroadlaw26.WireReads': WHATEVER THE INPUT: true; the input reads as it did. -/
def wireReadsSpec : ChangeSpec := { name := "wireReads", fn := fun _ => fun
  | [d] => { results := [.lit (.bool true)], args := [d] }
  | _ => none }
def wireReadsRow : OpenClaim := { program := "yteapmebmgaggcaadoor", sum := "2f49b5c6e64b0562fc688c99d1bd96e861f717e96db7320cd08608179f5cd2f0", func := "ringroad/ringroadlaw26.WireReads", spec := "wireReads", unfollowed := true, recurses := true, named := ["ringroad/wire.needs"], apart := false, laid := [("ringroad/wire.needs", laid_ringroad_wire_needs)] }
def WireReadsSaid : Prop := wireReadsRow.holds Tryd.pinned (OpenSpec.ofChange wireReadsSpec)

/-- ITS FALSE NEIGHBOUR: 'it returns false'. Refute it at one input. -/
def wireReadsWrong : ChangeSpec := { name := "wireReads", fn := fun _ => fun
  | [d] => { results := [.lit (.bool false)], args := [d] }
  | _ => none }
def WireReadsWrongFalsely : Prop := wireReadsRow.holds Tryd.pinned (OpenSpec.ofChange wireReadsWrong)

/-- 'ringroadlaw26.WireApart': WHATEVER THE INPUT: true; the input reads as it did. -/
def wireApartSpec : ChangeSpec := { name := "wireApart", fn := fun _ => fun
  | [d1, d2, d3] => { results := [.lit (.bool true)], args := [d1, d2, d3] }
  | _ => none }
def wireApartRow : OpenClaim := { program := "yteapmebmgaggcaadoor", sum := "2f49b5c6e64b0562fc688c99d1bd96e861f717e96db7320cd08608179f5cd2f0", func := "ringroad/ringroadlaw26.WireApart", spec := "wireApart", unfollowed := true, recurses := true, named := ["ringroad/wire.needs"], apart := false, laid := [("ringroad/wire.needs", laid_ringroad_wire_needs)] }
def WireApartSaid : Prop := wireApartRow.holds Tryd.pinned (OpenSpec.ofChange wireApartSpec)

/-- ITS FALSE NEIGHBOUR: 'it returns false'. Refute it at one input. -/
def wireApartWrong : ChangeSpec := { name := "wireApart", fn := fun _ => fun
  | [d1, d2, d3] => { results := [.lit (.bool false)], args := [d1, d2, d3] }
  | _ => none }
def WireApartWrongFalsely : Prop := wireApartRow.holds Tryd.pinned (OpenSpec.ofChange wireApartWrong)

/-- 'ringroadlaw26.WirePieces': WHATEVER THE INPUT: true; the input reads as it did. -/
def wirePiecesSpec : ChangeSpec := { name := "wirePieces", fn := fun _ => fun
  | [d1, d2] => { results := [.lit (.bool true)], args := [d1, d2] }
  | _ => none }
def wirePiecesRow : OpenClaim := { program := "yteapmebmgaggcaadoor", sum := "2f49b5c6e64b0562fc688c99d1bd96e861f717e96db7320cd08608179f5cd2f0", func := "ringroad/ringroadlaw26.WirePieces", spec := "wirePieces", unfollowed := true, recurses := true, named := ["ringroad/wire.needs"], apart := false, laid := [("ringroad/wire.needs", laid_ringroad_wire_needs)] }
def WirePiecesSaid : Prop := wirePiecesRow.holds Tryd.pinned (OpenSpec.ofChange wirePiecesSpec)

/-- ITS FALSE NEIGHBOUR: 'it returns false'. Refute it at one input. -/
def wirePiecesWrong : ChangeSpec := { name := "wirePieces", fn := fun _ => fun
  | [d1, d2] => { results := [.lit (.bool false)], args := [d1, d2] }
  | _ => none }
def WirePiecesWrongFalsely : Prop := wirePiecesRow.holds Tryd.pinned (OpenSpec.ofChange wirePiecesWrong)

/-- 'ringroadlaw26.WireAnswers': WHATEVER THE INPUT: true; the input reads as it did. -/
def wireAnswersSpec : ChangeSpec := { name := "wireAnswers", fn := fun _ => fun
  | [d] => { results := [.lit (.bool true)], args := [d] }
  | _ => none }
def wireAnswersRow : OpenClaim := { program := "yteapmebmgaggcaadoor", sum := "2f49b5c6e64b0562fc688c99d1bd96e861f717e96db7320cd08608179f5cd2f0", func := "ringroad/ringroadlaw26.WireAnswers", spec := "wireAnswers", unfollowed := true, recurses := true, named := ["ringroad/wire.needs"], apart := false, laid := [("ringroad/wire.needs", laid_ringroad_wire_needs)] }
def WireAnswersSaid : Prop := wireAnswersRow.holds Tryd.pinned (OpenSpec.ofChange wireAnswersSpec)

/-- ITS FALSE NEIGHBOUR: 'it returns false'. Refute it at one input. -/
def wireAnswersWrong : ChangeSpec := { name := "wireAnswers", fn := fun _ => fun
  | [d] => { results := [.lit (.bool false)], args := [d] }
  | _ => none }
def WireAnswersWrongFalsely : Prop := wireAnswersRow.holds Tryd.pinned (OpenSpec.ofChange wireAnswersWrong)

/-- 'ringroadlaw26.WireReplies': WHATEVER THE INPUT: true; the input reads as it did. -/
def wireRepliesSpec : ChangeSpec := { name := "wireReplies", fn := fun _ => fun
  | [d] => { results := [.lit (.bool true)], args := [d] }
  | _ => none }
def wireRepliesRow : OpenClaim := { program := "yteapmebmgaggcaadoor", sum := "2f49b5c6e64b0562fc688c99d1bd96e861f717e96db7320cd08608179f5cd2f0", func := "ringroad/ringroadlaw26.WireReplies", spec := "wireReplies", unfollowed := true, recurses := true, named := ["ringroad/wire.needs"], apart := false, laid := [("ringroad/wire.needs", laid_ringroad_wire_needs)] }
def WireRepliesSaid : Prop := wireRepliesRow.holds Tryd.pinned (OpenSpec.ofChange wireRepliesSpec)

/-- ITS FALSE NEIGHBOUR: 'it returns false'. Refute it at one input. -/
def wireRepliesWrong : ChangeSpec := { name := "wireReplies", fn := fun _ => fun
  | [d] => { results := [.lit (.bool false)], args := [d] }
  | _ => none }
def WireRepliesWrongFalsely : Prop := wireRepliesRow.holds Tryd.pinned (OpenSpec.ofChange wireRepliesWrong)

/- THE SECOND FORM. 'bulk': how many values and letters a reading holds, each counted each time it is reached (what is shared counts as often as it is met; a slice's spare places count too). A statement '..UptoSaid' is the law's where the arguments, and the package variables that the reading takes, are together of bulk at most 1048576: NARROWER than '..Said'. Prove '..Said' where nothing that the law and all that it calls make is longer than what came in: it says more and counts as full. Else prove '..UptoSaid'. A law counts once. -/
mutual
def uptoBulk {H : Type} : DataW H → Nat
  | .lit (.string bytes) => bytes.length + 1
  | .lit _ => 1
  | .nil => 1
  | .ptr d => uptoBulk d + 1
  | .slice elems spare => uptoBulkAll elems + uptoBulkAll spare + 1
  | .agg parts => uptoBulkAll parts + 1
  | .iface _ d => uptoBulk d + 1
  | .map entries => uptoBulkEntries entries + 1
  | .held _ => 1
def uptoBulkAll {H : Type} : List (DataW H) → Nat
  | [] => 0
  | d :: r => uptoBulk d + uptoBulkAll r
def uptoBulkEntries {H : Type} : List (Lit × DataW H) → Nat
  | [] => 0
  | x :: r => uptoBulkEntry x + uptoBulkEntries r
def uptoBulkEntry {H : Type} : Lit × DataW H → Nat
  | (.string bytes, d) => bytes.length + uptoBulk d + 1
  | (_, d) => uptoBulk d + 1
 end
def uptoSmall : (H : Type) → List (DataW H) → Bool := fun _ ds => decide (uptoBulkAll ds ≤ 1048576)
def OpenSpec.upto (s : _root_.Go.ChangeSpec) : _root_.Go.OpenSpec := { _root_.Go.OpenSpec.ofChange s with cond := some uptoSmall }

/-- 'ringroadlaw26.WireBack', WHERE WHAT IT READS IS OF BULK AT MOST 1048576: true; the input reads as it did. -/
def wireBackUptoRow : OpenClaim := { program := "yteapmebmgaggcaadoor", sum := "2f49b5c6e64b0562fc688c99d1bd96e861f717e96db7320cd08608179f5cd2f0", func := "ringroad/ringroadlaw26.WireBack", spec := "wireBack", unfollowed := true, recurses := true, named := ["ringroad/wire.needs"], apart := false, laid := [("ringroad/wire.needs", laid_ringroad_wire_needs)], narrowed := true }
def WireBackUptoSaid : Prop := wireBackUptoRow.holds Tryd.pinned (OpenSpec.upto wireBackSpec)

/-- 'ringroadlaw26.WireReads', WHERE WHAT IT READS IS OF BULK AT MOST 1048576: true; the input reads as it did. -/
def wireReadsUptoRow : OpenClaim := { program := "yteapmebmgaggcaadoor", sum := "2f49b5c6e64b0562fc688c99d1bd96e861f717e96db7320cd08608179f5cd2f0", func := "ringroad/ringroadlaw26.WireReads", spec := "wireReads", unfollowed := true, recurses := true, named := ["ringroad/wire.needs"], apart := false, laid := [("ringroad/wire.needs", laid_ringroad_wire_needs)], narrowed := true }
def WireReadsUptoSaid : Prop := wireReadsUptoRow.holds Tryd.pinned (OpenSpec.upto wireReadsSpec)

/-- 'ringroadlaw26.WireApart', WHERE WHAT IT READS IS OF BULK AT MOST 1048576: true; the input reads as it did. -/
def wireApartUptoRow : OpenClaim := { program := "yteapmebmgaggcaadoor", sum := "2f49b5c6e64b0562fc688c99d1bd96e861f717e96db7320cd08608179f5cd2f0", func := "ringroad/ringroadlaw26.WireApart", spec := "wireApart", unfollowed := true, recurses := true, named := ["ringroad/wire.needs"], apart := false, laid := [("ringroad/wire.needs", laid_ringroad_wire_needs)], narrowed := true }
def WireApartUptoSaid : Prop := wireApartUptoRow.holds Tryd.pinned (OpenSpec.upto wireApartSpec)

/-- 'ringroadlaw26.WirePieces', WHERE WHAT IT READS IS OF BULK AT MOST 1048576: true; the input reads as it did. -/
def wirePiecesUptoRow : OpenClaim := { program := "yteapmebmgaggcaadoor", sum := "2f49b5c6e64b0562fc688c99d1bd96e861f717e96db7320cd08608179f5cd2f0", func := "ringroad/ringroadlaw26.WirePieces", spec := "wirePieces", unfollowed := true, recurses := true, named := ["ringroad/wire.needs"], apart := false, laid := [("ringroad/wire.needs", laid_ringroad_wire_needs)], narrowed := true }
def WirePiecesUptoSaid : Prop := wirePiecesUptoRow.holds Tryd.pinned (OpenSpec.upto wirePiecesSpec)

/-- 'ringroadlaw26.WireAnswers', WHERE WHAT IT READS IS OF BULK AT MOST 1048576: true; the input reads as it did. -/
def wireAnswersUptoRow : OpenClaim := { program := "yteapmebmgaggcaadoor", sum := "2f49b5c6e64b0562fc688c99d1bd96e861f717e96db7320cd08608179f5cd2f0", func := "ringroad/ringroadlaw26.WireAnswers", spec := "wireAnswers", unfollowed := true, recurses := true, named := ["ringroad/wire.needs"], apart := false, laid := [("ringroad/wire.needs", laid_ringroad_wire_needs)], narrowed := true }
def WireAnswersUptoSaid : Prop := wireAnswersUptoRow.holds Tryd.pinned (OpenSpec.upto wireAnswersSpec)

/-- 'ringroadlaw26.WireReplies', WHERE WHAT IT READS IS OF BULK AT MOST 1048576: true; the input reads as it did. -/
def wireRepliesUptoRow : OpenClaim := { program := "yteapmebmgaggcaadoor", sum := "2f49b5c6e64b0562fc688c99d1bd96e861f717e96db7320cd08608179f5cd2f0", func := "ringroad/ringroadlaw26.WireReplies", spec := "wireReplies", unfollowed := true, recurses := true, named := ["ringroad/wire.needs"], apart := false, laid := [("ringroad/wire.needs", laid_ringroad_wire_needs)], narrowed := true }
def WireRepliesUptoSaid : Prop := wireRepliesUptoRow.holds Tryd.pinned (OpenSpec.upto wireRepliesSpec)

end Rows
end Go.Proofs.YteapmebmgaggcaaDoor
