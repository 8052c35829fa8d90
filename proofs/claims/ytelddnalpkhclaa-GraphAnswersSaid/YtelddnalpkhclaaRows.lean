/-
  No cell of these rows narrows 'for every input' (looked for: loops, veiled, ifaces, maps, wideKeys, modest, calm, conditions, laid).
  DERIVED. THE GIVEN ROWS OF THIS SEAT. 5 by the template 'for every input the law returns true; each argument reads behind the call as it read before'; 0 by the template 'total and deterministic' (their statements: YtelddnalpkhclaaTotals.lean).
  GIVEN WITH THE SEED: the statements are not yours to turn. If you find one false, say at which input.
  Laid BY PROGRAM, IN A SANDBOX (cutbox-rows.mjs): the forced cells as the released guide's own fill.sh prints them over the translation bcae6b8ac15246c0… (all of the seat's roots in one cut). By AI agents, Wed Nov 11 2026. No macro, syntax, notation, axiom, sorry.
-/
import Derived.Test.YtelddnalpkhclaaChecked
import GoSem.Claim
import GoSem.ClaimJoined
import GoSem.ClaimMapViews
import Derived.JoinedTies
import Derived.KernelRfl
namespace Go.Proofs.Ytelddnalpkhclaa
/- THE CELL 'sum', in the pinned program and in every row, IS THE sha256 OF THE DUMP (.gsa) THAT YtelddnalpkhclaaProg.lean LOADS. Nothing in Lean hashes anything: it is a label: what it is worth is what the hold of that sum in a sandbox is worth. -/
noncomputable def Try.pinned : Pinned := { name := "ytelddnalpkhclaa", sum := "bcae6b8ac15246c0c2265676a7b2c7584dd0cf1143f3f143e9ecece8e0e13af2", checked := Try.checked }
namespace Rows
def none {H : Type} : Left H := { results := [], args := [] }

/-- 'whetstonelaw18.GraphSpares': WHATEVER THE INPUT: true; the input reads as it did. -/
def graphSparesSpec : ChangeSpec := { name := "graphSpares", fn := fun _ => fun
  | [d1, d2] => { results := [.lit (.bool true)], args := [d1, d2] }
  | _ => none }
def graphSparesRow : OpenClaim := { program := "ytelddnalpkhclaa", sum := "bcae6b8ac15246c0c2265676a7b2c7584dd0cf1143f3f143e9ecece8e0e13af2", func := "whetstone/whetstonelaw18.GraphSpares", spec := "graphSpares", unfollowed := true, recurses := true, apart := false }
def GraphSparesSaid : Prop := graphSparesRow.holds Try.pinned (OpenSpec.ofChange graphSparesSpec)

/-- ITS FALSE NEIGHBOUR: 'it returns false'. Refute it at one input. -/
def graphSparesWrong : ChangeSpec := { name := "graphSpares", fn := fun _ => fun
  | [d1, d2] => { results := [.lit (.bool false)], args := [d1, d2] }
  | _ => none }
def GraphSparesWrongFalsely : Prop := graphSparesRow.holds Try.pinned (OpenSpec.ofChange graphSparesWrong)

/-- 'whetstonelaw18.GraphCuts': WHATEVER THE INPUT: true; the input reads as it did. -/
def graphCutsSpec : ChangeSpec := { name := "graphCuts", fn := fun _ => fun
  | [d1, d2, d3, d4] => { results := [.lit (.bool true)], args := [d1, d2, d3, d4] }
  | _ => none }
def graphCutsRow : OpenClaim := { program := "ytelddnalpkhclaa", sum := "bcae6b8ac15246c0c2265676a7b2c7584dd0cf1143f3f143e9ecece8e0e13af2", func := "whetstone/whetstonelaw18.GraphCuts", spec := "graphCuts", unfollowed := true, recurses := true, apart := false }
def GraphCutsSaid : Prop := graphCutsRow.holds Try.pinned (OpenSpec.ofChange graphCutsSpec)

/-- ITS FALSE NEIGHBOUR: 'it returns false'. Refute it at one input. -/
def graphCutsWrong : ChangeSpec := { name := "graphCuts", fn := fun _ => fun
  | [d1, d2, d3, d4] => { results := [.lit (.bool false)], args := [d1, d2, d3, d4] }
  | _ => none }
def GraphCutsWrongFalsely : Prop := graphCutsRow.holds Try.pinned (OpenSpec.ofChange graphCutsWrong)

/-- 'whetstonelaw18.GraphRooms': WHATEVER THE INPUT: true; the input reads as it did. -/
def graphRoomsSpec : ChangeSpec := { name := "graphRooms", fn := fun _ => fun
  | [d1, d2, d3] => { results := [.lit (.bool true)], args := [d1, d2, d3] }
  | _ => none }
def graphRoomsRow : OpenClaim := { program := "ytelddnalpkhclaa", sum := "bcae6b8ac15246c0c2265676a7b2c7584dd0cf1143f3f143e9ecece8e0e13af2", func := "whetstone/whetstonelaw18.GraphRooms", spec := "graphRooms", unfollowed := true, recurses := true, apart := false }
def GraphRoomsSaid : Prop := graphRoomsRow.holds Try.pinned (OpenSpec.ofChange graphRoomsSpec)

/-- ITS FALSE NEIGHBOUR: 'it returns false'. Refute it at one input. -/
def graphRoomsWrong : ChangeSpec := { name := "graphRooms", fn := fun _ => fun
  | [d1, d2, d3] => { results := [.lit (.bool false)], args := [d1, d2, d3] }
  | _ => none }
def GraphRoomsWrongFalsely : Prop := graphRoomsRow.holds Try.pinned (OpenSpec.ofChange graphRoomsWrong)

/-- 'whetstonelaw18.GraphAnswers': WHATEVER THE INPUT: true; the input reads as it did. -/
def graphAnswersSpec : ChangeSpec := { name := "graphAnswers", fn := fun _ => fun
  | [d1, d2] => { results := [.lit (.bool true)], args := [d1, d2] }
  | _ => none }
def graphAnswersRow : OpenClaim := { program := "ytelddnalpkhclaa", sum := "bcae6b8ac15246c0c2265676a7b2c7584dd0cf1143f3f143e9ecece8e0e13af2", func := "whetstone/whetstonelaw18.GraphAnswers", spec := "graphAnswers", unfollowed := true, recurses := true, apart := false }
def GraphAnswersSaid : Prop := graphAnswersRow.holds Try.pinned (OpenSpec.ofChange graphAnswersSpec)

/-- ITS FALSE NEIGHBOUR: 'it returns false'. Refute it at one input. -/
def graphAnswersWrong : ChangeSpec := { name := "graphAnswers", fn := fun _ => fun
  | [d1, d2] => { results := [.lit (.bool false)], args := [d1, d2] }
  | _ => none }
def GraphAnswersWrongFalsely : Prop := graphAnswersRow.holds Try.pinned (OpenSpec.ofChange graphAnswersWrong)

/-- 'whetstonelaw18.GraphNil': WHATEVER THE INPUT: true; the input reads as it did. -/
def graphNilSpec : ChangeSpec := { name := "graphNil", fn := fun _ => fun
  | [d] => { results := [.lit (.bool true)], args := [d] }
  | _ => none }
def graphNilRow : OpenClaim := { program := "ytelddnalpkhclaa", sum := "bcae6b8ac15246c0c2265676a7b2c7584dd0cf1143f3f143e9ecece8e0e13af2", func := "whetstone/whetstonelaw18.GraphNil", spec := "graphNil", unfollowed := true, recurses := true, apart := false }
def GraphNilSaid : Prop := graphNilRow.holds Try.pinned (OpenSpec.ofChange graphNilSpec)

/-- ITS FALSE NEIGHBOUR: 'it returns false'. Refute it at one input. -/
def graphNilWrong : ChangeSpec := { name := "graphNil", fn := fun _ => fun
  | [d] => { results := [.lit (.bool false)], args := [d] }
  | _ => none }
def GraphNilWrongFalsely : Prop := graphNilRow.holds Try.pinned (OpenSpec.ofChange graphNilWrong)

/- THE SECOND FORM. 'bulk': how many values and letters a reading holds, each counted each time it is reached (what is shared counts as often as it is met; a slice's spare places count too). A statement '..UptoSaid' is the law's where the arguments, and the package variables that the reading takes, are together of bulk at most 1048576: NARROWER than '..Said'. Prove '..Said' where nothing that the law and all that it calls make is longer than what came in: it says more and counts as full. Else prove '..UptoSaid'. A law counts once. -/
mutual
def uptoBulk {H : Type} : DataW H → Nat
  | .lit (.string bytes) => bytes.length + 1
  | .lit _ => 1
  | .nil => 1
  | .ptr d => uptoBulk d + 1
  | .slice elems spare => uptoBulkAll elems + uptoBulkAll spare + 1
  | .agg parts => uptoBulkAll parts + 1
  | .iface _ d => uptoBulk d + 1
  | .map entries => uptoBulkEntries entries + 1
  | .held _ => 1
def uptoBulkAll {H : Type} : List (DataW H) → Nat
  | [] => 0
  | d :: r => uptoBulk d + uptoBulkAll r
def uptoBulkEntries {H : Type} : List (Lit × DataW H) → Nat
  | [] => 0
  | x :: r => uptoBulkEntry x + uptoBulkEntries r
def uptoBulkEntry {H : Type} : Lit × DataW H → Nat
  | (.string bytes, d) => bytes.length + uptoBulk d + 1
  | (_, d) => uptoBulk d + 1
 end
def uptoSmall : (H : Type) → List (DataW H) → Bool := fun _ ds => decide (uptoBulkAll ds ≤ 1048576)
def OpenSpec.upto (s : _root_.Go.ChangeSpec) : _root_.Go.OpenSpec := { _root_.Go.OpenSpec.ofChange s with cond := some uptoSmall }

/-- 'whetstonelaw18.GraphSpares', WHERE WHAT IT READS IS OF BULK AT MOST 1048576: true; the input reads as it did. -/
def graphSparesUptoRow : OpenClaim := { program := "ytelddnalpkhclaa", sum := "bcae6b8ac15246c0c2265676a7b2c7584dd0cf1143f3f143e9ecece8e0e13af2", func := "whetstone/whetstonelaw18.GraphSpares", spec := "graphSpares", unfollowed := true, recurses := true, apart := false, narrowed := true }
def GraphSparesUptoSaid : Prop := graphSparesUptoRow.holds Try.pinned (OpenSpec.upto graphSparesSpec)

/-- 'whetstonelaw18.GraphCuts', WHERE WHAT IT READS IS OF BULK AT MOST 1048576: true; the input reads as it did. -/
def graphCutsUptoRow : OpenClaim := { program := "ytelddnalpkhclaa", sum := "bcae6b8ac15246c0c2265676a7b2c7584dd0cf1143f3f143e9ecece8e0e13af2", func := "whetstone/whetstonelaw18.GraphCuts", spec := "graphCuts", unfollowed := true, recurses := true, apart := false, narrowed := true }
def GraphCutsUptoSaid : Prop := graphCutsUptoRow.holds Try.pinned (OpenSpec.upto graphCutsSpec)

/-- 'whetstonelaw18.GraphRooms', WHERE WHAT IT READS IS OF BULK AT MOST 1048576: true; the input reads as it did. -/
def graphRoomsUptoRow : OpenClaim := { program := "ytelddnalpkhclaa", sum := "bcae6b8ac15246c0c2265676a7b2c7584dd0cf1143f3f143e9ecece8e0e13af2", func := "whetstone/whetstonelaw18.GraphRooms", spec := "graphRooms", unfollowed := true, recurses := true, apart := false, narrowed := true }
def GraphRoomsUptoSaid : Prop := graphRoomsUptoRow.holds Try.pinned (OpenSpec.upto graphRoomsSpec)

/-- 'whetstonelaw18.GraphAnswers', WHERE WHAT IT READS IS OF BULK AT MOST 1048576: true; the input reads as it did. -/
def graphAnswersUptoRow : OpenClaim := { program := "ytelddnalpkhclaa", sum := "bcae6b8ac15246c0c2265676a7b2c7584dd0cf1143f3f143e9ecece8e0e13af2", func := "whetstone/whetstonelaw18.GraphAnswers", spec := "graphAnswers", unfollowed := true, recurses := true, apart := false, narrowed := true }
def GraphAnswersUptoSaid : Prop := graphAnswersUptoRow.holds Try.pinned (OpenSpec.upto graphAnswersSpec)

/-- 'whetstonelaw18.GraphNil', WHERE WHAT IT READS IS OF BULK AT MOST 1048576: true; the input reads as it did. -/
def graphNilUptoRow : OpenClaim := { program := "ytelddnalpkhclaa", sum := "bcae6b8ac15246c0c2265676a7b2c7584dd0cf1143f3f143e9ecece8e0e13af2", func := "whetstone/whetstonelaw18.GraphNil", spec := "graphNil", unfollowed := true, recurses := true, apart := false, narrowed := true }
def GraphNilUptoSaid : Prop := graphNilUptoRow.holds Try.pinned (OpenSpec.upto graphNilSpec)

end Rows
end Go.Proofs.Ytelddnalpkhclaa
