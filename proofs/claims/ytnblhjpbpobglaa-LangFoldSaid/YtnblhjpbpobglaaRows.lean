/-
  No cell of these rows narrows 'for every input' (looked for: loops, veiled, ifaces, maps, wideKeys, modest, calm, conditions, laid).
  DERIVED. THE GIVEN ROWS OF THIS SEAT. 7 by the template 'for every input the law returns true; each argument reads behind the call as it read before'; 0 by the template 'total and deterministic' (their statements: YtnblhjpbpobglaaTotals.lean).
  GIVEN WITH THE SEED: the statements are not yours to turn. If you find one false, say at which input.
  Laid BY PROGRAM, IN A SANDBOX (cutbox-rows.mjs): the forced cells as the released guide's own fill.sh prints them over the translation eadea891f3cf2dcc… (all of the seat's roots in one cut). By AI agents, Wed Nov 11 2026. No macro, syntax, notation, axiom, sorry.
-/
import Derived.Test.YtnblhjpbpobglaaChecked
import GoSem.Claim
import GoSem.ClaimJoined
import GoSem.ClaimMapViews
import Derived.JoinedTies
import Derived.KernelRfl
namespace Go.Proofs.Ytnblhjpbpobglaa
/- THE CELL 'sum', in the pinned program and in every row, IS THE sha256 OF THE DUMP (.gsa) THAT YtnblhjpbpobglaaProg.lean LOADS. Nothing in Lean hashes anything: it is a label: what it is worth is what the hold of that sum in a sandbox is worth. -/
noncomputable def Try.pinned : Pinned := { name := "ytnblhjpbpobglaa", sum := "eadea891f3cf2dccbebe54d577bb0b7cf0699eb790c54fa0957e0246d14f8313", checked := Try.checked }
namespace Rows
def none {H : Type} : Left H := { results := [], args := [] }

/-- 'raddlelaw07.LangRows': WHATEVER THE INPUT: true; the input reads as it did. -/
def langRowsSpec : ChangeSpec := { name := "langRows", fn := fun _ => fun
  | [d1, d2, d3, d4] => { results := [.lit (.bool true)], args := [d1, d2, d3, d4] }
  | _ => none }
def langRowsRow : OpenClaim := { program := "ytnblhjpbpobglaa", sum := "eadea891f3cf2dccbebe54d577bb0b7cf0699eb790c54fa0957e0246d14f8313", func := "raddle/raddlelaw07.LangRows", spec := "langRows", recurses := true, apart := false }
def LangRowsSaid : Prop := langRowsRow.holds Try.pinned (OpenSpec.ofChange langRowsSpec)

/-- ITS FALSE NEIGHBOUR: 'it returns false'. Refute it at one input. -/
def langRowsWrong : ChangeSpec := { name := "langRows", fn := fun _ => fun
  | [d1, d2, d3, d4] => { results := [.lit (.bool false)], args := [d1, d2, d3, d4] }
  | _ => none }
def LangRowsWrongFalsely : Prop := langRowsRow.holds Try.pinned (OpenSpec.ofChange langRowsWrong)

/-- 'raddlelaw07.LangTimes': WHATEVER THE INPUT: true; the input reads as it did. -/
def langTimesSpec : ChangeSpec := { name := "langTimes", fn := fun _ => fun
  | [d1, d2, d3, d4, d5] => { results := [.lit (.bool true)], args := [d1, d2, d3, d4, d5] }
  | _ => none }
def langTimesRow : OpenClaim := { program := "ytnblhjpbpobglaa", sum := "eadea891f3cf2dccbebe54d577bb0b7cf0699eb790c54fa0957e0246d14f8313", func := "raddle/raddlelaw07.LangTimes", spec := "langTimes", recurses := true, apart := false }
def LangTimesSaid : Prop := langTimesRow.holds Try.pinned (OpenSpec.ofChange langTimesSpec)

/-- ITS FALSE NEIGHBOUR: 'it returns false'. Refute it at one input. -/
def langTimesWrong : ChangeSpec := { name := "langTimes", fn := fun _ => fun
  | [d1, d2, d3, d4, d5] => { results := [.lit (.bool false)], args := [d1, d2, d3, d4, d5] }
  | _ => none }
def LangTimesWrongFalsely : Prop := langTimesRow.holds Try.pinned (OpenSpec.ofChange langTimesWrong)

/-- 'raddlelaw07.LangTells': WHATEVER THE INPUT: true; the input reads as it did. -/
def langTellsSpec : ChangeSpec := { name := "langTells", fn := fun _ => fun
  | [d1, d2, d3] => { results := [.lit (.bool true)], args := [d1, d2, d3] }
  | _ => none }
def langTellsRow : OpenClaim := { program := "ytnblhjpbpobglaa", sum := "eadea891f3cf2dccbebe54d577bb0b7cf0699eb790c54fa0957e0246d14f8313", func := "raddle/raddlelaw07.LangTells", spec := "langTells", recurses := true, apart := false }
def LangTellsSaid : Prop := langTellsRow.holds Try.pinned (OpenSpec.ofChange langTellsSpec)

/-- ITS FALSE NEIGHBOUR: 'it returns false'. Refute it at one input. -/
def langTellsWrong : ChangeSpec := { name := "langTells", fn := fun _ => fun
  | [d1, d2, d3] => { results := [.lit (.bool false)], args := [d1, d2, d3] }
  | _ => none }
def LangTellsWrongFalsely : Prop := langTellsRow.holds Try.pinned (OpenSpec.ofChange langTellsWrong)

/-- 'raddlelaw07.LangEmpty': WHATEVER THE INPUT: true; the input reads as it did. -/
def langEmptySpec : ChangeSpec := { name := "langEmpty", fn := fun _ => fun
  | [d1, d2, d3] => { results := [.lit (.bool true)], args := [d1, d2, d3] }
  | _ => none }
def langEmptyRow : OpenClaim := { program := "ytnblhjpbpobglaa", sum := "eadea891f3cf2dccbebe54d577bb0b7cf0699eb790c54fa0957e0246d14f8313", func := "raddle/raddlelaw07.LangEmpty", spec := "langEmpty", recurses := true, apart := false }
def LangEmptySaid : Prop := langEmptyRow.holds Try.pinned (OpenSpec.ofChange langEmptySpec)

/-- ITS FALSE NEIGHBOUR: 'it returns false'. Refute it at one input. -/
def langEmptyWrong : ChangeSpec := { name := "langEmpty", fn := fun _ => fun
  | [d1, d2, d3] => { results := [.lit (.bool false)], args := [d1, d2, d3] }
  | _ => none }
def LangEmptyWrongFalsely : Prop := langEmptyRow.holds Try.pinned (OpenSpec.ofChange langEmptyWrong)

/-- 'raddlelaw07.LangWord': WHATEVER THE INPUT: true; the input reads as it did. -/
def langWordSpec : ChangeSpec := { name := "langWord", fn := fun _ => fun
  | [d1, d2, d3] => { results := [.lit (.bool true)], args := [d1, d2, d3] }
  | _ => none }
def langWordRow : OpenClaim := { program := "ytnblhjpbpobglaa", sum := "eadea891f3cf2dccbebe54d577bb0b7cf0699eb790c54fa0957e0246d14f8313", func := "raddle/raddlelaw07.LangWord", spec := "langWord", recurses := true, apart := false }
def LangWordSaid : Prop := langWordRow.holds Try.pinned (OpenSpec.ofChange langWordSpec)

/-- ITS FALSE NEIGHBOUR: 'it returns false'. Refute it at one input. -/
def langWordWrong : ChangeSpec := { name := "langWord", fn := fun _ => fun
  | [d1, d2, d3] => { results := [.lit (.bool false)], args := [d1, d2, d3] }
  | _ => none }
def LangWordWrongFalsely : Prop := langWordRow.holds Try.pinned (OpenSpec.ofChange langWordWrong)

/-- 'raddlelaw07.LangJoin': WHATEVER THE INPUT: true; the input reads as it did. -/
def langJoinSpec : ChangeSpec := { name := "langJoin", fn := fun _ => fun
  | [d1, d2, d3, d4] => { results := [.lit (.bool true)], args := [d1, d2, d3, d4] }
  | _ => none }
def langJoinRow : OpenClaim := { program := "ytnblhjpbpobglaa", sum := "eadea891f3cf2dccbebe54d577bb0b7cf0699eb790c54fa0957e0246d14f8313", func := "raddle/raddlelaw07.LangJoin", spec := "langJoin", recurses := true, apart := false }
def LangJoinSaid : Prop := langJoinRow.holds Try.pinned (OpenSpec.ofChange langJoinSpec)

/-- ITS FALSE NEIGHBOUR: 'it returns false'. Refute it at one input. -/
def langJoinWrong : ChangeSpec := { name := "langJoin", fn := fun _ => fun
  | [d1, d2, d3, d4] => { results := [.lit (.bool false)], args := [d1, d2, d3, d4] }
  | _ => none }
def LangJoinWrongFalsely : Prop := langJoinRow.holds Try.pinned (OpenSpec.ofChange langJoinWrong)

/-- 'raddlelaw07.LangFold': WHATEVER THE INPUT: true; the input reads as it did. -/
def langFoldSpec : ChangeSpec := { name := "langFold", fn := fun _ => fun
  | [d1, d2, d3] => { results := [.lit (.bool true)], args := [d1, d2, d3] }
  | _ => none }
def langFoldRow : OpenClaim := { program := "ytnblhjpbpobglaa", sum := "eadea891f3cf2dccbebe54d577bb0b7cf0699eb790c54fa0957e0246d14f8313", func := "raddle/raddlelaw07.LangFold", spec := "langFold", recurses := true, apart := false }
def LangFoldSaid : Prop := langFoldRow.holds Try.pinned (OpenSpec.ofChange langFoldSpec)

/-- ITS FALSE NEIGHBOUR: 'it returns false'. Refute it at one input. -/
def langFoldWrong : ChangeSpec := { name := "langFold", fn := fun _ => fun
  | [d1, d2, d3] => { results := [.lit (.bool false)], args := [d1, d2, d3] }
  | _ => none }
def LangFoldWrongFalsely : Prop := langFoldRow.holds Try.pinned (OpenSpec.ofChange langFoldWrong)

/- THE SECOND FORM. 'bulk': how many values and letters a reading holds, each counted each time it is reached (what is shared counts as often as it is met; a slice's spare places count too). A statement '..UptoSaid' is the law's where the arguments, and the package variables that the reading takes, are together of bulk at most 1048576: NARROWER than '..Said'. Prove '..Said' where nothing that the law and all that it calls make is longer than what came in: it says more and counts as full. Else prove '..UptoSaid'. A law counts once. -/
mutual
def uptoBulk {H : Type} : DataW H → Nat
  | .lit (.string bytes) => bytes.length + 1
  | .lit _ => 1
  | .nil => 1
  | .ptr d => uptoBulk d + 1
  | .slice elems spare => uptoBulkAll elems + uptoBulkAll spare + 1
  | .agg parts => uptoBulkAll parts + 1
  | .iface _ d => uptoBulk d + 1
  | .map entries => uptoBulkEntries entries + 1
  | .held _ => 1
def uptoBulkAll {H : Type} : List (DataW H) → Nat
  | [] => 0
  | d :: r => uptoBulk d + uptoBulkAll r
def uptoBulkEntries {H : Type} : List (Lit × DataW H) → Nat
  | [] => 0
  | x :: r => uptoBulkEntry x + uptoBulkEntries r
def uptoBulkEntry {H : Type} : Lit × DataW H → Nat
  | (.string bytes, d) => bytes.length + uptoBulk d + 1
  | (_, d) => uptoBulk d + 1
 end
def uptoSmall : (H : Type) → List (DataW H) → Bool := fun _ ds => decide (uptoBulkAll ds ≤ 1048576)
def OpenSpec.upto (s : _root_.Go.ChangeSpec) : _root_.Go.OpenSpec := { _root_.Go.OpenSpec.ofChange s with cond := some uptoSmall }

/-- 'raddlelaw07.LangRows', WHERE WHAT IT READS IS OF BULK AT MOST 1048576: true; the input reads as it did. -/
def langRowsUptoRow : OpenClaim := { program := "ytnblhjpbpobglaa", sum := "eadea891f3cf2dccbebe54d577bb0b7cf0699eb790c54fa0957e0246d14f8313", func := "raddle/raddlelaw07.LangRows", spec := "langRows", recurses := true, apart := false, narrowed := true }
def LangRowsUptoSaid : Prop := langRowsUptoRow.holds Try.pinned (OpenSpec.upto langRowsSpec)

/-- 'raddlelaw07.LangTimes', WHERE WHAT IT READS IS OF BULK AT MOST 1048576: true; the input reads as it did. -/
def langTimesUptoRow : OpenClaim := { program := "ytnblhjpbpobglaa", sum := "eadea891f3cf2dccbebe54d577bb0b7cf0699eb790c54fa0957e0246d14f8313", func := "raddle/raddlelaw07.LangTimes", spec := "langTimes", recurses := true, apart := false, narrowed := true }
def LangTimesUptoSaid : Prop := langTimesUptoRow.holds Try.pinned (OpenSpec.upto langTimesSpec)

/-- 'raddlelaw07.LangTells', WHERE WHAT IT READS IS OF BULK AT MOST 1048576: true; the input reads as it did. -/
def langTellsUptoRow : OpenClaim := { program := "ytnblhjpbpobglaa", sum := "eadea891f3cf2dccbebe54d577bb0b7cf0699eb790c54fa0957e0246d14f8313", func := "raddle/raddlelaw07.LangTells", spec := "langTells", recurses := true, apart := false, narrowed := true }
def LangTellsUptoSaid : Prop := langTellsUptoRow.holds Try.pinned (OpenSpec.upto langTellsSpec)

/-- 'raddlelaw07.LangEmpty', WHERE WHAT IT READS IS OF BULK AT MOST 1048576: true; the input reads as it did. -/
def langEmptyUptoRow : OpenClaim := { program := "ytnblhjpbpobglaa", sum := "eadea891f3cf2dccbebe54d577bb0b7cf0699eb790c54fa0957e0246d14f8313", func := "raddle/raddlelaw07.LangEmpty", spec := "langEmpty", recurses := true, apart := false, narrowed := true }
def LangEmptyUptoSaid : Prop := langEmptyUptoRow.holds Try.pinned (OpenSpec.upto langEmptySpec)

/-- 'raddlelaw07.LangWord', WHERE WHAT IT READS IS OF BULK AT MOST 1048576: true; the input reads as it did. -/
def langWordUptoRow : OpenClaim := { program := "ytnblhjpbpobglaa", sum := "eadea891f3cf2dccbebe54d577bb0b7cf0699eb790c54fa0957e0246d14f8313", func := "raddle/raddlelaw07.LangWord", spec := "langWord", recurses := true, apart := false, narrowed := true }
def LangWordUptoSaid : Prop := langWordUptoRow.holds Try.pinned (OpenSpec.upto langWordSpec)

/-- 'raddlelaw07.LangJoin', WHERE WHAT IT READS IS OF BULK AT MOST 1048576: true; the input reads as it did. -/
def langJoinUptoRow : OpenClaim := { program := "ytnblhjpbpobglaa", sum := "eadea891f3cf2dccbebe54d577bb0b7cf0699eb790c54fa0957e0246d14f8313", func := "raddle/raddlelaw07.LangJoin", spec := "langJoin", recurses := true, apart := false, narrowed := true }
def LangJoinUptoSaid : Prop := langJoinUptoRow.holds Try.pinned (OpenSpec.upto langJoinSpec)

/-- 'raddlelaw07.LangFold', WHERE WHAT IT READS IS OF BULK AT MOST 1048576: true; the input reads as it did. -/
def langFoldUptoRow : OpenClaim := { program := "ytnblhjpbpobglaa", sum := "eadea891f3cf2dccbebe54d577bb0b7cf0699eb790c54fa0957e0246d14f8313", func := "raddle/raddlelaw07.LangFold", spec := "langFold", recurses := true, apart := false, narrowed := true }
def LangFoldUptoSaid : Prop := langFoldUptoRow.holds Try.pinned (OpenSpec.upto langFoldSpec)

end Rows
end Go.Proofs.Ytnblhjpbpobglaa
