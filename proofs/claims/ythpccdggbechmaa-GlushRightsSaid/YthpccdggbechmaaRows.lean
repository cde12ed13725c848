/-
  No cell of these rows narrows 'for every input' (looked for: loops, veiled, ifaces, maps, wideKeys, modest, calm, conditions, laid).
  DERIVED. THE GIVEN ROWS OF THIS SEAT. 5 by the template 'for every input the law returns true; each argument reads behind the call as it read before'; 0 by the template 'total and deterministic' (their statements: YthpccdggbechmaaTotals.lean).
  GIVEN WITH THE SEED: the statements are not yours to turn. If you find one false, say at which input.
  Laid BY PROGRAM, IN A SANDBOX (cutbox-rows.mjs): the forced cells as the released guide's own fill.sh prints them over the translation 7aa87130b705e477… (all of the seat's roots in one cut). By AI agents, Wed Nov 11 2026. No macro, syntax, notation, axiom, sorry.
-/
import Derived.Test.YthpccdggbechmaaChecked
import GoSem.Claim
import GoSem.ClaimJoined
import GoSem.ClaimMapViews
import Derived.JoinedTies
import Derived.KernelRfl
namespace Go.Proofs.Ythpccdggbechmaa
/- THE CELL 'sum', in the pinned program and in every row, IS THE sha256 OF THE DUMP (.gsa) THAT YthpccdggbechmaaProg.lean LOADS. Nothing in Lean hashes anything: it is a label: what it is worth is what the hold of that sum in a sandbox is worth. -/
noncomputable def Try.pinned : Pinned := { name := "ythpccdggbechmaa", sum := "7aa87130b705e477691b206f64181640d173bb2cb9082a4fa6c6763c2578a99b", checked := Try.checked }
namespace Rows
def none {H : Type} : Left H := { results := [], args := [] }

/-- 'raddlelaw09.GlushApart': WHATEVER THE INPUT: true; the input reads as it did. -/
def glushApartSpec : ChangeSpec := { name := "glushApart", fn := fun _ => fun
  | [d] => { results := [.lit (.bool true)], args := [d] }
  | _ => none }
def glushApartRow : OpenClaim := { program := "ythpccdggbechmaa", sum := "7aa87130b705e477691b206f64181640d173bb2cb9082a4fa6c6763c2578a99b", func := "raddle/raddlelaw09.GlushApart", spec := "glushApart", unfollowed := true, recurses := true, apart := false }
def GlushApartSaid : Prop := glushApartRow.holds Try.pinned (OpenSpec.ofChange glushApartSpec)

/-- ITS FALSE NEIGHBOUR: 'it returns false'. Refute it at one input. -/
def glushApartWrong : ChangeSpec := { name := "glushApart", fn := fun _ => fun
  | [d] => { results := [.lit (.bool false)], args := [d] }
  | _ => none }
def GlushApartWrongFalsely : Prop := glushApartRow.holds Try.pinned (OpenSpec.ofChange glushApartWrong)

/-- 'raddlelaw09.GlushStar': WHATEVER THE INPUT: true; the input reads as it did. -/
def glushStarSpec : ChangeSpec := { name := "glushStar", fn := fun _ => fun
  | [d] => { results := [.lit (.bool true)], args := [d] }
  | _ => none }
def glushStarRow : OpenClaim := { program := "ythpccdggbechmaa", sum := "7aa87130b705e477691b206f64181640d173bb2cb9082a4fa6c6763c2578a99b", func := "raddle/raddlelaw09.GlushStar", spec := "glushStar", unfollowed := true, recurses := true, apart := false }
def GlushStarSaid : Prop := glushStarRow.holds Try.pinned (OpenSpec.ofChange glushStarSpec)

/-- ITS FALSE NEIGHBOUR: 'it returns false'. Refute it at one input. -/
def glushStarWrong : ChangeSpec := { name := "glushStar", fn := fun _ => fun
  | [d] => { results := [.lit (.bool false)], args := [d] }
  | _ => none }
def GlushStarWrongFalsely : Prop := glushStarRow.holds Try.pinned (OpenSpec.ofChange glushStarWrong)

/-- 'raddlelaw09.GlushWord': WHATEVER THE INPUT: true; the input reads as it did. -/
def glushWordSpec : ChangeSpec := { name := "glushWord", fn := fun _ => fun
  | [d] => { results := [.lit (.bool true)], args := [d] }
  | _ => none }
def glushWordRow : OpenClaim := { program := "ythpccdggbechmaa", sum := "7aa87130b705e477691b206f64181640d173bb2cb9082a4fa6c6763c2578a99b", func := "raddle/raddlelaw09.GlushWord", spec := "glushWord", unfollowed := true, recurses := true, apart := false }
def GlushWordSaid : Prop := glushWordRow.holds Try.pinned (OpenSpec.ofChange glushWordSpec)

/-- ITS FALSE NEIGHBOUR: 'it returns false'. Refute it at one input. -/
def glushWordWrong : ChangeSpec := { name := "glushWord", fn := fun _ => fun
  | [d] => { results := [.lit (.bool false)], args := [d] }
  | _ => none }
def GlushWordWrongFalsely : Prop := glushWordRow.holds Try.pinned (OpenSpec.ofChange glushWordWrong)

/-- 'raddlelaw09.GlushCounts': WHATEVER THE INPUT: true; the input reads as it did. -/
def glushCountsSpec : ChangeSpec := { name := "glushCounts", fn := fun _ => fun
  | [d1, d2, d3] => { results := [.lit (.bool true)], args := [d1, d2, d3] }
  | _ => none }
def glushCountsRow : OpenClaim := { program := "ythpccdggbechmaa", sum := "7aa87130b705e477691b206f64181640d173bb2cb9082a4fa6c6763c2578a99b", func := "raddle/raddlelaw09.GlushCounts", spec := "glushCounts", unfollowed := true, recurses := true, apart := false }
def GlushCountsSaid : Prop := glushCountsRow.holds Try.pinned (OpenSpec.ofChange glushCountsSpec)

/-- ITS FALSE NEIGHBOUR: 'it returns false'. Refute it at one input. -/
def glushCountsWrong : ChangeSpec := { name := "glushCounts", fn := fun _ => fun
  | [d1, d2, d3] => { results := [.lit (.bool false)], args := [d1, d2, d3] }
  | _ => none }
def GlushCountsWrongFalsely : Prop := glushCountsRow.holds Try.pinned (OpenSpec.ofChange glushCountsWrong)

/-- 'raddlelaw09.GlushRights': WHATEVER THE INPUT: true; the input reads as it did. -/
def glushRightsSpec : ChangeSpec := { name := "glushRights", fn := fun _ => fun
  | [d] => { results := [.lit (.bool true)], args := [d] }
  | _ => none }
def glushRightsRow : OpenClaim := { program := "ythpccdggbechmaa", sum := "7aa87130b705e477691b206f64181640d173bb2cb9082a4fa6c6763c2578a99b", func := "raddle/raddlelaw09.GlushRights", spec := "glushRights", unfollowed := true, recurses := true, apart := false }
def GlushRightsSaid : Prop := glushRightsRow.holds Try.pinned (OpenSpec.ofChange glushRightsSpec)

/-- ITS FALSE NEIGHBOUR: 'it returns false'. Refute it at one input. -/
def glushRightsWrong : ChangeSpec := { name := "glushRights", fn := fun _ => fun
  | [d] => { results := [.lit (.bool false)], args := [d] }
  | _ => none }
def GlushRightsWrongFalsely : Prop := glushRightsRow.holds Try.pinned (OpenSpec.ofChange glushRightsWrong)

/- THE SECOND FORM. 'bulk': how many values and letters a reading holds, each counted each time it is reached (what is shared counts as often as it is met; a slice's spare places count too). A statement '..UptoSaid' is the law's where the arguments, and the package variables that the reading takes, are together of bulk at most 1048576: NARROWER than '..Said'. Prove '..Said' where nothing that the law and all that it calls make is longer than what came in: it says more and counts as full. Else prove '..UptoSaid'. A law counts once. -/
mutual
def uptoBulk {H : Type} : DataW H → Nat
  | .lit (.string bytes) => bytes.length + 1
  | .lit _ => 1
  | .nil => 1
  | .ptr d => uptoBulk d + 1
  | .slice elems spare => uptoBulkAll elems + uptoBulkAll spare + 1
  | .agg parts => uptoBulkAll parts + 1
  | .iface _ d => uptoBulk d + 1
  | .map entries => uptoBulkEntries entries + 1
  | .held _ => 1
def uptoBulkAll {H : Type} : List (DataW H) → Nat
  | [] => 0
  | d :: r => uptoBulk d + uptoBulkAll r
def uptoBulkEntries {H : Type} : List (Lit × DataW H) → Nat
  | [] => 0
  | x :: r => uptoBulkEntry x + uptoBulkEntries r
def uptoBulkEntry {H : Type} : Lit × DataW H → Nat
  | (.string bytes, d) => bytes.length + uptoBulk d + 1
  | (_, d) => uptoBulk d + 1
 end
def uptoSmall : (H : Type) → List (DataW H) → Bool := fun _ ds => decide (uptoBulkAll ds ≤ 1048576)
def OpenSpec.upto (s : _root_.Go.ChangeSpec) : _root_.Go.OpenSpec := { _root_.Go.OpenSpec.ofChange s with cond := some uptoSmall }

/-- 'raddlelaw09.GlushApart', WHERE WHAT IT READS IS OF BULK AT MOST 1048576: true; the input reads as it did. -/
def glushApartUptoRow : OpenClaim := { program := "ythpccdggbechmaa", sum := "7aa87130b705e477691b206f64181640d173bb2cb9082a4fa6c6763c2578a99b", func := "raddle/raddlelaw09.GlushApart", spec := "glushApart", unfollowed := true, recurses := true, apart := false, narrowed := true }
def GlushApartUptoSaid : Prop := glushApartUptoRow.holds Try.pinned (OpenSpec.upto glushApartSpec)

/-- 'raddlelaw09.GlushStar', WHERE WHAT IT READS IS OF BULK AT MOST 1048576: true; the input reads as it did. -/
def glushStarUptoRow : OpenClaim := { program := "ythpccdggbechmaa", sum := "7aa87130b705e477691b206f64181640d173bb2cb9082a4fa6c6763c2578a99b", func := "raddle/raddlelaw09.GlushStar", spec := "glushStar", unfollowed := true, recurses := true, apart := false, narrowed := true }
def GlushStarUptoSaid : Prop := glushStarUptoRow.holds Try.pinned (OpenSpec.upto glushStarSpec)

/-- 'raddlelaw09.GlushWord', WHERE WHAT IT READS IS OF BULK AT MOST 1048576: true; the input reads as it did. -/
def glushWordUptoRow : OpenClaim := { program := "ythpccdggbechmaa", sum := "7aa87130b705e477691b206f64181640d173bb2cb9082a4fa6c6763c2578a99b", func := "raddle/raddlelaw09.GlushWord", spec := "glushWord", unfollowed := true, recurses := true, apart := false, narrowed := true }
def GlushWordUptoSaid : Prop := glushWordUptoRow.holds Try.pinned (OpenSpec.upto glushWordSpec)

/-- 'raddlelaw09.GlushCounts', WHERE WHAT IT READS IS OF BULK AT MOST 1048576: true; the input reads as it did. -/
def glushCountsUptoRow : OpenClaim := { program := "ythpccdggbechmaa", sum := "7aa87130b705e477691b206f64181640d173bb2cb9082a4fa6c6763c2578a99b", func := "raddle/raddlelaw09.GlushCounts", spec := "glushCounts", unfollowed := true, recurses := true, apart := false, narrowed := true }
def GlushCountsUptoSaid : Prop := glushCountsUptoRow.holds Try.pinned (OpenSpec.upto glushCountsSpec)

/-- 'raddlelaw09.GlushRights', WHERE WHAT IT READS IS OF BULK AT MOST 1048576: true; the input reads as it did. -/
def glushRightsUptoRow : OpenClaim := { program := "ythpccdggbechmaa", sum := "7aa87130b705e477691b206f64181640d173bb2cb9082a4fa6c6763c2578a99b", func := "raddle/raddlelaw09.GlushRights", spec := "glushRights", unfollowed := true, recurses := true, apart := false, narrowed := true }
def GlushRightsUptoSaid : Prop := glushRightsUptoRow.holds Try.pinned (OpenSpec.upto glushRightsSpec)

end Rows
end Go.Proofs.Ythpccdggbechmaa
