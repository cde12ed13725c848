/- LangWord: the statement, from the law's run. -/
import Derived.Test.YtnblhjpbpobglaaSR
import Derived.Test.YtnblhjpbpobglaaRows
import Derived.Test.YtnblhjpbpobglaaAmX
set_option maxRecDepth 100000
namespace Go.Proofs.Ytnblhjpbpobglaa
open Go.Am Go.ChangeShapes Go.WideShapes Go.ChangeAt Go.RowKit

theorem Try.own : ownKnob Try.prog.godebug = none := by kernel_rfl
theorem Try.laidOut : laidOutB Try.prog = true := by kernel_rfl

theorem word_shapes : shapesArgs Try.prog 20 Try.f7.params.toList = some [.slice 1 (.int .u8), .str, .int .u8] := by kernel_rfl

theorem word_all (H : AHeap) (avs : List AV) (h : FitsArgs H [.slice 1 (.int .u8), .str, .int .u8] avs) : ∃ n H', aCall prog orc1 n 7 avs H = some (.bool true, H') := by
  simp only [FitsArgs] at h
  obtain ⟨a, _, rfl, h1, a2, _, rfl, h2, a3, _, rfl, h3, rfl⟩ := h
  obtain ⟨xs, hx, hxl⟩ := fits_bytes h1
  obtain ⟨s, e, hs⟩ := fits_str h2
  simp only [List.cons.injEq, and_true] at e
  subst e
  simp only [Fits] at h3
  obtain ⟨n, e, n1, n2⟩ := h3
  simp only [List.cons.injEq, and_true] at e
  subst e
  have n1 : (0 : Int) ≤ n := n1
  have n2 : n ≤ 255 := n2
  obtain ⟨m, r, HF, h, rfl⟩ := word_run H a xs s n hx hxl hs ⟨n1, n2⟩
  exact ⟨m, HF, h⟩

theorem word_lifted (os : Os) (started : os.Started) (H : Type) (enc : TypeId × Value → H) :
    ReturnsInHanded {} Try.checked os 7 .any (Rows.langWordSpec.pre6 enc Try.prog Try.f7 Rows.langWordRow.domain false) (Rows.langWordSpec.post enc Try.prog Try.f7 false Rows.langWordRow.fresh Rows.langWordRow.handsOn Rows.langWordRow.again) := by
  refine returnsInHanded_of_change (C := Try.checked) Try.own started (by kernel_rfl) Try.func7
    (ChangeSpec.witness6 (enc := enc) (C := Try.checked) false ⟨#[], #[.slice none 0 0, .string ⟨#[]⟩, .int .u8 0], []⟩ 8 (by kernel_rfl) (by kernel_rfl) (by kernel_rfl) (by kernel_rfl)) ?_
  intro W base args ds gs before hval hW _ _
  exact law_calls Try.laidOut sound word_shapes (by
      have : Try.f7.params.toList.all (fun t => Try.prog.readableRec t && decide (t < Try.prog.types.size)) = true := by kernel_rfl
      intro t ht
      have := List.all_eq_true.1 this t ht
      simpa using this) rfl (tb := 4) (by kernel_rfl) (by kernel_rfl) (fun ds hds => by
      match ds, hds with
      | [d1, d2, d3], _ => rfl) hval hW (fun H avs hF => word_all H avs hF)

theorem word_row : Rows.LangWordSaid :=
  OpenClaim.holds_of_wide 7 Try.f7 rfl rfl rfl rfl rfl rfl rfl ⟨rfl, rfl, rfl, rfl, rfl⟩ rfl rfl rfl rfl rfl (by kernel_rfl) Try.func7 (by kernel_rfl)
    (of_decide_eq_true (by kernel_rfl)) (by unfold Func.isWrapper; first | (rw [if_pos (by decide +kernel)]; kernel_rfl) | (rw [if_neg (by decide +kernel)]; exact ⟨rfl, rfl⟩))
    (fun os started H enc _ => word_lifted os started H enc)
#print axioms word_row
end Go.Proofs.Ytnblhjpbpobglaa
