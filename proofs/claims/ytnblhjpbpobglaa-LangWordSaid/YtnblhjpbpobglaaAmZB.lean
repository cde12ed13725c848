/- Slices as lists of cells. -/
import Derived.Test.YtnblhjpbpobglaaAmZA
namespace Go.Am

/-- v is a slice of n elements of sz cells each; 'cells': all of them. -/
def RowAt (H : AHeap) (sz : Nat) (v : AV) (n : Nat) (cells : List AV) : Prop :=
  ((v = .nilsl ∨ v = .esl) ∧ n = 0 ∧ cells = []) ∨
  ∃ i o rw cs, v = .sl i o n ∧ getB H i = some (.cells sz rw cs) ∧ o + n * sz ≤ cs.length ∧ (cs.drop o).take (n * sz) = cells

theorem RowAt.len {H : AHeap} {sz n : Nat} {v : AV} {cells : List AV} (h : RowAt H sz v n cells) : cells.length = n * sz := by
  rcases h with ⟨_, rfl, rfl⟩ | ⟨i, o, rw, cs, _, _, h3, rfl⟩
  · simp
  · rw [List.length_take, List.length_drop]; omega

theorem RowAt.keep {H H' : AHeap} {sz n : Nat} {v : AV} {cells : List AV} (h : RowAt H sz v n cells) (hk : ∀ i b, avId v = some i → getB H i = some b → getB H' i = some b) : RowAt H' sz v n cells := by
  rcases h with h | ⟨i, o, rw, cs, rfl, h2, h3, h4⟩
  · exact .inl h
  · exact .inr ⟨i, o, rw, cs, rfl, hk i _ rfl h2, h3, h4⟩

theorem RowAt.keeps {H H' : AHeap} (hk : Keeps H H') {sz n : Nat} {v : AV} {cells : List AV} (h : RowAt H sz v n cells) : RowAt H' sz v n cells :=
  h.keep (fun i b _ hb => hk.2 i b hb)

theorem RowAt.src {H : AHeap} {sz n : Nat} {v : AV} {cells : List AV} (h : RowAt H sz v n cells) : cellsOfSrc H sz v = some (n, cells) := by
  rcases h with ⟨rfl | rfl, rfl, rfl⟩ | ⟨i, o, rw, cs, rfl, h2, h3, rfl⟩
  · rfl
  · rfl
  · simp [cellsOfSrc, h2, h3]

theorem Own.row {H : AHeap} {b sz : Nat} {v : AV} {cs : List AV} (h : Own H b sz v cs) : ∃ n, RowAt H sz v n cs := by
  rcases h with ⟨rfl, rfl⟩ | ⟨i, n, rfl, h2, h3, h4⟩
  · exact ⟨0, .inl ⟨.inl rfl, rfl, rfl⟩⟩
  · exact ⟨n, .inr ⟨i, 0, true, cs, rfl, h4, by omega, by rw [List.drop_zero, List.take_of_length_le (by omega)]⟩⟩

/-- The cells of element k. -/
theorem RowAt.elem {H : AHeap} {sz n : Nat} {v : AV} {cells : List AV} (h : RowAt H sz v n cells) {k : Nat} (hk : k < n) :
    ∃ i o, v = .sl i o n ∧ ∀ j m, j + m ≤ sz → loadA H i (o + k * sz + j) m = some ((cells.drop (k * sz + j)).take m) := by
  rcases h with ⟨_, rfl, _⟩ | ⟨i, o, rw, cs, rfl, h2, h3, rfl⟩
  · omega
  · refine ⟨i, o, rfl, fun j m hjm => ?_⟩
    have hle : (k + 1) * sz ≤ n * sz := Nat.mul_le_mul_right sz hk
    rw [Nat.add_mul, Nat.one_mul] at hle
    rw [load_at h2 (by omega)]
    congr 1
    rw [List.drop_take, List.take_take, List.drop_drop, Nat.min_eq_left (by omega)]
    congr 2
    omega

/-- The number of elements, as the machine asks it. -/
theorem RowAt.lenL {H : AHeap} {sz n : Nat} {v : AV} {cells : List AV} (h : RowAt H sz v n cells) : v = .nilsl ∧ n = 0 ∨ v = .esl ∧ n = 0 ∨ ∃ i o, v = .sl i o n := by
  rcases h with ⟨rfl | rfl, rfl, _⟩ | ⟨i, o, rw, cs, rfl, _⟩
  · exact .inl ⟨rfl, rfl⟩
  · exact .inr (.inl ⟨rfl, rfl⟩)
  · exact .inr (.inr ⟨i, o, rfl⟩)

/-- len(v), as compact code computes it. -/
def lenOf : AV → Option AV
  | .sl _ _ n => some (.int .i64 n)
  | .nilsl => some (.int .i64 0)
  | .esl => some (.int .i64 0)
  | _ => none
theorem lenL_eq (env vals : List AV) (x : Opd) : aPure env vals (.lenL x) = (aval env vals x).bind lenOf := by
  simp only [aPure]
  cases h : aval env vals x with
  | none => rfl
  | some v => cases v <;> rfl
theorem RowAt.lenOf {H : AHeap} {sz n : Nat} {v : AV} {cells : List AV} (h : RowAt H sz v n cells) : lenOf v = some (.int .i64 n) := by
  rcases h.lenL with ⟨rfl, rfl⟩ | ⟨rfl, rfl⟩ | ⟨i, o, rfl⟩ <;> rfl

end Go.Am
