/- Arguments, as lists. -/
import Derived.Test.YtnblhjpbpobglaaAmX
import Derived.Test.YtnblhjpbpobglaaAmZD
set_option maxRecDepth 100000
namespace Go.Am

theorem choose_list {α : Type} {n : Nat} {P : Nat → α → Prop} (h : ∀ j, j < n → ∃ x, P j x) : ∃ xs : List α, xs.length = n ∧ ∀ (j : Nat) (x : α), xs[j]? = some x → P j x := by
  induction n with
  | zero => exact ⟨[], rfl, fun j x hx => by simp at hx⟩
  | succ n ih =>
    obtain ⟨xs, h1, h2⟩ := ih (fun j hj => h j (by omega))
    obtain ⟨x, hx⟩ := h n (by omega)
    refine ⟨xs ++ [x], by simp [h1], fun j y hy => ?_⟩
    rcases Nat.lt_or_ge j n with hj | hj
    · rw [List.getElem?_append_left (by omega)] at hy; exact h2 j y hy
    · rw [List.getElem?_append_right (by omega), h1] at hy
      have : j - n = 0 := by
        rcases Nat.eq_zero_or_pos (j - n) with e | e
        · exact e
        · rw [List.getElem?_eq_none (by simp; omega)] at hy; simp at hy
      rw [this] at hy
      simp at hy; subst hy
      have : j = n := by omega
      rw [this]; exact hx

theorem chunks_flat (sz : Nat) : ∀ (n : Nat) (bs : List AV), bs.length = n * sz → ((List.range n).map fun j => (bs.drop (j * sz)).take sz).flatten = bs := by
  intro n
  induction n with
  | zero => intro bs h; simp at h; subst h; rfl
  | succ n ih =>
    intro bs h
    rw [Nat.add_mul, Nat.one_mul] at h
    rw [List.range_succ, List.map_append, List.flatten_append]
    have e : ((List.range n).map fun j => (bs.drop (j * sz)).take sz) = (List.range n).map fun j => ((bs.take (n * sz)).drop (j * sz)).take sz := by
      apply List.map_congr_left
      intro j hj
      have hj := List.mem_range.1 hj
      have : (j + 1) * sz ≤ n * sz := Nat.mul_le_mul_right sz hj
      rw [Nat.add_mul, Nat.one_mul] at this
      rw [List.drop_take, List.take_take, Nat.min_eq_left (by omega)]
    rw [e, ih _ (by rw [List.length_take]; omega)]
    simp only [List.map_cons, List.map_nil, List.flatten_cons, List.flatten_nil, List.append_nil]
    rw [List.take_of_length_le (l := bs.drop (n * sz)) (by rw [List.length_drop]; omega), List.take_append_drop]

theorem fits_rows {α : Type} {P : AHeap → α → List AV → Prop} {H : AHeap} {sz : Nat} {e : Shp} {a : AV} (h : Fits H (.slice sz e) [a]) (hP : ∀ cs, cs.length = sz → Fits H e cs → ∃ x, P H x cs) :
    ∃ xs, Rows sz P H a xs ∧ xs.length ≤ maxLen := by
  simp only [Fits, List.cons.injEq, and_true] at h
  rcases h with rfl | rfl | ⟨i, n, bs, rfl, h1, h2, h3, h4⟩
  · exact ⟨[], Rows.nil, Nat.zero_le _⟩
  · exact ⟨[], Rows.esl, Nat.zero_le _⟩
  · have hc : ∀ j, j < n → ((bs.drop (j * sz)).take sz).length = sz := fun j hj => by
      have : (j + 1) * sz ≤ n * sz := Nat.mul_le_mul_right sz hj
      rw [Nat.add_mul, Nat.one_mul] at this
      rw [List.length_take, List.length_drop]; omega
    obtain ⟨xs, h5, h6⟩ := choose_list (n := n) (P := fun j x => P H x ((bs.drop (j * sz)).take sz)) (fun j hj => hP _ (hc j hj) (h4 j hj))
    refine ⟨xs, ⟨(List.range n).map fun j => (bs.drop (j * sz)).take sz, ?_, by simp [h5], fun k x hx => ?_⟩, by omega⟩
    · rw [chunks_flat sz n bs h2, h5]
      exact .inr ⟨i, 0, false, bs, rfl, h1, by omega, by rw [List.drop_zero, List.take_of_length_le (by omega)]⟩
    · have hk : k < n := by
        rcases Nat.lt_or_ge k n with h | h
        · exact h
        · rw [List.getElem?_eq_none (by omega)] at hx; simp at hx
      exact ⟨_, by rw [List.getElem?_map, List.getElem?_range hk]; rfl, hc k hk, h6 k x hx⟩

def I64P (_ : AHeap) (x : Int) (r : List AV) : Prop := r = [.int .i64 x] ∧ i64In x
def ByteP (_ : AHeap) (x : UInt8) (r : List AV) : Prop := r = [.int .u8 x.toNat]
theorem ByteP.mono : Mono ByteP := fun _ _ _ _ _ h => h

theorem fits_i64 {H : AHeap} {cs : List AV} (h : Fits H (.int .i64) cs) : ∃ x, I64P H x cs := by
  simp only [Fits] at h
  obtain ⟨n, rfl, h1, h2⟩ := h
  exact ⟨n, rfl, h1, by
    have : n ≤ 9223372036854775807 := h2
    omega⟩
theorem fits_ints {H : AHeap} {a : AV} (h : Fits H (.slice 1 (.int .i64)) [a]) : ∃ xs, Ints H a xs ∧ (∀ x, x ∈ xs → i64In x) ∧ xs.length ≤ maxLen := by
  obtain ⟨xs, ⟨rs, h1, h2, h3⟩, h4⟩ := fits_rows (P := I64P) h (fun cs _ hf => fits_i64 hf)
  refine ⟨xs, ⟨rs, h1, h2, fun k x hx => by obtain ⟨r, a, b, c⟩ := h3 k x hx; exact ⟨r, a, b, c.1⟩⟩, fun x hx => ?_, h4⟩
  obtain ⟨k, hk⟩ := List.mem_iff_getElem?.1 hx
  obtain ⟨r, a, b, c⟩ := h3 k x hk
  exact c.2
theorem fits_u8 {H : AHeap} {cs : List AV} (h : Fits H (.int .u8) cs) : ∃ x, ByteP H x cs := by
  simp only [Fits] at h
  obtain ⟨n, rfl, h1, h2⟩ := h
  have h1 : (0 : Int) ≤ n := h1
  have h2 : n ≤ 255 := h2
  refine ⟨UInt8.ofNat n.toNat, ?_⟩
  simp only [ByteP, List.cons.injEq, AV.int.injEq, true_and, and_true]
  rw [UInt8.toNat_ofNat']
  omega
theorem fits_bytes {H : AHeap} {a : AV} (h : Fits H (.slice 1 (.int .u8)) [a]) : ∃ xs, Rows 1 ByteP H a xs ∧ xs.length ≤ maxLen := fits_rows h (fun _ _ hf => fits_u8 hf)
theorem fits_u64 {H : AHeap} {cs : List AV} (h : Fits H (.int .u64) cs) : ∃ x, cs = [.int .u64 x] ∧ u64In x := by
  simp only [Fits] at h
  obtain ⟨n, rfl, h1, h2⟩ := h
  have h1 : (0 : Int) ≤ n := h1
  have h2 : n ≤ 18446744073709551615 := h2
  exact ⟨n, rfl, h1, by omega⟩
theorem fits_str {H : AHeap} {cs : List AV} (h : Fits H .str cs) : ∃ s, cs = [.str s] ∧ s.length ≤ maxLen := by
  simp only [Fits] at h; exact h

abbrev setShp : Shp := .array 4 1 (.int .u64)
abbrev ndShp : Shp := .struct [(1, .int .u8), (4, setShp), (1, .slice 1 (.int .i64)), (1, .int .i64), (1, .int .i64), (1, .str)]
theorem fits_set {H : AHeap} {cs : List AV} (h : Fits H setShp cs) : ∃ s0 s1 s2 s3, cs = [.int .u64 s0, .int .u64 s1, .int .u64 s2, .int .u64 s3] ∧ u64In s0 ∧ u64In s1 ∧ u64In s2 ∧ u64In s3 := by
  simp only [Fits] at h
  obtain ⟨h1, h2⟩ := h
  match cs, h1 with
  | [a, b, c, d], _ =>
    obtain ⟨s0, e0, g0⟩ := fits_u64 (H := H) (by simpa only [Fits] using h2 0 (by omega))
    obtain ⟨s1, e1, g1⟩ := fits_u64 (H := H) (by simpa only [Fits] using h2 1 (by omega))
    obtain ⟨s2, e2, g2⟩ := fits_u64 (H := H) (by simpa only [Fits] using h2 2 (by omega))
    obtain ⟨s3, e3, g3⟩ := fits_u64 (H := H) (by simpa only [Fits] using h2 3 (by omega))
    simp at e0 e1 e2 e3
    subst e0 e1 e2 e3
    exact ⟨s0, s1, s2, s3, rfl, g0, g1, g2, g3⟩
theorem maxLen_lt : maxLen < 9223372036854775808 := by decide
theorem fits_nd {H : AHeap} {cs : List AV} (hl : cs.length = 9) (h : Fits H ndShp cs) : ∃ n, NdP H n cs := by
  match cs, hl with
  | [a0, a1, a2, a3, a4, a5, a6, a7, a8], _ =>
    simp only [Fits, FitsAll, List.drop_succ_cons, List.drop_zero, List.take_succ_cons, List.take_zero] at h
    obtain ⟨_, h1, _, h2, _, h3, _, h4, _, h5, _, h6, _⟩ := h
    obtain ⟨o, e1, o1, o2⟩ := h1
    obtain ⟨s0, s1, s2, s3, e2, g0, g1, g2, g3⟩ := fits_set (H := H) (by simpa only [setShp, Fits] using h2)
    obtain ⟨xs, i1, i2, i3⟩ := fits_ints (H := H) (a := a5) (by simpa only [Fits] using h3)
    obtain ⟨lo, e4, l1⟩ := fits_i64 (H := H) (by simpa only [Fits] using h4)
    obtain ⟨hi, e5, l2⟩ := fits_i64 (H := H) (by simpa only [Fits] using h5)
    obtain ⟨s, e6, l3⟩ := h6
    have ml := maxLen_lt
    have o1 : (0 : Int) ≤ o := o1
    have o2 : o ≤ 255 := o2
    simp at e1 e2 e4 e5 e6
    obtain ⟨rfl, rfl, rfl, rfl⟩ := e2
    subst e1 e4 e5 e6
    exact ⟨{ op := o, s0 := s0, s1 := s1, s2 := s2, s3 := s3, kids := xs, lo := lo, hi := hi, name := s }, ⟨⟨o1, by show o < 256; omega⟩, g0, g1, g2, g3, i2, l1, l2, by show xs.length < _; omega, by show s.length < _; omega⟩, a5, rfl, i1⟩
theorem fits_nds {H : AHeap} {a : AV} (h : Fits H (.slice 9 ndShp) [a]) : ∃ l, Nds H a l ∧ l.length ≤ maxLen := fits_rows h (fun _ hl hf => fits_nd hl hf)

end Go.Am
