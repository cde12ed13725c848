/- Texts put to one: SB SP GA GB. -/
import Derived.Test.YthpccdggbechmaaM3
import Derived.Test.YthpccdggbechmaaM2

/- Names. -/
set_option maxRecDepth 100000
set_option linter.unusedSimpArgs false
namespace Go.Proofs.Ythpccdggbechmaa
open Go.Am

def digitB (c : Int) : Bool := decide (48 ≤ c) && decide (c ≤ 57)
def letterB (c : Int) : Bool := (decide (97 ≤ c) && decide (c ≤ 122)) || (decide (65 ≤ c) && decide (c ≤ 90)) || decide (c = 95)

theorem digit_spec (H : AHeap) (c : Int) (K : AV → AHeap → Prop) (hK : K (.bool (digitB c)) H) : WF P0 96 [.int .u8 c] H K := by
  refine zWF rfl rfl rfl ?_
  simp only [a96, zz, env0, aPure, aRead, aNew, aEff, aval, avals, aparts, aopt, wantedA, binA, isShift, binI, fillA, single, aRes, splice, mkv, unA, binS, sameAt, reduceCtorEq, reduceIte, Int.reduceEq, Int.reduceLT, Int.reduceLE, Int.reduceNe, Nat.reduceEqDiff, Nat.reduceLT, Nat.reduceAdd, Nat.reduceMul, Nat.reduceSub, Nat.reduceLeDiff, Int.reduceBEq, Int.reduceBNe, Nat.reduceBEq, Nat.reduceBNe, Int.reduceToNat]
  refine onG_t (fun h => ?_) (fun h => ?_)
  · simp only [h, zz, env0, aPure, aRead, aNew, aEff, aval, avals, aparts, aopt, wantedA, binA, isShift, binI, fillA, single, aRes, splice, mkv, unA, binS, sameAt, reduceCtorEq, reduceIte, Int.reduceEq, Int.reduceLT, Int.reduceLE, Int.reduceNe, Nat.reduceEqDiff, Nat.reduceLT, Nat.reduceAdd, Nat.reduceMul, Nat.reduceSub, Nat.reduceLeDiff, Int.reduceBEq, Int.reduceBNe, Nat.reduceBEq, Nat.reduceBNe, Int.reduceToNat]
    simpa [digitB, h] using hK
  · simp only [h, zz, env0, aPure, aRead, aNew, aEff, aval, avals, aparts, aopt, wantedA, binA, isShift, binI, fillA, single, aRes, splice, mkv, unA, binS, sameAt, reduceCtorEq, reduceIte, Int.reduceEq, Int.reduceLT, Int.reduceLE, Int.reduceNe, Nat.reduceEqDiff, Nat.reduceLT, Nat.reduceAdd, Nat.reduceMul, Nat.reduceSub, Nat.reduceLeDiff, Int.reduceBEq, Int.reduceBNe, Nat.reduceBEq, Nat.reduceBNe, Int.reduceToNat]
    simpa [digitB, h] using hK

theorem letter_spec (H : AHeap) (c : Int) (K : AV → AHeap → Prop) (hK : K (.bool (letterB c)) H) : WF P0 95 [.int .u8 c] H K := by
  refine zWF rfl rfl rfl ?_
  by_cases h1 : 97 ≤ c <;> by_cases h2 : c ≤ 122 <;> by_cases h3 : 65 ≤ c <;> by_cases h4 : c ≤ 90 <;> by_cases h5 : c = 95 <;> simp [h1, h2, h3, h4, h5, letterB] at hK <;>
  first | (exfalso; omega) | (simp only [a95, ieq, ge_iff_le, gt_iff_lt, h1, h2, h3, h4, h5, decide_true, decide_false, zz, env0, aPure, aRead, aNew, aEff, aval, avals, aparts, aopt, wantedA, binA, isShift, binI, fillA, single, aRes, splice, mkv, unA, binS, sameAt, reduceCtorEq, reduceIte, Int.reduceEq, Int.reduceLT, Int.reduceLE, Int.reduceNe, Nat.reduceEqDiff, Nat.reduceLT, Nat.reduceAdd, Nat.reduceMul, Nat.reduceSub, Nat.reduceLeDiff, Int.reduceBEq, Int.reduceBNe, Nat.reduceBEq, Nat.reduceBNe, Int.reduceToNat]; simp_all; done) | skip

/-- Is a byte at a place one of a name? -/
def nameAt (s : List UInt8) (k : Nat) : Bool := match s[k]? with
  | some c => letterB c.toNat || (k != 0 && digitB c.toNat)
  | none => false
def nameB (s : List UInt8) : Bool := (List.range s.length).all (nameAt s) && (decide (1 ≤ s.length) && decide (s.length ≤ 32))

theorem name_spec (H : AHeap) (s : List UInt8) (hs : s.length < 9223372036854775808) (K : AV → AHeap → Prop) (hK : K (.bool (nameB s)) H) : WF P0 84 [.str s] H K := by
  refine zWF rfl rfl rfl ?_
  simp only [a84, zz, env0, aPure, aRead, aNew, aEff, aval, avals, aparts, aopt, wantedA, binA, isShift, binI, fillA, single, aRes, splice, mkv, unA, binS, sameAt, reduceCtorEq, reduceIte, Int.reduceEq, Int.reduceLT, Int.reduceLE, Int.reduceNe, Nat.reduceEqDiff, Nat.reduceLT, Nat.reduceAdd, Nat.reduceMul, Nat.reduceSub, Nat.reduceLeDiff, Int.reduceBEq, Int.reduceBNe, Nat.reduceBEq, Nat.reduceBNe, Int.reduceToNat]
  refine WC_loop (fun r env H' => H' = H ∧ ∃ (k : Nat) (a2 a5 a6 : AV), k ≤ s.length ∧ r = s.length - k ∧ (∀ j, j < k → nameAt s j = true) ∧ env = [.str s, .bool false, a2, .int .i64 s.length, .int .i64 k, a5, a6]) ?_ s.length _ _
      ⟨rfl, 0, _, _, _, Nat.zero_le _, rfl, by simp, rfl⟩
  rintro r env H' ⟨rfl, k, a2, a5, a6, hk, rfl, hall, rfl⟩
  simp only [zz, env0, aPure, aRead, aNew, aEff, aval, avals, aparts, aopt, wantedA, binA, isShift, binI, fillA, single, aRes, splice, mkv, unA, binS, sameAt, reduceCtorEq, reduceIte, Int.reduceEq, Int.reduceLT, Int.reduceLE, Int.reduceNe, Nat.reduceEqDiff, Nat.reduceLT, Nat.reduceAdd, Nat.reduceMul, Nat.reduceSub, Nat.reduceLeDiff, Int.reduceBEq, Int.reduceBNe, Nat.reduceBEq, Nat.reduceBNe, Int.reduceToNat]
  refine onB_of (fun hlt => ?_) (fun hlt => ?_)
  · have hlt : k < s.length := by simpa using hlt
    obtain ⟨c, hc⟩ : ∃ c, s[k]? = some c := ⟨s[k], List.getElem?_eq_getElem hlt⟩
    have hw : IntKind.i64.wrap ((k : Int) + 1) = ((k + 1 : Nat) : Int) := by rw [wrap_i64 (by omega) (by omega)]; rfl
    have hc0 : (0 : Int) ≤ k := by omega
    simp only [hc, hc0, zz, env0, aPure, aRead, aNew, aEff, aval, avals, aparts, aopt, wantedA, binA, isShift, binI, fillA, single, aRes, splice, mkv, unA, binS, sameAt, reduceCtorEq, reduceIte, Int.reduceEq, Int.reduceLT, Int.reduceLE, Int.reduceNe, Nat.reduceEqDiff, Nat.reduceLT, Nat.reduceAdd, Nat.reduceMul, Nat.reduceSub, Nat.reduceLeDiff, Int.reduceBEq, Int.reduceBNe, Nat.reduceBEq, Nat.reduceBNe, Int.reduceToNat]
    refine letter_spec _ _ _ ?_
    have hk0 : ((k : Int) == 0) = decide (k = 0) := by rw [ieq]; simp
    have stop : nameAt s k = false → K (.bool false) H' := fun hn => by
      have : nameB s = false := by
        simp only [nameB, Bool.and_eq_false_iff]
        left
        rw [List.all_eq_false]
        exact ⟨k, List.mem_range.2 hlt, by simp [hn]⟩
      rw [← this]; exact hK
    cases hL : letterB c.toNat <;> cases hz : decide (k = 0)
    all_goals simp only [hk0, hz, hw, hc, hc0, zz, env0, aPure, aRead, aNew, aEff, aval, avals, aparts, aopt, wantedA, binA, isShift, binI, fillA, single, aRes, splice, mkv, unA, binS, sameAt, reduceCtorEq, reduceIte, Int.reduceEq, Int.reduceLT, Int.reduceLE, Int.reduceNe, Nat.reduceEqDiff, Nat.reduceLT, Nat.reduceAdd, Nat.reduceMul, Nat.reduceSub, Nat.reduceLeDiff, Int.reduceBEq, Int.reduceBNe, Nat.reduceBEq, Nat.reduceBNe, Int.reduceToNat]
    · refine digit_spec _ _ _ ?_
      cases hD : digitB c.toNat
      all_goals simp only [hw, zz, env0, aPure, aRead, aNew, aEff, aval, avals, aparts, aopt, wantedA, binA, isShift, binI, fillA, single, aRes, splice, mkv, unA, binS, sameAt, reduceCtorEq, reduceIte, Int.reduceEq, Int.reduceLT, Int.reduceLE, Int.reduceNe, Nat.reduceEqDiff, Nat.reduceLT, Nat.reduceAdd, Nat.reduceMul, Nat.reduceSub, Nat.reduceLeDiff, Int.reduceBEq, Int.reduceBNe, Nat.reduceBEq, Nat.reduceBNe, Int.reduceToNat]
      · intro _; exact stop (by simp [nameAt, hc, hL, hD])
      · refine ⟨⟨s.length - (k + 1), by omega, k + 1, _, _, _, by omega, rfl, fun j hj => ?_, rfl⟩, fun h => absurd rfl h⟩
        by_cases e : j = k
        · subst e; simp at hz; simp [nameAt, hc, hL, hD, hz]
        · exact hall j (by omega)
    · intro _; simp at hz; subst hz; exact stop (by simp [nameAt, hc, hL])
    all_goals
      refine ⟨⟨s.length - (k + 1), by omega, k + 1, _, _, _, by omega, rfl, fun j hj => ?_, rfl⟩, fun h => absurd rfl h⟩
      by_cases e : j = k
      · subst e; simp [nameAt, hc, hL]
      · exact hall j (by omega)
  · have hkn : k = s.length := by
      have : ¬ ((k : Int) < s.length) := by simpa using hlt
      omega
    subst hkn
    have hall' : (List.range s.length).all (nameAt s) = true := by
      rw [List.all_eq_true]; intro j hj; exact hall j (List.mem_range.1 hj)
    simp only [hlt, zz, env0, aPure, aRead, aNew, aEff, aval, avals, aparts, aopt, wantedA, binA, isShift, binI, fillA, single, aRes, splice, mkv, unA, binS, sameAt, reduceCtorEq, reduceIte, Int.reduceEq, Int.reduceLT, Int.reduceLE, Int.reduceNe, Nat.reduceEqDiff, Nat.reduceLT, Nat.reduceAdd, Nat.reduceMul, Nat.reduceSub, Nat.reduceLeDiff, Int.reduceBEq, Int.reduceBNe, Nat.reduceBEq, Nat.reduceBNe, Int.reduceToNat]
    intro _
    refine onG_t (fun h => ?_) (fun h => ?_)
    · simp only [h, zz, env0, aPure, aRead, aNew, aEff, aval, avals, aparts, aopt, wantedA, binA, isShift, binI, fillA, single, aRes, splice, mkv, unA, binS, sameAt, reduceCtorEq, reduceIte, Int.reduceEq, Int.reduceLT, Int.reduceLE, Int.reduceNe, Nat.reduceEqDiff, Nat.reduceLT, Nat.reduceAdd, Nat.reduceMul, Nat.reduceSub, Nat.reduceLeDiff, Int.reduceBEq, Int.reduceBNe, Nat.reduceBEq, Nat.reduceBNe, Int.reduceToNat]
      have h1 : 1 ≤ s.length := by simp at h; omega
      have : (decide ((s.length : Int) ≤ 32)) = nameB s := by simp only [nameB, hall', Bool.true_and]; simp [h1]; omega
      rw [this]; exact hK
    · simp only [h, zz, env0, aPure, aRead, aNew, aEff, aval, avals, aparts, aopt, wantedA, binA, isShift, binI, fillA, single, aRes, splice, mkv, unA, binS, sameAt, reduceCtorEq, reduceIte, Int.reduceEq, Int.reduceLT, Int.reduceLE, Int.reduceNe, Nat.reduceEqDiff, Nat.reduceLT, Nat.reduceAdd, Nat.reduceMul, Nat.reduceSub, Nat.reduceLeDiff, Int.reduceBEq, Int.reduceBNe, Nat.reduceBEq, Nat.reduceBNe, Int.reduceToNat]
      have h1 : ¬ 1 ≤ s.length := by simp at h; omega
      have : false = nameB s := by simp only [nameB, hall', Bool.true_and]; simp [h1]
      rw [this]; exact hK
end Go.Proofs.Ythpccdggbechmaa

/- Arguments, as lists. -/
set_option maxRecDepth 100000
namespace Go.Am

theorem choose_list {α : Type} {n : Nat} {P : Nat → α → Prop} (h : ∀ j, j < n → ∃ x, P j x) : ∃ xs : List α, xs.length = n ∧ ∀ (j : Nat) (x : α), xs[j]? = some x → P j x := by
  induction n with
  | zero => exact ⟨[], rfl, fun j x hx => by simp at hx⟩
  | succ n ih =>
    obtain ⟨xs, h1, h2⟩ := ih (fun j hj => h j (by omega))
    obtain ⟨x, hx⟩ := h n (by omega)
    refine ⟨xs ++ [x], by simp [h1], fun j y hy => ?_⟩
    rcases Nat.lt_or_ge j n with hj | hj
    · rw [List.getElem?_append_left (by omega)] at hy; exact h2 j y hy
    · rw [List.getElem?_append_right (by omega), h1] at hy
      have : j - n = 0 := by
        rcases Nat.eq_zero_or_pos (j - n) with e | e
        · exact e
        · rw [List.getElem?_eq_none (by simp; omega)] at hy; simp at hy
      rw [this] at hy
      simp at hy; subst hy
      have : j = n := by omega
      rw [this]; exact hx

theorem chunks_flat (sz : Nat) : ∀ (n : Nat) (bs : List AV), bs.length = n * sz → ((List.range n).map fun j => (bs.drop (j * sz)).take sz).flatten = bs := by
  intro n
  induction n with
  | zero => intro bs h; simp at h; subst h; rfl
  | succ n ih =>
    intro bs h
    rw [Nat.add_mul, Nat.one_mul] at h
    rw [List.range_succ, List.map_append, List.flatten_append]
    have e : ((List.range n).map fun j => (bs.drop (j * sz)).take sz) = (List.range n).map fun j => ((bs.take (n * sz)).drop (j * sz)).take sz := by
      apply List.map_congr_left
      intro j hj
      have hj := List.mem_range.1 hj
      have : (j + 1) * sz ≤ n * sz := Nat.mul_le_mul_right sz hj
      rw [Nat.add_mul, Nat.one_mul] at this
      rw [List.drop_take, List.take_take, Nat.min_eq_left (by omega)]
    rw [e, ih _ (by rw [List.length_take]; omega)]
    simp only [List.map_cons, List.map_nil, List.flatten_cons, List.flatten_nil, List.append_nil]
    rw [List.take_of_length_le (l := bs.drop (n * sz)) (by rw [List.length_drop]; omega), List.take_append_drop]

theorem fits_rows {α : Type} {P : AHeap → α → List AV → Prop} {H : AHeap} {sz : Nat} {e : Shp} {a : AV} (h : Fits H (.slice sz e) [a]) (hP : ∀ cs, cs.length = sz → Fits H e cs → ∃ x, P H x cs) :
    ∃ xs, Rows sz P H a xs ∧ xs.length ≤ maxLen := by
  simp only [Fits, List.cons.injEq, and_true] at h
  rcases h with rfl | rfl | ⟨i, n, bs, rfl, h1, h2, h3, h4⟩
  · exact ⟨[], Rows.nil, Nat.zero_le _⟩
  · exact ⟨[], Rows.esl, Nat.zero_le _⟩
  · have hc : ∀ j, j < n → ((bs.drop (j * sz)).take sz).length = sz := fun j hj => by
      have : (j + 1) * sz ≤ n * sz := Nat.mul_le_mul_right sz hj
      rw [Nat.add_mul, Nat.one_mul] at this
      rw [List.length_take, List.length_drop]; omega
    obtain ⟨xs, h5, h6⟩ := choose_list (n := n) (P := fun j x => P H x ((bs.drop (j * sz)).take sz)) (fun j hj => hP _ (hc j hj) (h4 j hj))
    refine ⟨xs, ⟨(List.range n).map fun j => (bs.drop (j * sz)).take sz, ?_, by simp [h5], fun k x hx => ?_⟩, by omega⟩
    · rw [chunks_flat sz n bs h2, h5]
      exact .inr ⟨i, 0, false, bs, rfl, h1, by omega, by rw [List.drop_zero, List.take_of_length_le (by omega)]⟩
    · have hk : k < n := by
        rcases Nat.lt_or_ge k n with h | h
        · exact h
        · rw [List.getElem?_eq_none (by omega)] at hx; simp at hx
      exact ⟨_, by rw [List.getElem?_map, List.getElem?_range hk]; rfl, hc k hk, h6 k x hx⟩

def I64P (_ : AHeap) (x : Int) (r : List AV) : Prop := r = [.int .i64 x] ∧ i64In x
def ByteP (_ : AHeap) (x : UInt8) (r : List AV) : Prop := r = [.int .u8 x.toNat]
theorem ByteP.mono : Mono ByteP := fun _ _ _ _ _ h => h

theorem fits_i64 {H : AHeap} {cs : List AV} (h : Fits H (.int .i64) cs) : ∃ x, I64P H x cs := by
  simp only [Fits] at h
  obtain ⟨n, rfl, h1, h2⟩ := h
  exact ⟨n, rfl, h1, by
    have : n ≤ 9223372036854775807 := h2
    omega⟩
theorem fits_ints {H : AHeap} {a : AV} (h : Fits H (.slice 1 (.int .i64)) [a]) : ∃ xs, Ints H a xs ∧ (∀ x, x ∈ xs → i64In x) ∧ xs.length ≤ maxLen := by
  obtain ⟨xs, ⟨rs, h1, h2, h3⟩, h4⟩ := fits_rows (P := I64P) h (fun cs _ hf => fits_i64 hf)
  refine ⟨xs, ⟨rs, h1, h2, fun k x hx => by obtain ⟨r, a, b, c⟩ := h3 k x hx; exact ⟨r, a, b, c.1⟩⟩, fun x hx => ?_, h4⟩
  obtain ⟨k, hk⟩ := List.mem_iff_getElem?.1 hx
  obtain ⟨r, a, b, c⟩ := h3 k x hk
  exact c.2
theorem fits_u8 {H : AHeap} {cs : List AV} (h : Fits H (.int .u8) cs) : ∃ x, ByteP H x cs := by
  simp only [Fits] at h
  obtain ⟨n, rfl, h1, h2⟩ := h
  have h1 : (0 : Int) ≤ n := h1
  have h2 : n ≤ 255 := h2
  refine ⟨UInt8.ofNat n.toNat, ?_⟩
  simp only [ByteP, List.cons.injEq, AV.int.injEq, true_and, and_true]
  rw [UInt8.toNat_ofNat']
  omega
theorem fits_bytes {H : AHeap} {a : AV} (h : Fits H (.slice 1 (.int .u8)) [a]) : ∃ xs, Rows 1 ByteP H a xs ∧ xs.length ≤ maxLen := fits_rows h (fun _ _ hf => fits_u8 hf)
theorem fits_u64 {H : AHeap} {cs : List AV} (h : Fits H (.int .u64) cs) : ∃ x, cs = [.int .u64 x] ∧ u64In x := by
  simp only [Fits] at h
  obtain ⟨n, rfl, h1, h2⟩ := h
  have h1 : (0 : Int) ≤ n := h1
  have h2 : n ≤ 18446744073709551615 := h2
  exact ⟨n, rfl, h1, by omega⟩
theorem fits_str {H : AHeap} {cs : List AV} (h : Fits H .str cs) : ∃ s, cs = [.str s] ∧ s.length ≤ maxLen := by
  simp only [Fits] at h; exact h

abbrev setShp : Shp := .array 4 1 (.int .u64)
abbrev ndShp : Shp := .struct [(1, .int .u8), (4, setShp), (1, .slice 1 (.int .i64)), (1, .int .i64), (1, .int .i64), (1, .str)]
theorem fits_set {H : AHeap} {cs : List AV} (h : Fits H setShp cs) : ∃ s0 s1 s2 s3, cs = [.int .u64 s0, .int .u64 s1, .int .u64 s2, .int .u64 s3] ∧ u64In s0 ∧ u64In s1 ∧ u64In s2 ∧ u64In s3 := by
  simp only [Fits] at h
  obtain ⟨h1, h2⟩ := h
  match cs, h1 with
  | [a, b, c, d], _ =>
    obtain ⟨s0, e0, g0⟩ := fits_u64 (H := H) (by simpa only [Fits] using h2 0 (by omega))
    obtain ⟨s1, e1, g1⟩ := fits_u64 (H := H) (by simpa only [Fits] using h2 1 (by omega))
    obtain ⟨s2, e2, g2⟩ := fits_u64 (H := H) (by simpa only [Fits] using h2 2 (by omega))
    obtain ⟨s3, e3, g3⟩ := fits_u64 (H := H) (by simpa only [Fits] using h2 3 (by omega))
    simp at e0 e1 e2 e3
    subst e0 e1 e2 e3
    exact ⟨s0, s1, s2, s3, rfl, g0, g1, g2, g3⟩
theorem maxLen_lt : maxLen < 9223372036854775808 := by decide
theorem fits_nd {H : AHeap} {cs : List AV} (hl : cs.length = 9) (h : Fits H ndShp cs) : ∃ n, NdP H n cs := by
  match cs, hl with
  | [a0, a1, a2, a3, a4, a5, a6, a7, a8], _ =>
    simp only [Fits, FitsAll, List.drop_succ_cons, List.drop_zero, List.take_succ_cons, List.take_zero] at h
    obtain ⟨_, h1, _, h2, _, h3, _, h4, _, h5, _, h6, _⟩ := h
    obtain ⟨o, e1, o1, o2⟩ := h1
    obtain ⟨s0, s1, s2, s3, e2, g0, g1, g2, g3⟩ := fits_set (H := H) (by simpa only [setShp, Fits] using h2)
    obtain ⟨xs, i1, i2, i3⟩ := fits_ints (H := H) (a := a5) (by simpa only [Fits] using h3)
    obtain ⟨lo, e4, l1⟩ := fits_i64 (H := H) (by simpa only [Fits] using h4)
    obtain ⟨hi, e5, l2⟩ := fits_i64 (H := H) (by simpa only [Fits] using h5)
    obtain ⟨s, e6, l3⟩ := h6
    have ml := maxLen_lt
    have o1 : (0 : Int) ≤ o := o1
    have o2 : o ≤ 255 := o2
    simp at e1 e2 e4 e5 e6
    obtain ⟨rfl, rfl, rfl, rfl⟩ := e2
    subst e1 e4 e5 e6
    exact ⟨{ op := o, s0 := s0, s1 := s1, s2 := s2, s3 := s3, kids := xs, lo := lo, hi := hi, name := s }, ⟨⟨o1, by show o < 256; omega⟩, g0, g1, g2, g3, i2, l1, l2, by show xs.length < _; omega, by show s.length < _; omega⟩, a5, rfl, i1⟩
theorem fits_nds {H : AHeap} {a : AV} (h : Fits H (.slice 9 ndShp) [a]) : ∃ l, Nds H a l ∧ l.length ≤ maxLen := fits_rows h (fun _ hl hf => fits_nd hl hf)

end Go.Am

/- Places; whether lists rise. -/
set_option maxRecDepth 100000
set_option linter.unusedSimpArgs false
namespace Go.Am

/-- A place. -/
structure Pz where
  s0 : Int
  s1 : Int
  s2 : Int
  s3 : Int
  lo : Int
  hi : Int
  rule : Int
  last : Bool
  next : List Int
  deriving Inhabited
def pzRow (p : Pz) (nv : AV) : List AV := [.int .u64 p.s0, .int .u64 p.s1, .int .u64 p.s2, .int .u64 p.s3, .int .i64 p.lo, .int .i64 p.hi, .int .i64 p.rule, .bool p.last, nv]
def PzP (H : AHeap) (p : Pz) (r : List AV) : Prop := p.next.length < 9223372036854775808 ∧ ∃ nv, r = pzRow p nv ∧ Ints H nv p.next
theorem PzP.mono : Mono PzP := fun _ _ _ _ hk h => ⟨h.1, by obtain ⟨nv, a, b⟩ := h.2; exact ⟨nv, a, Rows.keeps IntP.mono hk b⟩⟩
abbrev Pzs := Rows 9 PzP
def Pz.empty (p : Pz) : Bool := decide (p.s0 = 0) && (decide (p.s1 = 0) && (decide (p.s2 = 0) && decide (p.s3 = 0)))

/-- Do places rise, of so many? -/
def riseB (many : Int) : Int → List Int → Bool
  | _, [] => true
  | z, x :: xs => decide (z < x) && decide (x < many) && riseB many x xs
theorem riseB_drop {many z x : Int} {xs : List Int} {k : Nat} (hx : xs[k]? = some x) : riseB many z (xs.drop k) = (decide (z < x) && decide (x < many) && riseB many x (xs.drop (k + 1))) := by
  have hk : k < xs.length := by
    rcases Nat.lt_or_ge k xs.length with h | h
    · exact h
    · rw [List.getElem?_eq_none h] at hx; simp at hx
  rw [List.drop_eq_getElem_cons hk]
  rw [List.getElem?_eq_getElem hk] at hx
  simp only [Option.some.injEq] at hx
  rw [riseB, hx]
/-- May a place be so? -/
def mayB (many : Int) (p : Pz) : Bool := !p.empty && (decide (1 ≤ p.lo) && (decide (p.lo ≤ p.hi) && (decide (p.hi ≤ 4096) && (decide (0 ≤ p.rule) && (decide (p.rule < 512) && riseB many (-1) p.next)))))
end Go.Am
namespace Go.Proofs.Ythpccdggbechmaa
open Go.Am

theorem rises_spec (H : AHeap) (v : AV) (xs : List Int) (many : Int) (hx : Ints H v xs) (hbig : xs.length < 9223372036854775808) (K : AV → AHeap → Prop)
    (hK : K (.bool (riseB many (-1) xs)) H) : WF P0 28 [v, .int .i64 many] H K := by
  refine zWF rfl rfl rfl ?_
  have hl := hx.lenOf
  simp only [a28, hl, zz, env0, aPure, aRead, aNew, aEff, aval, avals, aparts, aopt, wantedA, binA, isShift, binI, fillA, single, aRes, splice, mkv, unA, binS, sameAt, reduceCtorEq, reduceIte, Int.reduceEq, Int.reduceLT, Int.reduceLE, Int.reduceNe, Nat.reduceEqDiff, Nat.reduceLT, Nat.reduceAdd, Nat.reduceMul, Nat.reduceSub, Nat.reduceLeDiff, Int.reduceBEq, Int.reduceBNe, Nat.reduceBEq, Nat.reduceBNe, Int.reduceToNat]
  refine WCL (fun r env H' => H' = H ∧ ∃ (k : Nat) (z : Int) (a4 a8 a9 : AV), k ≤ xs.length ∧ r = xs.length - k ∧ riseB many (-1) xs = riseB many z (xs.drop k) ∧
      env = [v, .int .i64 many, .bool false, .int .i64 z, a4, v, .int .i64 xs.length, .int .i64 k, a8, a9]) (n := xs.length)
    ⟨rfl, 0, _, _, _, _, Nat.zero_le _, rfl, rfl, rfl⟩ ?_
  rintro r env H' ⟨rfl, k, z, a4, a8, a9, hk, rfl, hr, rfl⟩
  simp only [zz, env0, aPure, aRead, aNew, aEff, aval, avals, aparts, aopt, wantedA, binA, isShift, binI, fillA, single, aRes, splice, mkv, unA, binS, sameAt, reduceCtorEq, reduceIte, Int.reduceEq, Int.reduceLT, Int.reduceLE, Int.reduceNe, Nat.reduceEqDiff, Nat.reduceLT, Nat.reduceAdd, Nat.reduceMul, Nat.reduceSub, Nat.reduceLeDiff, Int.reduceBEq, Int.reduceBNe, Nat.reduceBEq, Nat.reduceBNe, Int.reduceToNat]
  refine onB_of (fun hlt => ?_) (fun hlt => ?_)
  · have hlt : k < xs.length := by simpa using hlt
    obtain ⟨x, hxk⟩ : ∃ x, xs[k]? = some x := ⟨xs[k], List.getElem?_eq_getElem hlt⟩
    obtain ⟨i, o, rfl, h1⟩ := hx.int hxk
    have hw : IntKind.i64.wrap ((k : Int) + 1) = ((k + 1 : Nat) : Int) := by rw [wrap_i64 (by omega) (by omega)]; rfl
    have hk0 : (0 : Int) ≤ k := by omega
    have hk1 : (k : Int) < xs.length := by omega
    rw [riseB_drop hxk] at hr
    simp only [hk0, hk1, Nat.mul_one, h1, zz, env0, aPure, aRead, aNew, aEff, aval, avals, aparts, aopt, wantedA, binA, isShift, binI, fillA, single, aRes, splice, mkv, unA, binS, sameAt, reduceCtorEq, reduceIte, Int.reduceEq, Int.reduceLT, Int.reduceLE, Int.reduceNe, Nat.reduceEqDiff, Nat.reduceLT, Nat.reduceAdd, Nat.reduceMul, Nat.reduceSub, Nat.reduceLeDiff, Int.reduceBEq, Int.reduceBNe, Nat.reduceBEq, Nat.reduceBNe, Int.reduceToNat]
    by_cases c1 : z < x
    · have d1 : decide (x ≤ z) = false := by simp; omega
      by_cases c2 : x < many
      · have d2 : decide (many ≤ x) = false := by simp; omega
        simp only [d1, d2, hw, zz, env0, aPure, aRead, aNew, aEff, aval, avals, aparts, aopt, wantedA, binA, isShift, binI, fillA, single, aRes, splice, mkv, unA, binS, sameAt, reduceCtorEq, reduceIte, Int.reduceEq, Int.reduceLT, Int.reduceLE, Int.reduceNe, Nat.reduceEqDiff, Nat.reduceLT, Nat.reduceAdd, Nat.reduceMul, Nat.reduceSub, Nat.reduceLeDiff, Int.reduceBEq, Int.reduceBNe, Nat.reduceBEq, Nat.reduceBNe, Int.reduceToNat]
        exact ⟨xs.length - (k + 1), by omega, k + 1, x, _, _, _, by omega, rfl, by rw [hr]; simp [c1, c2], rfl⟩
      · have d2 : decide (many ≤ x) = true := by simp; omega
        simp only [d1, d2, hw, zz, env0, aPure, aRead, aNew, aEff, aval, avals, aparts, aopt, wantedA, binA, isShift, binI, fillA, single, aRes, splice, mkv, unA, binS, sameAt, reduceCtorEq, reduceIte, Int.reduceEq, Int.reduceLT, Int.reduceLE, Int.reduceNe, Nat.reduceEqDiff, Nat.reduceLT, Nat.reduceAdd, Nat.reduceMul, Nat.reduceSub, Nat.reduceLeDiff, Int.reduceBEq, Int.reduceBNe, Nat.reduceBEq, Nat.reduceBNe, Int.reduceToNat]
        rw [hr] at hK; simpa [c1, c2] using hK
    · have d1 : decide (x ≤ z) = true := by simp; omega
      simp only [d1, hw, zz, env0, aPure, aRead, aNew, aEff, aval, avals, aparts, aopt, wantedA, binA, isShift, binI, fillA, single, aRes, splice, mkv, unA, binS, sameAt, reduceCtorEq, reduceIte, Int.reduceEq, Int.reduceLT, Int.reduceLE, Int.reduceNe, Nat.reduceEqDiff, Nat.reduceLT, Nat.reduceAdd, Nat.reduceMul, Nat.reduceSub, Nat.reduceLeDiff, Int.reduceBEq, Int.reduceBNe, Nat.reduceBEq, Nat.reduceBNe, Int.reduceToNat]
      rw [hr] at hK; simpa [c1] using hK
  · have hke : k = xs.length := by simp at hlt; omega
    subst hke
    simp [riseB] at hr
    rw [hr] at hK
    simp only [zz, env0, aPure, aRead, aNew, aEff, aval, avals, aparts, aopt, wantedA, binA, isShift, binI, fillA, single, aRes, splice, mkv, unA, binS, sameAt, reduceCtorEq, reduceIte, Int.reduceEq, Int.reduceLT, Int.reduceLE, Int.reduceNe, Nat.reduceEqDiff, Nat.reduceLT, Nat.reduceAdd, Nat.reduceMul, Nat.reduceSub, Nat.reduceLeDiff, Int.reduceBEq, Int.reduceBNe, Nat.reduceBEq, Nat.reduceBNe, Int.reduceToNat]
    exact hK

theorem rrises_spec (H : AHeap) (v : AV) (xs : List Int) (many : Int) (hx : Ints H v xs) (hbig : xs.length < 9223372036854775808) (K : AV → AHeap → Prop)
    (hK : K (.bool (riseB many (-1) xs)) H) : WF P0 32 [v, .int .i64 many] H K := by
  refine zWF rfl rfl rfl ?_
  have hl := hx.lenOf
  simp only [a32, hl, zz, env0, aPure, aRead, aNew, aEff, aval, avals, aparts, aopt, wantedA, binA, isShift, binI, fillA, single, aRes, splice, mkv, unA, binS, sameAt, reduceCtorEq, reduceIte, Int.reduceEq, Int.reduceLT, Int.reduceLE, Int.reduceNe, Nat.reduceEqDiff, Nat.reduceLT, Nat.reduceAdd, Nat.reduceMul, Nat.reduceSub, Nat.reduceLeDiff, Int.reduceBEq, Int.reduceBNe, Nat.reduceBEq, Nat.reduceBNe, Int.reduceToNat]
  refine WCL (fun r env H' => H' = H ∧ ∃ (k : Nat) (z : Int) (a4 a5 : AV), k ≤ xs.length ∧ r = xs.length - k ∧ riseB many (-1) xs = riseB many z (xs.drop k) ∧ (k = 0 ∧ z = -1 ∨ 0 < k ∧ 0 ≤ z ∧ xs[k - 1]? = some z) ∧
      env = [v, .int .i64 many, .bool false, .int .i64 k, a4, a5]) (n := xs.length)
    ⟨rfl, 0, -1, _, _, Nat.zero_le _, rfl, rfl, .inl ⟨rfl, rfl⟩, rfl⟩ ?_
  rintro r env H' ⟨rfl, k, z, a4, a5, hk, rfl, hr, hz, rfl⟩
  simp only [hl, zz, env0, aPure, aRead, aNew, aEff, aval, avals, aparts, aopt, wantedA, binA, isShift, binI, fillA, single, aRes, splice, mkv, unA, binS, sameAt, reduceCtorEq, reduceIte, Int.reduceEq, Int.reduceLT, Int.reduceLE, Int.reduceNe, Nat.reduceEqDiff, Nat.reduceLT, Nat.reduceAdd, Nat.reduceMul, Nat.reduceSub, Nat.reduceLeDiff, Int.reduceBEq, Int.reduceBNe, Nat.reduceBEq, Nat.reduceBNe, Int.reduceToNat]
  refine onB_of (fun hlt => ?_) (fun hlt => ?_)
  · have hlt : k < xs.length := by simpa using hlt
    obtain ⟨x, hxk⟩ : ∃ x, xs[k]? = some x := ⟨xs[k], List.getElem?_eq_getElem hlt⟩
    obtain ⟨i, o, e, h1⟩ := hx.int hxk
    have hprev : 0 < k → loadA H' i (o + (k - 1)) 1 = some [.int .i64 z] := fun h0 => by
      obtain ⟨i2, o2, e2, h2⟩ := hx.int (show xs[k - 1]? = some z by rcases hz with h | h <;> first | omega | exact h.2.2)
      rw [e] at e2
      simp only [AV.sl.injEq] at e2
      obtain ⟨rfl, rfl, _⟩ := e2
      exact h2
    subst e
    have hw : IntKind.i64.wrap ((k : Int) + 1) = ((k + 1 : Nat) : Int) := by rw [wrap_i64 (by omega) (by omega)]; rfl
    have hk0 : (0 : Int) ≤ k := by omega
    have hk1 : (k : Int) < xs.length := by omega
    rw [riseB_drop hxk] at hr
    simp only [hk0, hk1, Nat.mul_one, h1, zz, env0, aPure, aRead, aNew, aEff, aval, avals, aparts, aopt, wantedA, binA, isShift, binI, fillA, single, aRes, splice, mkv, unA, binS, sameAt, reduceCtorEq, reduceIte, Int.reduceEq, Int.reduceLT, Int.reduceLE, Int.reduceNe, Nat.reduceEqDiff, Nat.reduceLT, Nat.reduceAdd, Nat.reduceMul, Nat.reduceSub, Nat.reduceLeDiff, Int.reduceBEq, Int.reduceBNe, Nat.reduceBEq, Nat.reduceBNe, Int.reduceToNat]
    by_cases c0 : x < 0
    · have d0 : decide (x < 0) = true := by simp; omega
      simp only [d0, zz, env0, aPure, aRead, aNew, aEff, aval, avals, aparts, aopt, wantedA, binA, isShift, binI, fillA, single, aRes, splice, mkv, unA, binS, sameAt, reduceCtorEq, reduceIte, Int.reduceEq, Int.reduceLT, Int.reduceLE, Int.reduceNe, Nat.reduceEqDiff, Nat.reduceLT, Nat.reduceAdd, Nat.reduceMul, Nat.reduceSub, Nat.reduceLeDiff, Int.reduceBEq, Int.reduceBNe, Nat.reduceBEq, Nat.reduceBNe, Int.reduceToNat]
      have : ¬ z < x := by rcases hz with h | h <;> omega
      rw [hr] at hK; simpa [this] using hK
    have d0 : decide (x < 0) = false := by simp; omega
    by_cases c2 : x < many
    · have d2 : decide (many ≤ x) = false := by simp; omega
      by_cases ck : 0 < k
      · have dk : decide (0 < (k : Int)) = true := by simp; omega
        have hp := hprev ck
        have hw2 : IntKind.i64.wrap ((k : Int) - 1) = ((k - 1 : Nat) : Int) := by rw [wrap_i64 (by omega) (by omega)]; omega
        have hk2 : (0 : Int) ≤ ((k - 1 : Nat) : Int) := by omega
        have hk3 : ((k - 1 : Nat) : Int) < xs.length := by omega
        by_cases c1 : z < x
        · have d1 : decide (x ≤ z) = false := by simp; omega
          simp only [d0, d2, dk, hw2, hk2, hk3, hk0, hk1, Nat.mul_one, hp, h1, d1, hw, zz, env0, aPure, aRead, aNew, aEff, aval, avals, aparts, aopt, wantedA, binA, isShift, binI, fillA, single, aRes, splice, mkv, unA, binS, sameAt, reduceCtorEq, reduceIte, Int.reduceEq, Int.reduceLT, Int.reduceLE, Int.reduceNe, Nat.reduceEqDiff, Nat.reduceLT, Nat.reduceAdd, Nat.reduceMul, Nat.reduceSub, Nat.reduceLeDiff, Int.reduceBEq, Int.reduceBNe, Nat.reduceBEq, Nat.reduceBNe, Int.reduceToNat]
          exact ⟨xs.length - (k + 1), by omega, k + 1, x, _, _, by omega, rfl, by rw [hr]; simp [c1, c2], .inr ⟨by omega, by omega, by simpa using hxk⟩, rfl⟩
        · have d1 : decide (x ≤ z) = true := by simp; omega
          simp only [d0, d2, dk, hw2, hk2, hk3, hk0, hk1, Nat.mul_one, hp, h1, d1, hw, zz, env0, aPure, aRead, aNew, aEff, aval, avals, aparts, aopt, wantedA, binA, isShift, binI, fillA, single, aRes, splice, mkv, unA, binS, sameAt, reduceCtorEq, reduceIte, Int.reduceEq, Int.reduceLT, Int.reduceLE, Int.reduceNe, Nat.reduceEqDiff, Nat.reduceLT, Nat.reduceAdd, Nat.reduceMul, Nat.reduceSub, Nat.reduceLeDiff, Int.reduceBEq, Int.reduceBNe, Nat.reduceBEq, Nat.reduceBNe, Int.reduceToNat]
          rw [hr] at hK; simpa [c1] using hK
      · have dk : decide (0 < (k : Int)) = false := by simp; omega
        have c1 : z < x := by rcases hz with h | h <;> omega
        simp only [d0, d2, dk, hk0, hk1, Nat.mul_one, h1, hw, zz, env0, aPure, aRead, aNew, aEff, aval, avals, aparts, aopt, wantedA, binA, isShift, binI, fillA, single, aRes, splice, mkv, unA, binS, sameAt, reduceCtorEq, reduceIte, Int.reduceEq, Int.reduceLT, Int.reduceLE, Int.reduceNe, Nat.reduceEqDiff, Nat.reduceLT, Nat.reduceAdd, Nat.reduceMul, Nat.reduceSub, Nat.reduceLeDiff, Int.reduceBEq, Int.reduceBNe, Nat.reduceBEq, Nat.reduceBNe, Int.reduceToNat]
        exact ⟨xs.length - (k + 1), by omega, k + 1, x, _, _, by omega, rfl, by rw [hr]; simp [c1, c2], .inr ⟨by omega, by omega, by simpa using hxk⟩, rfl⟩
    · have d2 : decide (many ≤ x) = true := by simp; omega
      simp only [d0, d2, hk0, hk1, Nat.mul_one, h1, zz, env0, aPure, aRead, aNew, aEff, aval, avals, aparts, aopt, wantedA, binA, isShift, binI, fillA, single, aRes, splice, mkv, unA, binS, sameAt, reduceCtorEq, reduceIte, Int.reduceEq, Int.reduceLT, Int.reduceLE, Int.reduceNe, Nat.reduceEqDiff, Nat.reduceLT, Nat.reduceAdd, Nat.reduceMul, Nat.reduceSub, Nat.reduceLeDiff, Int.reduceBEq, Int.reduceBNe, Nat.reduceBEq, Nat.reduceBNe, Int.reduceToNat]
      rw [hr] at hK; simpa [c2] using hK
  · have hke : k = xs.length := by simp at hlt; omega
    subst hke
    simp [riseB] at hr
    rw [hr] at hK
    simp only [zz, env0, aPure, aRead, aNew, aEff, aval, avals, aparts, aopt, wantedA, binA, isShift, binI, fillA, single, aRes, splice, mkv, unA, binS, sameAt, reduceCtorEq, reduceIte, Int.reduceEq, Int.reduceLT, Int.reduceLE, Int.reduceNe, Nat.reduceEqDiff, Nat.reduceLT, Nat.reduceAdd, Nat.reduceMul, Nat.reduceSub, Nat.reduceLeDiff, Int.reduceBEq, Int.reduceBNe, Nat.reduceBEq, Nat.reduceBNe, Int.reduceToNat]
    exact hK

theorem may_spec (H : AHeap) (p : Pz) (nv : AV) (many : Int) (hnv : Ints H nv p.next) (hbig : p.next.length < 9223372036854775808) (K : AV → AHeap → Prop)
    (hK : ∀ H', Keeps H H' → K (.bool (mayB many p)) H') : WF P0 31 [.agg (pzRow p nv), .int .i64 many] H K := by
  refine zWF rfl rfl rfl ?_
  simp only [a31, pzRow, zz, env0, aPure, aRead, aNew, aEff, aval, avals, aparts, aopt, wantedA, binA, isShift, binI, fillA, single, aRes, splice, mkv, unA, binS, sameAt, reduceCtorEq, reduceIte, Int.reduceEq, Int.reduceLT, Int.reduceLE, Int.reduceNe, Nat.reduceEqDiff, Nat.reduceLT, Nat.reduceAdd, Nat.reduceMul, Nat.reduceSub, Nat.reduceLeDiff, Int.reduceBEq, Int.reduceBNe, Nat.reduceBEq, Nat.reduceBNe, Int.reduceToNat]
  have he : (p.s0 == 0 && (p.s1 == 0 && (p.s2 == 0 && p.s3 == 0))) = p.empty := by simp only [Pz.empty, ieq]
  have hK := hK (H ++ [some (.cells 9 true (pzRow p nv))]) (Keeps.p1 H _)
  simp only [pzRow] at hK
  rcases Bool.eq_false_or_eq_true p.empty with c0 | c0
  · simp only [he, c0, zz, env0, aPure, aRead, aNew, aEff, aval, avals, aparts, aopt, wantedA, binA, isShift, binI, fillA, single, aRes, splice, mkv, unA, binS, sameAt, reduceCtorEq, reduceIte, Int.reduceEq, Int.reduceLT, Int.reduceLE, Int.reduceNe, Nat.reduceEqDiff, Nat.reduceLT, Nat.reduceAdd, Nat.reduceMul, Nat.reduceSub, Nat.reduceLeDiff, Int.reduceBEq, Int.reduceBNe, Nat.reduceBEq, Nat.reduceBNe, Int.reduceToNat]
    simpa [mayB, c0] using hK
  by_cases c1 : 1 ≤ p.lo
  case neg => simp only [he, c0, c1, decide_false, zz, env0, aPure, aRead, aNew, aEff, aval, avals, aparts, aopt, wantedA, binA, isShift, binI, fillA, single, aRes, splice, mkv, unA, binS, sameAt, reduceCtorEq, reduceIte, Int.reduceEq, Int.reduceLT, Int.reduceLE, Int.reduceNe, Nat.reduceEqDiff, Nat.reduceLT, Nat.reduceAdd, Nat.reduceMul, Nat.reduceSub, Nat.reduceLeDiff, Int.reduceBEq, Int.reduceBNe, Nat.reduceBEq, Nat.reduceBNe, Int.reduceToNat]; simpa [mayB, c0, c1] using hK
  by_cases c2 : p.lo ≤ p.hi
  case neg => simp only [he, c0, c1, c2, decide_true, decide_false, zz, env0, aPure, aRead, aNew, aEff, aval, avals, aparts, aopt, wantedA, binA, isShift, binI, fillA, single, aRes, splice, mkv, unA, binS, sameAt, reduceCtorEq, reduceIte, Int.reduceEq, Int.reduceLT, Int.reduceLE, Int.reduceNe, Nat.reduceEqDiff, Nat.reduceLT, Nat.reduceAdd, Nat.reduceMul, Nat.reduceSub, Nat.reduceLeDiff, Int.reduceBEq, Int.reduceBNe, Nat.reduceBEq, Nat.reduceBNe, Int.reduceToNat]; simpa [mayB, c0, c1, c2] using hK
  by_cases c3 : p.hi ≤ 4096
  case neg => simp only [he, c0, c1, c2, c3, decide_true, decide_false, zz, env0, aPure, aRead, aNew, aEff, aval, avals, aparts, aopt, wantedA, binA, isShift, binI, fillA, single, aRes, splice, mkv, unA, binS, sameAt, reduceCtorEq, reduceIte, Int.reduceEq, Int.reduceLT, Int.reduceLE, Int.reduceNe, Nat.reduceEqDiff, Nat.reduceLT, Nat.reduceAdd, Nat.reduceMul, Nat.reduceSub, Nat.reduceLeDiff, Int.reduceBEq, Int.reduceBNe, Nat.reduceBEq, Nat.reduceBNe, Int.reduceToNat]; simpa [mayB, c0, c1, c2, c3] using hK
  by_cases c4 : 0 ≤ p.rule
  case neg => simp only [he, c0, c1, c2, c3, c4, decide_true, decide_false, zz, env0, aPure, aRead, aNew, aEff, aval, avals, aparts, aopt, wantedA, binA, isShift, binI, fillA, single, aRes, splice, mkv, unA, binS, sameAt, reduceCtorEq, reduceIte, Int.reduceEq, Int.reduceLT, Int.reduceLE, Int.reduceNe, Nat.reduceEqDiff, Nat.reduceLT, Nat.reduceAdd, Nat.reduceMul, Nat.reduceSub, Nat.reduceLeDiff, Int.reduceBEq, Int.reduceBNe, Nat.reduceBEq, Nat.reduceBNe, Int.reduceToNat]; simpa [mayB, c0, c1, c2, c3, c4] using hK
  by_cases c5 : p.rule < 512
  case neg => simp only [he, c0, c1, c2, c3, c4, c5, decide_true, decide_false, zz, env0, aPure, aRead, aNew, aEff, aval, avals, aparts, aopt, wantedA, binA, isShift, binI, fillA, single, aRes, splice, mkv, unA, binS, sameAt, reduceCtorEq, reduceIte, Int.reduceEq, Int.reduceLT, Int.reduceLE, Int.reduceNe, Nat.reduceEqDiff, Nat.reduceLT, Nat.reduceAdd, Nat.reduceMul, Nat.reduceSub, Nat.reduceLeDiff, Int.reduceBEq, Int.reduceBNe, Nat.reduceBEq, Nat.reduceBNe, Int.reduceToNat]; simpa [mayB, c0, c1, c2, c3, c4, c5] using hK
  simp only [he, c0, c1, c2, c3, c4, c5, decide_true, zz, env0, aPure, aRead, aNew, aEff, aval, avals, aparts, aopt, wantedA, binA, isShift, binI, fillA, single, aRes, splice, mkv, unA, binS, sameAt, reduceCtorEq, reduceIte, Int.reduceEq, Int.reduceLT, Int.reduceLE, Int.reduceNe, Nat.reduceEqDiff, Nat.reduceLT, Nat.reduceAdd, Nat.reduceMul, Nat.reduceSub, Nat.reduceLeDiff, Int.reduceBEq, Int.reduceBNe, Nat.reduceBEq, Nat.reduceBNe, Int.reduceToNat]
  refine rises_spec _ _ _ _ (Rows.keeps IntP.mono (.p1 _ _) hnv) hbig _ ?_
  simp only [zz, env0, aPure, aRead, aNew, aEff, aval, avals, aparts, aopt, wantedA, binA, isShift, binI, fillA, single, aRes, splice, mkv, unA, binS, sameAt, reduceCtorEq, reduceIte, Int.reduceEq, Int.reduceLT, Int.reduceLE, Int.reduceNe, Nat.reduceEqDiff, Nat.reduceLT, Nat.reduceAdd, Nat.reduceMul, Nat.reduceSub, Nat.reduceLeDiff, Int.reduceBEq, Int.reduceBNe, Nat.reduceBEq, Nat.reduceBNe, Int.reduceToNat]
  simpa [mayB, c0, c1, c2, c3, c4, c5] using hK
end Go.Proofs.Ythpccdggbechmaa

/- Whether places may be so: glush.Right, and the reference's. -/
set_option maxRecDepth 100000
set_option linter.unusedSimpArgs false
namespace Go.Am
theorem Rows.pz {H : AHeap} {v : AV} {l : List Pz} (h : Pzs H v l) {k : Nat} {p : Pz} (hx : l[k]? = some p) :
    ∃ i o nv, v = .sl i o l.length ∧ p.next.length < 9223372036854775808 ∧ Ints H nv p.next ∧ ∀ j m, j + m ≤ 9 → loadA H i (o + k * 9 + j) m = some (((pzRow p nv).drop j).take m) := by
  obtain ⟨i, o, r, rfl, h1, ⟨hok, nv, rfl, hnv⟩, h3⟩ := h.elem hx
  exact ⟨i, o, nv, rfl, hok, hnv, h3⟩
def rightB (first : List Int) (ps : List Pz) : Bool := decide (ps.length ≤ 512) && (riseB ps.length (-1) first && ps.all (mayB ps.length))
end Go.Am
namespace Go.Proofs.Ythpccdggbechmaa
open Go.Am

/-- A function of places. -/
def FnP (H : AHeap) (fv : AV) (f : Pz → Bool) : Prop := ∃ g a c, fv = .fn g a c ∧ ∀ H0 p nv K, Keeps H H0 → Ints H0 nv p.next → p.next.length < 9223372036854775808 →
  (∀ H', Keeps H0 H' → K (.bool (f p)) H') → WF P0 g (a ++ [.agg (pzRow p nv)] ++ c) H0 K

theorem indexP_spec (H : AHeap) (v fv : AV) (l : List Pz) (f : Pz → Bool) (hl : Pzs H v l) (hbig : l.length < 9223372036854775808) (hf : FnP H fv f) (K : AV → AHeap → Prop)
    (hK : ∀ z H', Keeps H H' → decide (0 ≤ z) = l.any f → K (.int .i64 z) H') : WF P0 48 [v, fv] H K := by
  obtain ⟨g, a, c, rfl, hf⟩ := hf
  have hla := hl.lenOf
  refine zWF rfl rfl rfl ?_
  simp only [a48, hla, zz, env0, aPure, aRead, aNew, aEff, aval, avals, aparts, aopt, wantedA, binA, isShift, binI, fillA, single, aRes, splice, mkv, unA, binS, sameAt, reduceCtorEq, reduceIte, Int.reduceEq, Int.reduceLT, Int.reduceLE, Int.reduceNe, Nat.reduceEqDiff, Nat.reduceLT, Nat.reduceAdd, Nat.reduceMul, Nat.reduceSub, Nat.reduceLeDiff, Int.reduceBEq, Int.reduceBNe, Nat.reduceBEq, Nat.reduceBNe, Int.reduceToNat]
  refine WCL (fun r env H' => Keeps H H' ∧ ∃ (k : Nat) (a3 a6 a7 : AV), k ≤ l.length ∧ r = l.length - k ∧ (l.take k).any f = false ∧
      env = [v, .fn g a c, .int .i64 0, a3, .int .i64 l.length, .int .i64 k, a6, a7]) (n := l.length)
    ⟨.refl _, 0, _, _, _, Nat.zero_le _, rfl, rfl, rfl⟩ ?_
  rintro r env H' ⟨hk, k, a3, a6, a7, hkl, rfl, hany, rfl⟩
  simp only [zz, env0, aPure, aRead, aNew, aEff, aval, avals, aparts, aopt, wantedA, binA, isShift, binI, fillA, single, aRes, splice, mkv, unA, binS, sameAt, reduceCtorEq, reduceIte, Int.reduceEq, Int.reduceLT, Int.reduceLE, Int.reduceNe, Nat.reduceEqDiff, Nat.reduceLT, Nat.reduceAdd, Nat.reduceMul, Nat.reduceSub, Nat.reduceLeDiff, Int.reduceBEq, Int.reduceBNe, Nat.reduceBEq, Nat.reduceBNe, Int.reduceToNat]
  refine onB_of (fun hlt => ?_) (fun hlt => ?_)
  · have hlt : k < l.length := by simpa using hlt
    obtain ⟨p, hp⟩ : ∃ p, l[k]? = some p := ⟨l[k], List.getElem?_eq_getElem (by omega)⟩
    obtain ⟨i, o, nv, rfl, hpl, hnv, hld⟩ := (Rows.keeps PzP.mono hk hl).pz hp
    have hk0 : (0 : Int) ≤ k := by omega
    have hk1 : (k : Int) < l.length := by omega
    have h9 := hld 0 9 (by omega)
    simp only [Nat.add_zero, List.drop_zero, pzRow, List.take_succ_cons, List.take_zero] at h9
    have hw : IntKind.i64.wrap ((k : Int) + 1) = ((k + 1 : Nat) : Int) := by rw [wrap_i64 (by omega) (by omega)]; rfl
    simp only [hk0, hk1, h9, kFn_at, List.append_assoc, zz, env0, aPure, aRead, aNew, aEff, aval, avals, aparts, aopt, wantedA, binA, isShift, binI, fillA, single, aRes, splice, mkv, unA, binS, sameAt, reduceCtorEq, reduceIte, Int.reduceEq, Int.reduceLT, Int.reduceLE, Int.reduceNe, Nat.reduceEqDiff, Nat.reduceLT, Nat.reduceAdd, Nat.reduceMul, Nat.reduceSub, Nat.reduceLeDiff, Int.reduceBEq, Int.reduceBNe, Nat.reduceBEq, Nat.reduceBNe, Int.reduceToNat]
    have := hf H' p nv
    simp only [pzRow, List.append_assoc] at this
    refine this _ hk hnv hpl ?_
    intro H2 hk2
    have htk : l.take (k + 1) = l.take k ++ [p] := by
      rw [List.take_succ_eq_append_getElem hlt]; congr 2
      rw [List.getElem?_eq_getElem hlt] at hp; simpa using hp
    cases hfp : f p with
    | true =>
      simp only [zz, env0, aPure, aRead, aNew, aEff, aval, avals, aparts, aopt, wantedA, binA, isShift, binI, fillA, single, aRes, splice, mkv, unA, binS, sameAt, reduceCtorEq, reduceIte, Int.reduceEq, Int.reduceLT, Int.reduceLE, Int.reduceNe, Nat.reduceEqDiff, Nat.reduceLT, Nat.reduceAdd, Nat.reduceMul, Nat.reduceSub, Nat.reduceLeDiff, Int.reduceBEq, Int.reduceBNe, Nat.reduceBEq, Nat.reduceBNe, Int.reduceToNat]
      refine hK _ _ (hk.trans hk2) ?_
      have : l.any f = true := List.any_eq_true.2 ⟨p, List.mem_iff_getElem?.2 ⟨k, hp⟩, hfp⟩
      rw [this]; simp
    | false =>
      simp only [hw, zz, env0, aPure, aRead, aNew, aEff, aval, avals, aparts, aopt, wantedA, binA, isShift, binI, fillA, single, aRes, splice, mkv, unA, binS, sameAt, reduceCtorEq, reduceIte, Int.reduceEq, Int.reduceLT, Int.reduceLE, Int.reduceNe, Nat.reduceEqDiff, Nat.reduceLT, Nat.reduceAdd, Nat.reduceMul, Nat.reduceSub, Nat.reduceLeDiff, Int.reduceBEq, Int.reduceBNe, Nat.reduceBEq, Nat.reduceBNe, Int.reduceToNat]
      exact ⟨l.length - (k + 1), by omega, hk.trans hk2, k + 1, _, _, _, by omega, rfl, by rw [htk, List.any_append, hany]; simp [hfp], rfl⟩
  · have hke : k = l.length := by simp at hlt; omega
    subst hke
    rw [List.take_length] at hany
    simp only [zz, env0, aPure, aRead, aNew, aEff, aval, avals, aparts, aopt, wantedA, binA, isShift, binI, fillA, single, aRes, splice, mkv, unA, binS, sameAt, reduceCtorEq, reduceIte, Int.reduceEq, Int.reduceLT, Int.reduceLE, Int.reduceNe, Nat.reduceEqDiff, Nat.reduceLT, Nat.reduceAdd, Nat.reduceMul, Nat.reduceSub, Nat.reduceLeDiff, Int.reduceBEq, Int.reduceBNe, Nat.reduceBEq, Nat.reduceBNe, Int.reduceToNat]
    refine hK _ _ hk ?_
    rw [hany]; rfl

theorem containsP_spec (H : AHeap) (v fv : AV) (l : List Pz) (f : Pz → Bool) (hl : Pzs H v l) (hbig : l.length < 9223372036854775808) (hf : FnP H fv f) (K : AV → AHeap → Prop)
    (hK : ∀ H', Keeps H H' → K (.bool (l.any f)) H') : WF P0 29 [v, fv] H K := by
  refine zWF rfl rfl rfl ?_
  simp only [a29, zz, env0, aPure, aRead, aNew, aEff, aval, avals, aparts, aopt, wantedA, binA, isShift, binI, fillA, single, aRes, splice, mkv, unA, binS, sameAt, reduceCtorEq, reduceIte, Int.reduceEq, Int.reduceLT, Int.reduceLE, Int.reduceNe, Nat.reduceEqDiff, Nat.reduceLT, Nat.reduceAdd, Nat.reduceMul, Nat.reduceSub, Nat.reduceLeDiff, Int.reduceBEq, Int.reduceBNe, Nat.reduceBEq, Nat.reduceBNe, Int.reduceToNat]
  refine indexP_spec _ _ _ _ _ hl hbig hf _ ?_
  intro z H' hk hz
  simp only [zz, env0, aPure, aRead, aNew, aEff, aval, avals, aparts, aopt, wantedA, binA, isShift, binI, fillA, single, aRes, splice, mkv, unA, binS, sameAt, reduceCtorEq, reduceIte, Int.reduceEq, Int.reduceLT, Int.reduceLE, Int.reduceNe, Nat.reduceEqDiff, Nat.reduceLT, Nat.reduceAdd, Nat.reduceMul, Nat.reduceSub, Nat.reduceLeDiff, Int.reduceBEq, Int.reduceBNe, Nat.reduceBEq, Nat.reduceBNe, Int.reduceToNat]
  have := hK H' hk
  rw [← hz] at this
  exact this

theorem right1_fn (H : AHeap) (bx : Nat) (fv pv : AV) (n : Nat) (hb : getB H bx = some (.cells 2 true [fv, pv])) (hn : lenOf pv = some (.int .i64 n)) :
    FnP H (.fn 30 [] [.ptr bx 0]) (fun p => !mayB n p) := by
  refine ⟨_, _, _, rfl, ?_⟩
  intro H0 p nv K hk hnv hbig hK
  refine zWF rfl rfl rfl ?_
  have hl := load_one (o := 1) (hk.get hb) rfl
  have hl2 : loadA (H0 ++ [some (.cells 9 true (pzRow p nv))]) bx 1 1 = some [pv] := (Keeps.p1 _ _).load hl
  simp only [pzRow] at hl2
  simp only [a30, pzRow, hl2, hn, zz, env0, aPure, aRead, aNew, aEff, aval, avals, aparts, aopt, wantedA, binA, isShift, binI, fillA, single, aRes, splice, mkv, unA, binS, sameAt, reduceCtorEq, reduceIte, Int.reduceEq, Int.reduceLT, Int.reduceLE, Int.reduceNe, Nat.reduceEqDiff, Nat.reduceLT, Nat.reduceAdd, Nat.reduceMul, Nat.reduceSub, Nat.reduceLeDiff, Int.reduceBEq, Int.reduceBNe, Nat.reduceBEq, Nat.reduceBNe, Int.reduceToNat]
  refine may_spec _ _ _ _ (Rows.keeps IntP.mono (.p1 _ _) hnv) hbig _ ?_
  intro H2 hk2
  simp only [zz, env0, aPure, aRead, aNew, aEff, aval, avals, aparts, aopt, wantedA, binA, isShift, binI, fillA, single, aRes, splice, mkv, unA, binS, sameAt, reduceCtorEq, reduceIte, Int.reduceEq, Int.reduceLT, Int.reduceLE, Int.reduceNe, Nat.reduceEqDiff, Nat.reduceLT, Nat.reduceAdd, Nat.reduceMul, Nat.reduceSub, Nat.reduceLeDiff, Int.reduceBEq, Int.reduceBNe, Nat.reduceBEq, Nat.reduceBNe, Int.reduceToNat]
  exact hK _ ((Keeps.p1 _ _).trans hk2)

theorem gright_spec (H : AHeap) (fv pv : AV) (first : List Int) (ps : List Pz) (hf : Ints H fv first) (hp : Pzs H pv ps) (h1 : first.length < 9223372036854775808) (h2 : ps.length < 9223372036854775808) (K : AV → AHeap → Prop)
    (hK : ∀ H', Keeps H H' → K (.bool (rightB first ps)) H') : WF P0 15 [.agg [fv, pv]] H K := by
  have hla := hp.lenOf
  refine zWF rfl rfl rfl ?_
  simp only [a15, hla, zz, env0, aPure, aRead, aNew, aEff, aval, avals, aparts, aopt, wantedA, binA, isShift, binI, fillA, single, aRes, splice, mkv, unA, binS, sameAt, reduceCtorEq, reduceIte, Int.reduceEq, Int.reduceLT, Int.reduceLE, Int.reduceNe, Nat.reduceEqDiff, Nat.reduceLT, Nat.reduceAdd, Nat.reduceMul, Nat.reduceSub, Nat.reduceLeDiff, Int.reduceBEq, Int.reduceBNe, Nat.reduceBEq, Nat.reduceBNe, Int.reduceToNat]
  by_cases c : ps.length ≤ 512
  · have d : decide (512 < (ps.length : Int)) = false := by simp; omega
    simp only [d, hla, zz, env0, aPure, aRead, aNew, aEff, aval, avals, aparts, aopt, wantedA, binA, isShift, binI, fillA, single, aRes, splice, mkv, unA, binS, sameAt, reduceCtorEq, reduceIte, Int.reduceEq, Int.reduceLT, Int.reduceLE, Int.reduceNe, Nat.reduceEqDiff, Nat.reduceLT, Nat.reduceAdd, Nat.reduceMul, Nat.reduceSub, Nat.reduceLeDiff, Int.reduceBEq, Int.reduceBNe, Nat.reduceBEq, Nat.reduceBNe, Int.reduceToNat]
    refine rises_spec _ _ _ _ (Rows.keeps IntP.mono (.p1 _ _) hf) h1 _ ?_
    cases hr : riseB ps.length (-1) first with
    | false =>
      simp only [zz, env0, aPure, aRead, aNew, aEff, aval, avals, aparts, aopt, wantedA, binA, isShift, binI, fillA, single, aRes, splice, mkv, unA, binS, sameAt, reduceCtorEq, reduceIte, Int.reduceEq, Int.reduceLT, Int.reduceLE, Int.reduceNe, Nat.reduceEqDiff, Nat.reduceLT, Nat.reduceAdd, Nat.reduceMul, Nat.reduceSub, Nat.reduceLeDiff, Int.reduceBEq, Int.reduceBNe, Nat.reduceBEq, Nat.reduceBNe, Int.reduceToNat]
      have := hK _ (Keeps.p1 H (some (.cells 2 true [fv, pv])))
      simpa [rightB, c, hr] using this
    | true =>
      simp only [zz, env0, aPure, aRead, aNew, aEff, aval, avals, aparts, aopt, wantedA, binA, isShift, binI, fillA, single, aRes, splice, mkv, unA, binS, sameAt, reduceCtorEq, reduceIte, Int.reduceEq, Int.reduceLT, Int.reduceLE, Int.reduceNe, Nat.reduceEqDiff, Nat.reduceLT, Nat.reduceAdd, Nat.reduceMul, Nat.reduceSub, Nat.reduceLeDiff, Int.reduceBEq, Int.reduceBNe, Nat.reduceBEq, Nat.reduceBNe, Int.reduceToNat]
      refine containsP_spec _ _ _ _ _ (Rows.keeps PzP.mono (.p1 _ _) hp) h2 (right1_fn _ H.length fv pv ps.length (gb_new _ _) hla) _ ?_
      intro H2 hk2
      simp only [zz, env0, aPure, aRead, aNew, aEff, aval, avals, aparts, aopt, wantedA, binA, isShift, binI, fillA, single, aRes, splice, mkv, unA, binS, sameAt, reduceCtorEq, reduceIte, Int.reduceEq, Int.reduceLT, Int.reduceLE, Int.reduceNe, Nat.reduceEqDiff, Nat.reduceLT, Nat.reduceAdd, Nat.reduceMul, Nat.reduceSub, Nat.reduceLeDiff, Int.reduceBEq, Int.reduceBNe, Nat.reduceBEq, Nat.reduceBNe, Int.reduceToNat]
      have := hK _ ((Keeps.p1 H (some (.cells 2 true [fv, pv]))).trans hk2)
      have e : (!(ps.any fun p => !mayB ps.length p)) = ps.all (mayB ps.length) := by
        rw [Bool.eq_iff_iff]; simp
      rw [e]
      simpa [rightB, c, hr] using this
  · have d : decide (512 < (ps.length : Int)) = true := by simp; omega
    simp only [d, hla, zz, env0, aPure, aRead, aNew, aEff, aval, avals, aparts, aopt, wantedA, binA, isShift, binI, fillA, single, aRes, splice, mkv, unA, binS, sameAt, reduceCtorEq, reduceIte, Int.reduceEq, Int.reduceLT, Int.reduceLE, Int.reduceNe, Nat.reduceEqDiff, Nat.reduceLT, Nat.reduceAdd, Nat.reduceMul, Nat.reduceSub, Nat.reduceLeDiff, Int.reduceBEq, Int.reduceBNe, Nat.reduceBEq, Nat.reduceBNe, Int.reduceToNat]
    have := hK _ (Keeps.p1 H (some (.cells 2 true [fv, pv])))
    simpa [rightB, c] using this

theorem rright_spec (H : AHeap) (fv pv : AV) (first : List Int) (ps : List Pz) (hf : Ints H fv first) (hp : Pzs H pv ps) (h1 : first.length < 9223372036854775808) (h2 : ps.length < 9223372036854775808) (K : AV → AHeap → Prop)
    (hK : ∀ H', Keeps H H' → K (.bool (rightB first ps)) H') : WF P0 16 [.agg [fv, pv]] H K := by
  have hla := hp.lenOf
  refine zWF rfl rfl rfl ?_
  simp only [a16, hla, zz, env0, aPure, aRead, aNew, aEff, aval, avals, aparts, aopt, wantedA, binA, isShift, binI, fillA, single, aRes, splice, mkv, unA, binS, sameAt, reduceCtorEq, reduceIte, Int.reduceEq, Int.reduceLT, Int.reduceLE, Int.reduceNe, Nat.reduceEqDiff, Nat.reduceLT, Nat.reduceAdd, Nat.reduceMul, Nat.reduceSub, Nat.reduceLeDiff, Int.reduceBEq, Int.reduceBNe, Nat.reduceBEq, Nat.reduceBNe, Int.reduceToNat]
  by_cases c : ps.length ≤ 512
  case neg =>
    have d : decide (512 < (ps.length : Int)) = true := by simp; omega
    simp only [d, hla, zz, env0, aPure, aRead, aNew, aEff, aval, avals, aparts, aopt, wantedA, binA, isShift, binI, fillA, single, aRes, splice, mkv, unA, binS, sameAt, reduceCtorEq, reduceIte, Int.reduceEq, Int.reduceLT, Int.reduceLE, Int.reduceNe, Nat.reduceEqDiff, Nat.reduceLT, Nat.reduceAdd, Nat.reduceMul, Nat.reduceSub, Nat.reduceLeDiff, Int.reduceBEq, Int.reduceBNe, Nat.reduceBEq, Nat.reduceBNe, Int.reduceToNat]
    have := hK _ (Keeps.p1 H (some (.cells 2 true [fv, pv])))
    simpa [rightB, c] using this
  have d : decide (512 < (ps.length : Int)) = false := by simp; omega
  simp only [d, hla, zz, env0, aPure, aRead, aNew, aEff, aval, avals, aparts, aopt, wantedA, binA, isShift, binI, fillA, single, aRes, splice, mkv, unA, binS, sameAt, reduceCtorEq, reduceIte, Int.reduceEq, Int.reduceLT, Int.reduceLE, Int.reduceNe, Nat.reduceEqDiff, Nat.reduceLT, Nat.reduceAdd, Nat.reduceMul, Nat.reduceSub, Nat.reduceLeDiff, Int.reduceBEq, Int.reduceBNe, Nat.reduceBEq, Nat.reduceBNe, Int.reduceToNat]
  refine rrises_spec _ _ _ _ (Rows.keeps IntP.mono (.p1 _ _) hf) h1 _ ?_
  cases hr : riseB ps.length (-1) first with
  | false =>
    simp only [zz, env0, aPure, aRead, aNew, aEff, aval, avals, aparts, aopt, wantedA, binA, isShift, binI, fillA, single, aRes, splice, mkv, unA, binS, sameAt, reduceCtorEq, reduceIte, Int.reduceEq, Int.reduceLT, Int.reduceLE, Int.reduceNe, Nat.reduceEqDiff, Nat.reduceLT, Nat.reduceAdd, Nat.reduceMul, Nat.reduceSub, Nat.reduceLeDiff, Int.reduceBEq, Int.reduceBNe, Nat.reduceBEq, Nat.reduceBNe, Int.reduceToNat]
    have := hK _ (Keeps.p1 H (some (.cells 2 true [fv, pv])))
    simpa [rightB, c, hr] using this
  | true =>
    simp only [zz, env0, aPure, aRead, aNew, aEff, aval, avals, aparts, aopt, wantedA, binA, isShift, binI, fillA, single, aRes, splice, mkv, unA, binS, sameAt, reduceCtorEq, reduceIte, Int.reduceEq, Int.reduceLT, Int.reduceLE, Int.reduceNe, Nat.reduceEqDiff, Nat.reduceLT, Nat.reduceAdd, Nat.reduceMul, Nat.reduceSub, Nat.reduceLeDiff, Int.reduceBEq, Int.reduceBNe, Nat.reduceBEq, Nat.reduceBNe, Int.reduceToNat]
    refine WCL (fun r env H' => Keeps (H ++ [some (.cells 2 true [fv, pv])]) H' ∧ ∃ (k : Nat) (a4 a5 a6 a7 : AV), k ≤ ps.length ∧ r = ps.length - k ∧ (ps.take k).all (mayB ps.length) = true ∧
        env = [.agg [fv, pv], .ptr H.length 0, .bool false, .int .i64 k, a4, a5, a6, a7]) (n := ps.length)
      ⟨.refl _, 0, _, _, _, _, Nat.zero_le _, rfl, rfl, rfl⟩ ?_
    rintro r env H' ⟨hk, k, a4, a5, a6, a7, hkl, rfl, hall, rfl⟩
    have hkH : Keeps H H' := (Keeps.p1 _ _).trans hk
    have hb := hk.get (gb_new H _)
    have hb0 : loadA H' H.length 1 1 = some [pv] := load_one hb rfl
    simp only [hb0, hla, zz, env0, aPure, aRead, aNew, aEff, aval, avals, aparts, aopt, wantedA, binA, isShift, binI, fillA, single, aRes, splice, mkv, unA, binS, sameAt, reduceCtorEq, reduceIte, Int.reduceEq, Int.reduceLT, Int.reduceLE, Int.reduceNe, Nat.reduceEqDiff, Nat.reduceLT, Nat.reduceAdd, Nat.reduceMul, Nat.reduceSub, Nat.reduceLeDiff, Int.reduceBEq, Int.reduceBNe, Nat.reduceBEq, Nat.reduceBNe, Int.reduceToNat]
    refine onB_of (fun hlt => ?_) (fun hlt => ?_)
    · have hlt : k < ps.length := by simpa using hlt
      obtain ⟨p, hpk⟩ : ∃ p, ps[k]? = some p := ⟨ps[k], List.getElem?_eq_getElem (by omega)⟩
      obtain ⟨i, o, nv, rfl, hpl, hnv, hld⟩ := (Rows.keeps PzP.mono hkH hp).pz hpk
      have hk0 : (0 : Int) ≤ k := by omega
      have hk1 : (k : Int) < ps.length := by omega
      have h9 := hld 0 9 (by omega)
      simp only [Nat.add_zero, List.drop_zero, pzRow, List.take_succ_cons, List.take_zero] at h9
      have f1 := hnv.flat.1
      have hw : IntKind.i64.wrap ((k : Int) + 1) = ((k + 1 : Nat) : Int) := by rw [wrap_i64 (by omega) (by omega)]; rfl
      have he : (p.s0 == 0 && (p.s1 == 0 && (p.s2 == 0 && p.s3 == 0))) = p.empty := by simp only [Pz.empty, ieq]
      have htk : ps.take (k + 1) = ps.take k ++ [p] := by
        rw [List.take_succ_eq_append_getElem hlt]; congr 2
        rw [List.getElem?_eq_getElem hlt] at hpk; simpa using hpk
      have hno : mayB ps.length p = false → rightB first ps = false := fun hm => by
        have : ps.all (mayB ps.length) = false := List.all_eq_false.2 ⟨p, List.mem_iff_getElem?.2 ⟨k, hpk⟩, by simp [hm]⟩
        simp [rightB, this]
      have hb1 : ∀ b, loadA (H' ++ [b]) H.length 1 1 = some [.sl i o ps.length] := fun b => (Keeps.p1 _ _).load hb0
      have stop : mayB ps.length p = false → ∀ H3, Keeps H' H3 → K (.bool false) H3 := fun hm H3 h3 => by
        have := hK H3 (hkH.trans h3)
        rwa [hno hm] at this
      rcases Bool.eq_false_or_eq_true p.empty with c0 | c0
      · simp only [hb0, hk0, hk1, h9, f1, he, c0, zz, env0, aPure, aRead, aNew, aEff, aval, avals, aparts, aopt, wantedA, binA, isShift, binI, fillA, single, aRes, splice, mkv, unA, binS, sameAt, reduceCtorEq, reduceIte, Int.reduceEq, Int.reduceLT, Int.reduceLE, Int.reduceNe, Nat.reduceEqDiff, Nat.reduceLT, Nat.reduceAdd, Nat.reduceMul, Nat.reduceSub, Nat.reduceLeDiff, Int.reduceBEq, Int.reduceBNe, Nat.reduceBEq, Nat.reduceBNe, Int.reduceToNat]
        exact stop (by simp [mayB, c0]) _ (.p1 _ _)
      by_cases c1 : p.lo < 1
      · simp only [hb0, hk0, hk1, h9, f1, he, c0, c1, decide_true, zz, env0, aPure, aRead, aNew, aEff, aval, avals, aparts, aopt, wantedA, binA, isShift, binI, fillA, single, aRes, splice, mkv, unA, binS, sameAt, reduceCtorEq, reduceIte, Int.reduceEq, Int.reduceLT, Int.reduceLE, Int.reduceNe, Nat.reduceEqDiff, Nat.reduceLT, Nat.reduceAdd, Nat.reduceMul, Nat.reduceSub, Nat.reduceLeDiff, Int.reduceBEq, Int.reduceBNe, Nat.reduceBEq, Nat.reduceBNe, Int.reduceToNat]
        exact stop (by simp [mayB]; omega) _ (.p1 _ _)
      by_cases c2 : p.hi < p.lo
      · simp only [hb0, hk0, hk1, h9, f1, he, c0, c1, c2, decide_true, decide_false, zz, env0, aPure, aRead, aNew, aEff, aval, avals, aparts, aopt, wantedA, binA, isShift, binI, fillA, single, aRes, splice, mkv, unA, binS, sameAt, reduceCtorEq, reduceIte, Int.reduceEq, Int.reduceLT, Int.reduceLE, Int.reduceNe, Nat.reduceEqDiff, Nat.reduceLT, Nat.reduceAdd, Nat.reduceMul, Nat.reduceSub, Nat.reduceLeDiff, Int.reduceBEq, Int.reduceBNe, Nat.reduceBEq, Nat.reduceBNe, Int.reduceToNat]
        exact stop (by simp [mayB]; omega) _ (.p1 _ _)
      by_cases c3 : 4096 < p.hi
      · simp only [hb0, hk0, hk1, h9, f1, he, c0, c1, c2, c3, decide_true, decide_false, zz, env0, aPure, aRead, aNew, aEff, aval, avals, aparts, aopt, wantedA, binA, isShift, binI, fillA, single, aRes, splice, mkv, unA, binS, sameAt, reduceCtorEq, reduceIte, Int.reduceEq, Int.reduceLT, Int.reduceLE, Int.reduceNe, Nat.reduceEqDiff, Nat.reduceLT, Nat.reduceAdd, Nat.reduceMul, Nat.reduceSub, Nat.reduceLeDiff, Int.reduceBEq, Int.reduceBNe, Nat.reduceBEq, Nat.reduceBNe, Int.reduceToNat]
        exact stop (by simp [mayB]; omega) _ (.p1 _ _)
      by_cases c4 : p.rule < 0
      · simp only [hb0, hk0, hk1, h9, f1, he, c0, c1, c2, c3, c4, decide_true, decide_false, zz, env0, aPure, aRead, aNew, aEff, aval, avals, aparts, aopt, wantedA, binA, isShift, binI, fillA, single, aRes, splice, mkv, unA, binS, sameAt, reduceCtorEq, reduceIte, Int.reduceEq, Int.reduceLT, Int.reduceLE, Int.reduceNe, Nat.reduceEqDiff, Nat.reduceLT, Nat.reduceAdd, Nat.reduceMul, Nat.reduceSub, Nat.reduceLeDiff, Int.reduceBEq, Int.reduceBNe, Nat.reduceBEq, Nat.reduceBNe, Int.reduceToNat]
        exact stop (by simp [mayB]; omega) _ (.p1 _ _)
      by_cases c5 : 512 ≤ p.rule
      · simp only [hb0, hk0, hk1, h9, f1, he, c0, c1, c2, c3, c4, c5, decide_true, decide_false, zz, env0, aPure, aRead, aNew, aEff, aval, avals, aparts, aopt, wantedA, binA, isShift, binI, fillA, single, aRes, splice, mkv, unA, binS, sameAt, reduceCtorEq, reduceIte, Int.reduceEq, Int.reduceLT, Int.reduceLE, Int.reduceNe, Nat.reduceEqDiff, Nat.reduceLT, Nat.reduceAdd, Nat.reduceMul, Nat.reduceSub, Nat.reduceLeDiff, Int.reduceBEq, Int.reduceBNe, Nat.reduceBEq, Nat.reduceBNe, Int.reduceToNat]
        exact stop (by simp [mayB]; omega) _ (.p1 _ _)
      simp only [hb0, hk0, hk1, h9, f1, he, c0, c1, c2, c3, c4, c5, decide_true, decide_false, hb1, hla, zz, env0, aPure, aRead, aNew, aEff, aval, avals, aparts, aopt, wantedA, binA, isShift, binI, fillA, single, aRes, splice, mkv, unA, binS, sameAt, reduceCtorEq, reduceIte, Int.reduceEq, Int.reduceLT, Int.reduceLE, Int.reduceNe, Nat.reduceEqDiff, Nat.reduceLT, Nat.reduceAdd, Nat.reduceMul, Nat.reduceSub, Nat.reduceLeDiff, Int.reduceBEq, Int.reduceBNe, Nat.reduceBEq, Nat.reduceBNe, Int.reduceToNat]
      refine rrises_spec _ _ _ _ (Rows.keeps IntP.mono (.p1 _ _) hnv) hpl _ ?_
      cases hq : riseB ps.length (-1) p.next with
      | false =>
        simp only [zz, env0, aPure, aRead, aNew, aEff, aval, avals, aparts, aopt, wantedA, binA, isShift, binI, fillA, single, aRes, splice, mkv, unA, binS, sameAt, reduceCtorEq, reduceIte, Int.reduceEq, Int.reduceLT, Int.reduceLE, Int.reduceNe, Nat.reduceEqDiff, Nat.reduceLT, Nat.reduceAdd, Nat.reduceMul, Nat.reduceSub, Nat.reduceLeDiff, Int.reduceBEq, Int.reduceBNe, Nat.reduceBEq, Nat.reduceBNe, Int.reduceToNat]
        exact stop (by simp [mayB, hq]) _ (.p1 _ _)
      | true =>
        simp only [hw, zz, env0, aPure, aRead, aNew, aEff, aval, avals, aparts, aopt, wantedA, binA, isShift, binI, fillA, single, aRes, splice, mkv, unA, binS, sameAt, reduceCtorEq, reduceIte, Int.reduceEq, Int.reduceLT, Int.reduceLE, Int.reduceNe, Nat.reduceEqDiff, Nat.reduceLT, Nat.reduceAdd, Nat.reduceMul, Nat.reduceSub, Nat.reduceLeDiff, Int.reduceBEq, Int.reduceBNe, Nat.reduceBEq, Nat.reduceBNe, Int.reduceToNat]
        refine ⟨ps.length - (k + 1), by omega, hk.trans (.p1 _ _), k + 1, _, _, _, _, by omega, rfl, ?_, rfl⟩
        rw [htk, List.all_append, hall]
        simp [mayB, c0, hq]; omega
    · have hke : k = ps.length := by simp at hlt; omega
      subst hke
      rw [List.take_length] at hall
      simp only [zz, env0, aPure, aRead, aNew, aEff, aval, avals, aparts, aopt, wantedA, binA, isShift, binI, fillA, single, aRes, splice, mkv, unA, binS, sameAt, reduceCtorEq, reduceIte, Int.reduceEq, Int.reduceLT, Int.reduceLE, Int.reduceNe, Nat.reduceEqDiff, Nat.reduceLT, Nat.reduceAdd, Nat.reduceMul, Nat.reduceSub, Nat.reduceLeDiff, Int.reduceBEq, Int.reduceBNe, Nat.reduceBEq, Nat.reduceBNe, Int.reduceToNat]
      have := hK _ hkH
      simpa [rightB, c, hr, hall] using this
end Go.Proofs.Ythpccdggbechmaa
