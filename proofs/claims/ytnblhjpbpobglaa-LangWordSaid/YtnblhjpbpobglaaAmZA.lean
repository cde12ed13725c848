/- Facts for walks through compact code: heaps that grow, slices of one's own, numbers in range. -/
import Derived.Test.YtnblhjpbpobglaaAmZ
namespace Go.Am

/-- What is there stays. -/
def Keeps (H H' : AHeap) : Prop := H.length ≤ H'.length ∧ ∀ i b, getB H i = some b → getB H' i = some b

theorem Keeps.refl (H : AHeap) : Keeps H H := ⟨Nat.le_refl _, fun _ _ h => h⟩
theorem Keeps.trans {a b c : AHeap} (h : Keeps a b) (k : Keeps b c) : Keeps a c := ⟨Nat.le_trans h.1 k.1, fun i x hx => k.2 i x (h.2 i x hx)⟩

theorem gb_lt {H : AHeap} {i : Nat} {b : Blk} (h : getB H i = some b) : i < H.length := by
  unfold getB at h
  rcases Nat.lt_or_ge i H.length with h' | h'
  · exact h'
  · rw [List.getElem?_eq_none h'] at h; simp at h
theorem gb_new (H : AHeap) (b : Option Blk) : getB (H ++ [b]) H.length = b := by unfold getB; simp
theorem gb_old {H : AHeap} {i : Nat} (b : Option Blk) (h : i < H.length) : getB (H ++ [b]) i = getB H i := by
  unfold getB; rw [List.getElem?_append_left h]
theorem gb_set {H : AHeap} {i : Nat} (b : Option Blk) (h : i < H.length) : getB (H.set i b) i = b := by unfold getB; simp [h]
theorem gb_set_ne {H : AHeap} {i j : Nat} (b : Option Blk) (h : i ≠ j) : getB (H.set i b) j = getB H j := by unfold getB; rw [List.getElem?_set_ne h]

theorem Keeps.push (H : AHeap) (b : Option Blk) : Keeps H (H ++ [b]) := ⟨by simp, fun i x h => by rw [gb_old b (gb_lt h)]; exact h⟩
theorem Keeps.pushed {H0 H : AHeap} (h : Keeps H0 H) (b : Option Blk) : Keeps H0 (H ++ [b]) := h.trans (.push H b)
theorem Keeps.set {H0 H : AHeap} (h : Keeps H0 H) {i : Nat} (hi : H0.length ≤ i) (b : Option Blk) : Keeps H0 (H.set i b) :=
  ⟨by simpa using h.1, fun j x hx => by rw [gb_set_ne b (by have := gb_lt hx; omega)]; exact h.2 j x hx⟩
theorem Keeps.load {H H' : AHeap} (h : Keeps H H') {i o n : Nat} {cs : List AV} (hl : loadA H i o n = some cs) : loadA H' i o n = some cs := by
  unfold loadA at *
  cases hb : getB H i with
  | none => rw [hb] at hl; simp at hl
  | some b => rw [h.2 i b hb]; rw [hb] at hl; exact hl

theorem load_at {H : AHeap} {i sz o n : Nat} {rw : Bool} {cs : List AV} (h : getB H i = some (.cells sz rw cs)) (hl : o + n ≤ cs.length) : loadA H i o n = some ((cs.drop o).take n) := by
  simp [loadA, h, hl]
theorem load_one {H : AHeap} {i sz o : Nat} {rw : Bool} {cs : List AV} {c : AV} (h : getB H i = some (.cells sz rw cs)) (hc : cs[o]? = some c) : loadA H i o 1 = some [c] := by
  have ho : o < cs.length := by
    rcases Nat.lt_or_ge o cs.length with h | h
    · exact h
    · rw [List.getElem?_eq_none h] at hc; simp at hc
  rw [load_at h (by omega)]
  rw [List.drop_eq_getElem_cons ho]
  rw [List.getElem?_eq_getElem ho] at hc
  simp only [Option.some.injEq] at hc
  simp [hc]

/-- A slice of one's own, as it is built by append: its cells. -/
def Own (H : AHeap) (b sz : Nat) (v : AV) (cs : List AV) : Prop :=
  (v = .nilsl ∧ cs = []) ∨ ∃ i n, v = .sl i 0 n ∧ b ≤ i ∧ cs.length = n * sz ∧ getB H i = some (.cells sz true cs)

theorem Own.nil (H : AHeap) (b sz : Nat) : Own H b sz .nilsl [] := .inl ⟨rfl, rfl⟩

def avId : AV → Option Nat
  | .ptr i _ | .sl i _ _ | .map i => some i
  | _ => none

/-- What a step leaves: all blocks but one. -/
def Else (H H' : AHeap) (x : Option Nat) : Prop := H.length ≤ H'.length ∧ ∀ i b, x ≠ some i → getB H i = some b → getB H' i = some b

theorem Own.keep {H H' : AHeap} {b sz : Nat} {v : AV} {cs : List AV} (h : Own H b sz v cs) (hE : ∀ i, avId v = some i → ∀ q, getB H i = some q → getB H' i = some q) : Own H' b sz v cs := by
  rcases h with h | ⟨i, n, rfl, h2, h3, h4⟩
  · exact .inl h
  · exact .inr ⟨i, n, rfl, h2, h3, hE i rfl _ h4⟩

theorem own_append {H : AHeap} {b sz bytes k : Nat} {v x : AV} {cs xs : List AV} (hO : Own H b sz v cs) (hb : b ≤ H.length) (hsz : 0 < sz) (hx : cellsOfSrc H sz x = some (k, xs)) (hxl : xs.length = k * sz)
    (hone : xs.all AV.one = true) (hfit : (cs.length / sz + k) * bytes ≤ maxRoom) :
    ∃ v' H', appendA H sz bytes v x = some (v', H') ∧ Own H' b sz v' (cs ++ xs) ∧ Else H H' (avId v) ∧ (∀ i, avId v' = some i → avId v = some i ∨ H.length ≤ i) := by
  rcases hO with ⟨rfl, rfl⟩ | ⟨i, n, rfl, h2, h3, h4⟩
  · by_cases hk : k = 0
    · subst hk
      have : xs = [] := List.length_eq_zero_iff.1 (by simpa using hxl)
      subst this
      exact ⟨.nilsl, H, by simp [appendA, hx], .inl ⟨rfl, rfl⟩, ⟨Nat.le_refl _, fun _ _ _ h => h⟩, by simp [avId]⟩
    · refine ⟨.sl H.length 0 k, H ++ [some (.cells sz true xs)], ?_, .inr ⟨H.length, k, rfl, hb, by simpa using hxl, gb_new _ _⟩, ⟨by simp, fun i q _ h => by rw [gb_old _ (gb_lt h)]; exact h⟩, fun i hi => .inr (by simp [avId] at hi; omega)⟩
      simp only [List.length_nil, Nat.zero_div, Nat.zero_add] at hfit
      simp [appendA, hx, hk, hfit]
  · have hn : cs.length / sz = n := by rw [h3]; exact Nat.mul_div_cancel n hsz
    rw [hn] at hfit
    by_cases hk : k = 0
    · subst hk
      have : xs = [] := List.length_eq_zero_iff.1 (by simpa using hxl)
      subst this
      exact ⟨.sl i 0 n, H, by simp [appendA, hx], .inr ⟨i, n, rfl, h2, by simpa using h3, by simpa using h4⟩, ⟨Nat.le_refl _, fun _ _ _ h => h⟩, by simp [avId]⟩
    · have hi := gb_lt h4
      refine ⟨.sl H.length 0 (n + k), H.set i none ++ [some (.cells sz true (cs ++ xs))], ?_, .inr ⟨H.length, n + k, rfl, hb, by rw [List.length_append, h3, hxl, Nat.add_mul], ?_⟩,
        ⟨by simp, fun j q hj h => ?_⟩, fun i hi => .inr (by simp [avId] at hi; omega)⟩
      · simp only [appendA, hx, hk, if_false, h4]
        rw [if_pos ⟨trivial, by omega, hfit, hone⟩]
        rw [List.drop_zero, List.take_of_length_le (by omega)]
      · have := gb_new (H.set i none) (some (.cells sz true (cs ++ xs)))
        rwa [List.length_set] at this
      · have hj' : i ≠ j := fun e => hj (by simp [avId, e])
        rw [gb_old _ (by rw [List.length_set]; exact gb_lt h), gb_set_ne _ hj']; exact h

/-- What is appended: a literal of one's own just made. -/
theorem src_new (H : AHeap) (sz n : Nat) (cs : List AV) (h : cs.length = n * sz) : cellsOfSrc (H ++ [some (.cells sz true cs)]) sz (.sl H.length 0 n) = some (n, cs) := by
  simp only [cellsOfSrc, gb_new]
  rw [if_pos ⟨trivial, by omega⟩, List.drop_zero, List.take_of_length_le (by omega)]

theorem wrap_i64 {x : Int} (h1 : -9223372036854775808 ≤ x) (h2 : x < 9223372036854775808) : IntKind.i64.wrap x = x := by
  simp [IntKind.wrap, IntKind.signed, IntKind.bits]; omega
theorem wrap_u8 {x : Int} (h1 : 0 ≤ x) (h2 : x < 256) : IntKind.u8.wrap x = x := by
  simp [IntKind.wrap, IntKind.signed, IntKind.bits]; omega
theorem wrap_u64 {x : Int} (h1 : 0 ≤ x) (h2 : x < 18446744073709551616) : IntKind.u64.wrap x = x := by
  simp [IntKind.wrap, IntKind.signed, IntKind.bits]; omega

theorem ieq (a b : Int) : (a == b) = decide (a = b) := by
  by_cases h : a = b <;> simp [h]
theorem ine (a b : Int) : (a != b) = !decide (a = b) := by
  by_cases h : a = b <;> simp [h]

end Go.Am
