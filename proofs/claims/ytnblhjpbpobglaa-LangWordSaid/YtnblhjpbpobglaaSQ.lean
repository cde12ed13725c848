/- LangWord: the tree of a row of bytes, and the law's run. -/
import Derived.Test.YtnblhjpbpobglaaSO
import Derived.Test.YtnblhjpbpobglaaSP
set_option maxRecDepth 100000
set_option linter.unusedSimpArgs false
namespace Go.Proofs.Ytnblhjpbpobglaa
open Go.Am

/-- A node of one byte. -/
def bnd (c : UInt8) : Nd := ⟨2, if c.toNat / 64 = 0 then 2 ^ (c.toNat % 64) else 0, if c.toNat / 64 = 1 then 2 ^ (c.toNat % 64) else 0,
  if c.toNat / 64 = 2 then 2 ^ (c.toNat % 64) else 0, if c.toNat / 64 = 3 then 2 ^ (c.toNat % 64) else 0, [], 0, 0, []⟩
def catNd (n : Nat) : Nd := { op := 3, s0 := 0, s1 := 0, s2 := 0, s3 := 0, kids := nts (List.range n), lo := 0, hi := 0, name := [] }
def wordT (x : List UInt8) : List Nd := x.map bnd ++ [catNd x.length]

theorem pow_bit (p q : Nat) : ((2 : Int) ^ p / 2 ^ q) % 2 = 1 ↔ p = q := by
  have hq : (0 : Int) < 2 ^ q := Int.pow_pos (by decide)
  constructor
  · intro h
    rcases Nat.lt_trichotomy p q with h1 | h1 | h1
    · have : (2 : Int) ^ p < 2 ^ q := by exact_mod_cast Nat.pow_lt_pow_right (by decide) h1
      rw [Int.ediv_eq_zero_of_lt (Int.le_of_lt (Int.pow_pos (by decide))) this] at h
      simp at h
    · exact h1
    · obtain ⟨d, rfl⟩ : ∃ d, p = q + d + 1 := ⟨p - q - 1, by omega⟩
      have : (2 : Int) ^ (q + d + 1) = 2 ^ q * (2 ^ d * 2) := by rw [Int.pow_succ, Int.pow_add, Int.mul_assoc]
      rw [this, Int.mul_ediv_cancel_left _ (by omega)] at h
      omega
  · rintro rfl
    rw [Int.ediv_self (by omega)]; rfl

theorem pow_lt64 (p : Nat) (h : p < 64) : (0 : Int) < 2 ^ p ∧ (2 : Int) ^ p < 18446744073709551616 := by
  refine ⟨Int.pow_pos (by decide), ?_⟩
  have : (2 : Nat) ^ p < 2 ^ 64 := Nat.pow_lt_pow_right (by decide) h
  have h2 : ((2 ^ p : Nat) : Int) < ((2 ^ 64 : Nat) : Int) := by exact_mod_cast this
  simpa using h2

theorem bnd_has (a c : UInt8) : ndHas (bnd a) c ↔ c = a := by
  have ha : a.toNat < 256 := a.toNat_lt
  have hc : c.toNat < 256 := c.toNat_lt
  have key : c = a ↔ c.toNat / 64 = a.toNat / 64 ∧ a.toNat % 64 = c.toNat % 64 := by
    constructor
    · rintro rfl; exact ⟨rfl, rfl⟩
    · rintro ⟨h1, h2⟩; apply UInt8.toNat_inj.1; omega
  rw [key]
  have hz : ∀ q : Nat, ((0 : Int) / 2 ^ q) % 2 = 1 ↔ False := fun q => by simp
  have pick : ∀ q : Nat, c.toNat / 64 = q → (((if a.toNat / 64 = q then (2 : Int) ^ (a.toNat % 64) else 0) / 2 ^ (c.toNat % 64)) % 2 = 1 ↔ c.toNat / 64 = a.toNat / 64 ∧ a.toNat % 64 = c.toNat % 64) := fun q hq => by
    by_cases h : a.toNat / 64 = q
    · rw [if_pos h, pow_bit]
      constructor
      · intro e; exact ⟨by omega, e⟩
      · exact fun e => e.2
    · rw [if_neg h, hz]
      constructor
      · exact False.elim
      · rintro ⟨e, _⟩; omega
  simp only [ndHas, SetHas, setW, bnd]
  split
  · exact pick 0 (by omega)
  split
  · exact pick 1 (by omega)
  split
  · exact pick 2 (by omega)
  · exact pick 3 (by omega)

theorem bnd_ok (c : UInt8) : (bnd c).Ok := by
  have h := pow_lt64 (c.toNat % 64) (by omega)
  have hs : ∀ q : Nat, u64In (if c.toNat / 64 = q then (2 : Int) ^ (c.toNat % 64) else 0) := fun q => by
    split
    · exact ⟨Int.le_of_lt h.1, h.2⟩
    · exact ⟨by omega, by omega⟩
  exact ⟨⟨by simp [bnd], by simp [bnd]⟩, hs 0, hs 1, hs 2, hs 3, by simp [bnd], ⟨by simp [bnd], by simp [bnd]⟩, ⟨by simp [bnd], by simp [bnd]⟩, by simp [bnd], by simp [bnd]⟩
theorem bnd_shaped (c : UInt8) : Shaped (bnd c) := by
  refine .inr (.inl ⟨rfl, ?_, rfl, rfl, rfl, rfl⟩)
  have h := pow_lt64 (c.toNat % 64) (by omega)
  have hc : c.toNat < 256 := c.toNat_lt
  rintro ⟨h0, h1, h2, h3⟩
  simp only [bnd] at h0 h1 h2 h3
  have hcase : c.toNat / 64 = 0 ∨ c.toNat / 64 = 1 ∨ c.toNat / 64 = 2 ∨ c.toNat / 64 = 3 := by omega
  rcases hcase with e | e | e | e
  · rw [if_pos e] at h0; omega
  · rw [if_pos e] at h1; omega
  · rw [if_pos e] at h2; omega
  · rw [if_pos e] at h3; omega

theorem snoc_ind' {α : Type} {P : List α → Prop} (h0 : P []) (h1 : ∀ l x, P l → P (l ++ [x])) : ∀ l, P l := by
  intro l
  have : ∀ n (l : List α), l.length = n → P l := by
    intro n
    induction n with
    | zero => intro l hl; rw [List.length_eq_zero_iff.1 hl]; exact h0
    | succ n ih =>
      intro l hl
      have hne : l ≠ [] := by intro e; subst e; simp at hl
      rw [← List.dropLast_concat_getLast hne]
      exact h1 _ _ (ih _ (by simp [hl]))
  exact this _ l rfl

theorem stk_bytes (x : List UInt8) : Stk (x.map bnd) (nts (List.range x.length)) := by
  refine snoc_ind' (P := fun x => Stk (x.map bnd) (nts (List.range x.length))) .nil (fun l c ih => ?_) x
  rw [List.map_append, List.length_append, List.length_singleton, List.range_succ, nts, List.map_append]
  have := Stk.snoc (st := nts (List.range l.length)) (n := bnd c) (by simpa [bnd] using ih) (bnd_shaped c)
  simpa [nts] using this

theorem word_right (x : List UInt8) (h2 : 2 ≤ x.length) (h3 : x.length ≤ 1000) : RightT (wordT x) ∧ NoRef (wordT x) := by
  refine ⟨⟨by simp [wordT], by simp [wordT]; omega, x.length, ?_⟩, fun n hn => ?_⟩
  · have := Stk.snoc (st := []) (n := catNd x.length) (by simpa [catNd] using stk_bytes x) (.inr (.inr (.inl ⟨.inl rfl, ⟨rfl, rfl, rfl, rfl⟩, by simp [catNd, nts]; omega, rfl, rfl, rfl⟩)))
    simpa [wordT] using this
  · simp only [wordT, List.mem_append, List.mem_map, List.mem_singleton] at hn
    rcases hn with ⟨c, _, rfl⟩ | rfl
    · simp [bnd]
    · simp [catNd]

theorem chain_bytes (y : List UInt8) : ∀ (x : List UInt8) (i j : Nat), chain (x.map fun a => fun i j => y[i]? = some a ∧ j = i + 1) i j ↔ j = i + x.length ∧ x <+: y.drop i
  | [], i, j => by simp [chain]; exact eq_comm
  | a :: x, i, j => by
    simp only [List.map_cons, chain, List.length_cons, chain_bytes y x]
    constructor
    · rintro ⟨m, ⟨h1, rfl⟩, rfl, h2⟩
      refine ⟨by omega, ?_⟩
      have hi : i < y.length := by
        rcases Nat.lt_or_ge i y.length with h | h
        · exact h
        · rw [List.getElem?_eq_none h] at h1; simp at h1
      rw [List.drop_eq_getElem_cons hi, List.cons_prefix_cons]
      rw [List.getElem?_eq_getElem hi] at h1
      simp only [Option.some.injEq] at h1
      exact ⟨h1.symm, h2⟩
    · rintro ⟨rfl, h⟩
      have hi : i < y.length := by
        rcases Nat.lt_or_ge i y.length with h' | h'
        · exact h'
        · rw [List.drop_of_length_le h'] at h; simp at h
      rw [List.drop_eq_getElem_cons hi, List.cons_prefix_cons] at h
      exact ⟨i + 1, ⟨by rw [List.getElem?_eq_getElem hi, h.1], rfl⟩, by omega, h.2⟩

theorem word_den (x y : List UInt8) (i j : Nat) : den (wordT x) y ((wordT x).length - 1) i j ↔ j = i + x.length ∧ x <+: y.drop i := by
  have hlen : (wordT x).length - 1 = x.length := by simp [wordT]
  rw [hlen, den_eq (wordT x) y x.length (catNd x.length) (by simp [wordT])]
  rw [if_neg (by simp [catNd]), if_pos (by simp [catNd]), ← chain_bytes]
  have e : (catNd x.length).kids.map (kidDen (wordT x) y x.length) = x.map fun a => fun i j => y[i]? = some a ∧ j = i + 1 := by
    apply List.ext_getElem?
    intro k
    simp only [catNd, nts, List.map_map, List.getElem?_map]
    rcases Nat.lt_or_ge k x.length with hk | hk
    · rw [List.getElem?_range hk, List.getElem?_eq_getElem hk]
      simp only [Option.map_some, Option.some.injEq, Function.comp]
      funext i j
      have e2 : (Int.ofNat k).toNat = k := rfl
      simp only [kidDen, e2, if_pos hk]
      apply propext
      rw [den_eq (wordT x) y k (bnd x[k]) (by rw [wordT, List.getElem?_append_left (by simpa using hk)]; simp [hk])]
      rw [if_pos (by rfl)]
      constructor
      · rintro ⟨⟨c, h1, h2⟩, h3⟩; rw [bnd_has] at h2; subst h2; exact ⟨h1, h3⟩
      · rintro ⟨h1, h3⟩; exact ⟨⟨x[k], h1, (bnd_has _ _).2 rfl⟩, h3⟩
    · rw [List.getElem?_eq_none (by simpa using hk), List.getElem?_eq_none hk]; rfl
  rw [e]

theorem one_place {ms : List Nat} {m p : Nat} (hp : Pls ms m) (h : ∀ j, j ∈ ms ↔ j = p) : ms = [p] :=
  sorted_ext hp.1 (by simp) (fun x => by rw [h]; simp)
end Go.Proofs.Ytnblhjpbpobglaa
