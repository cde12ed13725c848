/- Texts put to one: SQ SS ST SU SV SX SY SZ TA TB TM TN. -/
import Derived.Test.YtnblhjpbpobglaaM4

/- LangWord: the tree of a row of bytes, and the law's run. -/
set_option maxRecDepth 100000
set_option linter.unusedSimpArgs false
namespace Go.Proofs.Ytnblhjpbpobglaa
open Go.Am

/-- A node of one byte. -/
def bnd (c : UInt8) : Nd := ⟨2, if c.toNat / 64 = 0 then 2 ^ (c.toNat % 64) else 0, if c.toNat / 64 = 1 then 2 ^ (c.toNat % 64) else 0,
  if c.toNat / 64 = 2 then 2 ^ (c.toNat % 64) else 0, if c.toNat / 64 = 3 then 2 ^ (c.toNat % 64) else 0, [], 0, 0, []⟩
def catNd (n : Nat) : Nd := { op := 3, s0 := 0, s1 := 0, s2 := 0, s3 := 0, kids := nts (List.range n), lo := 0, hi := 0, name := [] }
def wordT (x : List UInt8) : List Nd := x.map bnd ++ [catNd x.length]

theorem pow_bit (p q : Nat) : ((2 : Int) ^ p / 2 ^ q) % 2 = 1 ↔ p = q := by
  have hq : (0 : Int) < 2 ^ q := Int.pow_pos (by decide)
  constructor
  · intro h
    rcases Nat.lt_trichotomy p q with h1 | h1 | h1
    · have : (2 : Int) ^ p < 2 ^ q := by exact_mod_cast Nat.pow_lt_pow_right (by decide) h1
      rw [Int.ediv_eq_zero_of_lt (Int.le_of_lt (Int.pow_pos (by decide))) this] at h
      simp at h
    · exact h1
    · obtain ⟨d, rfl⟩ : ∃ d, p = q + d + 1 := ⟨p - q - 1, by omega⟩
      have : (2 : Int) ^ (q + d + 1) = 2 ^ q * (2 ^ d * 2) := by rw [Int.pow_succ, Int.pow_add, Int.mul_assoc]
      rw [this, Int.mul_ediv_cancel_left _ (by omega)] at h
      omega
  · rintro rfl
    rw [Int.ediv_self (by omega)]; rfl

theorem pow_lt64 (p : Nat) (h : p < 64) : (0 : Int) < 2 ^ p ∧ (2 : Int) ^ p < 18446744073709551616 := by
  refine ⟨Int.pow_pos (by decide), ?_⟩
  have : (2 : Nat) ^ p < 2 ^ 64 := Nat.pow_lt_pow_right (by decide) h
  have h2 : ((2 ^ p : Nat) : Int) < ((2 ^ 64 : Nat) : Int) := by exact_mod_cast this
  simpa using h2

theorem bnd_has (a c : UInt8) : ndHas (bnd a) c ↔ c = a := by
  have ha : a.toNat < 256 := a.toNat_lt
  have hc : c.toNat < 256 := c.toNat_lt
  have key : c = a ↔ c.toNat / 64 = a.toNat / 64 ∧ a.toNat % 64 = c.toNat % 64 := by
    constructor
    · rintro rfl; exact ⟨rfl, rfl⟩
    · rintro ⟨h1, h2⟩; apply UInt8.toNat_inj.1; omega
  rw [key]
  have hz : ∀ q : Nat, ((0 : Int) / 2 ^ q) % 2 = 1 ↔ False := fun q => by simp
  have pick : ∀ q : Nat, c.toNat / 64 = q → (((if a.toNat / 64 = q then (2 : Int) ^ (a.toNat % 64) else 0) / 2 ^ (c.toNat % 64)) % 2 = 1 ↔ c.toNat / 64 = a.toNat / 64 ∧ a.toNat % 64 = c.toNat % 64) := fun q hq => by
    by_cases h : a.toNat / 64 = q
    · rw [if_pos h, pow_bit]
      constructor
      · intro e; exact ⟨by omega, e⟩
      · exact fun e => e.2
    · rw [if_neg h, hz]
      constructor
      · exact False.elim
      · rintro ⟨e, _⟩; omega
  simp only [ndHas, SetHas, setW, bnd]
  split
  · exact pick 0 (by omega)
  split
  · exact pick 1 (by omega)
  split
  · exact pick 2 (by omega)
  · exact pick 3 (by omega)

theorem bnd_ok (c : UInt8) : (bnd c).Ok := by
  have h := pow_lt64 (c.toNat % 64) (by omega)
  have hs : ∀ q : Nat, u64In (if c.toNat / 64 = q then (2 : Int) ^ (c.toNat % 64) else 0) := fun q => by
    split
    · exact ⟨Int.le_of_lt h.1, h.2⟩
    · exact ⟨by omega, by omega⟩
  exact ⟨⟨by simp [bnd], by simp [bnd]⟩, hs 0, hs 1, hs 2, hs 3, by simp [bnd], ⟨by simp [bnd], by simp [bnd]⟩, ⟨by simp [bnd], by simp [bnd]⟩, by simp [bnd], by simp [bnd]⟩
theorem bnd_shaped (c : UInt8) : Shaped (bnd c) := by
  refine .inr (.inl ⟨rfl, ?_, rfl, rfl, rfl, rfl⟩)
  have h := pow_lt64 (c.toNat % 64) (by omega)
  have hc : c.toNat < 256 := c.toNat_lt
  rintro ⟨h0, h1, h2, h3⟩
  simp only [bnd] at h0 h1 h2 h3
  have hcase : c.toNat / 64 = 0 ∨ c.toNat / 64 = 1 ∨ c.toNat / 64 = 2 ∨ c.toNat / 64 = 3 := by omega
  rcases hcase with e | e | e | e
  · rw [if_pos e] at h0; omega
  · rw [if_pos e] at h1; omega
  · rw [if_pos e] at h2; omega
  · rw [if_pos e] at h3; omega

theorem snoc_ind' {α : Type} {P : List α → Prop} (h0 : P []) (h1 : ∀ l x, P l → P (l ++ [x])) : ∀ l, P l := by
  intro l
  have : ∀ n (l : List α), l.length = n → P l := by
    intro n
    induction n with
    | zero => intro l hl; rw [List.length_eq_zero_iff.1 hl]; exact h0
    | succ n ih =>
      intro l hl
      have hne : l ≠ [] := by intro e; subst e; simp at hl
      rw [← List.dropLast_concat_getLast hne]
      exact h1 _ _ (ih _ (by simp [hl]))
  exact this _ l rfl

theorem stk_bytes (x : List UInt8) : Stk (x.map bnd) (nts (List.range x.length)) := by
  refine snoc_ind' (P := fun x => Stk (x.map bnd) (nts (List.range x.length))) .nil (fun l c ih => ?_) x
  rw [List.map_append, List.length_append, List.length_singleton, List.range_succ, nts, List.map_append]
  have := Stk.snoc (st := nts (List.range l.length)) (n := bnd c) (by simpa [bnd] using ih) (bnd_shaped c)
  simpa [nts] using this

theorem word_right (x : List UInt8) (h2 : 2 ≤ x.length) (h3 : x.length ≤ 1000) : RightT (wordT x) ∧ NoRef (wordT x) := by
  refine ⟨⟨by simp [wordT], by simp [wordT]; omega, x.length, ?_⟩, fun n hn => ?_⟩
  · have := Stk.snoc (st := []) (n := catNd x.length) (by simpa [catNd] using stk_bytes x) (.inr (.inr (.inl ⟨.inl rfl, ⟨rfl, rfl, rfl, rfl⟩, by simp [catNd, nts]; omega, rfl, rfl, rfl⟩)))
    simpa [wordT] using this
  · simp only [wordT, List.mem_append, List.mem_map, List.mem_singleton] at hn
    rcases hn with ⟨c, _, rfl⟩ | rfl
    · simp [bnd]
    · simp [catNd]

theorem chain_bytes (y : List UInt8) : ∀ (x : List UInt8) (i j : Nat), chain (x.map fun a => fun i j => y[i]? = some a ∧ j = i + 1) i j ↔ j = i + x.length ∧ x <+: y.drop i
  | [], i, j => by simp [chain]; exact eq_comm
  | a :: x, i, j => by
    simp only [List.map_cons, chain, List.length_cons, chain_bytes y x]
    constructor
    · rintro ⟨m, ⟨h1, rfl⟩, rfl, h2⟩
      refine ⟨by omega, ?_⟩
      have hi : i < y.length := by
        rcases Nat.lt_or_ge i y.length with h | h
        · exact h
        · rw [List.getElem?_eq_none h] at h1; simp at h1
      rw [List.drop_eq_getElem_cons hi, List.cons_prefix_cons]
      rw [List.getElem?_eq_getElem hi] at h1
      simp only [Option.some.injEq] at h1
      exact ⟨h1.symm, h2⟩
    · rintro ⟨rfl, h⟩
      have hi : i < y.length := by
        rcases Nat.lt_or_ge i y.length with h' | h'
        · exact h'
        · rw [List.drop_of_length_le h'] at h; simp at h
      rw [List.drop_eq_getElem_cons hi, List.cons_prefix_cons] at h
      exact ⟨i + 1, ⟨by rw [List.getElem?_eq_getElem hi, h.1], rfl⟩, by omega, h.2⟩

theorem word_den (x y : List UInt8) (i j : Nat) : den (wordT x) y ((wordT x).length - 1) i j ↔ j = i + x.length ∧ x <+: y.drop i := by
  have hlen : (wordT x).length - 1 = x.length := by simp [wordT]
  rw [hlen, den_eq (wordT x) y x.length (catNd x.length) (by simp [wordT])]
  rw [if_neg (by simp [catNd]), if_pos (by simp [catNd]), ← chain_bytes]
  have e : (catNd x.length).kids.map (kidDen (wordT x) y x.length) = x.map fun a => fun i j => y[i]? = some a ∧ j = i + 1 := by
    apply List.ext_getElem?
    intro k
    simp only [catNd, nts, List.map_map, List.getElem?_map]
    rcases Nat.lt_or_ge k x.length with hk | hk
    · rw [List.getElem?_range hk, List.getElem?_eq_getElem hk]
      simp only [Option.map_some, Option.some.injEq, Function.comp]
      funext i j
      have e2 : (Int.ofNat k).toNat = k := rfl
      simp only [kidDen, e2, if_pos hk]
      apply propext
      rw [den_eq (wordT x) y k (bnd x[k]) (by rw [wordT, List.getElem?_append_left (by simpa using hk)]; simp [hk])]
      rw [if_pos (by rfl)]
      constructor
      · rintro ⟨⟨c, h1, h2⟩, h3⟩; rw [bnd_has] at h2; subst h2; exact ⟨h1, h3⟩
      · rintro ⟨h1, h3⟩; exact ⟨⟨x[k], h1, (bnd_has _ _).2 rfl⟩, h3⟩
    · rw [List.getElem?_eq_none (by simpa using hk), List.getElem?_eq_none hk]; rfl
  rw [e]

theorem one_place {ms : List Nat} {m p : Nat} (hp : Pls ms m) (h : ∀ j, j ∈ ms ↔ j = p) : ms = [p] :=
  sorted_ext hp.1 (by simp) (fun x => by rw [h]; simp)
end Go.Proofs.Ytnblhjpbpobglaa

/- The reference's letters, names, shapes. -/
set_option maxRecDepth 100000
set_option linter.unusedSimpArgs false
namespace Go.Proofs.Ytnblhjpbpobglaa
open Go.Am

theorem rdigit_spec (H : AHeap) (c : Int) (K : AV → AHeap → Prop) (hK : K (.bool (digitB c)) H) : WF P0 75 [.int .u8 c] H K := by
  refine zWF rfl rfl rfl ?_
  simp only [a75, zz, env0, aPure, aRead, aNew, aEff, aval, avals, aparts, aopt, wantedA, binA, isShift, binI, fillA, single, aRes, splice, mkv, unA, binS, sameAt, reduceCtorEq, reduceIte, Int.reduceEq, Int.reduceLT, Int.reduceLE, Int.reduceNe, Nat.reduceEqDiff, Nat.reduceLT, Nat.reduceAdd, Nat.reduceMul, Nat.reduceSub, Nat.reduceLeDiff, Int.reduceBEq, Int.reduceBNe, Nat.reduceBEq, Nat.reduceBNe, Int.reduceToNat]
  refine onG_t (fun h => ?_) (fun h => ?_)
  · simp only [h, zz, env0, aPure, aRead, aNew, aEff, aval, avals, aparts, aopt, wantedA, binA, isShift, binI, fillA, single, aRes, splice, mkv, unA, binS, sameAt, reduceCtorEq, reduceIte, Int.reduceEq, Int.reduceLT, Int.reduceLE, Int.reduceNe, Nat.reduceEqDiff, Nat.reduceLT, Nat.reduceAdd, Nat.reduceMul, Nat.reduceSub, Nat.reduceLeDiff, Int.reduceBEq, Int.reduceBNe, Nat.reduceBEq, Nat.reduceBNe, Int.reduceToNat]
    simpa [digitB, h] using hK
  · simp only [h, zz, env0, aPure, aRead, aNew, aEff, aval, avals, aparts, aopt, wantedA, binA, isShift, binI, fillA, single, aRes, splice, mkv, unA, binS, sameAt, reduceCtorEq, reduceIte, Int.reduceEq, Int.reduceLT, Int.reduceLE, Int.reduceNe, Nat.reduceEqDiff, Nat.reduceLT, Nat.reduceAdd, Nat.reduceMul, Nat.reduceSub, Nat.reduceLeDiff, Int.reduceBEq, Int.reduceBNe, Nat.reduceBEq, Nat.reduceBNe, Int.reduceToNat]
    simpa [digitB, h] using hK

theorem rletter_spec (H : AHeap) (c : Int) (K : AV → AHeap → Prop) (hK : K (.bool (letterB c)) H) : WF P0 74 [.int .u8 c] H K := by
  refine zWF rfl rfl rfl ?_
  by_cases h1 : 97 ≤ c <;> by_cases h2 : c ≤ 122 <;> by_cases h3 : 65 ≤ c <;> by_cases h4 : c ≤ 90 <;> by_cases h5 : c = 95 <;> simp [h1, h2, h3, h4, h5, letterB] at hK <;>
  first | (exfalso; omega) | (simp only [a74, ieq, ge_iff_le, gt_iff_lt, h1, h2, h3, h4, h5, decide_true, decide_false, zz, env0, aPure, aRead, aNew, aEff, aval, avals, aparts, aopt, wantedA, binA, isShift, binI, fillA, single, aRes, splice, mkv, unA, binS, sameAt, reduceCtorEq, reduceIte, Int.reduceEq, Int.reduceLT, Int.reduceLE, Int.reduceNe, Nat.reduceEqDiff, Nat.reduceLT, Nat.reduceAdd, Nat.reduceMul, Nat.reduceSub, Nat.reduceLeDiff, Int.reduceBEq, Int.reduceBNe, Nat.reduceBEq, Nat.reduceBNe, Int.reduceToNat]; simp_all; done) | skip

theorem rname_spec (H : AHeap) (s : List UInt8) (hs : s.length < 9223372036854775808) (K : AV → AHeap → Prop) (hK : K (.bool (nameB s)) H) : WF P0 65 [.str s] H K := by
  refine zWF rfl rfl rfl ?_
  simp only [a65, zz, env0, aPure, aRead, aNew, aEff, aval, avals, aparts, aopt, wantedA, binA, isShift, binI, fillA, single, aRes, splice, mkv, unA, binS, sameAt, reduceCtorEq, reduceIte, Int.reduceEq, Int.reduceLT, Int.reduceLE, Int.reduceNe, Nat.reduceEqDiff, Nat.reduceLT, Nat.reduceAdd, Nat.reduceMul, Nat.reduceSub, Nat.reduceLeDiff, Int.reduceBEq, Int.reduceBNe, Nat.reduceBEq, Nat.reduceBNe, Int.reduceToNat]
  refine WCL (fun r env H' => H' = H ∧ ∃ (k : Nat) (a3 a4 : AV), k ≤ s.length ∧ r = s.length - k ∧ (∀ j, j < k → nameAt s j = true) ∧ env = [.str s, .bool false, .int .i64 k, a3, a4]) (n := s.length)
      ⟨rfl, 0, _, _, Nat.zero_le _, rfl, by simp, rfl⟩ ?_
  rintro r env H' ⟨rfl, k, a3, a4, hk, rfl, hall, rfl⟩
  simp only [zz, env0, aPure, aRead, aNew, aEff, aval, avals, aparts, aopt, wantedA, binA, isShift, binI, fillA, single, aRes, splice, mkv, unA, binS, sameAt, reduceCtorEq, reduceIte, Int.reduceEq, Int.reduceLT, Int.reduceLE, Int.reduceNe, Nat.reduceEqDiff, Nat.reduceLT, Nat.reduceAdd, Nat.reduceMul, Nat.reduceSub, Nat.reduceLeDiff, Int.reduceBEq, Int.reduceBNe, Nat.reduceBEq, Nat.reduceBNe, Int.reduceToNat]
  refine onB_of (fun hlt => ?_) (fun hlt => ?_)
  · have hlt : k < s.length := by simpa using hlt
    obtain ⟨c, hc⟩ : ∃ c, s[k]? = some c := ⟨s[k], List.getElem?_eq_getElem hlt⟩
    have hw : IntKind.i64.wrap ((k : Int) + 1) = ((k + 1 : Nat) : Int) := by rw [wrap_i64 (by omega) (by omega)]; rfl
    have hc0 : (0 : Int) ≤ k := by omega
    simp only [hc, hc0, zz, env0, aPure, aRead, aNew, aEff, aval, avals, aparts, aopt, wantedA, binA, isShift, binI, fillA, single, aRes, splice, mkv, unA, binS, sameAt, reduceCtorEq, reduceIte, Int.reduceEq, Int.reduceLT, Int.reduceLE, Int.reduceNe, Nat.reduceEqDiff, Nat.reduceLT, Nat.reduceAdd, Nat.reduceMul, Nat.reduceSub, Nat.reduceLeDiff, Int.reduceBEq, Int.reduceBNe, Nat.reduceBEq, Nat.reduceBNe, Int.reduceToNat]
    refine rletter_spec _ _ _ ?_
    have hk0 : ((k : Int) == 0) = decide (k = 0) := by rw [ieq]; simp
    have stop : nameAt s k = false → K (.bool false) H' := fun hn => by
      have : nameB s = false := by
        simp only [nameB, Bool.and_eq_false_iff]
        left
        rw [List.all_eq_false]
        exact ⟨k, List.mem_range.2 hlt, by simp [hn]⟩
      rw [← this]; exact hK
    cases hL : letterB c.toNat <;> cases hz : decide (k = 0)
    all_goals simp only [hk0, hz, hw, hc, hc0, zz, env0, aPure, aRead, aNew, aEff, aval, avals, aparts, aopt, wantedA, binA, isShift, binI, fillA, single, aRes, splice, mkv, unA, binS, sameAt, reduceCtorEq, reduceIte, Int.reduceEq, Int.reduceLT, Int.reduceLE, Int.reduceNe, Nat.reduceEqDiff, Nat.reduceLT, Nat.reduceAdd, Nat.reduceMul, Nat.reduceSub, Nat.reduceLeDiff, Int.reduceBEq, Int.reduceBNe, Nat.reduceBEq, Nat.reduceBNe, Int.reduceToNat]
    · refine rdigit_spec _ _ _ ?_
      cases hD : digitB c.toNat
      all_goals simp only [hw, zz, env0, aPure, aRead, aNew, aEff, aval, avals, aparts, aopt, wantedA, binA, isShift, binI, fillA, single, aRes, splice, mkv, unA, binS, sameAt, reduceCtorEq, reduceIte, Int.reduceEq, Int.reduceLT, Int.reduceLE, Int.reduceNe, Nat.reduceEqDiff, Nat.reduceLT, Nat.reduceAdd, Nat.reduceMul, Nat.reduceSub, Nat.reduceLeDiff, Int.reduceBEq, Int.reduceBNe, Nat.reduceBEq, Nat.reduceBNe, Int.reduceToNat]
      · exact stop (by simp [nameAt, hc, hL, hD])
      · refine ⟨s.length - (k + 1), by omega, k + 1, _, _, by omega, rfl, fun j hj => ?_, rfl⟩
        by_cases e : j = k
        · subst e; simp at hz; simp [nameAt, hc, hL, hD, hz]
        · exact hall j (by omega)
    · simp at hz; subst hz; exact stop (by simp [nameAt, hc, hL])
    all_goals
      refine ⟨s.length - (k + 1), by omega, k + 1, _, _, by omega, rfl, fun j hj => ?_, rfl⟩
      by_cases e : j = k
      · subst e; simp [nameAt, hc, hL]
      · exact hall j (by omega)
  · have hkn : k = s.length := by
      have : ¬ ((k : Int) < s.length) := by simpa using hlt
      omega
    subst hkn
    have hall' : (List.range s.length).all (nameAt s) = true := by
      rw [List.all_eq_true]; intro j hj; exact hall j (List.mem_range.1 hj)
    simp only [hlt, zz, env0, aPure, aRead, aNew, aEff, aval, avals, aparts, aopt, wantedA, binA, isShift, binI, fillA, single, aRes, splice, mkv, unA, binS, sameAt, reduceCtorEq, reduceIte, Int.reduceEq, Int.reduceLT, Int.reduceLE, Int.reduceNe, Nat.reduceEqDiff, Nat.reduceLT, Nat.reduceAdd, Nat.reduceMul, Nat.reduceSub, Nat.reduceLeDiff, Int.reduceBEq, Int.reduceBNe, Nat.reduceBEq, Nat.reduceBNe, Int.reduceToNat]
    refine onG_t (fun h => ?_) (fun h => ?_)
    · simp only [h, zz, env0, aPure, aRead, aNew, aEff, aval, avals, aparts, aopt, wantedA, binA, isShift, binI, fillA, single, aRes, splice, mkv, unA, binS, sameAt, reduceCtorEq, reduceIte, Int.reduceEq, Int.reduceLT, Int.reduceLE, Int.reduceNe, Nat.reduceEqDiff, Nat.reduceLT, Nat.reduceAdd, Nat.reduceMul, Nat.reduceSub, Nat.reduceLeDiff, Int.reduceBEq, Int.reduceBNe, Nat.reduceBEq, Nat.reduceBNe, Int.reduceToNat]
      have h1 : 1 ≤ s.length := by simp at h; omega
      have : (decide ((s.length : Int) ≤ 32)) = nameB s := by simp only [nameB, hall', Bool.true_and]; simp [h1]; omega
      rw [this]; exact hK
    · simp only [h, zz, env0, aPure, aRead, aNew, aEff, aval, avals, aparts, aopt, wantedA, binA, isShift, binI, fillA, single, aRes, splice, mkv, unA, binS, sameAt, reduceCtorEq, reduceIte, Int.reduceEq, Int.reduceLT, Int.reduceLE, Int.reduceNe, Nat.reduceEqDiff, Nat.reduceLT, Nat.reduceAdd, Nat.reduceMul, Nat.reduceSub, Nat.reduceLeDiff, Int.reduceBEq, Int.reduceBNe, Nat.reduceBEq, Nat.reduceBNe, Int.reduceToNat]
      have h1 : ¬ 1 ≤ s.length := by simp at h; omega
      have : false = nameB s := by simp only [nameB, hall', Bool.true_and]; simp [h1]
      rw [this]; exact hK

theorem shape_spec (H : AHeap) (n : Nd) (kv : AV) (hok : n.Ok) (hkv : Ints H kv n.kids) (K : AV → AHeap → Prop) (hK : ∀ b H', Keeps H H' → (b = true ↔ Shaped n) → K (.bool b) H') : WF P0 50 [.agg (ndRow n kv)] H K := by
  have hl := hkv.lenOf
  refine zWF rfl rfl rfl ?_
  have hcase : n.op = 1 ∨ n.op = 2 ∨ n.op = 3 ∨ n.op = 4 ∨ n.op = 5 ∨ n.op = 6 ∨ (n.op ≠ 1 ∧ n.op ≠ 2 ∧ n.op ≠ 3 ∧ n.op ≠ 4 ∧ n.op ≠ 5 ∧ n.op ≠ 6) := by omega
  rcases hcase with ho | ho | ho | ho | ho | ho | ⟨o1, o2, o3, o4, o5, o6⟩
  · simp only [a50, ndRow, hl, ho, zz, env0, aPure, aRead, aNew, aEff, aval, avals, aparts, aopt, wantedA, binA, isShift, binI, fillA, single, aRes, splice, mkv, unA, binS, sameAt, reduceCtorEq, reduceIte, Int.reduceEq, Int.reduceLT, Int.reduceLE, Int.reduceNe, Nat.reduceEqDiff, Nat.reduceLT, Nat.reduceAdd, Nat.reduceMul, Nat.reduceSub, Nat.reduceLeDiff, Int.reduceBEq, Int.reduceBNe, Nat.reduceBEq, Nat.reduceBNe, Int.reduceToNat]
    repeat' (first | (refine onB_of (fun h => ?_) (fun h => ?_) <;> (simp only [h, hl, zz, env0, aPure, aRead, aNew, aEff, aval, avals, aparts, aopt, wantedA, binA, isShift, binI, fillA, single, aRes, splice, mkv, unA, binS, sameAt, reduceCtorEq, reduceIte, Int.reduceEq, Int.reduceLT, Int.reduceLE, Int.reduceNe, Nat.reduceEqDiff, Nat.reduceLT, Nat.reduceAdd, Nat.reduceMul, Nat.reduceSub, Nat.reduceLeDiff, Int.reduceBEq, Int.reduceBNe, Nat.reduceBEq, Nat.reduceBNe, Int.reduceToNat])) | (refine onG_t (fun h => ?_) (fun h => ?_) <;> (simp only [h, hl, zz, env0, aPure, aRead, aNew, aEff, aval, avals, aparts, aopt, wantedA, binA, isShift, binI, fillA, single, aRes, splice, mkv, unA, binS, sameAt, reduceCtorEq, reduceIte, Int.reduceEq, Int.reduceLT, Int.reduceLE, Int.reduceNe, Nat.reduceEqDiff, Nat.reduceLT, Nat.reduceAdd, Nat.reduceMul, Nat.reduceSub, Nat.reduceLeDiff, Int.reduceBEq, Int.reduceBNe, Nat.reduceBEq, Nat.reduceBNe, Int.reduceToNat])) | (refine onG_f (fun h => ?_) (fun h => ?_) <;> (simp only [h, hl, zz, env0, aPure, aRead, aNew, aEff, aval, avals, aparts, aopt, wantedA, binA, isShift, binI, fillA, single, aRes, splice, mkv, unA, binS, sameAt, reduceCtorEq, reduceIte, Int.reduceEq, Int.reduceLT, Int.reduceLE, Int.reduceNe, Nat.reduceEqDiff, Nat.reduceLT, Nat.reduceAdd, Nat.reduceMul, Nat.reduceSub, Nat.reduceLeDiff, Int.reduceBEq, Int.reduceBNe, Nat.reduceBEq, Nat.reduceBNe, Int.reduceToNat])))
    all_goals (refine hK _ _ (Keeps.p1 _ _) ?_; clear hK hl hkv; simp_all [Shaped, zeroS] <;> omega)
  · simp only [a50, ndRow, hl, ho, zz, env0, aPure, aRead, aNew, aEff, aval, avals, aparts, aopt, wantedA, binA, isShift, binI, fillA, single, aRes, splice, mkv, unA, binS, sameAt, reduceCtorEq, reduceIte, Int.reduceEq, Int.reduceLT, Int.reduceLE, Int.reduceNe, Nat.reduceEqDiff, Nat.reduceLT, Nat.reduceAdd, Nat.reduceMul, Nat.reduceSub, Nat.reduceLeDiff, Int.reduceBEq, Int.reduceBNe, Nat.reduceBEq, Nat.reduceBNe, Int.reduceToNat]
    repeat' (first | (refine onB_of (fun h => ?_) (fun h => ?_) <;> (simp only [h, hl, zz, env0, aPure, aRead, aNew, aEff, aval, avals, aparts, aopt, wantedA, binA, isShift, binI, fillA, single, aRes, splice, mkv, unA, binS, sameAt, reduceCtorEq, reduceIte, Int.reduceEq, Int.reduceLT, Int.reduceLE, Int.reduceNe, Nat.reduceEqDiff, Nat.reduceLT, Nat.reduceAdd, Nat.reduceMul, Nat.reduceSub, Nat.reduceLeDiff, Int.reduceBEq, Int.reduceBNe, Nat.reduceBEq, Nat.reduceBNe, Int.reduceToNat])) | (refine onG_t (fun h => ?_) (fun h => ?_) <;> (simp only [h, hl, zz, env0, aPure, aRead, aNew, aEff, aval, avals, aparts, aopt, wantedA, binA, isShift, binI, fillA, single, aRes, splice, mkv, unA, binS, sameAt, reduceCtorEq, reduceIte, Int.reduceEq, Int.reduceLT, Int.reduceLE, Int.reduceNe, Nat.reduceEqDiff, Nat.reduceLT, Nat.reduceAdd, Nat.reduceMul, Nat.reduceSub, Nat.reduceLeDiff, Int.reduceBEq, Int.reduceBNe, Nat.reduceBEq, Nat.reduceBNe, Int.reduceToNat])) | (refine onG_f (fun h => ?_) (fun h => ?_) <;> (simp only [h, hl, zz, env0, aPure, aRead, aNew, aEff, aval, avals, aparts, aopt, wantedA, binA, isShift, binI, fillA, single, aRes, splice, mkv, unA, binS, sameAt, reduceCtorEq, reduceIte, Int.reduceEq, Int.reduceLT, Int.reduceLE, Int.reduceNe, Nat.reduceEqDiff, Nat.reduceLT, Nat.reduceAdd, Nat.reduceMul, Nat.reduceSub, Nat.reduceLeDiff, Int.reduceBEq, Int.reduceBNe, Nat.reduceBEq, Nat.reduceBNe, Int.reduceToNat])))
    all_goals (refine hK _ _ (Keeps.p1 _ _) ?_; clear hK hl hkv; simp_all [Shaped, zeroS] <;> omega)
  · simp only [a50, ndRow, hl, ho, zz, env0, aPure, aRead, aNew, aEff, aval, avals, aparts, aopt, wantedA, binA, isShift, binI, fillA, single, aRes, splice, mkv, unA, binS, sameAt, reduceCtorEq, reduceIte, Int.reduceEq, Int.reduceLT, Int.reduceLE, Int.reduceNe, Nat.reduceEqDiff, Nat.reduceLT, Nat.reduceAdd, Nat.reduceMul, Nat.reduceSub, Nat.reduceLeDiff, Int.reduceBEq, Int.reduceBNe, Nat.reduceBEq, Nat.reduceBNe, Int.reduceToNat]
    repeat' (first | (refine onB_of (fun h => ?_) (fun h => ?_) <;> (simp only [h, hl, zz, env0, aPure, aRead, aNew, aEff, aval, avals, aparts, aopt, wantedA, binA, isShift, binI, fillA, single, aRes, splice, mkv, unA, binS, sameAt, reduceCtorEq, reduceIte, Int.reduceEq, Int.reduceLT, Int.reduceLE, Int.reduceNe, Nat.reduceEqDiff, Nat.reduceLT, Nat.reduceAdd, Nat.reduceMul, Nat.reduceSub, Nat.reduceLeDiff, Int.reduceBEq, Int.reduceBNe, Nat.reduceBEq, Nat.reduceBNe, Int.reduceToNat])) | (refine onG_t (fun h => ?_) (fun h => ?_) <;> (simp only [h, hl, zz, env0, aPure, aRead, aNew, aEff, aval, avals, aparts, aopt, wantedA, binA, isShift, binI, fillA, single, aRes, splice, mkv, unA, binS, sameAt, reduceCtorEq, reduceIte, Int.reduceEq, Int.reduceLT, Int.reduceLE, Int.reduceNe, Nat.reduceEqDiff, Nat.reduceLT, Nat.reduceAdd, Nat.reduceMul, Nat.reduceSub, Nat.reduceLeDiff, Int.reduceBEq, Int.reduceBNe, Nat.reduceBEq, Nat.reduceBNe, Int.reduceToNat])) | (refine onG_f (fun h => ?_) (fun h => ?_) <;> (simp only [h, hl, zz, env0, aPure, aRead, aNew, aEff, aval, avals, aparts, aopt, wantedA, binA, isShift, binI, fillA, single, aRes, splice, mkv, unA, binS, sameAt, reduceCtorEq, reduceIte, Int.reduceEq, Int.reduceLT, Int.reduceLE, Int.reduceNe, Nat.reduceEqDiff, Nat.reduceLT, Nat.reduceAdd, Nat.reduceMul, Nat.reduceSub, Nat.reduceLeDiff, Int.reduceBEq, Int.reduceBNe, Nat.reduceBEq, Nat.reduceBNe, Int.reduceToNat])))
    all_goals (refine hK _ _ (Keeps.p1 _ _) ?_; clear hK hl hkv; simp_all [Shaped, zeroS] <;> omega)
  · simp only [a50, ndRow, hl, ho, zz, env0, aPure, aRead, aNew, aEff, aval, avals, aparts, aopt, wantedA, binA, isShift, binI, fillA, single, aRes, splice, mkv, unA, binS, sameAt, reduceCtorEq, reduceIte, Int.reduceEq, Int.reduceLT, Int.reduceLE, Int.reduceNe, Nat.reduceEqDiff, Nat.reduceLT, Nat.reduceAdd, Nat.reduceMul, Nat.reduceSub, Nat.reduceLeDiff, Int.reduceBEq, Int.reduceBNe, Nat.reduceBEq, Nat.reduceBNe, Int.reduceToNat]
    repeat' (first | (refine onB_of (fun h => ?_) (fun h => ?_) <;> (simp only [h, hl, zz, env0, aPure, aRead, aNew, aEff, aval, avals, aparts, aopt, wantedA, binA, isShift, binI, fillA, single, aRes, splice, mkv, unA, binS, sameAt, reduceCtorEq, reduceIte, Int.reduceEq, Int.reduceLT, Int.reduceLE, Int.reduceNe, Nat.reduceEqDiff, Nat.reduceLT, Nat.reduceAdd, Nat.reduceMul, Nat.reduceSub, Nat.reduceLeDiff, Int.reduceBEq, Int.reduceBNe, Nat.reduceBEq, Nat.reduceBNe, Int.reduceToNat])) | (refine onG_t (fun h => ?_) (fun h => ?_) <;> (simp only [h, hl, zz, env0, aPure, aRead, aNew, aEff, aval, avals, aparts, aopt, wantedA, binA, isShift, binI, fillA, single, aRes, splice, mkv, unA, binS, sameAt, reduceCtorEq, reduceIte, Int.reduceEq, Int.reduceLT, Int.reduceLE, Int.reduceNe, Nat.reduceEqDiff, Nat.reduceLT, Nat.reduceAdd, Nat.reduceMul, Nat.reduceSub, Nat.reduceLeDiff, Int.reduceBEq, Int.reduceBNe, Nat.reduceBEq, Nat.reduceBNe, Int.reduceToNat])) | (refine onG_f (fun h => ?_) (fun h => ?_) <;> (simp only [h, hl, zz, env0, aPure, aRead, aNew, aEff, aval, avals, aparts, aopt, wantedA, binA, isShift, binI, fillA, single, aRes, splice, mkv, unA, binS, sameAt, reduceCtorEq, reduceIte, Int.reduceEq, Int.reduceLT, Int.reduceLE, Int.reduceNe, Nat.reduceEqDiff, Nat.reduceLT, Nat.reduceAdd, Nat.reduceMul, Nat.reduceSub, Nat.reduceLeDiff, Int.reduceBEq, Int.reduceBNe, Nat.reduceBEq, Nat.reduceBNe, Int.reduceToNat])))
    all_goals (refine hK _ _ (Keeps.p1 _ _) ?_; clear hK hl hkv; simp_all [Shaped, zeroS] <;> omega)
  · simp only [a50, ndRow, hl, ho, zz, env0, aPure, aRead, aNew, aEff, aval, avals, aparts, aopt, wantedA, binA, isShift, binI, fillA, single, aRes, splice, mkv, unA, binS, sameAt, reduceCtorEq, reduceIte, Int.reduceEq, Int.reduceLT, Int.reduceLE, Int.reduceNe, Nat.reduceEqDiff, Nat.reduceLT, Nat.reduceAdd, Nat.reduceMul, Nat.reduceSub, Nat.reduceLeDiff, Int.reduceBEq, Int.reduceBNe, Nat.reduceBEq, Nat.reduceBNe, Int.reduceToNat]
    repeat' (first | (refine onB_of (fun h => ?_) (fun h => ?_) <;> (simp only [h, hl, zz, env0, aPure, aRead, aNew, aEff, aval, avals, aparts, aopt, wantedA, binA, isShift, binI, fillA, single, aRes, splice, mkv, unA, binS, sameAt, reduceCtorEq, reduceIte, Int.reduceEq, Int.reduceLT, Int.reduceLE, Int.reduceNe, Nat.reduceEqDiff, Nat.reduceLT, Nat.reduceAdd, Nat.reduceMul, Nat.reduceSub, Nat.reduceLeDiff, Int.reduceBEq, Int.reduceBNe, Nat.reduceBEq, Nat.reduceBNe, Int.reduceToNat])) | (refine onG_t (fun h => ?_) (fun h => ?_) <;> (simp only [h, hl, zz, env0, aPure, aRead, aNew, aEff, aval, avals, aparts, aopt, wantedA, binA, isShift, binI, fillA, single, aRes, splice, mkv, unA, binS, sameAt, reduceCtorEq, reduceIte, Int.reduceEq, Int.reduceLT, Int.reduceLE, Int.reduceNe, Nat.reduceEqDiff, Nat.reduceLT, Nat.reduceAdd, Nat.reduceMul, Nat.reduceSub, Nat.reduceLeDiff, Int.reduceBEq, Int.reduceBNe, Nat.reduceBEq, Nat.reduceBNe, Int.reduceToNat])) | (refine onG_f (fun h => ?_) (fun h => ?_) <;> (simp only [h, hl, zz, env0, aPure, aRead, aNew, aEff, aval, avals, aparts, aopt, wantedA, binA, isShift, binI, fillA, single, aRes, splice, mkv, unA, binS, sameAt, reduceCtorEq, reduceIte, Int.reduceEq, Int.reduceLT, Int.reduceLE, Int.reduceNe, Nat.reduceEqDiff, Nat.reduceLT, Nat.reduceAdd, Nat.reduceMul, Nat.reduceSub, Nat.reduceLeDiff, Int.reduceBEq, Int.reduceBNe, Nat.reduceBEq, Nat.reduceBNe, Int.reduceToNat])))
    all_goals (refine hK _ _ (Keeps.p1 _ _) ?_; clear hK hl hkv; simp_all [Shaped, zeroS] <;> omega)
  · simp only [a50, ndRow, hl, ho, zz, env0, aPure, aRead, aNew, aEff, aval, avals, aparts, aopt, wantedA, binA, isShift, binI, fillA, single, aRes, splice, mkv, unA, binS, sameAt, reduceCtorEq, reduceIte, Int.reduceEq, Int.reduceLT, Int.reduceLE, Int.reduceNe, Nat.reduceEqDiff, Nat.reduceLT, Nat.reduceAdd, Nat.reduceMul, Nat.reduceSub, Nat.reduceLeDiff, Int.reduceBEq, Int.reduceBNe, Nat.reduceBEq, Nat.reduceBNe, Int.reduceToNat]
    repeat' (first | (refine onB_of (fun h => ?_) (fun h => ?_) <;> (simp only [h, hl, zz, env0, aPure, aRead, aNew, aEff, aval, avals, aparts, aopt, wantedA, binA, isShift, binI, fillA, single, aRes, splice, mkv, unA, binS, sameAt, reduceCtorEq, reduceIte, Int.reduceEq, Int.reduceLT, Int.reduceLE, Int.reduceNe, Nat.reduceEqDiff, Nat.reduceLT, Nat.reduceAdd, Nat.reduceMul, Nat.reduceSub, Nat.reduceLeDiff, Int.reduceBEq, Int.reduceBNe, Nat.reduceBEq, Nat.reduceBNe, Int.reduceToNat])) | (refine onG_t (fun h => ?_) (fun h => ?_) <;> (simp only [h, hl, zz, env0, aPure, aRead, aNew, aEff, aval, avals, aparts, aopt, wantedA, binA, isShift, binI, fillA, single, aRes, splice, mkv, unA, binS, sameAt, reduceCtorEq, reduceIte, Int.reduceEq, Int.reduceLT, Int.reduceLE, Int.reduceNe, Nat.reduceEqDiff, Nat.reduceLT, Nat.reduceAdd, Nat.reduceMul, Nat.reduceSub, Nat.reduceLeDiff, Int.reduceBEq, Int.reduceBNe, Nat.reduceBEq, Nat.reduceBNe, Int.reduceToNat])) | (refine onG_f (fun h => ?_) (fun h => ?_) <;> (simp only [h, hl, zz, env0, aPure, aRead, aNew, aEff, aval, avals, aparts, aopt, wantedA, binA, isShift, binI, fillA, single, aRes, splice, mkv, unA, binS, sameAt, reduceCtorEq, reduceIte, Int.reduceEq, Int.reduceLT, Int.reduceLE, Int.reduceNe, Nat.reduceEqDiff, Nat.reduceLT, Nat.reduceAdd, Nat.reduceMul, Nat.reduceSub, Nat.reduceLeDiff, Int.reduceBEq, Int.reduceBNe, Nat.reduceBEq, Nat.reduceBNe, Int.reduceToNat])))
    all_goals first
      | (refine hK _ _ (Keeps.p1 _ _) ?_; clear hK hl hkv; simp_all [Shaped, zeroS] <;> omega)
      | (refine rname_spec _ _ (by have := hok.name; omega) _ ?_; simp only [hl, *, zz, env0, aPure, aRead, aNew, aEff, aval, avals, aparts, aopt, wantedA, binA, isShift, binI, fillA, single, aRes, splice, mkv, unA, binS, sameAt, reduceCtorEq, reduceIte, Int.reduceEq, Int.reduceLT, Int.reduceLE, Int.reduceNe, Nat.reduceEqDiff, Nat.reduceLT, Nat.reduceAdd, Nat.reduceMul, Nat.reduceSub, Nat.reduceLeDiff, Int.reduceBEq, Int.reduceBNe, Nat.reduceBEq, Nat.reduceBNe, Int.reduceToNat]; repeat' (first | (refine onB_of (fun h => ?_) (fun h => ?_) <;> (simp only [h, hl, zz, env0, aPure, aRead, aNew, aEff, aval, avals, aparts, aopt, wantedA, binA, isShift, binI, fillA, single, aRes, splice, mkv, unA, binS, sameAt, reduceCtorEq, reduceIte, Int.reduceEq, Int.reduceLT, Int.reduceLE, Int.reduceNe, Nat.reduceEqDiff, Nat.reduceLT, Nat.reduceAdd, Nat.reduceMul, Nat.reduceSub, Nat.reduceLeDiff, Int.reduceBEq, Int.reduceBNe, Nat.reduceBEq, Nat.reduceBNe, Int.reduceToNat])) | (refine onG_t (fun h => ?_) (fun h => ?_) <;> (simp only [h, hl, zz, env0, aPure, aRead, aNew, aEff, aval, avals, aparts, aopt, wantedA, binA, isShift, binI, fillA, single, aRes, splice, mkv, unA, binS, sameAt, reduceCtorEq, reduceIte, Int.reduceEq, Int.reduceLT, Int.reduceLE, Int.reduceNe, Nat.reduceEqDiff, Nat.reduceLT, Nat.reduceAdd, Nat.reduceMul, Nat.reduceSub, Nat.reduceLeDiff, Int.reduceBEq, Int.reduceBNe, Nat.reduceBEq, Nat.reduceBNe, Int.reduceToNat])) | (refine onG_f (fun h => ?_) (fun h => ?_) <;> (simp only [h, hl, zz, env0, aPure, aRead, aNew, aEff, aval, avals, aparts, aopt, wantedA, binA, isShift, binI, fillA, single, aRes, splice, mkv, unA, binS, sameAt, reduceCtorEq, reduceIte, Int.reduceEq, Int.reduceLT, Int.reduceLE, Int.reduceNe, Nat.reduceEqDiff, Nat.reduceLT, Nat.reduceAdd, Nat.reduceMul, Nat.reduceSub, Nat.reduceLeDiff, Int.reduceBEq, Int.reduceBNe, Nat.reduceBEq, Nat.reduceBNe, Int.reduceToNat]))); all_goals (refine hK _ _ (Keeps.p1 _ _) ?_; clear hK hl hkv; simp_all [Shaped, zeroS] <;> omega))
  · have e1 : (n.op == 1) = false := by simp [o1]
    have e2 : (n.op == 2) = false := by simp [o2]
    have e3 : (n.op == 3) = false := by simp [o3]
    have e4 : (n.op == 4) = false := by simp [o4]
    have e5 : (n.op == 5) = false := by simp [o5]
    have e6 : (n.op == 6) = false := by simp [o6]
    simp only [a50, ndRow, hl, e1, e2, e3, e4, e5, e6, zz, env0, aPure, aRead, aNew, aEff, aval, avals, aparts, aopt, wantedA, binA, isShift, binI, fillA, single, aRes, splice, mkv, unA, binS, sameAt, reduceCtorEq, reduceIte, Int.reduceEq, Int.reduceLT, Int.reduceLE, Int.reduceNe, Nat.reduceEqDiff, Nat.reduceLT, Nat.reduceAdd, Nat.reduceMul, Nat.reduceSub, Nat.reduceLeDiff, Int.reduceBEq, Int.reduceBNe, Nat.reduceBEq, Nat.reduceBNe, Int.reduceToNat]
    repeat' (first | (refine onB_of (fun h => ?_) (fun h => ?_) <;> (simp only [h, e1, e2, e3, e4, e5, e6, zz, env0, aPure, aRead, aNew, aEff, aval, avals, aparts, aopt, wantedA, binA, isShift, binI, fillA, single, aRes, splice, mkv, unA, binS, sameAt, reduceCtorEq, reduceIte, Int.reduceEq, Int.reduceLT, Int.reduceLE, Int.reduceNe, Nat.reduceEqDiff, Nat.reduceLT, Nat.reduceAdd, Nat.reduceMul, Nat.reduceSub, Nat.reduceLeDiff, Int.reduceBEq, Int.reduceBNe, Nat.reduceBEq, Nat.reduceBNe, Int.reduceToNat])) | (refine onG_t (fun h => ?_) (fun h => ?_) <;> (simp only [h, e1, e2, e3, e4, e5, e6, zz, env0, aPure, aRead, aNew, aEff, aval, avals, aparts, aopt, wantedA, binA, isShift, binI, fillA, single, aRes, splice, mkv, unA, binS, sameAt, reduceCtorEq, reduceIte, Int.reduceEq, Int.reduceLT, Int.reduceLE, Int.reduceNe, Nat.reduceEqDiff, Nat.reduceLT, Nat.reduceAdd, Nat.reduceMul, Nat.reduceSub, Nat.reduceLeDiff, Int.reduceBEq, Int.reduceBNe, Nat.reduceBEq, Nat.reduceBNe, Int.reduceToNat])) | (refine onG_f (fun h => ?_) (fun h => ?_) <;> (simp only [h, e1, e2, e3, e4, e5, e6, zz, env0, aPure, aRead, aNew, aEff, aval, avals, aparts, aopt, wantedA, binA, isShift, binI, fillA, single, aRes, splice, mkv, unA, binS, sameAt, reduceCtorEq, reduceIte, Int.reduceEq, Int.reduceLT, Int.reduceLE, Int.reduceNe, Nat.reduceEqDiff, Nat.reduceLT, Nat.reduceAdd, Nat.reduceMul, Nat.reduceSub, Nat.reduceLeDiff, Int.reduceBEq, Int.reduceBNe, Nat.reduceBEq, Nat.reduceBNe, Int.reduceToNat])))
    all_goals (refine hK _ _ (Keeps.p1 _ _) ?_; clear hK hl hkv; simp_all [Shaped, zeroS] <;> omega)
end Go.Proofs.Ytnblhjpbpobglaa

/- Trees in the reference's words: the walk of a tree. -/
set_option maxRecDepth 100000
set_option linter.unusedSimpArgs false
namespace Go.Proofs.Ytnblhjpbpobglaa
open Go.Am

def travKids (f : Int → Option (List Int)) : List Int → Option (List Int)
  | [] => some []
  | k :: ks => match f k, travKids f ks with
    | some a, some b => some (a ++ b)
    | _, _ => none
/-- The nodes of a tree, as they are come to. -/
def travO (l : List Nd) (a : Nat) : Option (List Int) :=
  match l[a]? with
  | none => none
  | some n => match travKids (fun k => if _h : 0 ≤ k ∧ k.toNat < a then travO l k.toNat else none) n.kids with
    | some t => some (t ++ [(a : Int)])
    | none => none
termination_by a
decreasing_by exact _h.2

def travK (l : List Nd) (a : Nat) (k : Int) : Option (List Int) := if 0 ≤ k ∧ k.toNat < a then travO l k.toNat else none
theorem travO_eq (l : List Nd) (a : Nat) (n : Nd) (hn : l[a]? = some n) : travO l a = match travKids (travK l a) n.kids with
    | some t => some (t ++ [(a : Int)])
    | none => none := by
  rw [travO, hn]; rfl

theorem travKids_append (f : Int → Option (List Int)) (ks ms : List Int) : travKids f (ks ++ ms) = match travKids f ks, travKids f ms with
    | some a, some b => some (a ++ b)
    | _, _ => none := by
  induction ks with
  | nil => simp only [List.nil_append, travKids]; cases travKids f ms <;> rfl
  | cons k ks ih =>
    simp only [List.cons_append, travKids, ih]
    cases f k <;> cases travKids f ks <;> cases travKids f ms <;> simp
theorem travKids_congr {f g : Int → Option (List Int)} {ks : List Int} (h : ∀ k, k ∈ ks → f k = g k) : travKids f ks = travKids g ks := by
  induction ks with
  | nil => rfl
  | cons k ks ih => simp only [travKids, h k (by simp), ih (fun k hk => h k (by simp [hk]))]

theorem travO_last {l : List Nd} {a : Nat} {t : List Int} (h : travO l a = some t) : ∃ s, t = s ++ [(a : Int)] := by
  cases hn : l[a]? with
  | none => rw [travO, hn] at h; simp at h
  | some n =>
    rw [travO_eq l a n hn] at h
    split at h
    · simp only [Option.some.injEq] at h; exact ⟨_, h.symm⟩
    · simp at h

theorem travO_more (l m : List Nd) : ∀ a, a < l.length → travO (l ++ m) a = travO l a := by
  intro a
  induction a using Nat.strongRecOn with
  | _ a ih =>
    intro ha
    have h1 : l[a]? = some l[a] := List.getElem?_eq_getElem ha
    have h2 : (l ++ m)[a]? = some l[a] := by rw [List.getElem?_append_left ha]; exact h1
    rw [travO_eq _ a _ h1, travO_eq _ a _ h2]
    have : travKids (travK (l ++ m) a) (l[a]).kids = travKids (travK l a) (l[a]).kids := travKids_congr (fun k _ => by
      unfold travK
      split
      · rename_i h; exact ih _ h.2 (by omega)
      · rfl)
    rw [this]

theorem nts_app (a b : List Nat) : nts (a ++ b) = nts a ++ nts b := by simp [nts]

theorem stk_trav {l : List Nd} {st : List Int} (h : Stk l st) : travKids (travK l l.length) st = some (nts (List.range l.length)) := by
  induction h with
  | nil => rfl
  | @snoc l st n h1 h2 ih =>
    have hb := (stk_len h1).2
    have hm : ∀ ks, (∀ k, k ∈ ks → k ∈ st ++ n.kids) → travKids (travK (l ++ [n]) (l ++ [n]).length) ks = travKids (travK l l.length) ks := fun ks hks => travKids_congr (fun k hk => by
      have := hb k (hks k hk)
      simp only [travK, List.length_append, List.length_singleton]
      rw [if_pos (by omega), if_pos (by omega), travO_more _ _ _ (by omega)])
    rw [travKids_append] at ih
    rw [travKids_append, hm st (fun k hk => by simp [hk])]
    have hn : (l ++ [n])[l.length]? = some n := by simp
    have hk2 : travKids (travK (l ++ [n]) l.length) n.kids = travKids (travK l l.length) n.kids := travKids_congr (fun k hk => by
      have := hb k (by simp [hk])
      simp only [travK]
      rw [if_pos (by omega), if_pos (by omega), travO_more _ _ _ (by omega)])
    have e : travKids (travK (l ++ [n]) (l ++ [n]).length) [(l.length : Int)] = match travKids (travK l l.length) n.kids with
        | some t => some (t ++ [(l.length : Int)])
        | none => none := by
      simp only [travKids]
      have : travK (l ++ [n]) (l ++ [n]).length (l.length : Int) = travO (l ++ [n]) l.length := by
        unfold travK; rw [if_pos (by simp)]; rfl
      rw [this, travO_eq _ _ _ hn, hk2]
      cases travKids (travK l l.length) n.kids <;> simp
    rw [e]
    cases hA : travKids (travK l l.length) st with
    | none => rw [hA] at ih; simp at ih
    | some A =>
      rw [hA] at ih
      cases hB : travKids (travK l l.length) n.kids with
      | none => rw [hB] at ih; simp at ih
      | some B =>
        rw [hB] at ih
        simp only [Option.some.injEq] at ih
        rw [List.length_append, List.length_singleton, List.range_succ, nts_app, ← ih]
        simp [nts]

theorem app_range {a b : List Int} {c m : Nat} (h : a ++ b = nts (List.range' c m)) : a = nts (List.range' c a.length) ∧ b = nts (List.range' (c + a.length) b.length) ∧ a.length + b.length = m := by
  have hl := congrArg List.length h
  rw [List.length_append, nts_len, List.length_range'] at hl
  have e : List.range' c m = List.range' c a.length ++ List.range' (c + a.length) b.length := by
    rw [← hl, List.range'_append_1]
  rw [e, nts_app] at h
  have := List.append_inj h (by rw [nts_len, List.length_range'])
  exact ⟨this.1, this.2, hl⟩

theorem range_last {s : List Int} {c m : Nat} {a : Int} (h : s ++ [a] = nts (List.range' c m)) : a = ((c + s.length : Nat) : Int) ∧ m = s.length + 1 := by
  obtain ⟨_, h2, h3⟩ := app_range h
  simp only [List.length_singleton] at h2 h3
  refine ⟨?_, by omega⟩
  simpa [nts, List.range'] using h2

theorem trav_stk {l : List Nd} (hs : ∀ n, n ∈ l → Shaped n) : ∀ a c S, a < l.length → c ≤ a → travO l a = some (nts (List.range' c (a + 1 - c))) → Stk (l.take c) S → Stk (l.take (a + 1)) (S ++ [(a : Int)]) := by
  intro a
  induction a using Nat.strongRecOn with
  | _ a ih =>
    intro c S ha hc ht hS
    have hn : l[a]? = some l[a] := List.getElem?_eq_getElem ha
    rw [travO_eq _ _ _ hn] at ht
    split at ht
    · rename_i t hk
      simp only [Option.some.injEq] at ht
      have hr := range_last ht
      obtain ⟨h1, _, h3⟩ := app_range ht
      have htl : t.length = a - c := by simp at h3; omega
      have key : ∀ (ks : List Int) (b : List Int) (c' : Nat) (S' : List Int), c' ≤ a → travKids (travK l a) ks = some b → b = nts (List.range' c' (a - c')) → Stk (l.take c') S' → Stk (l.take a) (S' ++ ks) := by
        intro ks
        induction ks with
        | nil =>
          intro b c' S' hc' hb he hS'
          simp only [travKids, Option.some.injEq] at hb
          subst hb
          have := congrArg List.length he
          rw [nts_len, List.length_range'] at this
          simp at this
          have : c' = a := by omega
          subst this; simpa using hS'
        | cons k ks ihk =>
          intro b c' S' hc' hb he hS'
          simp only [travKids] at hb
          cases hf : travK l a k with
          | none => rw [hf] at hb; simp at hb
          | some b1 =>
            rw [hf] at hb
            cases hg : travKids (travK l a) ks with
            | none => rw [hg] at hb; simp at hb
            | some b2 =>
              rw [hg] at hb
              simp only [Option.some.injEq] at hb
              rw [← hb] at he
              obtain ⟨e1, e2, e3⟩ := app_range he
              unfold travK at hf
              split at hf
              · rename_i hlt
                obtain ⟨s, hs1⟩ := travO_last hf
                rw [hs1] at e1
                obtain ⟨r1, r2⟩ := range_last e1
                have hb1 : b1.length = s.length + 1 := by rw [hs1]; simp
                have hkk : k.toNat = c' + s.length := by omega
                have hlen : b1.length = k.toNat + 1 - c' := by omega
                have hf' : travO l k.toNat = some (nts (List.range' c' (k.toNat + 1 - c'))) := by
                  rw [hf, hs1, e1, ← hs1, hlen]
                have h5 := ih k.toNat hlt.2 c' S' (by omega) (by omega) hf' hS'
                have h6 := ihk b2 (k.toNat + 1) (S' ++ [((k.toNat : Nat) : Int)]) (by omega) hg (by
                  rw [e2]; congr 2 <;> omega) h5
                have hkc : ((k.toNat : Nat) : Int) = k := by omega
                rw [hkc] at h6
                simpa using h6
              · simp at hf
      have h7 := key _ t c S hc hk (by rw [h1, htl]) hS
      rw [List.take_succ_eq_append_getElem ha]
      have hl : (l.take a).length = a := by rw [List.length_take]; omega
      have := Stk.snoc h7 (hs _ (List.getElem_mem ha))
      rwa [hl] at this
    · simp at ht

theorem right_iff (l : List Nd) : RightT l ↔ 1 ≤ l.length ∧ l.length ≤ 1024 ∧ (∀ n, n ∈ l → Shaped n) ∧ travO l (l.length - 1) = some (nts (List.range l.length)) := by
  constructor
  · rintro ⟨h1, h2, r, hr⟩
    refine ⟨h1, h2, fun n hn => ?_, ?_⟩
    · obtain ⟨k, hk⟩ := List.mem_iff_getElem?.1 hn
      exact (stk_kids hr hk).1
    · have hne : l ≠ [] := by intro e; subst e; simp at h1
      have hr0 : r = ((l.length - 1 : Nat) : Int) := by
        rw [← List.dropLast_concat_getLast hne] at hr
        obtain ⟨st, e, _, _⟩ := stk_inv hr
        have := List.append_inj' (show ([] : List Int) ++ [r] = st ++ [((l.dropLast).length : Int)] from e) rfl
        have := this.2
        simp at this; omega
      have := stk_trav hr
      simp only [travKids, hr0, travK] at this
      rw [if_pos (by omega)] at this
      have e : (((l.length - 1 : Nat) : Int)).toNat = l.length - 1 := rfl
      rw [e] at this
      cases hh : travO l (l.length - 1) with
      | none => rw [hh] at this; simp at this
      | some t => rw [hh] at this; simpa using this
  · rintro ⟨h1, h2, h3, h4⟩
    refine ⟨h1, h2, ((l.length - 1 : Nat) : Int), ?_⟩
    have e : l.length - 1 + 1 - 0 = l.length := by omega
    have := trav_stk h3 (l.length - 1) 0 [] (by omega) (by omega) (by rw [e, h4, List.range_eq_range']) .nil
    rw [Nat.sub_add_cancel h1, List.take_length] at this
    simpa using this
end Go.Proofs.Ytnblhjpbpobglaa

/- The reference: walk, Right, Plain. -/
set_option maxRecDepth 100000
set_option linter.unusedSimpArgs false
namespace Go.Proofs.Ytnblhjpbpobglaa
open Go.Am

theorem travKids_snoc (f : Int → Option (List Int)) (ks : List Int) (k : Int) (t : List Int) (h : travKids f ks = some t) : travKids f (ks ++ [k]) = (f k).map (t ++ ·) := by
  rw [travKids_append, h]
  simp only [travKids]
  cases f k <;> simp

theorem travKids_take {f : Int → Option (List Int)} {ks : List Int} {t : List Int} (h : travKids f ks = some t) (i : Nat) : ∃ a b, travKids f (ks.take i) = some a ∧ travKids f (ks.drop i) = some b ∧ t = a ++ b := by
  rw [← List.take_append_drop i ks, travKids_append] at h
  cases ha : travKids f (ks.take i) with
  | none => rw [ha] at h; simp at h
  | some a =>
    cases hb : travKids f (ks.drop i) with
    | none => rw [ha, hb] at h; simp at h
    | some b => rw [ha, hb] at h; simp at h; exact ⟨a, b, rfl, rfl, h.symm⟩

theorem walk_spec {l : List Nd} (hbig : l.length ≤ 1000000) {H0 : AHeap} {v : AV} (hN : Nds H0 v l) : ∀ (a : Nat), a < l.length → ∀ (H : AHeap) (vs : AV) (s : List Int) (K : AV → AHeap → Prop), Keeps H0 H → WR H H0.length 1 vs s.length (s.map (AV.int .i64)) → s.length ≤ 3000000 →
    (∀ H' v' t, Keeps H0 H' → travO l a = some t → s.length + t.length ≤ l.length + a → WR H' H0.length 1 v' (s ++ t).length ((s ++ t).map (AV.int .i64)) → K (.tup [v', .bool true]) H') →
    (∀ H' v', Keeps H0 H' → (¬ ∃ t, travO l a = some t ∧ s.length + t.length ≤ l.length) → K (.tup [v', .bool false]) H') → WF P0 51 [v, .int .i64 a, vs] H K := by
  intro a
  induction a using Nat.strongRecOn with
  | _ a ih =>
  intro ha H vs s K hk0 hs hsl hK1 hK2
  have hla := hN.lenOf
  have hls := hs.lenOf
  obtain ⟨n, hn⟩ : ∃ n, l[a]? = some n := ⟨l[a], List.getElem?_eq_getElem ha⟩
  have htr := travO_eq l a n hn
  have hlen1 : ∀ t, travO l a = some t → 1 ≤ t.length := fun t ht => by obtain ⟨s', rfl⟩ := travO_last ht; simp
  refine zWF rfl rfl rfl ?_
  simp only [a51, hla, hls, zz, env0, aPure, aRead, aNew, aEff, aval, avals, aparts, aopt, wantedA, binA, isShift, binI, fillA, single, aRes, splice, mkv, unA, binS, sameAt, reduceCtorEq, reduceIte, Int.reduceEq, Int.reduceLT, Int.reduceLE, Int.reduceNe, Nat.reduceEqDiff, Nat.reduceLT, Nat.reduceAdd, Nat.reduceMul, Nat.reduceSub, Nat.reduceLeDiff, Int.reduceBEq, Int.reduceBNe, Nat.reduceBEq, Nat.reduceBNe, Int.reduceToNat]
  refine onB_of (fun h => ?_) (fun h => ?_)
  · simp only [zz, env0, aPure, aRead, aNew, aEff, aval, avals, aparts, aopt, wantedA, binA, isShift, binI, fillA, single, aRes, splice, mkv, unA, binS, sameAt, reduceCtorEq, reduceIte, Int.reduceEq, Int.reduceLT, Int.reduceLE, Int.reduceNe, Nat.reduceEqDiff, Nat.reduceLT, Nat.reduceAdd, Nat.reduceMul, Nat.reduceSub, Nat.reduceLeDiff, Int.reduceBEq, Int.reduceBNe, Nat.reduceBEq, Nat.reduceBNe, Int.reduceToNat]
    refine hK2 _ _ hk0 ?_
    rintro ⟨t, h1, h2⟩
    have := hlen1 t h1
    simp at h; omega
  · have hsl' : s.length < l.length := by simp at h; omega
    simp only [h, zz, env0, aPure, aRead, aNew, aEff, aval, avals, aparts, aopt, wantedA, binA, isShift, binI, fillA, single, aRes, splice, mkv, unA, binS, sameAt, reduceCtorEq, reduceIte, Int.reduceEq, Int.reduceLT, Int.reduceLE, Int.reduceNe, Nat.reduceEqDiff, Nat.reduceLT, Nat.reduceAdd, Nat.reduceMul, Nat.reduceSub, Nat.reduceLeDiff, Int.reduceBEq, Int.reduceBNe, Nat.reduceBEq, Nat.reduceBNe, Int.reduceToNat]
    refine WCL (fun r env H' => ∃ (i : Nat) (vs' : AV) (t : List Int) (a6 a7 a8 a10 a11 a12 : AV), i ≤ n.kids.length ∧ r = l.length + a - t.length - s.length ∧ i ≤ t.length ∧ Keeps H0 H' ∧ travKids (travK l a) (n.kids.take i) = some t ∧ s.length + t.length + 1 ≤ l.length + a ∧
        WR H' H0.length 1 vs' (s ++ t).length ((s ++ t).map (AV.int .i64)) ∧
        env = [v, .int .i64 a, vs', .nilsl, .bool false, .int .i64 i, a6, a7, a8, .bool false, a10, a11, a12]) (n := l.length + a - s.length)
      ⟨0, vs, [], _, _, _, _, _, _, Nat.zero_le _, by simp, Nat.zero_le _, hk0, rfl, by simp; omega, by simpa using hs, rfl⟩ ?_
    rintro r env H' ⟨i, vs', t, a6, a7, a8, a10, a11, a12, hin, rfl, hit, hk, htk, hst, hw, rfl⟩
    obtain ⟨b9, o9, kv, rfl, hok, hkv, hld⟩ := (Rows.keeps NdP.mono hk hN).nd hn
    have p1 : (0 : Int) ≤ a := by omega
    have p2 : (a : Int) < l.length := by omega
    have h5 := hld 5 1 (by omega)
    simp only [ndRow, List.drop_succ_cons, List.drop_zero, List.take_succ_cons, List.take_zero] at h5
    have hlk := hkv.lenOf
    simp only [p1, p2, h5, hlk, zz, env0, aPure, aRead, aNew, aEff, aval, avals, aparts, aopt, wantedA, binA, isShift, binI, fillA, single, aRes, splice, mkv, unA, binS, sameAt, reduceCtorEq, reduceIte, Int.reduceEq, Int.reduceLT, Int.reduceLE, Int.reduceNe, Nat.reduceEqDiff, Nat.reduceLT, Nat.reduceAdd, Nat.reduceMul, Nat.reduceSub, Nat.reduceLeDiff, Int.reduceBEq, Int.reduceBNe, Nat.reduceBEq, Nat.reduceBNe, Int.reduceToNat]
    refine onB_of (fun hlt => ?_) (fun hlt => ?_)
    · have hlt : i < n.kids.length := by simpa using hlt
      obtain ⟨x, hx⟩ : ∃ x, n.kids[i]? = some x := ⟨n.kids[i], List.getElem?_eq_getElem hlt⟩
      obtain ⟨ik, ok, rfl, g1⟩ := hkv.int hx
      have r1 : (0 : Int) ≤ i := by omega
      have r2 : (i : Int) < n.kids.length := by omega
      have htk1 : n.kids.take (i + 1) = n.kids.take i ++ [x] := by
        rw [List.take_succ_eq_append_getElem hlt]; congr 2
        rw [List.getElem?_eq_getElem hlt] at hx; simpa using hx
      have vi : IntKind.i64.wrap ((i : Int) + 1) = ((i + 1 : Nat) : Int) := by rw [wrap_i64 (by omega) (by omega)]; rfl
      -- why it is no tree
      have no : (¬ ∃ t2, travK l a x = some t2 ∧ (s ++ t).length + t2.length ≤ l.length) → ¬ ∃ t, travO l a = some t ∧ s.length + t.length ≤ l.length := fun hno ⟨tt, h1, h2⟩ => by
        rw [htr] at h1
        split at h1
        · rename_i tk htk2
          simp only [Option.some.injEq] at h1
          obtain ⟨ta, tb, e1, _, e3⟩ := travKids_take htk2 (i + 1)
          rw [htk1, travKids_snoc _ _ _ _ htk] at e1
          cases hf : travK l a x with
          | none => rw [hf] at e1; simp at e1
          | some t2 =>
            rw [hf] at e1
            simp only [Option.map_some, Option.some.injEq] at e1
            refine hno ⟨t2, hf, ?_⟩
            rw [← h1, e3, ← e1] at h2
            simp only [List.length_append, List.length_singleton] at h2 ⊢
            omega
        · simp at h1
      have bad : (x < 0 ∨ (a : Int) ≤ x) → travK l a x = none := fun hb => by unfold travK; rw [if_neg (by omega)]
      simp only [p1, p2, h5, r1, r2, Nat.mul_one, g1, zz, env0, aPure, aRead, aNew, aEff, aval, avals, aparts, aopt, wantedA, binA, isShift, binI, fillA, single, aRes, splice, mkv, unA, binS, sameAt, reduceCtorEq, reduceIte, Int.reduceEq, Int.reduceLT, Int.reduceLE, Int.reduceNe, Nat.reduceEqDiff, Nat.reduceLT, Nat.reduceAdd, Nat.reduceMul, Nat.reduceSub, Nat.reduceLeDiff, Int.reduceBEq, Int.reduceBNe, Nat.reduceBEq, Nat.reduceBNe, Int.reduceToNat]
      refine onG_f (fun h1 => ?_) (fun h1 => ?_)
      · simp only [h1, zz, env0, aPure, aRead, aNew, aEff, aval, avals, aparts, aopt, wantedA, binA, isShift, binI, fillA, single, aRes, splice, mkv, unA, binS, sameAt, reduceCtorEq, reduceIte, Int.reduceEq, Int.reduceLT, Int.reduceLE, Int.reduceNe, Nat.reduceEqDiff, Nat.reduceLT, Nat.reduceAdd, Nat.reduceMul, Nat.reduceSub, Nat.reduceLeDiff, Int.reduceBEq, Int.reduceBNe, Nat.reduceBEq, Nat.reduceBNe, Int.reduceToNat]
        refine onB_of (fun h2 => ?_) (fun h2 => ?_)
        · simp only [zz, env0, aPure, aRead, aNew, aEff, aval, avals, aparts, aopt, wantedA, binA, isShift, binI, fillA, single, aRes, splice, mkv, unA, binS, sameAt, reduceCtorEq, reduceIte, Int.reduceEq, Int.reduceLT, Int.reduceLE, Int.reduceNe, Nat.reduceEqDiff, Nat.reduceLT, Nat.reduceAdd, Nat.reduceMul, Nat.reduceSub, Nat.reduceLeDiff, Int.reduceBEq, Int.reduceBNe, Nat.reduceBEq, Nat.reduceBNe, Int.reduceToNat]
          exact hK2 _ _ hk (no (fun ⟨t2, e, _⟩ => by rw [bad (.inr (by simpa using h2))] at e; simp at e))
        · have hx0 : 0 ≤ x := by simpa using h1
          have hxa : x < a := by simpa using h2
          obtain ⟨m, rfl⟩ : ∃ m : Nat, x = m := ⟨x.toNat, by omega⟩
          have htm : travK l a (m : Int) = travO l m := by unfold travK; rw [if_pos (by omega)]; rfl
          rw [htm] at no
          simp only [zz, env0, aPure, aRead, aNew, aEff, aval, avals, aparts, aopt, wantedA, binA, isShift, binI, fillA, single, aRes, splice, mkv, unA, binS, sameAt, reduceCtorEq, reduceIte, Int.reduceEq, Int.reduceLT, Int.reduceLE, Int.reduceNe, Nat.reduceEqDiff, Nat.reduceLT, Nat.reduceAdd, Nat.reduceMul, Nat.reduceSub, Nat.reduceLeDiff, Int.reduceBEq, Int.reduceBNe, Nat.reduceBEq, Nat.reduceBNe, Int.reduceToNat]
          refine ih m (by omega) (by omega) H' vs' (s ++ t) _ hk hw (by rw [List.length_append]; omega) ?_ ?_
          · intro H2 v2 t2 hk2 ht2 hl2 hw2
            obtain ⟨s2, hs2⟩ := travO_last ht2
            have ht2l : 1 ≤ t2.length := by rw [hs2]; simp
            rw [List.length_append] at hl2
            simp only [vi, zz, env0, aPure, aRead, aNew, aEff, aval, avals, aparts, aopt, wantedA, binA, isShift, binI, fillA, single, aRes, splice, mkv, unA, binS, sameAt, reduceCtorEq, reduceIte, Int.reduceEq, Int.reduceLT, Int.reduceLE, Int.reduceNe, Nat.reduceEqDiff, Nat.reduceLT, Nat.reduceAdd, Nat.reduceMul, Nat.reduceSub, Nat.reduceLeDiff, Int.reduceBEq, Int.reduceBNe, Nat.reduceBEq, Nat.reduceBNe, Int.reduceToNat]
            refine ⟨l.length + a - (t ++ t2).length - s.length, by rw [List.length_append]; omega, i + 1, v2, t ++ t2, _, _, _, _, _, _, by omega, rfl, by rw [List.length_append]; omega, hk2, ?_, by rw [List.length_append]; omega, ?_, rfl⟩
            · rw [htk1, travKids_snoc _ _ _ _ htk, htm, ht2]; rfl
            · rw [← List.append_assoc]; exact hw2
          · intro H2 v2 hk2 hno2
            simp only [zz, env0, aPure, aRead, aNew, aEff, aval, avals, aparts, aopt, wantedA, binA, isShift, binI, fillA, single, aRes, splice, mkv, unA, binS, sameAt, reduceCtorEq, reduceIte, Int.reduceEq, Int.reduceLT, Int.reduceLE, Int.reduceNe, Nat.reduceEqDiff, Nat.reduceLT, Nat.reduceAdd, Nat.reduceMul, Nat.reduceSub, Nat.reduceLeDiff, Int.reduceBEq, Int.reduceBNe, Nat.reduceBEq, Nat.reduceBNe, Int.reduceToNat]
            exact hK2 _ _ hk2 (no hno2)
      · simp only [h1, zz, env0, aPure, aRead, aNew, aEff, aval, avals, aparts, aopt, wantedA, binA, isShift, binI, fillA, single, aRes, splice, mkv, unA, binS, sameAt, reduceCtorEq, reduceIte, Int.reduceEq, Int.reduceLT, Int.reduceLE, Int.reduceNe, Nat.reduceEqDiff, Nat.reduceLT, Nat.reduceAdd, Nat.reduceMul, Nat.reduceSub, Nat.reduceLeDiff, Int.reduceBEq, Int.reduceBNe, Nat.reduceBEq, Nat.reduceBNe, Int.reduceToNat]
        exact hK2 _ _ hk (no (fun ⟨t2, e, _⟩ => by rw [bad (.inl (by simpa using h1))] at e; simp at e))
    · have hie : i = n.kids.length := by simp at hlt; omega
      subst hie
      rw [List.take_length] at htk
      have hls' := hw.lenOf
      rw [htk] at htr
      obtain ⟨v', H4, ha4, hw4, he4, hid4⟩ := (hw.keeps (Keeps.p1 H' (some (.cells 1 true [.int .i64 a])))).append (bytes := 8) (by have := hk.1; simp; omega) (src_new H' 1 1 [.int .i64 a] rfl) rfl rfl (by simp only [maxRoom]; rw [List.length_append]; omega)
      have hk4 : Keeps H0 H4 := Else.keeps (hk.trans (.p1 _ _)) he4 (fun i hi => (hw.id hi).1)
      simp only [hlt, ha4, zz, env0, aPure, aRead, aNew, aEff, aval, avals, aparts, aopt, wantedA, binA, isShift, binI, fillA, single, aRes, splice, mkv, unA, binS, sameAt, reduceCtorEq, reduceIte, Int.reduceEq, Int.reduceLT, Int.reduceLE, Int.reduceNe, Nat.reduceEqDiff, Nat.reduceLT, Nat.reduceAdd, Nat.reduceMul, Nat.reduceSub, Nat.reduceLeDiff, Int.reduceBEq, Int.reduceBNe, Nat.reduceBEq, Nat.reduceBNe, Int.reduceToNat]
      refine hK1 _ _ (t ++ [(a : Int)]) hk4 htr (by simp; omega) ?_
      have e : (s ++ (t ++ [(a : Int)])).length = (s ++ t).length + 1 := by simp; omega
      rw [e, ← List.append_assoc, List.map_append]
      exact hw4

theorem rright_spec (H : AHeap) (v : AV) (l : List Nd) (hN : Nds H v l) (hbig : l.length < 9223372036854775808) (K : AV → AHeap → Prop)
   (hK : ∀ b H', Keeps H H' → (b = true ↔ RightT l) → K (.bool b) H') : WF P0 35 [v] H K := by
  have hla := hN.lenOf
  have hiff := right_iff l
  refine zWF rfl rfl rfl ?_
  simp only [a35, hla, zz, env0, aPure, aRead, aNew, aEff, aval, avals, aparts, aopt, wantedA, binA, isShift, binI, fillA, single, aRes, splice, mkv, unA, binS, sameAt, reduceCtorEq, reduceIte, Int.reduceEq, Int.reduceLT, Int.reduceLE, Int.reduceNe, Nat.reduceEqDiff, Nat.reduceLT, Nat.reduceAdd, Nat.reduceMul, Nat.reduceSub, Nat.reduceLeDiff, Int.reduceBEq, Int.reduceBNe, Nat.reduceBEq, Nat.reduceBNe, Int.reduceToNat]
  refine onG_f (fun h1 => ?_) (fun h1 => ?_)
  · simp only [h1, hla, zz, env0, aPure, aRead, aNew, aEff, aval, avals, aparts, aopt, wantedA, binA, isShift, binI, fillA, single, aRes, splice, mkv, unA, binS, sameAt, reduceCtorEq, reduceIte, Int.reduceEq, Int.reduceLT, Int.reduceLE, Int.reduceNe, Nat.reduceEqDiff, Nat.reduceLT, Nat.reduceAdd, Nat.reduceMul, Nat.reduceSub, Nat.reduceLeDiff, Int.reduceBEq, Int.reduceBNe, Nat.reduceBEq, Nat.reduceBNe, Int.reduceToNat]
    refine onB_of (fun h2 => ?_) (fun h2 => ?_)
    · simp only [zz, env0, aPure, aRead, aNew, aEff, aval, avals, aparts, aopt, wantedA, binA, isShift, binI, fillA, single, aRes, splice, mkv, unA, binS, sameAt, reduceCtorEq, reduceIte, Int.reduceEq, Int.reduceLT, Int.reduceLE, Int.reduceNe, Nat.reduceEqDiff, Nat.reduceLT, Nat.reduceAdd, Nat.reduceMul, Nat.reduceSub, Nat.reduceLeDiff, Int.reduceBEq, Int.reduceBNe, Nat.reduceBEq, Nat.reduceBNe, Int.reduceToNat]
      refine hK _ _ (.refl _) ?_
      simp at h2
      simp [RightT]; omega
    · simp only [h2, zz, env0, aPure, aRead, aNew, aEff, aval, avals, aparts, aopt, wantedA, binA, isShift, binI, fillA, single, aRes, splice, mkv, unA, binS, sameAt, reduceCtorEq, reduceIte, Int.reduceEq, Int.reduceLT, Int.reduceLE, Int.reduceNe, Nat.reduceEqDiff, Nat.reduceLT, Nat.reduceAdd, Nat.reduceMul, Nat.reduceSub, Nat.reduceLeDiff, Int.reduceBEq, Int.reduceBNe, Nat.reduceBEq, Nat.reduceBNe, Int.reduceToNat]
      have hl1 : 1 ≤ l.length := by simp at h1; omega
      have hl2 : l.length ≤ 1024 := by simp at h2; omega
      refine WCL (fun r env H' => Keeps H H' ∧ ∃ (k : Nat) (a7 a8 : AV), k ≤ l.length ∧ r = l.length - k ∧ (∀ j n, j < k → l[j]? = some n → Shaped n) ∧
          env = [v, .bool false, .int .i64 k, .junk, .junk, .junk, .bool false, a7, a8, .junk, .junk, .junk]) (n := l.length)
        ⟨.refl _, 0, _, _, Nat.zero_le _, rfl, fun j n h => by omega, rfl⟩ ?_
      rintro r env H' ⟨hk, k, a7, a8, hkl, rfl, hsh, rfl⟩
      simp only [hla, zz, env0, aPure, aRead, aNew, aEff, aval, avals, aparts, aopt, wantedA, binA, isShift, binI, fillA, single, aRes, splice, mkv, unA, binS, sameAt, reduceCtorEq, reduceIte, Int.reduceEq, Int.reduceLT, Int.reduceLE, Int.reduceNe, Nat.reduceEqDiff, Nat.reduceLT, Nat.reduceAdd, Nat.reduceMul, Nat.reduceSub, Nat.reduceLeDiff, Int.reduceBEq, Int.reduceBNe, Nat.reduceBEq, Nat.reduceBNe, Int.reduceToNat]
      refine onB_of (fun hlt => ?_) (fun hlt => ?_)
      · have hlt : k < l.length := by simpa using hlt
        obtain ⟨n, hn⟩ : ∃ n, l[k]? = some n := ⟨l[k], List.getElem?_eq_getElem (by omega)⟩
        obtain ⟨i, o, kv, rfl, hok, hkv, hld⟩ := (Rows.keeps NdP.mono hk hN).nd hn
        have hk0 : (0 : Int) ≤ k := by omega
        have hk1 : (k : Int) < l.length := by omega
        have h9 := hld 0 9 (by omega)
        simp only [Nat.add_zero, List.drop_zero, ndRow, List.take_succ_cons, List.take_zero] at h9
        have vk : IntKind.i64.wrap ((k : Int) + 1) = ((k + 1 : Nat) : Int) := by rw [wrap_i64 (by omega) (by omega)]; rfl
        simp only [hk0, hk1, h9, zz, env0, aPure, aRead, aNew, aEff, aval, avals, aparts, aopt, wantedA, binA, isShift, binI, fillA, single, aRes, splice, mkv, unA, binS, sameAt, reduceCtorEq, reduceIte, Int.reduceEq, Int.reduceLT, Int.reduceLE, Int.reduceNe, Nat.reduceEqDiff, Nat.reduceLT, Nat.reduceAdd, Nat.reduceMul, Nat.reduceSub, Nat.reduceLeDiff, Int.reduceBEq, Int.reduceBNe, Nat.reduceBEq, Nat.reduceBNe, Int.reduceToNat]
        refine shape_spec _ _ _ hok hkv _ ?_
        intro b H2 hk2 hb
        cases b with
        | false =>
          simp only [zz, env0, aPure, aRead, aNew, aEff, aval, avals, aparts, aopt, wantedA, binA, isShift, binI, fillA, single, aRes, splice, mkv, unA, binS, sameAt, reduceCtorEq, reduceIte, Int.reduceEq, Int.reduceLT, Int.reduceLE, Int.reduceNe, Nat.reduceEqDiff, Nat.reduceLT, Nat.reduceAdd, Nat.reduceMul, Nat.reduceSub, Nat.reduceLeDiff, Int.reduceBEq, Int.reduceBNe, Nat.reduceBEq, Nat.reduceBNe, Int.reduceToNat]
          refine hK _ _ (hk.trans hk2) ?_
          simp only [Bool.false_eq_true, false_iff]
          intro hR
          have := hb.2 ((hiff.1 hR).2.2.1 n (List.mem_of_getElem? hn))
          simp at this
        | true =>
          simp only [vk, zz, env0, aPure, aRead, aNew, aEff, aval, avals, aparts, aopt, wantedA, binA, isShift, binI, fillA, single, aRes, splice, mkv, unA, binS, sameAt, reduceCtorEq, reduceIte, Int.reduceEq, Int.reduceLT, Int.reduceLE, Int.reduceNe, Nat.reduceEqDiff, Nat.reduceLT, Nat.reduceAdd, Nat.reduceMul, Nat.reduceSub, Nat.reduceLeDiff, Int.reduceBEq, Int.reduceBNe, Nat.reduceBEq, Nat.reduceBNe, Int.reduceToNat]
          refine ⟨l.length - (k + 1), by omega, hk.trans hk2, k + 1, _, _, hlt, rfl, fun j m hj hm => ?_, rfl⟩
          rcases Nat.lt_or_ge j k with h | h
          · exact hsh j m h hm
          · have : j = k := by omega
            subst this; rw [hn] at hm; simp only [Option.some.injEq] at hm; subst hm; exact hb.1 rfl
      · have hkn : k = l.length := by simp at hlt; omega
        subst hkn
        have hall : ∀ n, n ∈ l → Shaped n := fun n hn => by
          obtain ⟨j, hj⟩ := List.mem_iff_getElem?.1 hn
          refine hsh j n ?_ hj
          rcases Nat.lt_or_ge j l.length with h | h
          · exact h
          · rw [List.getElem?_eq_none h] at hj; simp at hj
        have v1 : IntKind.i64.wrap ((l.length : Int) - 1) = ((l.length - 1 : Nat) : Int) := by rw [wrap_i64 (by omega) (by omega)]; omega
        simp only [hla, v1, zz, env0, aPure, aRead, aNew, aEff, aval, avals, aparts, aopt, wantedA, binA, isShift, binI, fillA, single, aRes, splice, mkv, unA, binS, sameAt, reduceCtorEq, reduceIte, Int.reduceEq, Int.reduceLT, Int.reduceLE, Int.reduceNe, Nat.reduceEqDiff, Nat.reduceLT, Nat.reduceAdd, Nat.reduceMul, Nat.reduceSub, Nat.reduceLeDiff, Int.reduceBEq, Int.reduceBNe, Nat.reduceBEq, Nat.reduceBNe, Int.reduceToNat]
        refine walk_spec (by omega) hN (l.length - 1) (by omega) H' .nilsl [] _ hk .nil (by simp) ?_ ?_
        · intro H2 v2 t hk2 ht hlt2 hw2
          rw [List.nil_append] at hw2
          have hlo := hw2.lenOf
          simp only [hlo, hla, zz, env0, aPure, aRead, aNew, aEff, aval, avals, aparts, aopt, wantedA, binA, isShift, binI, fillA, single, aRes, splice, mkv, unA, binS, sameAt, reduceCtorEq, reduceIte, Int.reduceEq, Int.reduceLT, Int.reduceLE, Int.reduceNe, Nat.reduceEqDiff, Nat.reduceLT, Nat.reduceAdd, Nat.reduceMul, Nat.reduceSub, Nat.reduceLeDiff, Int.reduceBEq, Int.reduceBNe, Nat.reduceBEq, Nat.reduceBNe, Int.reduceToNat]
          refine onB_of (fun h3 => ?_) (fun h3 => ?_)
          · simp only [zz, env0, aPure, aRead, aNew, aEff, aval, avals, aparts, aopt, wantedA, binA, isShift, binI, fillA, single, aRes, splice, mkv, unA, binS, sameAt, reduceCtorEq, reduceIte, Int.reduceEq, Int.reduceLT, Int.reduceLE, Int.reduceNe, Nat.reduceEqDiff, Nat.reduceLT, Nat.reduceAdd, Nat.reduceMul, Nat.reduceSub, Nat.reduceLeDiff, Int.reduceBEq, Int.reduceBNe, Nat.reduceBEq, Nat.reduceBNe, Int.reduceToNat]
            refine hK _ _ hk2 ?_
            simp only [Bool.false_eq_true, false_iff]
            intro hR
            have h4 := (hiff.1 hR).2.2.2
            rw [ht] at h4
            simp only [Option.some.injEq] at h4
            rw [h4, nts_len, List.length_range] at h3
            simp at h3
          · have htl : t.length = l.length := by simp [bne_iff_ne] at h3; omega
            have hI : Ints H2 v2 t := ints_of hw2.row
            simp only [h3, hlo, zz, env0, aPure, aRead, aNew, aEff, aval, avals, aparts, aopt, wantedA, binA, isShift, binI, fillA, single, aRes, splice, mkv, unA, binS, sameAt, reduceCtorEq, reduceIte, Int.reduceEq, Int.reduceLT, Int.reduceLE, Int.reduceNe, Nat.reduceEqDiff, Nat.reduceLT, Nat.reduceAdd, Nat.reduceMul, Nat.reduceSub, Nat.reduceLeDiff, Int.reduceBEq, Int.reduceBNe, Nat.reduceBEq, Nat.reduceBNe, Int.reduceToNat]
            refine WCL (fun r env H' => H' = H2 ∧ ∃ (k : Nat) (a7 a8 a10 a11 : AV), k ≤ l.length ∧ r = l.length - k ∧ (∀ (j : Nat) x, j < k → t[j]? = some x → x = (j : Int)) ∧
                env = [v, .bool false, .int .i64 l.length, v2, .bool true, .int .i64 k, .bool false, a7, a8, .bool false, a10, a11]) (n := l.length)
              ⟨rfl, 0, _, _, _, _, Nat.zero_le _, rfl, fun j n h => by omega, rfl⟩ ?_
            rintro r env H3 ⟨rfl, k, b7, b8, b10, b11, hkl2, rfl, hsm, rfl⟩
            simp only [hlo, zz, env0, aPure, aRead, aNew, aEff, aval, avals, aparts, aopt, wantedA, binA, isShift, binI, fillA, single, aRes, splice, mkv, unA, binS, sameAt, reduceCtorEq, reduceIte, Int.reduceEq, Int.reduceLT, Int.reduceLE, Int.reduceNe, Nat.reduceEqDiff, Nat.reduceLT, Nat.reduceAdd, Nat.reduceMul, Nat.reduceSub, Nat.reduceLeDiff, Int.reduceBEq, Int.reduceBNe, Nat.reduceBEq, Nat.reduceBNe, Int.reduceToNat]
            refine onB_of (fun hlt => ?_) (fun hlt => ?_)
            · have hlt : k < t.length := by simpa using hlt
              obtain ⟨x, hx⟩ : ∃ x, t[k]? = some x := ⟨t[k], List.getElem?_eq_getElem (by omega)⟩
              obtain ⟨i2, o2, rfl, g1⟩ := hI.int hx
              have r1 : (0 : Int) ≤ k := by omega
              have r2 : (k : Int) < t.length := by omega
              have vk : IntKind.i64.wrap ((k : Int) + 1) = ((k + 1 : Nat) : Int) := by rw [wrap_i64 (by omega) (by omega)]; rfl
              simp only [r1, r2, Nat.mul_one, g1, zz, env0, aPure, aRead, aNew, aEff, aval, avals, aparts, aopt, wantedA, binA, isShift, binI, fillA, single, aRes, splice, mkv, unA, binS, sameAt, reduceCtorEq, reduceIte, Int.reduceEq, Int.reduceLT, Int.reduceLE, Int.reduceNe, Nat.reduceEqDiff, Nat.reduceLT, Nat.reduceAdd, Nat.reduceMul, Nat.reduceSub, Nat.reduceLeDiff, Int.reduceBEq, Int.reduceBNe, Nat.reduceBEq, Nat.reduceBNe, Int.reduceToNat]
              refine onB_of (fun hne => ?_) (fun hne => ?_)
              · simp only [zz, env0, aPure, aRead, aNew, aEff, aval, avals, aparts, aopt, wantedA, binA, isShift, binI, fillA, single, aRes, splice, mkv, unA, binS, sameAt, reduceCtorEq, reduceIte, Int.reduceEq, Int.reduceLT, Int.reduceLE, Int.reduceNe, Nat.reduceEqDiff, Nat.reduceLT, Nat.reduceAdd, Nat.reduceMul, Nat.reduceSub, Nat.reduceLeDiff, Int.reduceBEq, Int.reduceBNe, Nat.reduceBEq, Nat.reduceBNe, Int.reduceToNat]
                refine hK _ _ hk2 ?_
                simp only [Bool.false_eq_true, false_iff]
                intro hR
                have h4 := (hiff.1 hR).2.2.2
                rw [ht] at h4
                simp only [Option.some.injEq] at h4
                rw [h4, nts_get (List.getElem?_range (by omega))] at hx
                simp only [Option.some.injEq] at hx
                rw [← hx] at hne
                simp at hne
              · simp only [vk, zz, env0, aPure, aRead, aNew, aEff, aval, avals, aparts, aopt, wantedA, binA, isShift, binI, fillA, single, aRes, splice, mkv, unA, binS, sameAt, reduceCtorEq, reduceIte, Int.reduceEq, Int.reduceLT, Int.reduceLE, Int.reduceNe, Nat.reduceEqDiff, Nat.reduceLT, Nat.reduceAdd, Nat.reduceMul, Nat.reduceSub, Nat.reduceLeDiff, Int.reduceBEq, Int.reduceBNe, Nat.reduceBEq, Nat.reduceBNe, Int.reduceToNat]
                have hxk : x = (k : Int) := by simpa [bne_iff_ne] using hne
                refine ⟨l.length - (k + 1), by omega, k + 1, _, _, _, _, by omega, rfl, fun j y hj hy => ?_, rfl⟩
                rcases Nat.lt_or_ge j k with h | h
                · exact hsm j y h hy
                · have : j = k := by omega
                  subst this; rw [hx] at hy; simp only [Option.some.injEq] at hy; subst hy; exact hxk
            · have hkn : k = t.length := by simp at hlt; omega
              simp only [zz, env0, aPure, aRead, aNew, aEff, aval, avals, aparts, aopt, wantedA, binA, isShift, binI, fillA, single, aRes, splice, mkv, unA, binS, sameAt, reduceCtorEq, reduceIte, Int.reduceEq, Int.reduceLT, Int.reduceLE, Int.reduceNe, Nat.reduceEqDiff, Nat.reduceLT, Nat.reduceAdd, Nat.reduceMul, Nat.reduceSub, Nat.reduceLeDiff, Int.reduceBEq, Int.reduceBNe, Nat.reduceBEq, Nat.reduceBNe, Int.reduceToNat]
              refine hK _ _ hk2 ?_
              simp only [true_iff]
              refine hiff.2 ⟨hl1, hl2, hall, ?_⟩
              rw [ht]
              congr 1
              apply List.ext_getElem?
              intro j
              rcases Nat.lt_or_ge j t.length with h | h
              · rw [nts_get (List.getElem?_range (by omega)), List.getElem?_eq_getElem h]
                congr 1
                exact hsm j _ (by omega) (List.getElem?_eq_getElem h)
              · rw [List.getElem?_eq_none h, List.getElem?_eq_none (by rw [nts_len, List.length_range]; omega)]
        · intro H2 v2 hk2 hno
          simp only [zz, env0, aPure, aRead, aNew, aEff, aval, avals, aparts, aopt, wantedA, binA, isShift, binI, fillA, single, aRes, splice, mkv, unA, binS, sameAt, reduceCtorEq, reduceIte, Int.reduceEq, Int.reduceLT, Int.reduceLE, Int.reduceNe, Nat.reduceEqDiff, Nat.reduceLT, Nat.reduceAdd, Nat.reduceMul, Nat.reduceSub, Nat.reduceLeDiff, Int.reduceBEq, Int.reduceBNe, Nat.reduceBEq, Nat.reduceBNe, Int.reduceToNat]
          refine hK _ _ hk2 ?_
          simp only [Bool.false_eq_true, false_iff]
          intro hR
          exact hno ⟨_, (hiff.1 hR).2.2.2, by simp [nts_len]⟩
  · simp only [h1, zz, env0, aPure, aRead, aNew, aEff, aval, avals, aparts, aopt, wantedA, binA, isShift, binI, fillA, single, aRes, splice, mkv, unA, binS, sameAt, reduceCtorEq, reduceIte, Int.reduceEq, Int.reduceLT, Int.reduceLE, Int.reduceNe, Nat.reduceEqDiff, Nat.reduceLT, Nat.reduceAdd, Nat.reduceMul, Nat.reduceSub, Nat.reduceLeDiff, Int.reduceBEq, Int.reduceBNe, Nat.reduceBEq, Nat.reduceBNe, Int.reduceToNat]
    refine hK _ _ (.refl _) ?_
    simp at h1
    simp [RightT]; omega

theorem rplain_spec (H : AHeap) (v : AV) (l : List Nd) (hN : Nds H v l) (hbig : l.length < 9223372036854775808) (K : AV → AHeap → Prop)
   (hK : ∀ b H', Keeps H H' → (b = true ↔ RightT l ∧ NoRef l) → K (.bool b) H') : WF P0 28 [v] H K := by
  have hla := hN.lenOf
  refine zWF rfl rfl rfl ?_
  simp only [a28, zz, env0, aPure, aRead, aNew, aEff, aval, avals, aparts, aopt, wantedA, binA, isShift, binI, fillA, single, aRes, splice, mkv, unA, binS, sameAt, reduceCtorEq, reduceIte, Int.reduceEq, Int.reduceLT, Int.reduceLE, Int.reduceNe, Nat.reduceEqDiff, Nat.reduceLT, Nat.reduceAdd, Nat.reduceMul, Nat.reduceSub, Nat.reduceLeDiff, Int.reduceBEq, Int.reduceBNe, Nat.reduceBEq, Nat.reduceBNe, Int.reduceToNat]
  refine WCL (fun r env H' => H' = H ∧ ∃ (k : Nat) (a3 a4 : AV), k ≤ l.length ∧ r = l.length - k ∧ (∀ j n, j < k → l[j]? = some n → n.op ≠ 6) ∧
      env = [v, .bool false, .int .i64 k, a3, a4]) (n := l.length)
    ⟨rfl, 0, _, _, Nat.zero_le _, rfl, fun j n h => by omega, rfl⟩ ?_
  rintro r env H' ⟨rfl, k, a3, a4, hkl, rfl, hsh, rfl⟩
  simp only [hla, zz, env0, aPure, aRead, aNew, aEff, aval, avals, aparts, aopt, wantedA, binA, isShift, binI, fillA, single, aRes, splice, mkv, unA, binS, sameAt, reduceCtorEq, reduceIte, Int.reduceEq, Int.reduceLT, Int.reduceLE, Int.reduceNe, Nat.reduceEqDiff, Nat.reduceLT, Nat.reduceAdd, Nat.reduceMul, Nat.reduceSub, Nat.reduceLeDiff, Int.reduceBEq, Int.reduceBNe, Nat.reduceBEq, Nat.reduceBNe, Int.reduceToNat]
  refine onB_of (fun hlt => ?_) (fun hlt => ?_)
  · have hlt : k < l.length := by simpa using hlt
    obtain ⟨n, hn⟩ : ∃ n, l[k]? = some n := ⟨l[k], List.getElem?_eq_getElem (by omega)⟩
    obtain ⟨i, o, kv, rfl, hok, hkv, hld⟩ := hN.nd hn
    have hk0 : (0 : Int) ≤ k := by omega
    have hk1 : (k : Int) < l.length := by omega
    have h0 := hld 0 1 (by omega)
    simp only [Nat.add_zero, List.drop_zero, ndRow, List.take_succ_cons, List.take_zero] at h0
    have vk : IntKind.i64.wrap ((k : Int) + 1) = ((k + 1 : Nat) : Int) := by rw [wrap_i64 (by omega) (by omega)]; rfl
    simp only [hk0, hk1, h0, zz, env0, aPure, aRead, aNew, aEff, aval, avals, aparts, aopt, wantedA, binA, isShift, binI, fillA, single, aRes, splice, mkv, unA, binS, sameAt, reduceCtorEq, reduceIte, Int.reduceEq, Int.reduceLT, Int.reduceLE, Int.reduceNe, Nat.reduceEqDiff, Nat.reduceLT, Nat.reduceAdd, Nat.reduceMul, Nat.reduceSub, Nat.reduceLeDiff, Int.reduceBEq, Int.reduceBNe, Nat.reduceBEq, Nat.reduceBNe, Int.reduceToNat]
    refine onB_of (fun h6 => ?_) (fun h6 => ?_)
    · simp only [zz, env0, aPure, aRead, aNew, aEff, aval, avals, aparts, aopt, wantedA, binA, isShift, binI, fillA, single, aRes, splice, mkv, unA, binS, sameAt, reduceCtorEq, reduceIte, Int.reduceEq, Int.reduceLT, Int.reduceLE, Int.reduceNe, Nat.reduceEqDiff, Nat.reduceLT, Nat.reduceAdd, Nat.reduceMul, Nat.reduceSub, Nat.reduceLeDiff, Int.reduceBEq, Int.reduceBNe, Nat.reduceBEq, Nat.reduceBNe, Int.reduceToNat]
      refine hK _ _ (.refl _) ?_
      simp only [Bool.false_eq_true, false_iff]
      rintro ⟨_, hno⟩
      exact hno n (List.mem_of_getElem? hn) (by simpa using h6)
    · simp only [vk, zz, env0, aPure, aRead, aNew, aEff, aval, avals, aparts, aopt, wantedA, binA, isShift, binI, fillA, single, aRes, splice, mkv, unA, binS, sameAt, reduceCtorEq, reduceIte, Int.reduceEq, Int.reduceLT, Int.reduceLE, Int.reduceNe, Nat.reduceEqDiff, Nat.reduceLT, Nat.reduceAdd, Nat.reduceMul, Nat.reduceSub, Nat.reduceLeDiff, Int.reduceBEq, Int.reduceBNe, Nat.reduceBEq, Nat.reduceBNe, Int.reduceToNat]
      refine ⟨l.length - (k + 1), by omega, k + 1, _, _, hlt, rfl, fun j m hj hm => ?_, rfl⟩
      rcases Nat.lt_or_ge j k with h | h
      · exact hsh j m h hm
      · have : j = k := by omega
        subst this; rw [hn] at hm; simp only [Option.some.injEq] at hm; subst hm; simpa using h6
  · have hkn : k = l.length := by simp at hlt; omega
    simp only [zz, env0, aPure, aRead, aNew, aEff, aval, avals, aparts, aopt, wantedA, binA, isShift, binI, fillA, single, aRes, splice, mkv, unA, binS, sameAt, reduceCtorEq, reduceIte, Int.reduceEq, Int.reduceLT, Int.reduceLE, Int.reduceNe, Nat.reduceEqDiff, Nat.reduceLT, Nat.reduceAdd, Nat.reduceMul, Nat.reduceSub, Nat.reduceLeDiff, Int.reduceBEq, Int.reduceBNe, Nat.reduceBEq, Nat.reduceBNe, Int.reduceToNat]
    refine rright_spec _ _ l hN hbig _ ?_
    intro b H2 hk2 hb
    simp only [zz, env0, aPure, aRead, aNew, aEff, aval, avals, aparts, aopt, wantedA, binA, isShift, binI, fillA, single, aRes, splice, mkv, unA, binS, sameAt, reduceCtorEq, reduceIte, Int.reduceEq, Int.reduceLT, Int.reduceLE, Int.reduceNe, Nat.reduceEqDiff, Nat.reduceLT, Nat.reduceAdd, Nat.reduceMul, Nat.reduceSub, Nat.reduceLeDiff, Int.reduceBEq, Int.reduceBNe, Nat.reduceBEq, Nat.reduceBNe, Int.reduceToNat]
    refine hK _ _ hk2 ?_
    rw [hb]
    refine ⟨fun h => ⟨h, fun n hn => ?_⟩, fun h => h.1⟩
    obtain ⟨j, hj⟩ := List.mem_iff_getElem?.1 hn
    refine hsh j n ?_ hj
    rcases Nat.lt_or_ge j l.length with h | h
    · omega
    · rw [List.getElem?_eq_none h] at hj; simp at hj
end Go.Proofs.Ytnblhjpbpobglaa

/- Guards: light, good, few. -/
set_option maxRecDepth 100000
set_option linter.unusedSimpArgs false
namespace Go.Proofs.Ytnblhjpbpobglaa
open Go.Am

theorem light_spec (H : AHeap) (v : AV) (l : List Nd) (hN : Nds H v l) (hl : l.length ≤ 60) (K : AV → AHeap → Prop) (hK : ∀ b H', Keeps H H' → K (.bool b) H') : WF P0 19 [v] H K := by
  have hla := hN.lenOf
  have hmk1 : (0 : Int) ≤ l.length := by omega
  have hmk2 : (l.length : Int) * 8 ≤ ((maxRoom : Nat) : Int) := by simp only [maxRoom]; omega
  have hmk3 : (l.length : Int) ≤ 1152921504606846976 := by omega
  refine zWF rfl rfl rfl ?_
  simp only [a19, hla, hmk1, hmk2, hmk3, zz, env0, aPure, aRead, aNew, aEff, aval, avals, aparts, aopt, wantedA, binA, isShift, binI, fillA, single, aRes, splice, mkv, unA, binS, sameAt, reduceCtorEq, reduceIte, Int.reduceEq, Int.reduceLT, Int.reduceLE, Int.reduceNe, Nat.reduceEqDiff, Nat.reduceLT, Nat.reduceAdd, Nat.reduceMul, Nat.reduceSub, Nat.reduceLeDiff, Int.reduceBEq, Int.reduceBNe, Nat.reduceBEq, Nat.reduceBNe, Int.reduceToNat]
  have hrows : rows l.length [.int .i64 0] = (List.replicate l.length (0 : Int)).map (AV.int .i64) := by
    simp only [rows]
    generalize l.length = q
    induction q with
    | zero => rfl
    | succ q ih => simp [List.replicate_succ, ih]
  have hd0 := WR.new H 1 l.length (rows l.length [.int .i64 0]) (by rw [hrows]; simp) (Nat.le_refl _)
  refine WCL (fun r env H' => Keeps H H' ∧ ∃ (i : Nat) (ds : List Int) (many : Int) (a4 a5 a6 a10 a11 a12 a13 a14 a15 a16 a17 : AV), i ≤ l.length ∧ r = l.length - i ∧ ds.length = l.length ∧ WR H' H.length 1 (.sl H.length 0 l.length) l.length (ds.map (AV.int .i64)) ∧
      env = [v, .bool false, .sl H.length 0 l.length, .int .i64 many, a4, a5, a6, v, .int .i64 l.length, .int .i64 i, a10, a11, a12, a13, a14, a15, a16, a17]) (n := l.length)
    ⟨.p1 _ _, 0, List.replicate l.length 0, 0, _, _, _, _, _, _, _, _, _, _, _, Nat.zero_le _, rfl, by simp, by rw [← hrows]; exact hd0, rfl⟩ ?_
  rintro r env H' ⟨hk, i, ds, many, a4, a5, a6, a10, a11, a12, a13, a14, a15, a16, a17, hil, rfl, hdl, hd, rfl⟩
  simp only [zz, env0, aPure, aRead, aNew, aEff, aval, avals, aparts, aopt, wantedA, binA, isShift, binI, fillA, single, aRes, splice, mkv, unA, binS, sameAt, reduceCtorEq, reduceIte, Int.reduceEq, Int.reduceLT, Int.reduceLE, Int.reduceNe, Nat.reduceEqDiff, Nat.reduceLT, Nat.reduceAdd, Nat.reduceMul, Nat.reduceSub, Nat.reduceLeDiff, Int.reduceBEq, Int.reduceBNe, Nat.reduceBEq, Nat.reduceBNe, Int.reduceToNat]
  refine onB_of (fun hlt => ?_) (fun hlt => ?_)
  · have hlt : i < l.length := by simpa using hlt
    obtain ⟨n, hn⟩ : ∃ n, l[i]? = some n := ⟨l[i], List.getElem?_eq_getElem (by omega)⟩
    obtain ⟨b9, o9, kv, rfl, hok, hkv0, hld⟩ := hN.nd hn
    have hkid : ∀ q, avId kv = some q → q < H.length := fun q hq => by obtain ⟨rw', cs', hc⟩ := RowAt.id hkv0.ints hq; exact gb_lt hc
    have hkv := Rows.keeps IntP.mono hk hkv0
    have p1 : (0 : Int) ≤ i := by omega
    have p2 : (i : Int) < l.length := by omega
    have h9 := hk.load (hld 0 9 (by omega))
    simp only [Nat.add_zero, List.drop_zero, ndRow, List.take_succ_cons, List.take_zero] at h9
    obtain ⟨f1, f2, f3, f4⟩ := hkv.flat
    have hlk := hkv.lenOf
    simp only [p1, p2, h9, f1, hlk, zz, env0, aPure, aRead, aNew, aEff, aval, avals, aparts, aopt, wantedA, binA, isShift, binI, fillA, single, aRes, splice, mkv, unA, binS, sameAt, reduceCtorEq, reduceIte, Int.reduceEq, Int.reduceLT, Int.reduceLE, Int.reduceNe, Nat.reduceEqDiff, Nat.reduceLT, Nat.reduceAdd, Nat.reduceMul, Nat.reduceSub, Nat.reduceLeDiff, Int.reduceBEq, Int.reduceBNe, Nat.reduceBEq, Nat.reduceBNe, Int.reduceToNat]
    refine WCL (fun r env H2 => Keeps H H2 ∧ ∃ (j : Nat) (ds : List Int) (a6 a14 a15 a16 a17 : AV), j ≤ n.kids.length ∧ r = n.kids.length - j ∧ ds.length = l.length ∧ WR H2 H.length 1 (.sl H.length 0 l.length) l.length (ds.map (AV.int .i64)) ∧
        getB H2 H'.length = some (.cells 9 true (ndRow n kv)) ∧ Ints H2 kv n.kids ∧
        env = [.sl b9 o9 l.length, .bool false, .sl H.length 0 l.length, .int .i64 many, .int .i64 i, .ptr H'.length 0, a6, .sl b9 o9 l.length, .int .i64 l.length, .int .i64 i, .bool true, kv, .int .i64 n.kids.length, .int .i64 j, a14, a15, a16, a17]) (n := n.kids.length)
      ⟨hk.trans (.p1 _ _), 0, ds, _, _, _, _, _, Nat.zero_le _, rfl, hdl, hd.keeps (.p1 _ _), gb_new _ _, Rows.keeps IntP.mono (.p1 _ _) hkv, rfl⟩ ?_
    rintro r env H2 ⟨hk2, j, ds, b6, b14, b15, b16, b17, hjl, rfl, hdl, hd, hbox, hkv2, rfl⟩
    have hI : Ints H2 (.sl H.length 0 l.length) ds := ints_of (by rw [hdl]; exact hd.row)
    obtain ⟨di, hdi⟩ : ∃ x, ds[i]? = some x := ⟨ds[i], List.getElem?_eq_getElem (by omega)⟩
    obtain ⟨_, _, e, gdi⟩ := hI.int hdi
    rw [hdl] at e
    simp only [AV.sl.injEq] at e
    obtain ⟨rfl, rfl, _⟩ := e
    rw [Nat.zero_add] at gdi
    have hbid : H'.length ≠ H.length := by have := hk.1; have := (hd.id (i := H.length) rfl); intro e; rw [e] at hbox; obtain ⟨rw', cs', hc⟩ := RowAt.id hd.row (i := H.length) rfl; rw [hc] at hbox; simp at hbox
    simp only [zz, env0, aPure, aRead, aNew, aEff, aval, avals, aparts, aopt, wantedA, binA, isShift, binI, fillA, single, aRes, splice, mkv, unA, binS, sameAt, reduceCtorEq, reduceIte, Int.reduceEq, Int.reduceLT, Int.reduceLE, Int.reduceNe, Nat.reduceEqDiff, Nat.reduceLT, Nat.reduceAdd, Nat.reduceMul, Nat.reduceSub, Nat.reduceLeDiff, Int.reduceBEq, Int.reduceBNe, Nat.reduceBEq, Nat.reduceBNe, Int.reduceToNat]
    refine onB_of (fun hlt2 => ?_) (fun hlt2 => ?_)
    · have hlt2 : j < n.kids.length := by simpa using hlt2
      obtain ⟨x, hx⟩ : ∃ x, n.kids[j]? = some x := ⟨n.kids[j], List.getElem?_eq_getElem hlt2⟩
      obtain ⟨ik, ok, rfl, g1⟩ := hkv2.int hx
      have r1 : (0 : Int) ≤ j := by omega
      have r2 : (j : Int) < n.kids.length := by omega
      have hkl := hok.klen
      have vj : IntKind.i64.wrap ((j : Int) + 1) = ((j + 1 : Nat) : Int) := by rw [wrap_i64 (by omega) (by omega)]; rfl
      simp only [r1, r2, Nat.mul_one, g1, zz, env0, aPure, aRead, aNew, aEff, aval, avals, aparts, aopt, wantedA, binA, isShift, binI, fillA, single, aRes, splice, mkv, unA, binS, sameAt, reduceCtorEq, reduceIte, Int.reduceEq, Int.reduceLT, Int.reduceLE, Int.reduceNe, Nat.reduceEqDiff, Nat.reduceLT, Nat.reduceAdd, Nat.reduceMul, Nat.reduceSub, Nat.reduceLeDiff, Int.reduceBEq, Int.reduceBNe, Nat.reduceBEq, Nat.reduceBNe, Int.reduceToNat]
      refine onG_f (fun h1 => ?_) (fun h1 => ?_)
      · simp only [h1, zz, env0, aPure, aRead, aNew, aEff, aval, avals, aparts, aopt, wantedA, binA, isShift, binI, fillA, single, aRes, splice, mkv, unA, binS, sameAt, reduceCtorEq, reduceIte, Int.reduceEq, Int.reduceLT, Int.reduceLE, Int.reduceNe, Nat.reduceEqDiff, Nat.reduceLT, Nat.reduceAdd, Nat.reduceMul, Nat.reduceSub, Nat.reduceLeDiff, Int.reduceBEq, Int.reduceBNe, Nat.reduceBEq, Nat.reduceBNe, Int.reduceToNat]
        refine onB_of (fun h2 => ?_) (fun h2 => ?_)
        · simp only [zz, env0, aPure, aRead, aNew, aEff, aval, avals, aparts, aopt, wantedA, binA, isShift, binI, fillA, single, aRes, splice, mkv, unA, binS, sameAt, reduceCtorEq, reduceIte, Int.reduceEq, Int.reduceLT, Int.reduceLE, Int.reduceNe, Nat.reduceEqDiff, Nat.reduceLT, Nat.reduceAdd, Nat.reduceMul, Nat.reduceSub, Nat.reduceLeDiff, Int.reduceBEq, Int.reduceBNe, Nat.reduceBEq, Nat.reduceBNe, Int.reduceToNat]
          exact hK _ _ hk2
        · have hx0 : 0 ≤ x := by simpa using h1
          have hxi : x < i := by simpa using h2
          obtain ⟨dx, hdx⟩ : ∃ y, ds[x.toNat]? = some y := ⟨ds[x.toNat]'(by omega), List.getElem?_eq_getElem (by omega)⟩
          obtain ⟨_, _, e, gdx⟩ := hI.int hdx
          rw [hdl] at e
          simp only [AV.sl.injEq] at e
          obtain ⟨rfl, rfl, _⟩ := e
          rw [Nat.zero_add] at gdx
          have x2 : x < l.length := by omega
          obtain ⟨i4, q4, e4, H4, hs4, hw4, he4, _⟩ := hd.store (k := i) (vs := [.int .i64 (if di < dx then dx else di)]) (by simp; omega) (by omega) rfl
          simp only [AV.sl.injEq] at e4
          obtain ⟨rfl, rfl, _⟩ := e4
          rw [Nat.zero_add] at hs4
          simp only [Nat.mul_one, p1, p2, gdi, hx0, x2, gdx, hs4, vj, zz, env0, aPure, aRead, aNew, aEff, aval, avals, aparts, aopt, wantedA, binA, isShift, binI, fillA, single, aRes, splice, mkv, unA, binS, sameAt, reduceCtorEq, reduceIte, Int.reduceEq, Int.reduceLT, Int.reduceLE, Int.reduceNe, Nat.reduceEqDiff, Nat.reduceLT, Nat.reduceAdd, Nat.reduceMul, Nat.reduceSub, Nat.reduceLeDiff, Int.reduceBEq, Int.reduceBNe, Nat.reduceBEq, Nat.reduceBNe, Int.reduceToNat]
          refine ⟨n.kids.length - (j + 1), by omega, Else.keeps hk2 he4 (fun i hi => by simp only [Option.some.injEq] at hi; omega), j + 1, ds.set i (if di < dx then dx else di), _, _, _, _, _, hlt2, rfl, by simpa using hdl, ?_, he4.2 _ _ (fun e => hbid (by simpa using e.symm)) hbox, ?_, rfl⟩
          · rw [← splice_ints _ _ _ (by omega)]; exact hw4
          · refine ints_else hkv2 (fun q b hq hb => he4.2 q b (fun e => ?_) hb)
            have := hkid q hq
            simp only [Option.some.injEq] at e
            omega
      · simp only [h1, zz, env0, aPure, aRead, aNew, aEff, aval, avals, aparts, aopt, wantedA, binA, isShift, binI, fillA, single, aRes, splice, mkv, unA, binS, sameAt, reduceCtorEq, reduceIte, Int.reduceEq, Int.reduceLT, Int.reduceLE, Int.reduceNe, Nat.reduceEqDiff, Nat.reduceLT, Nat.reduceAdd, Nat.reduceMul, Nat.reduceSub, Nat.reduceLeDiff, Int.reduceBEq, Int.reduceBNe, Nat.reduceBEq, Nat.reduceBNe, Int.reduceToNat]
        exact hK _ _ hk2
    · have f0 : loadA H2 H'.length 0 1 = some [.int .u8 n.op] := load_one hbox rfl
      simp only [f0, zz, env0, aPure, aRead, aNew, aEff, aval, avals, aparts, aopt, wantedA, binA, isShift, binI, fillA, single, aRes, splice, mkv, unA, binS, sameAt, reduceCtorEq, reduceIte, Int.reduceEq, Int.reduceLT, Int.reduceLE, Int.reduceNe, Nat.reduceEqDiff, Nat.reduceLT, Nat.reduceAdd, Nat.reduceMul, Nat.reduceSub, Nat.reduceLeDiff, Int.reduceBEq, Int.reduceBNe, Nat.reduceBEq, Nat.reduceBNe, Int.reduceToNat]
      have vi : IntKind.i64.wrap ((i : Int) + 1) = ((i + 1 : Nat) : Int) := by rw [wrap_i64 (by omega) (by omega)]; rfl
      refine onB_of (fun h5 => ?_) (fun h5 => ?_)
      · obtain ⟨i4, q4, e4, H4, hs4, hw4, he4, _⟩ := hd.store (k := i) (vs := [.int .i64 (IntKind.i64.wrap (di + 1))]) (by simp; omega) (by omega) rfl
        simp only [AV.sl.injEq] at e4
        obtain ⟨rfl, rfl, _⟩ := e4
        rw [Nat.zero_add] at hs4
        rw [splice_ints _ _ _ (by omega)] at hw4
        have hI4 : Ints H4 (.sl H.length 0 l.length) (ds.set i (IntKind.i64.wrap (di + 1))) := ints_of (by rw [List.length_set, hdl]; exact hw4.row)
        obtain ⟨_, _, e, g4⟩ := hI4.int (k := i) (x := IntKind.i64.wrap (di + 1)) (by rw [List.getElem?_set]; simp [hdl, hlt])
        rw [List.length_set, hdl] at e
        simp only [AV.sl.injEq] at e
        obtain ⟨rfl, rfl, _⟩ := e
        rw [Nat.zero_add] at g4
        have hk4 : Keeps H H4 := Else.keeps hk2 he4 (fun i hi => by simp only [Option.some.injEq] at hi; omega)
        simp only [Nat.mul_one, p1, p2, gdi, hs4, g4, zz, env0, aPure, aRead, aNew, aEff, aval, avals, aparts, aopt, wantedA, binA, isShift, binI, fillA, single, aRes, splice, mkv, unA, binS, sameAt, reduceCtorEq, reduceIte, Int.reduceEq, Int.reduceLT, Int.reduceLE, Int.reduceNe, Nat.reduceEqDiff, Nat.reduceLT, Nat.reduceAdd, Nat.reduceMul, Nat.reduceSub, Nat.reduceLeDiff, Int.reduceBEq, Int.reduceBNe, Nat.reduceBEq, Nat.reduceBNe, Int.reduceToNat]
        refine onB_of (fun h6 => ?_) (fun h6 => ?_)
        · simp only [zz, env0, aPure, aRead, aNew, aEff, aval, avals, aparts, aopt, wantedA, binA, isShift, binI, fillA, single, aRes, splice, mkv, unA, binS, sameAt, reduceCtorEq, reduceIte, Int.reduceEq, Int.reduceLT, Int.reduceLE, Int.reduceNe, Nat.reduceEqDiff, Nat.reduceLT, Nat.reduceAdd, Nat.reduceMul, Nat.reduceSub, Nat.reduceLeDiff, Int.reduceBEq, Int.reduceBNe, Nat.reduceBEq, Nat.reduceBNe, Int.reduceToNat]
          exact hK _ _ hk4
        · simp only [vi, zz, env0, aPure, aRead, aNew, aEff, aval, avals, aparts, aopt, wantedA, binA, isShift, binI, fillA, single, aRes, splice, mkv, unA, binS, sameAt, reduceCtorEq, reduceIte, Int.reduceEq, Int.reduceLT, Int.reduceLE, Int.reduceNe, Nat.reduceEqDiff, Nat.reduceLT, Nat.reduceAdd, Nat.reduceMul, Nat.reduceSub, Nat.reduceLeDiff, Int.reduceBEq, Int.reduceBNe, Nat.reduceBEq, Nat.reduceBNe, Int.reduceToNat]
          exact ⟨l.length - (i + 1), by omega, hk4, i + 1, _, _, _, _, _, _, _, _, _, _, _, _, _, hlt, rfl, by rw [List.length_set]; exact hdl, hw4, rfl⟩
      · simp only [Nat.mul_one, p1, p2, gdi, zz, env0, aPure, aRead, aNew, aEff, aval, avals, aparts, aopt, wantedA, binA, isShift, binI, fillA, single, aRes, splice, mkv, unA, binS, sameAt, reduceCtorEq, reduceIte, Int.reduceEq, Int.reduceLT, Int.reduceLE, Int.reduceNe, Nat.reduceEqDiff, Nat.reduceLT, Nat.reduceAdd, Nat.reduceMul, Nat.reduceSub, Nat.reduceLeDiff, Int.reduceBEq, Int.reduceBNe, Nat.reduceBEq, Nat.reduceBNe, Int.reduceToNat]
        refine onB_of (fun h6 => ?_) (fun h6 => ?_)
        · simp only [zz, env0, aPure, aRead, aNew, aEff, aval, avals, aparts, aopt, wantedA, binA, isShift, binI, fillA, single, aRes, splice, mkv, unA, binS, sameAt, reduceCtorEq, reduceIte, Int.reduceEq, Int.reduceLT, Int.reduceLE, Int.reduceNe, Nat.reduceEqDiff, Nat.reduceLT, Nat.reduceAdd, Nat.reduceMul, Nat.reduceSub, Nat.reduceLeDiff, Int.reduceBEq, Int.reduceBNe, Nat.reduceBEq, Nat.reduceBNe, Int.reduceToNat]
          exact hK _ _ hk2
        · simp only [vi, zz, env0, aPure, aRead, aNew, aEff, aval, avals, aparts, aopt, wantedA, binA, isShift, binI, fillA, single, aRes, splice, mkv, unA, binS, sameAt, reduceCtorEq, reduceIte, Int.reduceEq, Int.reduceLT, Int.reduceLE, Int.reduceNe, Nat.reduceEqDiff, Nat.reduceLT, Nat.reduceAdd, Nat.reduceMul, Nat.reduceSub, Nat.reduceLeDiff, Int.reduceBEq, Int.reduceBNe, Nat.reduceBEq, Nat.reduceBNe, Int.reduceToNat]
          exact ⟨l.length - (i + 1), by omega, hk2, i + 1, _, _, _, _, _, _, _, _, _, _, _, _, _, hlt, rfl, hdl, hd, rfl⟩
  · simp only [zz, env0, aPure, aRead, aNew, aEff, aval, avals, aparts, aopt, wantedA, binA, isShift, binI, fillA, single, aRes, splice, mkv, unA, binS, sameAt, reduceCtorEq, reduceIte, Int.reduceEq, Int.reduceLT, Int.reduceLE, Int.reduceNe, Nat.reduceEqDiff, Nat.reduceLT, Nat.reduceAdd, Nat.reduceMul, Nat.reduceSub, Nat.reduceLeDiff, Int.reduceBEq, Int.reduceBNe, Nat.reduceBEq, Nat.reduceBNe, Int.reduceToNat]
    exact hK _ _ hk

theorem good_spec (H : AHeap) (v : AV) (l : List Nd) (hN : Nds H v l) (hbig : l.length < 9223372036854775808) (K : AV → AHeap → Prop)
    (hK : ∀ b H', Keeps H H' → (b = true → l.length ≤ 30 ∧ RightT l ∧ NoRef l) → K (.bool b) H') : WF P0 12 [v] H K := by
  have hla := hN.lenOf
  refine zWF rfl rfl rfl ?_
  simp only [a12, hla, zz, env0, aPure, aRead, aNew, aEff, aval, avals, aparts, aopt, wantedA, binA, isShift, binI, fillA, single, aRes, splice, mkv, unA, binS, sameAt, reduceCtorEq, reduceIte, Int.reduceEq, Int.reduceLT, Int.reduceLE, Int.reduceNe, Nat.reduceEqDiff, Nat.reduceLT, Nat.reduceAdd, Nat.reduceMul, Nat.reduceSub, Nat.reduceLeDiff, Int.reduceBEq, Int.reduceBNe, Nat.reduceBEq, Nat.reduceBNe, Int.reduceToNat]
  refine onG_t (fun h1 => ?_) (fun h1 => ?_)
  · have h30 : l.length ≤ 30 := by simp at h1; omega
    simp only [h1, zz, env0, aPure, aRead, aNew, aEff, aval, avals, aparts, aopt, wantedA, binA, isShift, binI, fillA, single, aRes, splice, mkv, unA, binS, sameAt, reduceCtorEq, reduceIte, Int.reduceEq, Int.reduceLT, Int.reduceLE, Int.reduceNe, Nat.reduceEqDiff, Nat.reduceLT, Nat.reduceAdd, Nat.reduceMul, Nat.reduceSub, Nat.reduceLeDiff, Int.reduceBEq, Int.reduceBNe, Nat.reduceBEq, Nat.reduceBNe, Int.reduceToNat]
    refine rplain_spec _ _ l hN hbig _ ?_
    intro b H2 hk2 hb
    cases b with
    | false =>
      simp only [h1, zz, env0, aPure, aRead, aNew, aEff, aval, avals, aparts, aopt, wantedA, binA, isShift, binI, fillA, single, aRes, splice, mkv, unA, binS, sameAt, reduceCtorEq, reduceIte, Int.reduceEq, Int.reduceLT, Int.reduceLE, Int.reduceNe, Nat.reduceEqDiff, Nat.reduceLT, Nat.reduceAdd, Nat.reduceMul, Nat.reduceSub, Nat.reduceLeDiff, Int.reduceBEq, Int.reduceBNe, Nat.reduceBEq, Nat.reduceBNe, Int.reduceToNat]
      exact hK _ _ hk2 (fun h => by simp at h)
    | true =>
      simp only [h1, zz, env0, aPure, aRead, aNew, aEff, aval, avals, aparts, aopt, wantedA, binA, isShift, binI, fillA, single, aRes, splice, mkv, unA, binS, sameAt, reduceCtorEq, reduceIte, Int.reduceEq, Int.reduceLT, Int.reduceLE, Int.reduceNe, Nat.reduceEqDiff, Nat.reduceLT, Nat.reduceAdd, Nat.reduceMul, Nat.reduceSub, Nat.reduceLeDiff, Int.reduceBEq, Int.reduceBNe, Nat.reduceBEq, Nat.reduceBNe, Int.reduceToNat]
      refine light_spec _ _ l (Rows.keeps NdP.mono hk2 hN) (by omega) _ ?_
      intro b3 H3 hk3
      simp only [h1, zz, env0, aPure, aRead, aNew, aEff, aval, avals, aparts, aopt, wantedA, binA, isShift, binI, fillA, single, aRes, splice, mkv, unA, binS, sameAt, reduceCtorEq, reduceIte, Int.reduceEq, Int.reduceLT, Int.reduceLE, Int.reduceNe, Nat.reduceEqDiff, Nat.reduceLT, Nat.reduceAdd, Nat.reduceMul, Nat.reduceSub, Nat.reduceLeDiff, Int.reduceBEq, Int.reduceBNe, Nat.reduceBEq, Nat.reduceBNe, Int.reduceToNat]
      exact hK _ _ (hk2.trans hk3) (fun _ => ⟨h30, hb.1 rfl⟩)
  · simp only [h1, zz, env0, aPure, aRead, aNew, aEff, aval, avals, aparts, aopt, wantedA, binA, isShift, binI, fillA, single, aRes, splice, mkv, unA, binS, sameAt, reduceCtorEq, reduceIte, Int.reduceEq, Int.reduceLT, Int.reduceLE, Int.reduceNe, Nat.reduceEqDiff, Nat.reduceLT, Nat.reduceAdd, Nat.reduceMul, Nat.reduceSub, Nat.reduceLeDiff, Int.reduceBEq, Int.reduceBNe, Nat.reduceBEq, Nat.reduceBNe, Int.reduceToNat]
    exact hK _ _ (.refl _) (fun h => by simp at h)

theorem rows_take {α : Type} {sz : Nat} {P : AHeap → α → List AV → Prop} {H : AHeap} {v : AV} {xs : List α} (h : Go.Am.Rows sz P H v xs) {k : Nat} (hk : k ≤ xs.length) :
    ∃ v', sliceA sz v none (some (.int .i64 k)) none = some v' ∧ Go.Am.Rows sz P H v' (xs.take k) := by
  obtain ⟨rs, h1, h2, h3⟩ := h
  obtain ⟨v', h4, h5, _⟩ := sliceA_hi h1 (l := k) hk
  have hall : ∀ r, r ∈ rs → r.length = sz := fun r hr => by
    obtain ⟨j, hj⟩ := List.mem_iff_getElem?.1 hr
    have hjl : j < xs.length := by
      rcases Nat.lt_or_ge j rs.length with h | h
      · omega
      · rw [List.getElem?_eq_none h] at hj; simp at hj
    obtain ⟨r', a, b, _⟩ := h3 j xs[j] (List.getElem?_eq_getElem hjl)
    rw [a] at hj; simp only [Option.some.injEq] at hj; subst hj; exact b
  have hflat : ∀ (rs : List (List AV)) (k : Nat), (∀ r, r ∈ rs → r.length = sz) → rs.flatten.take (k * sz) = (rs.take k).flatten := by
    intro rs
    induction rs with
    | nil => intro k _; simp
    | cons r rs ih =>
      intro k hr
      cases k with
      | zero => simp
      | succ k =>
        have := hr r (by simp)
        rw [List.flatten_cons, List.take_succ_cons, List.flatten_cons, Nat.add_mul, Nat.one_mul, ← ih k (fun r h => hr r (by simp [h])), List.take_append, List.take_of_length_le (by omega)]
        congr 2; omega
  have hlen : (xs.take k).length = k := by rw [List.length_take]; omega
  refine ⟨v', h4, rs.take k, by rw [hlen, ← hflat rs k hall]; exact h5, by rw [List.length_take, List.length_take, h2], fun j x hx => ?_⟩
  have hj : j < k := by
    rcases Nat.lt_or_ge j k with h | h
    · exact h
    · rw [List.getElem?_eq_none (by omega)] at hx; simp at hx
  rw [List.getElem?_take_of_lt hj] at hx
  obtain ⟨r, a, b, c⟩ := h3 j x hx
  exact ⟨r, by rw [List.getElem?_take_of_lt hj]; exact a, b, c⟩

theorem few_spec (H : AHeap) (v : AV) (l : List Nd) (hN : Nds H v l) (K : AV → AHeap → Prop)
    (hK : ∀ v', Nds H v' (l.take 60) → K v' H) : WF P0 18 [v] H K := by
  have hla := hN.lenOf
  have hz : szOk H 9 v = true := by obtain ⟨rs, h1, _⟩ := hN; exact h1.szOk
  refine zWF rfl rfl rfl ?_
  generalize hn : min l.length 60 = n
  have hmin : (if (60 : Int) < l.length then (60 : Int) else l.length) = (n : Int) := by split <;> omega
  obtain ⟨v', hs, hr⟩ := rows_take hN (k := n) (by omega)
  simp only [a18, hla, hz, hmin, hs, zz, env0, aPure, aRead, aNew, aEff, aval, avals, aparts, aopt, wantedA, binA, isShift, binI, fillA, single, aRes, splice, mkv, unA, binS, sameAt, reduceCtorEq, reduceIte, Int.reduceEq, Int.reduceLT, Int.reduceLE, Int.reduceNe, Nat.reduceEqDiff, Nat.reduceLT, Nat.reduceAdd, Nat.reduceMul, Nat.reduceSub, Nat.reduceLeDiff, Int.reduceBEq, Int.reduceBNe, Nat.reduceBEq, Nat.reduceBNe, Int.reduceToNat]
  have e : l.take n = l.take 60 := by
    by_cases h : l.length ≤ 60
    · rw [List.take_of_length_le (by omega), List.take_of_length_le h]
    · congr 1; omega
  rw [e] at hr
  exact hK _ hr
end Go.Proofs.Ytnblhjpbpobglaa

/- The reference's places: lists of truths; or, same, one, Has. -/
set_option maxRecDepth 100000
set_option linter.unusedSimpArgs false
namespace Go.Proofs.Ytnblhjpbpobglaa
open Go.Am

abbrev bls (bs : List Bool) : List AV := bs.map AV.bool
/-- v is a list of truths. -/
def Bls (H : AHeap) (v : AV) (bs : List Bool) : Prop := RowAt H 1 v bs.length (bls bs)
theorem Bls.keeps {H H' : AHeap} (hk : Keeps H H') {v : AV} {bs : List Bool} (h : Bls H v bs) : Bls H' v bs := RowAt.keeps hk h
theorem Bls.at {H : AHeap} {v : AV} {bs : List Bool} (h : Bls H v bs) {k : Nat} {b : Bool} (hb : bs[k]? = some b) : ∃ i o, v = .sl i o bs.length ∧ loadA H i (o + k) 1 = some [.bool b] := by
  have hk : k < bs.length := by
    rcases Nat.lt_or_ge k bs.length with h | h
    · exact h
    · rw [List.getElem?_eq_none h] at hb; simp at hb
  obtain ⟨i, o, rfl, g⟩ := RowAt.elem h hk
  refine ⟨i, o, rfl, ?_⟩
  have := g 0 1 (by omega)
  simp only [Nat.mul_one, Nat.add_zero] at this
  rw [this, List.drop_eq_getElem_cons (by simpa using hk)]
  rw [List.getElem?_eq_getElem hk] at hb
  simp only [Option.some.injEq] at hb
  simp [hb]
theorem splice_bls (bs : List Bool) (k : Nat) (b : Bool) (h : k < bs.length) : splice (bls bs) k [.bool b] = bls (bs.set k b) := by
  apply List.ext_getElem?
  intro j
  rw [splice_get _ _ _ (by simp; omega), List.getElem?_map, List.getElem?_map, List.getElem?_set]
  rcases Nat.lt_trichotomy j k with h1 | h1 | h1
  · rw [if_pos h1, if_neg (by omega)]
  · subst h1; simp [h]
  · rw [if_neg (by omega), if_neg (by simp; omega), if_neg (by omega)]
theorem one_bls (bs : List Bool) : (bls bs).all AV.one = true := by
  induction bs with
  | nil => rfl
  | cons a l ih => simp [one_bool]
theorem WR.bls {H : AHeap} {b : Nat} {v : AV} {bs : List Bool} (h : WR H b 1 v bs.length (bls bs)) : Bls H v bs := h.row
theorem rows_bls (n : Nat) : rows n [.bool false] = bls (List.replicate n false) := by
  simp only [rows]
  induction n with
  | zero => rfl
  | succ q ih => simp [List.replicate_succ, ih]

theorem places_spec (H : AHeap) (w : List UInt8) (hw : w.length ≤ 1000000) (K : AV → AHeap → Prop) (hK : ∀ i H', Keeps H H' → WR H' H.length 1 (.sl i 0 (w.length + 1)) (w.length + 1) (bls (List.replicate (w.length + 1) false)) → K (.sl i 0 (w.length + 1)) H') :
    WF P0 32 [.str w] H K := by
  refine zWF rfl rfl rfl ?_
  have v1 : IntKind.i64.wrap ((w.length : Int) + 1) = ((w.length + 1 : Nat) : Int) := by rw [wrap_i64 (by omega) (by omega)]; rfl
  have hmk1 : (0 : Int) ≤ ((w.length + 1 : Nat) : Int) := by omega
  have hmk2 : ((w.length + 1 : Nat) : Int) * 1 ≤ ((maxRoom : Nat) : Int) := by simp only [maxRoom]; omega
  have hmk3 : ((w.length + 1 : Nat) : Int) ≤ 1152921504606846976 := by omega
  have hmk4 : ((w.length + 1 : Nat) : Int) ≤ ((maxRoom : Nat) : Int) := by simp only [maxRoom]; omega
  simp only [a32, v1, hmk1, hmk2, hmk3, Int.natCast_one, Int.mul_one, hmk4, zz, env0, aPure, aRead, aNew, aEff, aval, avals, aparts, aopt, wantedA, binA, isShift, binI, fillA, single, aRes, splice, mkv, unA, binS, sameAt, reduceCtorEq, reduceIte, Int.reduceEq, Int.reduceLT, Int.reduceLE, Int.reduceNe, Nat.reduceEqDiff, Nat.reduceLT, Nat.reduceAdd, Nat.reduceMul, Nat.reduceSub, Nat.reduceLeDiff, Int.reduceBEq, Int.reduceBNe, Nat.reduceBEq, Nat.reduceBNe, Int.reduceToNat]
  refine hK _ _ (.p1 _ _) ?_
  rw [← rows_bls]
  exact WR.new H 1 (w.length + 1) _ (by rw [rows_bls]; simp) (Nat.le_refl _)

def orL (a b : List Bool) : List Bool := List.zipWith (· || ·) a b
theorem orL_len {a b : List Bool} (h : a.length = b.length) : (orL a b).length = a.length := by simp [orL]; omega
theorem orL_get {a b : List Bool} (h : a.length = b.length) (j : Nat) : (orL a b)[j]? = some true ↔ a[j]? = some true ∨ b[j]? = some true := by
  simp only [orL, List.getElem?_zipWith]
  rcases Nat.lt_or_ge j a.length with hj | hj
  · rw [List.getElem?_eq_getElem hj, List.getElem?_eq_getElem (by omega)]
    simp
  · rw [List.getElem?_eq_none hj, List.getElem?_eq_none (by omega)]; simp

theorem or_spec (H : AHeap) (va vb : AV) (us bs : List Bool) (ha : Bls H va us) (hb : Bls H vb bs) (hl : us.length = bs.length) (hbig : us.length ≤ 10000000) (K : AV → AHeap → Prop)
    (hK : ∀ v H', Keeps H H' → Bls H' v (orL us bs) → K v H') : WF P0 46 [va, vb] H K := by
  have hlb := RowAt.lenOf hb
  have s1 := (RowAt.flat ha).2.2.2
  have hw0 := WR.new H 1 0 [] rfl (Nat.le_refl _)
  obtain ⟨v1, H1, h1, hw1, he1, hid1⟩ := hw0.append (bytes := 1) (by simp) (RowAt.keeps (.p1 H _) ha).src (by rw [RowAt.len ha]) (one_bls us) (by simp only [maxRoom]; omega)
  rw [Nat.zero_add, List.nil_append] at hw1
  have hk1 : Keeps H H1 := Else.keeps (.p1 _ _) he1 (fun i hi => by simp [avId] at hi; omega)
  refine zWF rfl rfl rfl ?_
  simp only [a46, s1, h1, zz, env0, aPure, aRead, aNew, aEff, aval, avals, aparts, aopt, wantedA, binA, isShift, binI, fillA, single, aRes, splice, mkv, unA, binS, sameAt, reduceCtorEq, reduceIte, Int.reduceEq, Int.reduceLT, Int.reduceLE, Int.reduceNe, Nat.reduceEqDiff, Nat.reduceLT, Nat.reduceAdd, Nat.reduceMul, Nat.reduceSub, Nat.reduceLeDiff, Int.reduceBEq, Int.reduceBNe, Nat.reduceBEq, Nat.reduceBNe, Int.reduceToNat]
  refine WCL (fun r env H' => Keeps H H' ∧ ∃ (k : Nat) (a5 : AV) (cs : List Bool), k ≤ bs.length ∧ r = bs.length - k ∧ cs = (orL us bs).take k ++ us.drop k ∧ WR H' H.length 1 v1 us.length (bls cs) ∧
      env = [va, vb, .nilsl, v1, .int .i64 k, a5]) (n := bs.length)
    ⟨hk1, 0, _, us, Nat.zero_le _, rfl, by simp, hw1, rfl⟩ ?_
  rintro r env H' ⟨hk, k, a5, cs, hkl, rfl, hcs, hw, rfl⟩
  simp only [hlb, zz, env0, aPure, aRead, aNew, aEff, aval, avals, aparts, aopt, wantedA, binA, isShift, binI, fillA, single, aRes, splice, mkv, unA, binS, sameAt, reduceCtorEq, reduceIte, Int.reduceEq, Int.reduceLT, Int.reduceLE, Int.reduceNe, Nat.reduceEqDiff, Nat.reduceLT, Nat.reduceAdd, Nat.reduceMul, Nat.reduceSub, Nat.reduceLeDiff, Int.reduceBEq, Int.reduceBNe, Nat.reduceBEq, Nat.reduceBNe, Int.reduceToNat]
  refine onB_of (fun hlt => ?_) (fun hlt => ?_)
  · have hlt : k < bs.length := by simpa using hlt
    obtain ⟨x, hx⟩ : ∃ x, us[k]? = some x := ⟨us[k]'(by omega), List.getElem?_eq_getElem (by omega)⟩
    obtain ⟨y, hy⟩ : ∃ y, bs[k]? = some y := ⟨bs[k], List.getElem?_eq_getElem hlt⟩
    have hol := orL_len hl
    have hcl : cs.length = us.length := by rw [hcs]; simp; omega
    have hcx : cs[k]? = some x := by
      rw [hcs, List.getElem?_append_right (by simp; omega), List.getElem?_drop, ← hx]; congr 1; simp; omega
    have hB : Bls H' v1 cs := by unfold Bls; rw [hcl]; exact hw.row
    obtain ⟨i, o, rfl, g1⟩ := hB.at hcx
    obtain ⟨i2, o2, rfl, g2⟩ := (hb.keeps hk).at hy
    obtain ⟨i4, q4, e4, H4, hs4, hw4, he4, _⟩ := hw.store (k := k) (vs := [.bool (x || y)]) (by simp; omega) (by omega) rfl
    rw [hcl] at e4
    simp only [AV.sl.injEq] at e4
    obtain ⟨rfl, rfl, _⟩ := e4
    have r1 : (0 : Int) ≤ k := by omega
    have r2 : (k : Int) < cs.length := by omega
    have r3 : (k : Int) < bs.length := by omega
    have vk : IntKind.i64.wrap ((k : Int) + 1) = ((k + 1 : Nat) : Int) := by rw [wrap_i64 (by omega) (by omega)]; rfl
    have hid : H.length ≤ i := (hw.id rfl).1
    have fin : ∃ m, m < bs.length - k ∧ Keeps H H4 ∧ ∃ (k' : Nat) (a5 : AV) (cs : List Bool), k' ≤ bs.length ∧ m = bs.length - k' ∧ cs = (orL us bs).take k' ++ us.drop k' ∧ WR H4 H.length 1 (.sl i o us.length) us.length (bls cs) ∧ k' = k + 1 := by
      refine ⟨bs.length - (k + 1), by omega, Else.keeps hk he4 (fun j hj => by simp only [Option.some.injEq] at hj; omega), k + 1, .junk, cs.set k (x || y), by omega, rfl, ?_, ?_, rfl⟩
      · have ho : (orL us bs)[k]? = some (x || y) := by simp [orL, List.getElem?_zipWith, hx, hy]
        rw [hcs, List.set_append_right _ _ (by simp; omega)]
        have e0 : k - ((orL us bs).take k).length = 0 := by simp; omega
        rw [e0, List.drop_eq_getElem_cons (show k < us.length by omega), List.set_cons_zero, List.take_succ_eq_append_getElem (by omega), List.append_assoc]
        rw [List.getElem?_eq_getElem (by omega)] at ho
        simp only [Option.some.injEq] at ho
        rw [ho]; rfl
      · rw [← splice_bls _ _ _ (by omega)]
        rw [hcl] at hw4; exact hw4
    obtain ⟨m, f1, f2, k', b5, cs', f3, f4, f5, f6, rfl⟩ := fin
    cases x with
    | true =>
      simp only [Bool.true_or] at hs4
      simp only [r1, r2, r3, Nat.mul_one, g1, g2, hs4, vk, zz, env0, aPure, aRead, aNew, aEff, aval, avals, aparts, aopt, wantedA, binA, isShift, binI, fillA, single, aRes, splice, mkv, unA, binS, sameAt, reduceCtorEq, reduceIte, Int.reduceEq, Int.reduceLT, Int.reduceLE, Int.reduceNe, Nat.reduceEqDiff, Nat.reduceLT, Nat.reduceAdd, Nat.reduceMul, Nat.reduceSub, Nat.reduceLeDiff, Int.reduceBEq, Int.reduceBNe, Nat.reduceBEq, Nat.reduceBNe, Int.reduceToNat]
      exact ⟨m, f1, f2, k + 1, _, cs', f3, f4, f5, by rw [hcl]; exact f6, rfl⟩
    | false =>
      simp only [Bool.false_or] at hs4
      simp only [r1, r2, r3, Nat.mul_one, g1, g2, hs4, vk, zz, env0, aPure, aRead, aNew, aEff, aval, avals, aparts, aopt, wantedA, binA, isShift, binI, fillA, single, aRes, splice, mkv, unA, binS, sameAt, reduceCtorEq, reduceIte, Int.reduceEq, Int.reduceLT, Int.reduceLE, Int.reduceNe, Nat.reduceEqDiff, Nat.reduceLT, Nat.reduceAdd, Nat.reduceMul, Nat.reduceSub, Nat.reduceLeDiff, Int.reduceBEq, Int.reduceBNe, Nat.reduceBEq, Nat.reduceBNe, Int.reduceToNat]
      exact ⟨m, f1, f2, k + 1, _, cs', f3, f4, f5, by rw [hcl]; exact f6, rfl⟩
  · have hke : k = bs.length := by simp at hlt; omega
    subst hke
    simp only [zz, env0, aPure, aRead, aNew, aEff, aval, avals, aparts, aopt, wantedA, binA, isShift, binI, fillA, single, aRes, splice, mkv, unA, binS, sameAt, reduceCtorEq, reduceIte, Int.reduceEq, Int.reduceLT, Int.reduceLE, Int.reduceNe, Nat.reduceEqDiff, Nat.reduceLT, Nat.reduceAdd, Nat.reduceMul, Nat.reduceSub, Nat.reduceLeDiff, Int.reduceBEq, Int.reduceBNe, Nat.reduceBEq, Nat.reduceBNe, Int.reduceToNat]
    refine hK _ _ hk ?_
    have hol := orL_len hl
    have : cs = orL us bs := by rw [hcs, List.take_of_length_le (by omega), List.drop_of_length_le (by omega), List.append_nil]
    rw [this] at hw
    unfold Bls; rw [hol]; exact hw.row

theorem same_spec (H : AHeap) (va vb : AV) (us bs : List Bool) (ha : Bls H va us) (hb : Bls H vb bs) (hl : us.length = bs.length) (hbig : us.length ≤ 10000000) (K : AV → AHeap → Prop)
    (hK : ∀ b, (b = true ↔ us = bs) → K (.bool b) H) : WF P0 63 [va, vb] H K := by
  have hla := RowAt.lenOf ha
  refine zWF rfl rfl rfl ?_
  simp only [a63, zz, env0, aPure, aRead, aNew, aEff, aval, avals, aparts, aopt, wantedA, binA, isShift, binI, fillA, single, aRes, splice, mkv, unA, binS, sameAt, reduceCtorEq, reduceIte, Int.reduceEq, Int.reduceLT, Int.reduceLE, Int.reduceNe, Nat.reduceEqDiff, Nat.reduceLT, Nat.reduceAdd, Nat.reduceMul, Nat.reduceSub, Nat.reduceLeDiff, Int.reduceBEq, Int.reduceBNe, Nat.reduceBEq, Nat.reduceBNe, Int.reduceToNat]
  refine WCL (fun r env H' => H' = H ∧ ∃ (k : Nat) (a4 a5 : AV), k ≤ us.length ∧ r = us.length - k ∧ us.take k = bs.take k ∧
      env = [va, vb, .bool false, .int .i64 k, a4, a5]) (n := us.length)
    ⟨rfl, 0, _, _, Nat.zero_le _, rfl, rfl, rfl⟩ ?_
  rintro r env H' ⟨rfl, k, a4, a5, hkl, rfl, htk, rfl⟩
  simp only [hla, zz, env0, aPure, aRead, aNew, aEff, aval, avals, aparts, aopt, wantedA, binA, isShift, binI, fillA, single, aRes, splice, mkv, unA, binS, sameAt, reduceCtorEq, reduceIte, Int.reduceEq, Int.reduceLT, Int.reduceLE, Int.reduceNe, Nat.reduceEqDiff, Nat.reduceLT, Nat.reduceAdd, Nat.reduceMul, Nat.reduceSub, Nat.reduceLeDiff, Int.reduceBEq, Int.reduceBNe, Nat.reduceBEq, Nat.reduceBNe, Int.reduceToNat]
  refine onB_of (fun hlt => ?_) (fun hlt => ?_)
  · have hlt : k < us.length := by simpa using hlt
    obtain ⟨x, hx⟩ : ∃ x, us[k]? = some x := ⟨us[k]'(by omega), List.getElem?_eq_getElem (by omega)⟩
    obtain ⟨y, hy⟩ : ∃ y, bs[k]? = some y := ⟨bs[k]'(by omega), List.getElem?_eq_getElem (by omega)⟩
    obtain ⟨i, o, rfl, g1⟩ := ha.at hx
    obtain ⟨i2, o2, rfl, g2⟩ := hb.at hy
    have r1 : (0 : Int) ≤ k := by omega
    have r2 : (k : Int) < us.length := by omega
    have r3 : (k : Int) < bs.length := by omega
    have vk : IntKind.i64.wrap ((k : Int) + 1) = ((k + 1 : Nat) : Int) := by rw [wrap_i64 (by omega) (by omega)]; rfl
    simp only [r1, r2, r3, Nat.mul_one, g1, g2, zz, env0, aPure, aRead, aNew, aEff, aval, avals, aparts, aopt, wantedA, binA, isShift, binI, fillA, single, aRes, splice, mkv, unA, binS, sameAt, reduceCtorEq, reduceIte, Int.reduceEq, Int.reduceLT, Int.reduceLE, Int.reduceNe, Nat.reduceEqDiff, Nat.reduceLT, Nat.reduceAdd, Nat.reduceMul, Nat.reduceSub, Nat.reduceLeDiff, Int.reduceBEq, Int.reduceBNe, Nat.reduceBEq, Nat.reduceBNe, Int.reduceToNat]
    refine onB_of (fun hne => ?_) (fun he => ?_)
    · simp only [zz, env0, aPure, aRead, aNew, aEff, aval, avals, aparts, aopt, wantedA, binA, isShift, binI, fillA, single, aRes, splice, mkv, unA, binS, sameAt, reduceCtorEq, reduceIte, Int.reduceEq, Int.reduceLT, Int.reduceLE, Int.reduceNe, Nat.reduceEqDiff, Nat.reduceLT, Nat.reduceAdd, Nat.reduceMul, Nat.reduceSub, Nat.reduceLeDiff, Int.reduceBEq, Int.reduceBNe, Nat.reduceBEq, Nat.reduceBNe, Int.reduceToNat]
      refine hK _ ?_
      simp only [Bool.false_eq_true, false_iff]
      intro e; subst e
      rw [hx] at hy; simp only [Option.some.injEq] at hy; subst hy; simp at hne
    · simp only [vk, zz, env0, aPure, aRead, aNew, aEff, aval, avals, aparts, aopt, wantedA, binA, isShift, binI, fillA, single, aRes, splice, mkv, unA, binS, sameAt, reduceCtorEq, reduceIte, Int.reduceEq, Int.reduceLT, Int.reduceLE, Int.reduceNe, Nat.reduceEqDiff, Nat.reduceLT, Nat.reduceAdd, Nat.reduceMul, Nat.reduceSub, Nat.reduceLeDiff, Int.reduceBEq, Int.reduceBNe, Nat.reduceBEq, Nat.reduceBNe, Int.reduceToNat]
      have hxy : x = y := by simpa using he
      refine ⟨us.length - (k + 1), by omega, k + 1, _, _, by omega, rfl, ?_, rfl⟩
      rw [List.take_succ_eq_append_getElem hlt, List.take_succ_eq_append_getElem (by omega), htk]
      rw [List.getElem?_eq_getElem hlt] at hx
      rw [List.getElem?_eq_getElem (by omega)] at hy
      simp only [Option.some.injEq] at hx hy
      rw [hx, hy, hxy]
  · have hke : k = us.length := by simp at hlt; omega
    subst hke
    simp only [zz, env0, aPure, aRead, aNew, aEff, aval, avals, aparts, aopt, wantedA, binA, isShift, binI, fillA, single, aRes, splice, mkv, unA, binS, sameAt, reduceCtorEq, reduceIte, Int.reduceEq, Int.reduceLT, Int.reduceLE, Int.reduceNe, Nat.reduceEqDiff, Nat.reduceLT, Nat.reduceAdd, Nat.reduceMul, Nat.reduceSub, Nat.reduceLeDiff, Int.reduceBEq, Int.reduceBNe, Nat.reduceBEq, Nat.reduceBNe, Int.reduceToNat]
    rw [List.take_of_length_le (by omega), List.take_of_length_le (by omega)] at htk
    exact hK _ (by simp [htk])

theorem rhas_spec (H : AHeap) (s0 s1 s2 s3 : Int) (c : UInt8) (h0 : u64In s0) (h1 : u64In s1) (h2 : u64In s2) (h3 : u64In s3) (K : AV → AHeap → Prop)
    (hK : ∀ b H', Keeps H H' → (b = true ↔ SetHas s0 s1 s2 s3 c.toNat) → K (.bool b) H') :
    WF P0 52 [.agg [.int .u64 s0, .int .u64 s1, .int .u64 s2, .int .u64 s3], .int .u8 c.toNat] H K := by
  have hc : c.toNat < 256 := c.toNat_lt
  have hq : IntKind.u8.wrap ((c.toNat : Int).tdiv 64) = ((c.toNat / 64 : Nat) : Int) := by
    have : (c.toNat : Int).tdiv 64 = ((c.toNat / 64 : Nat) : Int) := rfl
    rw [this, wrap_u8 (by omega) (by omega)]
  have hr : (c.toNat : Int).tmod 64 = ((c.toNat % 64 : Nat) : Int) := rfl
  have hb : ∀ s, u64In s → (s / 2 ^ (c.toNat % 64)).tmod 2 = s / 2 ^ (c.toNat % 64) % 2 := fun s hs => by
    have hp : (0 : Int) < 2 ^ (c.toNat % 64) := Int.pow_pos (by decide)
    exact Int.tmod_eq_emod_of_nonneg (Int.ediv_nonneg hs.1 (Int.le_of_lt hp))
  have hfin : ∀ s, u64In s → setW s0 s1 s2 s3 c.toNat = s → ((s / 2 ^ (c.toNat % 64) % 2 == 1) = true ↔ SetHas s0 s1 s2 s3 c.toNat) := fun s _ e => by
    simp only [SetHas, e, beq_iff_eq]
  refine zWF rfl rfl rfl ?_
  have hsh : ∀ s, shiftI .shr .u64 s ((c.toNat % 64 : Nat) : Int) = some (.int .u64 (s / 2 ^ (c.toNat % 64))) := fun s => shr_nat s _ (by omega)
  have hcase : c.toNat / 64 = 0 ∨ c.toNat / 64 = 1 ∨ c.toNat / 64 = 2 ∨ c.toNat / 64 = 3 := by omega
  rcases hcase with h | h | h | h
  · rw [h] at hq
    have ha := hb s0 h0
    simp only [a52, hq, hr, hsh, ha, zz, env0, aPure, aRead, aNew, aEff, aval, avals, aparts, aopt, wantedA, binA, isShift, binI, fillA, single, aRes, splice, mkv, unA, binS, sameAt, reduceCtorEq, reduceIte, Int.reduceEq, Int.reduceLT, Int.reduceLE, Int.reduceNe, Nat.reduceEqDiff, Nat.reduceLT, Nat.reduceAdd, Nat.reduceMul, Nat.reduceSub, Nat.reduceLeDiff, Int.reduceBEq, Int.reduceBNe, Nat.reduceBEq, Nat.reduceBNe, Int.reduceToNat]
    exact hK _ _ (.p1 _ _) (hfin s0 h0 (by unfold setW; rw [if_pos (by omega)]))
  · rw [h] at hq
    have ha := hb s1 h1
    simp only [a52, hq, hr, hsh, ha, zz, env0, aPure, aRead, aNew, aEff, aval, avals, aparts, aopt, wantedA, binA, isShift, binI, fillA, single, aRes, splice, mkv, unA, binS, sameAt, reduceCtorEq, reduceIte, Int.reduceEq, Int.reduceLT, Int.reduceLE, Int.reduceNe, Nat.reduceEqDiff, Nat.reduceLT, Nat.reduceAdd, Nat.reduceMul, Nat.reduceSub, Nat.reduceLeDiff, Int.reduceBEq, Int.reduceBNe, Nat.reduceBEq, Nat.reduceBNe, Int.reduceToNat]
    exact hK _ _ (.p1 _ _) (hfin s1 h1 (by unfold setW; rw [if_neg (by omega), if_pos (by omega)]))
  · rw [h] at hq
    have ha := hb s2 h2
    simp only [a52, hq, hr, hsh, ha, zz, env0, aPure, aRead, aNew, aEff, aval, avals, aparts, aopt, wantedA, binA, isShift, binI, fillA, single, aRes, splice, mkv, unA, binS, sameAt, reduceCtorEq, reduceIte, Int.reduceEq, Int.reduceLT, Int.reduceLE, Int.reduceNe, Nat.reduceEqDiff, Nat.reduceLT, Nat.reduceAdd, Nat.reduceMul, Nat.reduceSub, Nat.reduceLeDiff, Int.reduceBEq, Int.reduceBNe, Nat.reduceBEq, Nat.reduceBNe, Int.reduceToNat]
    exact hK _ _ (.p1 _ _) (hfin s2 h2 (by unfold setW; rw [if_neg (by omega), if_neg (by omega), if_pos (by omega)]))
  · rw [h] at hq
    have ha := hb s3 h3
    simp only [a52, hq, hr, hsh, ha, zz, env0, aPure, aRead, aNew, aEff, aval, avals, aparts, aopt, wantedA, binA, isShift, binI, fillA, single, aRes, splice, mkv, unA, binS, sameAt, reduceCtorEq, reduceIte, Int.reduceEq, Int.reduceLT, Int.reduceLE, Int.reduceNe, Nat.reduceEqDiff, Nat.reduceLT, Nat.reduceAdd, Nat.reduceMul, Nat.reduceSub, Nat.reduceLeDiff, Int.reduceBEq, Int.reduceBNe, Nat.reduceBEq, Nat.reduceBNe, Int.reduceToNat]
    exact hK _ _ (.p1 _ _) (hfin s3 h3 (by unfold setW; rw [if_neg (by omega), if_neg (by omega), if_neg (by omega)]))
end Go.Proofs.Ytnblhjpbpobglaa

/- The reference: one, rep, ends, Ends, Is, Longest. -/
set_option maxRecDepth 100000
set_option linter.unusedSimpArgs false
namespace Go.Proofs.Ytnblhjpbpobglaa
open Go.Am

theorem one_spec (H : AHeap) (n : Nd) (hok : n.Ok) (w : List UInt8) (hw : w.length ≤ 1000000) (vf : AV) (bs : List Bool) (hl : bs.length = w.length + 1) (hf : Bls H vf bs) (K : AV → AHeap → Prop)
    (hK : ∀ v H' cs, Keeps H H' → Bls H' v cs → cs.length = w.length + 1 → (∀ j, cs[j]? = some true ↔ ∃ i, bs[i]? = some true ∧ (∃ c, w[i]? = some c ∧ ndHas n c) ∧ j = i + 1) → K v H') :
    WF P0 45 [.agg [.int .u64 n.s0, .int .u64 n.s1, .int .u64 n.s2, .int .u64 n.s3], .str w, vf] H K := by
  refine zWF rfl rfl rfl ?_
  simp only [a45, zz, env0, aPure, aRead, aNew, aEff, aval, avals, aparts, aopt, wantedA, binA, isShift, binI, fillA, single, aRes, splice, mkv, unA, binS, sameAt, reduceCtorEq, reduceIte, Int.reduceEq, Int.reduceLT, Int.reduceLE, Int.reduceNe, Nat.reduceEqDiff, Nat.reduceLT, Nat.reduceAdd, Nat.reduceMul, Nat.reduceSub, Nat.reduceLeDiff, Int.reduceBEq, Int.reduceBNe, Nat.reduceBEq, Nat.reduceBNe, Int.reduceToNat]
  refine places_spec _ _ hw _ ?_
  intro ip H1 hk1 hw1
  have hH1 : (H ++ [some (Blk.cells 4 true [AV.int IntKind.u64 n.s0, AV.int IntKind.u64 n.s1, AV.int IntKind.u64 n.s2, AV.int IntKind.u64 n.s3])]).length = H.length + 1 := by simp
  rw [hH1] at hw1
  have hbox := hk1.get (gb_new H _)
  have hip := (hw1.id rfl).1
  simp only [zz, env0, aPure, aRead, aNew, aEff, aval, avals, aparts, aopt, wantedA, binA, isShift, binI, fillA, single, aRes, splice, mkv, unA, binS, sameAt, reduceCtorEq, reduceIte, Int.reduceEq, Int.reduceLT, Int.reduceLE, Int.reduceNe, Nat.reduceEqDiff, Nat.reduceLT, Nat.reduceAdd, Nat.reduceMul, Nat.reduceSub, Nat.reduceLeDiff, Int.reduceBEq, Int.reduceBNe, Nat.reduceBEq, Nat.reduceBNe, Int.reduceToNat]
  refine WCL (fun r env H' => Keeps H H' ∧ getB H' H.length = some (.cells 4 true [.int .u64 n.s0, .int .u64 n.s1, .int .u64 n.s2, .int .u64 n.s3]) ∧ ∃ (t : Nat) (a7 a8 : AV) (cs : List Bool), t ≤ w.length ∧ r = w.length - t ∧ cs.length = w.length + 1 ∧
      WR H' (H.length + 1) 1 (.sl ip 0 (w.length + 1)) (w.length + 1) (bls cs) ∧ (∀ j, cs[j]? = some true ↔ ∃ i, i < t ∧ bs[i]? = some true ∧ (∃ c, w[i]? = some c ∧ ndHas n c) ∧ j = i + 1) ∧
      env = [.agg [.int .u64 n.s0, .int .u64 n.s1, .int .u64 n.s2, .int .u64 n.s3], .str w, vf, .ptr H.length 0, .nilsl, .sl ip 0 (w.length + 1), .int .i64 t, a7, a8]) (n := w.length)
    ⟨(Keeps.p1 _ _).trans hk1, hbox, 0, _, _, List.replicate (w.length + 1) false, Nat.zero_le _, rfl, by simp, hw1, fun j => by
      constructor
      · intro h; rw [List.getElem?_replicate] at h; split at h <;> simp at h
      · rintro ⟨i, h, _⟩; omega, rfl⟩ ?_
  rintro r env H' ⟨hk, hb4, t, a7, a8, cs, htl, rfl, hcl, hcw, hcs, rfl⟩
  simp only [zz, env0, aPure, aRead, aNew, aEff, aval, avals, aparts, aopt, wantedA, binA, isShift, binI, fillA, single, aRes, splice, mkv, unA, binS, sameAt, reduceCtorEq, reduceIte, Int.reduceEq, Int.reduceLT, Int.reduceLE, Int.reduceNe, Nat.reduceEqDiff, Nat.reduceLT, Nat.reduceAdd, Nat.reduceMul, Nat.reduceSub, Nat.reduceLeDiff, Int.reduceBEq, Int.reduceBNe, Nat.reduceBEq, Nat.reduceBNe, Int.reduceToNat]
  refine onB_of (fun hlt => ?_) (fun hlt => ?_)
  · have hlt : t < w.length := by simpa using hlt
    obtain ⟨x, hx⟩ : ∃ x, bs[t]? = some x := ⟨bs[t]'(by omega), List.getElem?_eq_getElem (by omega)⟩
    obtain ⟨c, hc⟩ : ∃ c, w[t]? = some c := ⟨w[t], List.getElem?_eq_getElem hlt⟩
    obtain ⟨i, o, rfl, g1⟩ := (hf.keeps hk).at hx
    have r1 : (0 : Int) ≤ t := by omega
    have r2 : (t : Int) < bs.length := by omega
    have vt : IntKind.i64.wrap ((t : Int) + 1) = ((t + 1 : Nat) : Int) := by rw [wrap_i64 (by omega) (by omega)]; rfl
    have l4 : loadA H' H.length 0 4 = some [.int .u64 n.s0, .int .u64 n.s1, .int .u64 n.s2, .int .u64 n.s3] := load_at hb4 (by simp)
    have skip : (x = true → ¬ ∃ c, w[t]? = some c ∧ ndHas n c) → ∀ j, cs[j]? = some true ↔ ∃ i, i < t + 1 ∧ bs[i]? = some true ∧ (∃ c, w[i]? = some c ∧ ndHas n c) ∧ j = i + 1 := fun hno j => by
      rw [hcs j]
      constructor
      · rintro ⟨i, h1, h2⟩; exact ⟨i, by omega, h2⟩
      · rintro ⟨i, h1, h2, h3, h4⟩
        rcases Nat.lt_or_ge i t with h | h
        · exact ⟨i, h, h2, h3, h4⟩
        · have : i = t := by omega
          subst this; rw [hx] at h2; simp only [Option.some.injEq] at h2; exact absurd h3 (hno h2)
    simp only [r1, r2, Nat.mul_one, g1, zz, env0, aPure, aRead, aNew, aEff, aval, avals, aparts, aopt, wantedA, binA, isShift, binI, fillA, single, aRes, splice, mkv, unA, binS, sameAt, reduceCtorEq, reduceIte, Int.reduceEq, Int.reduceLT, Int.reduceLE, Int.reduceNe, Nat.reduceEqDiff, Nat.reduceLT, Nat.reduceAdd, Nat.reduceMul, Nat.reduceSub, Nat.reduceLeDiff, Int.reduceBEq, Int.reduceBNe, Nat.reduceBEq, Nat.reduceBNe, Int.reduceToNat]
    cases x with
    | false =>
      simp only [vt, zz, env0, aPure, aRead, aNew, aEff, aval, avals, aparts, aopt, wantedA, binA, isShift, binI, fillA, single, aRes, splice, mkv, unA, binS, sameAt, reduceCtorEq, reduceIte, Int.reduceEq, Int.reduceLT, Int.reduceLE, Int.reduceNe, Nat.reduceEqDiff, Nat.reduceLT, Nat.reduceAdd, Nat.reduceMul, Nat.reduceSub, Nat.reduceLeDiff, Int.reduceBEq, Int.reduceBNe, Nat.reduceBEq, Nat.reduceBNe, Int.reduceToNat]
      exact ⟨w.length - (t + 1), by omega, hk, hb4, t + 1, _, _, cs, by omega, rfl, hcl, hcw, skip (fun h => by simp at h), rfl⟩
    | true =>
      simp only [r1, hc, l4, zz, env0, aPure, aRead, aNew, aEff, aval, avals, aparts, aopt, wantedA, binA, isShift, binI, fillA, single, aRes, splice, mkv, unA, binS, sameAt, reduceCtorEq, reduceIte, Int.reduceEq, Int.reduceLT, Int.reduceLE, Int.reduceNe, Nat.reduceEqDiff, Nat.reduceLT, Nat.reduceAdd, Nat.reduceMul, Nat.reduceSub, Nat.reduceLeDiff, Int.reduceBEq, Int.reduceBNe, Nat.reduceBEq, Nat.reduceBNe, Int.reduceToNat]
      refine rhas_spec _ _ _ _ _ c hok.s0 hok.s1 hok.s2 hok.s3 _ ?_
      intro b H2 hk2 hb
      cases b with
      | false =>
        simp only [vt, zz, env0, aPure, aRead, aNew, aEff, aval, avals, aparts, aopt, wantedA, binA, isShift, binI, fillA, single, aRes, splice, mkv, unA, binS, sameAt, reduceCtorEq, reduceIte, Int.reduceEq, Int.reduceLT, Int.reduceLE, Int.reduceNe, Nat.reduceEqDiff, Nat.reduceLT, Nat.reduceAdd, Nat.reduceMul, Nat.reduceSub, Nat.reduceLeDiff, Int.reduceBEq, Int.reduceBNe, Nat.reduceBEq, Nat.reduceBNe, Int.reduceToNat]
        exact ⟨w.length - (t + 1), by omega, hk.trans hk2, hk2.get hb4, t + 1, _, _, cs, by omega, rfl, hcl, hcw.keeps hk2, skip (fun _ ⟨c', h1, h2⟩ => by rw [hc] at h1; simp only [Option.some.injEq] at h1; subst h1; have := hb.2 h2; simp at this), rfl⟩
      | true =>
        obtain ⟨i4, q4, e4, H4, hs4, hw4, he4, _⟩ := (hcw.keeps hk2).store (k := t + 1) (vs := [.bool true]) (by simp; omega) (by omega) rfl
        simp only [AV.sl.injEq] at e4
        obtain ⟨rfl, rfl, _⟩ := e4
        rw [Nat.zero_add] at hs4
        have r3 : (0 : Int) ≤ ((t + 1 : Nat) : Int) := by omega
        have r4 : ((t + 1 : Nat) : Int) < ((w.length + 1 : Nat) : Int) := by omega
        simp only [vt, r3, r4, Nat.mul_one, hs4, zz, env0, aPure, aRead, aNew, aEff, aval, avals, aparts, aopt, wantedA, binA, isShift, binI, fillA, single, aRes, splice, mkv, unA, binS, sameAt, reduceCtorEq, reduceIte, Int.reduceEq, Int.reduceLT, Int.reduceLE, Int.reduceNe, Nat.reduceEqDiff, Nat.reduceLT, Nat.reduceAdd, Nat.reduceMul, Nat.reduceSub, Nat.reduceLeDiff, Int.reduceBEq, Int.reduceBNe, Nat.reduceBEq, Nat.reduceBNe, Int.reduceToNat]
        refine ⟨w.length - (t + 1), by omega, Else.keeps (hk.trans hk2) he4 (fun j hj => by simp only [Option.some.injEq] at hj; omega), he4.2 _ _ (fun e => by simp only [Option.some.injEq] at e; omega) (hk2.get hb4), t + 1, _, _, cs.set (t + 1) true, by omega, rfl, by simpa using hcl, ?_, fun j => ?_, rfl⟩
        · rw [← splice_bls _ _ _ (by omega)]; exact hw4
        · rw [List.getElem?_set]
          by_cases e : t + 1 = j
          · rw [if_pos e, if_pos (by omega)]
            simp only [true_iff]
            exact ⟨t, by omega, hx, ⟨c, hc, hb.1 rfl⟩, e.symm⟩
          · rw [if_neg e, hcs j]
            constructor
            · rintro ⟨i, h1, h2⟩; exact ⟨i, by omega, h2⟩
            · rintro ⟨i, h1, h2, h3, h4⟩
              exact ⟨i, by omega, h2, h3, h4⟩
  · have hte : t = w.length := by simp at hlt; omega
    subst hte
    simp only [zz, env0, aPure, aRead, aNew, aEff, aval, avals, aparts, aopt, wantedA, binA, isShift, binI, fillA, single, aRes, splice, mkv, unA, binS, sameAt, reduceCtorEq, reduceIte, Int.reduceEq, Int.reduceLT, Int.reduceLE, Int.reduceNe, Nat.reduceEqDiff, Nat.reduceLT, Nat.reduceAdd, Nat.reduceMul, Nat.reduceSub, Nat.reduceLeDiff, Int.reduceBEq, Int.reduceBNe, Nat.reduceBEq, Nat.reduceBNe, Int.reduceToNat]
    refine hK _ _ cs hk (by unfold Bls; rw [hcl]; exact hcw.row) hcl (fun j => ?_)
    rw [hcs j]
    constructor
    · rintro ⟨i, _, h⟩; exact ⟨i, h⟩
    · rintro ⟨i, h1, ⟨c, h2, h3⟩, h4⟩
      refine ⟨i, ?_, h1, ⟨c, h2, h3⟩, h4⟩
      rcases Nat.lt_or_ge i w.length with h | h
      · exact h
      · rw [List.getElem?_eq_none h] at h2; simp at h2

/-- The walk of a node, place by place, is right. -/
def REndsAt (l : List Nd) (w : List UInt8) (v : AV) (a : Nat) : Prop := ∀ (H : AHeap) (vf : AV) (bs : List Bool) (K : AV → AHeap → Prop), Nds H v l → Bls H vf bs → bs.length = w.length + 1 →
  (∀ v' H' cs, Keeps H H' → Bls H' v' cs → cs.length = w.length + 1 → (∀ j, cs[j]? = some true ↔ ∃ i, bs[i]? = some true ∧ den l w a i j) → K v' H') → WF P0 33 [v, .int .i64 a, .str w, vf] H K

/-- How many are true. -/
def cnt (bs : List Bool) : Nat := (bs.filter id).length
theorem cnt_le (bs : List Bool) : cnt bs ≤ bs.length := List.length_filter_le _ _
theorem cnt_lt : ∀ {a b : List Bool}, a.length = b.length → (∀ j : Nat, a[j]? = some true → b[j]? = some true) → a ≠ b → cnt a < cnt b := by
  have key : ∀ (a b : List Bool), a.length = b.length → (∀ j : Nat, a[j]? = some true → b[j]? = some true) → cnt a ≤ cnt b ∧ (a ≠ b → cnt a < cnt b) := by
    intro a
    induction a with
    | nil => intro b h _; cases b with
      | nil => simp
      | cons y b => simp at h
    | cons x a ih => intro b h hs; cases b with
      | nil => simp at h
      | cons y b =>
        obtain ⟨h1, h2⟩ := ih b (by simpa using h) (fun j hj => by simpa using hs (j + 1) (by simpa using hj))
        have h0 := hs 0
        cases x <;> cases y
        · refine ⟨by simpa [cnt] using h1, fun hne => by simpa [cnt] using h2 (fun e => hne (by rw [e]))⟩
        · refine ⟨by simp [cnt] at *; omega, fun _ => by simp [cnt] at *; omega⟩
        · simp at h0
        · refine ⟨by simpa [cnt] using h1, fun hne => by simpa [cnt] using h2 (fun e => hne (by rw [e]))⟩
  intro a b h hs hne
  exact (key a b h hs).2 hne
theorem bls_ext {a b : List Bool} (hl : a.length = b.length) (h : ∀ j : Nat, a[j]? = some true ↔ b[j]? = some true) : a = b := by
  apply List.ext_getElem?
  intro j
  rcases Nat.lt_or_ge j a.length with hj | hj
  · have := h j
    rw [List.getElem?_eq_getElem hj, List.getElem?_eq_getElem (by omega)] at this ⊢
    congr 1
    cases ha : a[j] <;> cases hb : b[j]'(by omega) <;> simp_all
  · rw [List.getElem?_eq_none hj, List.getElem?_eq_none (by omega)]

theorem rep_spec {l : List Nd} {w : List UInt8} {v : AV} {k0 : Nat} (ih : REndsAt l w v k0) (hw : w.length ≤ 1000000) (H : AHeap) (kv vf : AV) (n : Nd) (bs : List Bool) (hN : Nds H v l)
    (hkv : Ints H kv n.kids) (hk0 : n.kids = [(k0 : Int)]) (hlo : 0 ≤ n.lo ∧ n.lo ≤ 4096) (hhi : n.hi = -1 ∨ 1 ≤ n.hi ∧ n.lo ≤ n.hi ∧ n.hi ≤ 4096) (hf : Bls H vf bs) (hbl : bs.length = w.length + 1) (K : AV → AHeap → Prop)
    (hK : ∀ v' H' cs, Keeps H H' → Bls H' v' cs → cs.length = w.length + 1 → (∀ j, cs[j]? = some true ↔ ∃ i, bs[i]? = some true ∧ ∃ c : Nat, n.lo ≤ c ∧ (n.hi = -1 ∨ (c : Int) ≤ n.hi) ∧ iterN (den l w k0) c i j) → K v' H') :
    WF P0 47 [v, .agg (ndRow n kv), .str w, vf] H K := by
  obtain ⟨lo, hlo'⟩ : ∃ lo : Nat, n.lo = lo := ⟨n.lo.toNat, by omega⟩
  refine zWF rfl rfl rfl ?_
  simp only [a47, ndRow, hlo', zz, env0, aPure, aRead, aNew, aEff, aval, avals, aparts, aopt, wantedA, binA, isShift, binI, fillA, single, aRes, splice, mkv, unA, binS, sameAt, reduceCtorEq, reduceIte, Int.reduceEq, Int.reduceLT, Int.reduceLE, Int.reduceNe, Nat.reduceEqDiff, Nat.reduceLT, Nat.reduceAdd, Nat.reduceMul, Nat.reduceSub, Nat.reduceLeDiff, Int.reduceBEq, Int.reduceBNe, Nat.reduceBEq, Nat.reduceBNe, Int.reduceToNat]
  generalize hH2 : H ++ [some (Blk.cells 9 true [AV.int IntKind.u8 n.op, AV.int IntKind.u64 n.s0, AV.int IntKind.u64 n.s1, AV.int IntKind.u64 n.s2, AV.int IntKind.u64 n.s3, kv, AV.int IntKind.i64 lo, AV.int IntKind.i64 n.hi, AV.str n.name])] = H2
  have hk2 : Keeps H H2 := by rw [← hH2]; exact .p1 _ _
  have hbn : getB H2 H.length = some (Blk.cells 9 true [AV.int IntKind.u8 n.op, AV.int IntKind.u64 n.s0, AV.int IntKind.u64 n.s1, AV.int IntKind.u64 n.s2, AV.int IntKind.u64 n.s3, kv, AV.int IntKind.i64 lo, AV.int IntKind.i64 n.hi, AV.str n.name]) := by
    rw [← hH2]; exact gb_new _ _
  have hkx : n.kids[0]? = some (k0 : Int) := by rw [hk0]; rfl
  obtain ⟨ik, ok, rfl, hld⟩ := hkv.int hkx
  have hkl : n.kids.length = 1 := by rw [hk0]; rfl
  rw [hkl]
  rw [Nat.add_zero] at hld
  have f5 : ∀ H', Keeps H2 H' → loadA H' H.length 5 1 = some [.sl ik ok n.kids.length] := fun H' hk => load_one (hk.get hbn) rfl
  have f7 : ∀ H', Keeps H2 H' → loadA H' H.length 7 1 = some [.int .i64 n.hi] := fun H' hk => load_one (hk.get hbn) rfl
  have f6 : ∀ H', Keeps H2 H' → loadA H' H.length 6 1 = some [.int .i64 lo] := fun H' hk => load_one (hk.get hbn) rfl
  have fk : ∀ H', Keeps H2 H' → loadA H' ik ok 1 = some [.int .i64 k0] := fun H' hk => (hk2.trans hk).load hld
  rw [hkl] at f5
  -- one time more
  have more : ∀ (c : Nat) (ms cs : List Bool), (∀ j, ms[j]? = some true ↔ ∃ i, bs[i]? = some true ∧ iterN (den l w k0) c i j) → (∀ j, cs[j]? = some true ↔ ∃ i, ms[i]? = some true ∧ den l w k0 i j) →
      ∀ j, cs[j]? = some true ↔ ∃ i, bs[i]? = some true ∧ iterN (den l w k0) (c + 1) i j := fun c ms cs h1 h2 j => by
    rw [h2 j]
    constructor
    · rintro ⟨m, h3, h4⟩
      obtain ⟨i, h5, h6⟩ := (h1 m).1 h3
      exact ⟨i, h5, (iterN_snoc _ _ _ _).2 ⟨m, h6, h4⟩⟩
    · rintro ⟨i, h3, h4⟩
      obtain ⟨m, h5, h6⟩ := (iterN_snoc _ _ _ _).1 h4
      exact ⟨m, (h1 m).2 ⟨i, h3, h5⟩, h6⟩
  refine WC.mono (K := fun e env H' => e = .exit 0 ∧ ∃ vf' ms a6 a7 a11 a12, Keeps H2 H' ∧ Bls H' vf' ms ∧ ms.length = w.length + 1 ∧ (∀ j, ms[j]? = some true ↔ ∃ i, bs[i]? = some true ∧ iterN (den l w k0) lo i j) ∧
      env = [v, .agg (ndRow n (.sl ik ok 1)), .str w, vf', .ptr H.length 0, .nilsl, a6, a7, .junk, .junk, .junk, a11, a12, .junk, .junk]) ?_ ?_
  · refine WCL (fun r env H' => ∃ (c : Nat) (vf' : AV) (ms : List Bool) (a7 a11 a12 : AV), c ≤ lo ∧ r = lo - c ∧ Keeps H2 H' ∧ Bls H' vf' ms ∧ ms.length = w.length + 1 ∧ (∀ j, ms[j]? = some true ↔ ∃ i, bs[i]? = some true ∧ iterN (den l w k0) c i j) ∧
        env = [v, .agg (ndRow n (.sl ik ok 1)), .str w, vf', .ptr H.length 0, .nilsl, .int .i64 c, a7, .junk, .junk, .junk, a11, a12, .junk, .junk]) (n := lo)
      ⟨0, vf, bs, _, _, _, Nat.zero_le _, rfl, .refl _, hf.keeps hk2, hbl, fun j => by simp [iterN], by rw [ndRow, hlo']; rfl⟩ ?_
    rintro r env H' ⟨c, vf', ms, a7, a11, a12, hc, rfl, hk, hi, hml, hden, rfl⟩
    have g6 := f6 _ hk
    simp only [g6, zz, env0, aPure, aRead, aNew, aEff, aval, avals, aparts, aopt, wantedA, binA, isShift, binI, fillA, single, aRes, splice, mkv, unA, binS, sameAt, reduceCtorEq, reduceIte, Int.reduceEq, Int.reduceLT, Int.reduceLE, Int.reduceNe, Nat.reduceEqDiff, Nat.reduceLT, Nat.reduceAdd, Nat.reduceMul, Nat.reduceSub, Nat.reduceLeDiff, Int.reduceBEq, Int.reduceBNe, Nat.reduceBEq, Nat.reduceBNe, Int.reduceToNat]
    refine onB_of (fun hlt => ?_) (fun hlt => ?_)
    · have hlt : c < lo := by simpa using hlt
      have g2 := f5 _ hk
      have g3 := fk _ hk
      simp only [g2, g3, zz, env0, aPure, aRead, aNew, aEff, aval, avals, aparts, aopt, wantedA, binA, isShift, binI, fillA, single, aRes, splice, mkv, unA, binS, sameAt, reduceCtorEq, reduceIte, Int.reduceEq, Int.reduceLT, Int.reduceLE, Int.reduceNe, Nat.reduceEqDiff, Nat.reduceLT, Nat.reduceAdd, Nat.reduceMul, Nat.reduceSub, Nat.reduceLeDiff, Int.reduceBEq, Int.reduceBNe, Nat.reduceBEq, Nat.reduceBNe, Int.reduceToNat]
      refine ih _ _ ms _ (Rows.keeps NdP.mono (hk2.trans hk) hN) hi hml ?_
      intro v2 H3 ms2 hk3 hi2 hl2 hd2
      simp only [zz, env0, aPure, aRead, aNew, aEff, aval, avals, aparts, aopt, wantedA, binA, isShift, binI, fillA, single, aRes, splice, mkv, unA, binS, sameAt, reduceCtorEq, reduceIte, Int.reduceEq, Int.reduceLT, Int.reduceLE, Int.reduceNe, Nat.reduceEqDiff, Nat.reduceLT, Nat.reduceAdd, Nat.reduceMul, Nat.reduceSub, Nat.reduceLeDiff, Int.reduceBEq, Int.reduceBNe, Nat.reduceBEq, Nat.reduceBNe, Int.reduceToNat]
      refine same_spec _ _ _ ms2 ms hi2 (hi.keeps hk3) (by omega) (by omega) _ ?_
      intro b hb
      have hd2' := more c ms ms2 hden hd2
      cases b with
      | true =>
        simp only [zz, env0, aPure, aRead, aNew, aEff, aval, avals, aparts, aopt, wantedA, binA, isShift, binI, fillA, single, aRes, splice, mkv, unA, binS, sameAt, reduceCtorEq, reduceIte, Int.reduceEq, Int.reduceLT, Int.reduceLE, Int.reduceNe, Nat.reduceEqDiff, Nat.reduceLT, Nat.reduceAdd, Nat.reduceMul, Nat.reduceSub, Nat.reduceLeDiff, Int.reduceBEq, Int.reduceBNe, Nat.reduceBEq, Nat.reduceBNe, Int.reduceToNat]
        have e := hb.1 rfl
        subst e
        refine ⟨vf', ms2, _, _, _, _, hk.trans hk3, hi.keeps hk3, hml, fun j => ?_, rfl⟩
        have hfix : ∀ d j, (∃ i, bs[i]? = some true ∧ iterN (den l w k0) (c + d) i j) ↔ ms2[j]? = some true := by
          intro d
          induction d with
          | zero => intro j; exact (hden j).symm
          | succ d ihd =>
            intro j
            rw [hd2 j]
            constructor
            · rintro ⟨i, h3, h4⟩
              obtain ⟨m, h5, h6⟩ := (iterN_snoc _ _ _ _).1 h4
              exact ⟨m, (ihd m).1 ⟨i, h3, h5⟩, h6⟩
            · rintro ⟨m, h1, h2⟩
              obtain ⟨i, h3, h4⟩ := (ihd m).2 h1
              exact ⟨i, h3, (iterN_snoc _ _ _ _).2 ⟨m, h4, h2⟩⟩
        have := hfix (lo - c) j
        rw [Nat.add_sub_cancel' (by omega)] at this
        exact this.symm
      | false =>
        have v2' : IntKind.i64.wrap ((c : Int) + 1) = ((c + 1 : Nat) : Int) := by rw [wrap_i64 (by omega) (by omega)]; rfl
        simp only [v2', zz, env0, aPure, aRead, aNew, aEff, aval, avals, aparts, aopt, wantedA, binA, isShift, binI, fillA, single, aRes, splice, mkv, unA, binS, sameAt, reduceCtorEq, reduceIte, Int.reduceEq, Int.reduceLT, Int.reduceLE, Int.reduceNe, Nat.reduceEqDiff, Nat.reduceLT, Nat.reduceAdd, Nat.reduceMul, Nat.reduceSub, Nat.reduceLeDiff, Int.reduceBEq, Int.reduceBNe, Nat.reduceBEq, Nat.reduceBNe, Int.reduceToNat]
        exact ⟨lo - (c + 1), by omega, c + 1, v2, ms2, _, _, _, by omega, rfl, hk.trans hk3, hi2, hl2, hd2', rfl⟩
    · have hce : c = lo := by simp at hlt; omega
      subst hce
      simp only [zz, env0, aPure, aRead, aNew, aEff, aval, avals, aparts, aopt, wantedA, binA, isShift, binI, fillA, single, aRes, splice, mkv, unA, binS, sameAt, reduceCtorEq, reduceIte, Int.reduceEq, Int.reduceLT, Int.reduceLE, Int.reduceNe, Nat.reduceEqDiff, Nat.reduceLT, Nat.reduceAdd, Nat.reduceMul, Nat.reduceSub, Nat.reduceLeDiff, Int.reduceBEq, Int.reduceBNe, Nat.reduceBEq, Nat.reduceBNe, Int.reduceToNat]
      exact ⟨vf', ms, _, _, _, _, hk, hi, hml, hden, rfl⟩
  · rintro e env H' ⟨rfl, vf', ms, a6, a7, a11, a12, hk, hi, hml, hden, rfl⟩
    have g6 := f6 _ hk
    simp only [g6, zz, env0, aPure, aRead, aNew, aEff, aval, avals, aparts, aopt, wantedA, binA, isShift, binI, fillA, single, aRes, splice, mkv, unA, binS, sameAt, reduceCtorEq, reduceIte, Int.reduceEq, Int.reduceLT, Int.reduceLE, Int.reduceNe, Nat.reduceEqDiff, Nat.reduceLT, Nat.reduceAdd, Nat.reduceMul, Nat.reduceSub, Nat.reduceLeDiff, Int.reduceBEq, Int.reduceBNe, Nat.reduceBEq, Nat.reduceBNe, Int.reduceToNat]
    refine WC.mono (K := fun e env H' => e = .exit 2 ∧ ∃ vf' vo os a9 a10 a6 a7 a11 a12 a13 a14, Keeps H2 H' ∧ Bls H' vo os ∧ os.length = w.length + 1 ∧ (∀ j, os[j]? = some true ↔ ∃ i, bs[i]? = some true ∧ ∃ c : Nat, n.lo ≤ c ∧ (n.hi = -1 ∨ (c : Int) ≤ n.hi) ∧ iterN (den l w k0) c i j) ∧
      env = [v, .agg (ndRow n (.sl ik ok 1)), .str w, vf', .ptr H.length 0, .nilsl, a6, a7, vo, a9, a10, a11, a12, a13, a14]) ?_ ?_
    · refine WCL (fun r env H' => ∃ (d : Nat) (vf' vo : AV) (fs os : List Bool) (a6 a7 a10 a11 a12 a13 a14 : AV), r = w.length + 2 - cnt os ∧ (n.hi = -1 ∨ ((lo + d : Nat) : Int) ≤ n.hi) ∧ d ≤ cnt os ∧ Keeps H2 H' ∧ Bls H' vf' fs ∧ fs.length = w.length + 1 ∧ Bls H' vo os ∧ os.length = w.length + 1 ∧
          (∀ j, fs[j]? = some true ↔ ∃ i, bs[i]? = some true ∧ iterN (den l w k0) (lo + d) i j) ∧ (∀ j, os[j]? = some true ↔ ∃ e, e ≤ d ∧ ∃ i, bs[i]? = some true ∧ iterN (den l w k0) (lo + e) i j) ∧
          env = [v, .agg (ndRow n (.sl ik ok 1)), .str w, vf', .ptr H.length 0, .nilsl, a6, a7, vo, .int .i64 ((lo + d : Nat) : Int), a10, a11, a12, a13, a14]) (n := w.length + 2 - cnt ms)
        ⟨0, vf', vf', ms, ms, _, _, _, _, _, _, _, rfl, by omega, by omega, hk, hi, hml, hi, hml, hden, fun j => by rw [hden j]; simp, rfl⟩ ?_
      rintro r env H3 ⟨d, vf1, vo, fs, os, b6, b7, b10, b11, b12, b13, b14, rfl, hdh, hdl, hk3, hif, hfl, hio, hol, hdf, hdo, rfl⟩
      have g7 := f7 _ hk3
      have hcl := cnt_le os
      -- one more round
      have stop : n.hi ≠ -1 → n.hi ≤ ((lo + d : Nat) : Int) → ∀ j, os[j]? = some true ↔ ∃ i, bs[i]? = some true ∧ ∃ c : Nat, n.lo ≤ c ∧ (n.hi = -1 ∨ (c : Int) ≤ n.hi) ∧ iterN (den l w k0) c i j := fun hn1 hle j => by
        rw [hdo j]
        constructor
        · rintro ⟨e, h1, i, h2, h3⟩
          exact ⟨i, h2, lo + e, by omega, by omega, h3⟩
        · rintro ⟨i, h1, c, h2, h3, h4⟩
          have : c = lo + (c - lo) := by omega
          rw [this] at h4
          exact ⟨c - lo, by omega, i, h1, h4⟩
      simp only [g7, zz, env0, aPure, aRead, aNew, aEff, aval, avals, aparts, aopt, wantedA, binA, isShift, binI, fillA, single, aRes, splice, mkv, unA, binS, sameAt, reduceCtorEq, reduceIte, Int.reduceEq, Int.reduceLT, Int.reduceLE, Int.reduceNe, Nat.reduceEqDiff, Nat.reduceLT, Nat.reduceAdd, Nat.reduceMul, Nat.reduceSub, Nat.reduceLeDiff, Int.reduceBEq, Int.reduceBNe, Nat.reduceBEq, Nat.reduceBNe, Int.reduceToNat]
      refine onG_f (fun h1 => ?_) (fun h1 => ?_)
      · simp only [h1, g7, zz, env0, aPure, aRead, aNew, aEff, aval, avals, aparts, aopt, wantedA, binA, isShift, binI, fillA, single, aRes, splice, mkv, unA, binS, sameAt, reduceCtorEq, reduceIte, Int.reduceEq, Int.reduceLT, Int.reduceLE, Int.reduceNe, Nat.reduceEqDiff, Nat.reduceLT, Nat.reduceAdd, Nat.reduceMul, Nat.reduceSub, Nat.reduceLeDiff, Int.reduceBEq, Int.reduceBNe, Nat.reduceBEq, Nat.reduceBNe, Int.reduceToNat]
        refine onB_of (fun h2 => ?_) (fun h2 => ?_)
        · have hdh1 : n.hi = -1 ∨ ((lo + d + 1 : Nat) : Int) ≤ n.hi := by left; simpa using h2
          have g2 := f5 _ hk3
          have g3 := fk _ hk3
          simp only [h1, g2, g3, zz, env0, aPure, aRead, aNew, aEff, aval, avals, aparts, aopt, wantedA, binA, isShift, binI, fillA, single, aRes, splice, mkv, unA, binS, sameAt, reduceCtorEq, reduceIte, Int.reduceEq, Int.reduceLT, Int.reduceLE, Int.reduceNe, Nat.reduceEqDiff, Nat.reduceLT, Nat.reduceAdd, Nat.reduceMul, Nat.reduceSub, Nat.reduceLeDiff, Int.reduceBEq, Int.reduceBNe, Nat.reduceBEq, Nat.reduceBNe, Int.reduceToNat]
          refine ih _ _ fs _ (Rows.keeps NdP.mono (hk2.trans hk3) hN) hif hfl ?_
          intro v2 H4 fs2 hk4 hi2 hl2 hd2
          simp only [zz, env0, aPure, aRead, aNew, aEff, aval, avals, aparts, aopt, wantedA, binA, isShift, binI, fillA, single, aRes, splice, mkv, unA, binS, sameAt, reduceCtorEq, reduceIte, Int.reduceEq, Int.reduceLT, Int.reduceLE, Int.reduceNe, Nat.reduceEqDiff, Nat.reduceLT, Nat.reduceAdd, Nat.reduceMul, Nat.reduceSub, Nat.reduceLeDiff, Int.reduceBEq, Int.reduceBNe, Nat.reduceBEq, Nat.reduceBNe, Int.reduceToNat]
          refine or_spec _ _ _ os fs2 (hio.keeps hk4) hi2 (by omega) (by omega) _ ?_
          intro v3 H5 hk5 hi5
          have hll : os.length = fs2.length := by omega
          have hol5 := orL_len hll
          have hog := orL_get hll
          have hd2' := more (lo + d) fs fs2 hdf hd2
          have hdm : ∀ j, (orL os fs2)[j]? = some true ↔ ∃ e, e ≤ d + 1 ∧ ∃ i, bs[i]? = some true ∧ iterN (den l w k0) (lo + e) i j := fun j => by
            rw [hog, hdo j, hd2' j]
            constructor
            · rintro (⟨e, h1, h2⟩ | h2)
              · exact ⟨e, by omega, h2⟩
              · exact ⟨d + 1, Nat.le_refl _, h2⟩
            · rintro ⟨e, h1, h2⟩
              rcases Nat.lt_or_ge e (d + 1) with h | h
              · exact .inl ⟨e, by omega, h2⟩
              · have : e = d + 1 := by omega
                subst this; exact .inr h2
          simp only [zz, env0, aPure, aRead, aNew, aEff, aval, avals, aparts, aopt, wantedA, binA, isShift, binI, fillA, single, aRes, splice, mkv, unA, binS, sameAt, reduceCtorEq, reduceIte, Int.reduceEq, Int.reduceLT, Int.reduceLE, Int.reduceNe, Nat.reduceEqDiff, Nat.reduceLT, Nat.reduceAdd, Nat.reduceMul, Nat.reduceSub, Nat.reduceLeDiff, Int.reduceBEq, Int.reduceBNe, Nat.reduceBEq, Nat.reduceBNe, Int.reduceToNat]
          refine same_spec _ _ _ (orL os fs2) os hi5 (hio.keeps (hk4.trans hk5)) (by omega) (by omega) _ ?_
          intro b hb
          cases b with
          | true =>
            simp only [zz, env0, aPure, aRead, aNew, aEff, aval, avals, aparts, aopt, wantedA, binA, isShift, binI, fillA, single, aRes, splice, mkv, unA, binS, sameAt, reduceCtorEq, reduceIte, Int.reduceEq, Int.reduceLT, Int.reduceLE, Int.reduceNe, Nat.reduceEqDiff, Nat.reduceLT, Nat.reduceAdd, Nat.reduceMul, Nat.reduceSub, Nat.reduceLeDiff, Int.reduceBEq, Int.reduceBNe, Nat.reduceBEq, Nat.reduceBNe, Int.reduceToNat]
            have hsub := hb.1 rfl
            have hcl2 : ∀ e j, (∃ i, bs[i]? = some true ∧ iterN (den l w k0) (lo + e) i j) → os[j]? = some true := by
              intro e
              induction e with
              | zero => intro j h; exact (hdo j).2 ⟨0, by omega, h⟩
              | succ e ihe =>
                rintro j ⟨i, h3, h4⟩
                obtain ⟨m, h5, h6⟩ := (iterN_snoc _ _ _ _).1 h4
                obtain ⟨e', h7, i', h8, h9⟩ := (hdo m).1 (ihe m ⟨i, h3, h5⟩)
                rw [← hsub]
                exact (hdm j).2 ⟨e' + 1, by omega, i', h8, (iterN_snoc _ _ _ _).2 ⟨m, h9, h6⟩⟩
            refine ⟨v2, vo, os, _, _, _, _, _, _, _, _, hk3.trans (hk4.trans hk5), hio.keeps (hk4.trans hk5), hol, fun j => ?_, rfl⟩
            constructor
            · intro hj
              obtain ⟨e, h1, i, h2, h3⟩ := (hdo j).1 hj
              exact ⟨i, h2, lo + e, by omega, by rcases hdh with h | h <;> omega, h3⟩
            · rintro ⟨i, h1, c, h2, h3, h4⟩
              have : c = lo + (c - lo) := by omega
              rw [this] at h4
              exact hcl2 (c - lo) j ⟨i, h1, h4⟩
          | false =>
            have hne : os ≠ orL os fs2 := fun e => by have := hb.2 e.symm; simp at this
            have hlt := cnt_lt (a := os) (b := orL os fs2) (by omega) (fun j hj => (hog j).2 (.inl hj)) hne
            have hc5 := cnt_le (orL os fs2)
            have v2' : IntKind.i64.wrap (((lo + d : Nat) : Int) + 1) = ((lo + (d + 1) : Nat) : Int) := by rw [wrap_i64 (by omega) (by omega)]; omega
            simp only [v2', zz, env0, aPure, aRead, aNew, aEff, aval, avals, aparts, aopt, wantedA, binA, isShift, binI, fillA, single, aRes, splice, mkv, unA, binS, sameAt, reduceCtorEq, reduceIte, Int.reduceEq, Int.reduceLT, Int.reduceLE, Int.reduceNe, Nat.reduceEqDiff, Nat.reduceLT, Nat.reduceAdd, Nat.reduceMul, Nat.reduceSub, Nat.reduceLeDiff, Int.reduceBEq, Int.reduceBNe, Nat.reduceBEq, Nat.reduceBNe, Int.reduceToNat]
            exact ⟨w.length + 2 - cnt (orL os fs2), by omega, d + 1, v2, v3, fs2, orL os fs2, _, _, _, _, _, _, _, rfl, by rcases hdh1 with h | h <;> omega, by omega, hk3.trans (hk4.trans hk5), hi2.keeps hk5, hl2, hi5, by omega, hd2', hdm, rfl⟩
        · have hn1 : n.hi ≠ -1 := by simpa using h2
          have hle : n.hi ≤ ((lo + d : Nat) : Int) := by simp at h1; omega
          simp only [zz, env0, aPure, aRead, aNew, aEff, aval, avals, aparts, aopt, wantedA, binA, isShift, binI, fillA, single, aRes, splice, mkv, unA, binS, sameAt, reduceCtorEq, reduceIte, Int.reduceEq, Int.reduceLT, Int.reduceLE, Int.reduceNe, Nat.reduceEqDiff, Nat.reduceLT, Nat.reduceAdd, Nat.reduceMul, Nat.reduceSub, Nat.reduceLeDiff, Int.reduceBEq, Int.reduceBNe, Nat.reduceBEq, Nat.reduceBNe, Int.reduceToNat]
          exact ⟨vf1, vo, os, _, _, _, _, _, _, _, _, hk3, hio, hol, stop hn1 hle, rfl⟩
      · have hdh1 : n.hi = -1 ∨ ((lo + d + 1 : Nat) : Int) ≤ n.hi := by right; simp at h1; omega
        have g2 := f5 _ hk3
        have g3 := fk _ hk3
        simp only [h1, g2, g3, zz, env0, aPure, aRead, aNew, aEff, aval, avals, aparts, aopt, wantedA, binA, isShift, binI, fillA, single, aRes, splice, mkv, unA, binS, sameAt, reduceCtorEq, reduceIte, Int.reduceEq, Int.reduceLT, Int.reduceLE, Int.reduceNe, Nat.reduceEqDiff, Nat.reduceLT, Nat.reduceAdd, Nat.reduceMul, Nat.reduceSub, Nat.reduceLeDiff, Int.reduceBEq, Int.reduceBNe, Nat.reduceBEq, Nat.reduceBNe, Int.reduceToNat]
        refine ih _ _ fs _ (Rows.keeps NdP.mono (hk2.trans hk3) hN) hif hfl ?_
        intro v2 H4 fs2 hk4 hi2 hl2 hd2
        simp only [zz, env0, aPure, aRead, aNew, aEff, aval, avals, aparts, aopt, wantedA, binA, isShift, binI, fillA, single, aRes, splice, mkv, unA, binS, sameAt, reduceCtorEq, reduceIte, Int.reduceEq, Int.reduceLT, Int.reduceLE, Int.reduceNe, Nat.reduceEqDiff, Nat.reduceLT, Nat.reduceAdd, Nat.reduceMul, Nat.reduceSub, Nat.reduceLeDiff, Int.reduceBEq, Int.reduceBNe, Nat.reduceBEq, Nat.reduceBNe, Int.reduceToNat]
        refine or_spec _ _ _ os fs2 (hio.keeps hk4) hi2 (by omega) (by omega) _ ?_
        intro v3 H5 hk5 hi5
        have hll : os.length = fs2.length := by omega
        have hol5 := orL_len hll
        have hog := orL_get hll
        have hd2' := more (lo + d) fs fs2 hdf hd2
        have hdm : ∀ j, (orL os fs2)[j]? = some true ↔ ∃ e, e ≤ d + 1 ∧ ∃ i, bs[i]? = some true ∧ iterN (den l w k0) (lo + e) i j := fun j => by
          rw [hog, hdo j, hd2' j]
          constructor
          · rintro (⟨e, h1, h2⟩ | h2)
            · exact ⟨e, by omega, h2⟩
            · exact ⟨d + 1, Nat.le_refl _, h2⟩
          · rintro ⟨e, h1, h2⟩
            rcases Nat.lt_or_ge e (d + 1) with h | h
            · exact .inl ⟨e, by omega, h2⟩
            · have : e = d + 1 := by omega
              subst this; exact .inr h2
        simp only [zz, env0, aPure, aRead, aNew, aEff, aval, avals, aparts, aopt, wantedA, binA, isShift, binI, fillA, single, aRes, splice, mkv, unA, binS, sameAt, reduceCtorEq, reduceIte, Int.reduceEq, Int.reduceLT, Int.reduceLE, Int.reduceNe, Nat.reduceEqDiff, Nat.reduceLT, Nat.reduceAdd, Nat.reduceMul, Nat.reduceSub, Nat.reduceLeDiff, Int.reduceBEq, Int.reduceBNe, Nat.reduceBEq, Nat.reduceBNe, Int.reduceToNat]
        refine same_spec _ _ _ (orL os fs2) os hi5 (hio.keeps (hk4.trans hk5)) (by omega) (by omega) _ ?_
        intro b hb
        cases b with
        | true =>
          simp only [zz, env0, aPure, aRead, aNew, aEff, aval, avals, aparts, aopt, wantedA, binA, isShift, binI, fillA, single, aRes, splice, mkv, unA, binS, sameAt, reduceCtorEq, reduceIte, Int.reduceEq, Int.reduceLT, Int.reduceLE, Int.reduceNe, Nat.reduceEqDiff, Nat.reduceLT, Nat.reduceAdd, Nat.reduceMul, Nat.reduceSub, Nat.reduceLeDiff, Int.reduceBEq, Int.reduceBNe, Nat.reduceBEq, Nat.reduceBNe, Int.reduceToNat]
          have hsub := hb.1 rfl
          have hcl2 : ∀ e j, (∃ i, bs[i]? = some true ∧ iterN (den l w k0) (lo + e) i j) → os[j]? = some true := by
            intro e
            induction e with
            | zero => intro j h; exact (hdo j).2 ⟨0, by omega, h⟩
            | succ e ihe =>
              rintro j ⟨i, h3, h4⟩
              obtain ⟨m, h5, h6⟩ := (iterN_snoc _ _ _ _).1 h4
              obtain ⟨e', h7, i', h8, h9⟩ := (hdo m).1 (ihe m ⟨i, h3, h5⟩)
              rw [← hsub]
              exact (hdm j).2 ⟨e' + 1, by omega, i', h8, (iterN_snoc _ _ _ _).2 ⟨m, h9, h6⟩⟩
          refine ⟨v2, vo, os, _, _, _, _, _, _, _, _, hk3.trans (hk4.trans hk5), hio.keeps (hk4.trans hk5), hol, fun j => ?_, rfl⟩
          constructor
          · intro hj
            obtain ⟨e, h1, i, h2, h3⟩ := (hdo j).1 hj
            exact ⟨i, h2, lo + e, by omega, by rcases hdh with h | h <;> omega, h3⟩
          · rintro ⟨i, h1, c, h2, h3, h4⟩
            have : c = lo + (c - lo) := by omega
            rw [this] at h4
            exact hcl2 (c - lo) j ⟨i, h1, h4⟩
        | false =>
          have hne : os ≠ orL os fs2 := fun e => by have := hb.2 e.symm; simp at this
          have hlt := cnt_lt (a := os) (b := orL os fs2) (by omega) (fun j hj => (hog j).2 (.inl hj)) hne
          have hc5 := cnt_le (orL os fs2)
          have v2' : IntKind.i64.wrap (((lo + d : Nat) : Int) + 1) = ((lo + (d + 1) : Nat) : Int) := by rw [wrap_i64 (by omega) (by omega)]; omega
          simp only [v2', zz, env0, aPure, aRead, aNew, aEff, aval, avals, aparts, aopt, wantedA, binA, isShift, binI, fillA, single, aRes, splice, mkv, unA, binS, sameAt, reduceCtorEq, reduceIte, Int.reduceEq, Int.reduceLT, Int.reduceLE, Int.reduceNe, Nat.reduceEqDiff, Nat.reduceLT, Nat.reduceAdd, Nat.reduceMul, Nat.reduceSub, Nat.reduceLeDiff, Int.reduceBEq, Int.reduceBNe, Nat.reduceBEq, Nat.reduceBNe, Int.reduceToNat]
          exact ⟨w.length + 2 - cnt (orL os fs2), by omega, d + 1, v2, v3, fs2, orL os fs2, _, _, _, _, _, _, _, rfl, by rcases hdh1 with h | h <;> omega, by omega, hk3.trans (hk4.trans hk5), hi2.keeps hk5, hl2, hi5, by omega, hd2', hdm, rfl⟩
    · rintro e env H3 ⟨rfl, vf1, vo, os, a9, a10, b6, b7, b11, b12, b13, b14, hk3, hio, hol, hdo, rfl⟩
      simp only [zz, env0, aPure, aRead, aNew, aEff, aval, avals, aparts, aopt, wantedA, binA, isShift, binI, fillA, single, aRes, splice, mkv, unA, binS, sameAt, reduceCtorEq, reduceIte, Int.reduceEq, Int.reduceLT, Int.reduceLE, Int.reduceNe, Nat.reduceEqDiff, Nat.reduceLT, Nat.reduceAdd, Nat.reduceMul, Nat.reduceSub, Nat.reduceLeDiff, Int.reduceBEq, Int.reduceBNe, Nat.reduceBEq, Nat.reduceBNe, Int.reduceToNat]
      exact hK _ _ os (hk2.trans hk3) hio hol hdo
end Go.Proofs.Ytnblhjpbpobglaa

/- The reference: ends, Ends, Is, Longest. -/
set_option maxRecDepth 100000
set_option linter.unusedSimpArgs false
namespace Go.Proofs.Ytnblhjpbpobglaa
open Go.Am

theorem rends_spec {l : List Nd} {w : List UInt8} {v : AV} (hR : RightT l) (hw : w.length ≤ 1000000) : ∀ a, a < l.length → REndsAt l w v a := by
  intro a
  induction a using Nat.strongRecOn with
  | _ a ih =>
  intro ha H vf bs K hN hf hbl hK
  obtain ⟨hl1, hl2, root, hstk⟩ := hR
  obtain ⟨n, hn⟩ : ∃ n, l[a]? = some n := ⟨l[a], List.getElem?_eq_getElem ha⟩
  obtain ⟨hsh, hkl, hkr⟩ := stk_kids hstk hn
  obtain ⟨b9, o9, kv, rfl, hok, hkv, hld⟩ := hN.nd hn
  have p1 : (0 : Int) ≤ a := by omega
  have p2 : (a : Int) < l.length := by omega
  have h9 := hld 0 9 (by omega)
  simp only [Nat.add_zero, List.drop_zero, ndRow, List.take_succ_cons, List.take_zero] at h9
  obtain ⟨f1, f2, f3, f4⟩ := hkv.flat
  have hden := den_eq l w a n hn
  refine zWF rfl rfl rfl ?_
  simp only [a33, p1, p2, h9, f1, zz, env0, aPure, aRead, aNew, aEff, aval, avals, aparts, aopt, wantedA, binA, isShift, binI, fillA, single, aRes, splice, mkv, unA, binS, sameAt, reduceCtorEq, reduceIte, Int.reduceEq, Int.reduceLT, Int.reduceLE, Int.reduceNe, Nat.reduceEqDiff, Nat.reduceLT, Nat.reduceAdd, Nat.reduceMul, Nat.reduceSub, Nat.reduceLeDiff, Int.reduceBEq, Int.reduceBNe, Nat.reduceBEq, Nat.reduceBNe, Int.reduceToNat]
  generalize hH2 : H ++ [some (Blk.cells 9 true [AV.int IntKind.u8 n.op, AV.int IntKind.u64 n.s0, AV.int IntKind.u64 n.s1, AV.int IntKind.u64 n.s2, AV.int IntKind.u64 n.s3, kv, AV.int IntKind.i64 n.lo, AV.int IntKind.i64 n.hi, AV.str n.name])] = H2
  have hk2 : Keeps H H2 := by rw [← hH2]; exact .p1 _ _
  have hbn : getB H2 H.length = some (Blk.cells 9 true [AV.int IntKind.u8 n.op, AV.int IntKind.u64 n.s0, AV.int IntKind.u64 n.s1, AV.int IntKind.u64 n.s2, AV.int IntKind.u64 n.s3, kv, AV.int IntKind.i64 n.lo, AV.int IntKind.i64 n.hi, AV.str n.name]) := by
    rw [← hH2]; exact gb_new _ _
  have g5 : ∀ H', Keeps H2 H' → loadA H' H.length 5 1 = some [kv] := fun H' hk => load_one (hk.get hbn) rfl
  have gs : ∀ H', Keeps H2 H' → loadA H' H.length 1 4 = some [AV.int IntKind.u64 n.s0, AV.int IntKind.u64 n.s1, AV.int IntKind.u64 n.s2, AV.int IntKind.u64 n.s3] := fun H' hk => load_at (hk.get hbn) (by simp)
  have gn : ∀ H', Keeps H2 H' → loadA H' H.length 0 9 = some (ndRow n kv) := fun H' hk => load_at (hk.get hbn) (by simp)
  have hlk := hkv.lenOf
  have hcase : n.op = 2 ∨ n.op = 3 ∨ n.op = 4 ∨ n.op = 5 ∨ (n.op ≠ 2 ∧ n.op ≠ 3 ∧ n.op ≠ 4 ∧ n.op ≠ 5) := by omega
  have hkid : ∀ k, k ∈ n.kids → ∃ m : Nat, k = m ∧ m < a ∧ kidDen l w a k = den l w m := fun k hk => by
    have := hkr k hk
    refine ⟨k.toNat, by omega, by omega, ?_⟩
    unfold kidDen; rw [if_pos (by omega)]
  rcases hcase with ho | ho | ho | ho | ⟨o2, o3, o4, o5⟩
  · -- Bytes
    have ho' : (n.op == 2) = true := by simp [ho]
    have m1 := gs _ (.refl _)
    simp only [ho', m1, zz, env0, aPure, aRead, aNew, aEff, aval, avals, aparts, aopt, wantedA, binA, isShift, binI, fillA, single, aRes, splice, mkv, unA, binS, sameAt, reduceCtorEq, reduceIte, Int.reduceEq, Int.reduceLT, Int.reduceLE, Int.reduceNe, Nat.reduceEqDiff, Nat.reduceLT, Nat.reduceAdd, Nat.reduceMul, Nat.reduceSub, Nat.reduceLeDiff, Int.reduceBEq, Int.reduceBNe, Nat.reduceBEq, Nat.reduceBNe, Int.reduceToNat]
    refine one_spec _ n hok w hw _ bs hbl (hf.keeps hk2) _ ?_
    intro v2 H3 cs hk3 hi3 hl3 hd3
    simp only [zz, env0, aPure, aRead, aNew, aEff, aval, avals, aparts, aopt, wantedA, binA, isShift, binI, fillA, single, aRes, splice, mkv, unA, binS, sameAt, reduceCtorEq, reduceIte, Int.reduceEq, Int.reduceLT, Int.reduceLE, Int.reduceNe, Nat.reduceEqDiff, Nat.reduceLT, Nat.reduceAdd, Nat.reduceMul, Nat.reduceSub, Nat.reduceLeDiff, Int.reduceBEq, Int.reduceBNe, Nat.reduceBEq, Nat.reduceBNe, Int.reduceToNat]
    refine hK _ _ cs (hk2.trans hk3) hi3 hl3 (fun j => ?_)
    rw [hd3 j]
    simp only [hden, ho]
    simp
  · -- Cat
    have ho' : (n.op == 3) = true := by simp [ho]
    have e2 : (n.op == 2) = false := by simp [ho]
    simp only [e2, ho', zz, env0, aPure, aRead, aNew, aEff, aval, avals, aparts, aopt, wantedA, binA, isShift, binI, fillA, single, aRes, splice, mkv, unA, binS, sameAt, reduceCtorEq, reduceIte, Int.reduceEq, Int.reduceLT, Int.reduceLE, Int.reduceNe, Nat.reduceEqDiff, Nat.reduceLT, Nat.reduceAdd, Nat.reduceMul, Nat.reduceSub, Nat.reduceLeDiff, Int.reduceBEq, Int.reduceBNe, Nat.reduceBEq, Nat.reduceBNe, Int.reduceToNat]
    refine WC.mono (K := fun e env H' => e = .exit 1 ∧ ∃ vf' ms a6 a12, Keeps H2 H' ∧ Bls H' vf' ms ∧ ms.length = w.length + 1 ∧ (∀ j, ms[j]? = some true ↔ ∃ i, bs[i]? = some true ∧ den l w a i j) ∧
      env = [.sl b9 o9 l.length, .int .i64 a, .str w, vf', .nilsl, .ptr H.length 0, a6, .junk, .junk, .int .u8 n.op, .bool false, .bool true, a12, .junk, .junk, .junk]) ?_ ?_
    · refine WCL (fun r env H' => ∃ (t : Nat) (vf' a12 : AV) (ms : List Bool), t ≤ n.kids.length ∧ r = n.kids.length - t ∧ Keeps H2 H' ∧ Bls H' vf' ms ∧ ms.length = w.length + 1 ∧
          (∀ j, ms[j]? = some true ↔ ∃ i, bs[i]? = some true ∧ chain ((n.kids.take t).map (kidDen l w a)) i j) ∧
          env = [.sl b9 o9 l.length, .int .i64 a, .str w, vf', .nilsl, .ptr H.length 0, .int .i64 t, .junk, .junk, .int .u8 n.op, .bool false, .bool true, a12, .junk, .junk, .junk]) (n := n.kids.length)
        ⟨0, vf, _, bs, Nat.zero_le _, rfl, .refl _, hf.keeps hk2, hbl, fun j => by simp [chain], rfl⟩ ?_
      rintro r env H' ⟨t, vf', a12, ms, ht, rfl, hk, hi, hml, hdm, rfl⟩
      have m5 := g5 _ hk
      simp only [m5, hlk, zz, env0, aPure, aRead, aNew, aEff, aval, avals, aparts, aopt, wantedA, binA, isShift, binI, fillA, single, aRes, splice, mkv, unA, binS, sameAt, reduceCtorEq, reduceIte, Int.reduceEq, Int.reduceLT, Int.reduceLE, Int.reduceNe, Nat.reduceEqDiff, Nat.reduceLT, Nat.reduceAdd, Nat.reduceMul, Nat.reduceSub, Nat.reduceLeDiff, Int.reduceBEq, Int.reduceBNe, Nat.reduceBEq, Nat.reduceBNe, Int.reduceToNat]
      refine onB_of (fun hlt => ?_) (fun hlt => ?_)
      · have hlt : t < n.kids.length := by simpa using hlt
        obtain ⟨x, hx⟩ : ∃ x, n.kids[t]? = some x := ⟨n.kids[t], List.getElem?_eq_getElem hlt⟩
        obtain ⟨m, rfl, hma, hkd⟩ := hkid x (List.mem_of_getElem? hx)
        obtain ⟨ik, ok, rfl, g1⟩ := (Rows.keeps IntP.mono (hk2.trans hk) hkv).int hx
        have r1 : (0 : Int) ≤ t := by omega
        have r2 : (t : Int) < n.kids.length := by omega
        have htk : n.kids.take (t + 1) = n.kids.take t ++ [(m : Int)] := by
          rw [List.take_succ_eq_append_getElem hlt]; congr 2
          rw [List.getElem?_eq_getElem hlt] at hx; simpa using hx
        have vt : IntKind.i64.wrap ((t : Int) + 1) = ((t + 1 : Nat) : Int) := by rw [wrap_i64 (by omega) (by omega)]; rfl
        simp only [m5, r1, r2, Nat.mul_one, g1, zz, env0, aPure, aRead, aNew, aEff, aval, avals, aparts, aopt, wantedA, binA, isShift, binI, fillA, single, aRes, splice, mkv, unA, binS, sameAt, reduceCtorEq, reduceIte, Int.reduceEq, Int.reduceLT, Int.reduceLE, Int.reduceNe, Nat.reduceEqDiff, Nat.reduceLT, Nat.reduceAdd, Nat.reduceMul, Nat.reduceSub, Nat.reduceLeDiff, Int.reduceBEq, Int.reduceBNe, Nat.reduceBEq, Nat.reduceBNe, Int.reduceToNat]
        refine ih m hma (by omega) _ _ ms _ (Rows.keeps NdP.mono (hk2.trans hk) hN) hi hml ?_
        intro v2 H4 ms2 hk4 hi2 hl2 hd2
        simp only [vt, zz, env0, aPure, aRead, aNew, aEff, aval, avals, aparts, aopt, wantedA, binA, isShift, binI, fillA, single, aRes, splice, mkv, unA, binS, sameAt, reduceCtorEq, reduceIte, Int.reduceEq, Int.reduceLT, Int.reduceLE, Int.reduceNe, Nat.reduceEqDiff, Nat.reduceLT, Nat.reduceAdd, Nat.reduceMul, Nat.reduceSub, Nat.reduceLeDiff, Int.reduceBEq, Int.reduceBNe, Nat.reduceBEq, Nat.reduceBNe, Int.reduceToNat]
        refine ⟨n.kids.length - (t + 1), by omega, t + 1, v2, _, ms2, by omega, rfl, hk.trans hk4, hi2, hl2, fun j => ?_, rfl⟩
        rw [hd2 j, htk, List.map_append, List.map_cons, List.map_nil]
        constructor
        · rintro ⟨i, h1, h2⟩
          obtain ⟨i0, h3, h4⟩ := (hdm i).1 h1
          exact ⟨i0, h3, (chain_snoc _ _ _ _).2 ⟨i, h4, by rw [hkd]; exact h2⟩⟩
        · rintro ⟨i0, h3, h4⟩
          obtain ⟨i, h5, h6⟩ := (chain_snoc _ _ _ _).1 h4
          exact ⟨i, (hdm i).2 ⟨i0, h3, h5⟩, by rw [hkd] at h6; exact h6⟩
      · have hte : t = n.kids.length := by simp at hlt; omega
        subst hte
        rw [List.take_length] at hdm
        simp only [zz, env0, aPure, aRead, aNew, aEff, aval, avals, aparts, aopt, wantedA, binA, isShift, binI, fillA, single, aRes, splice, mkv, unA, binS, sameAt, reduceCtorEq, reduceIte, Int.reduceEq, Int.reduceLT, Int.reduceLE, Int.reduceNe, Nat.reduceEqDiff, Nat.reduceLT, Nat.reduceAdd, Nat.reduceMul, Nat.reduceSub, Nat.reduceLeDiff, Int.reduceBEq, Int.reduceBNe, Nat.reduceBEq, Nat.reduceBNe, Int.reduceToNat]
        refine ⟨vf', ms, _, _, hk, hi, hml, fun j => ?_, rfl⟩
        rw [hdm j]
        simp only [hden, ho]
        simp
    · rintro e env H' ⟨rfl, vf', ms, a6, a12, hk, hi, hml, hdm, rfl⟩
      simp only [zz, env0, aPure, aRead, aNew, aEff, aval, avals, aparts, aopt, wantedA, binA, isShift, binI, fillA, single, aRes, splice, mkv, unA, binS, sameAt, reduceCtorEq, reduceIte, Int.reduceEq, Int.reduceLT, Int.reduceLE, Int.reduceNe, Nat.reduceEqDiff, Nat.reduceLT, Nat.reduceAdd, Nat.reduceMul, Nat.reduceSub, Nat.reduceLeDiff, Int.reduceBEq, Int.reduceBNe, Nat.reduceBEq, Nat.reduceBNe, Int.reduceToNat]
      exact hK _ _ ms (hk2.trans hk) hi hml hdm
  · -- Alt
    have ho' : (n.op == 4) = true := by simp [ho]
    have e2 : (n.op == 2) = false := by simp [ho]
    have e3 : (n.op == 3) = false := by simp [ho]
    simp only [e2, e3, ho', zz, env0, aPure, aRead, aNew, aEff, aval, avals, aparts, aopt, wantedA, binA, isShift, binI, fillA, single, aRes, splice, mkv, unA, binS, sameAt, reduceCtorEq, reduceIte, Int.reduceEq, Int.reduceLT, Int.reduceLE, Int.reduceNe, Nat.reduceEqDiff, Nat.reduceLT, Nat.reduceAdd, Nat.reduceMul, Nat.reduceSub, Nat.reduceLeDiff, Int.reduceBEq, Int.reduceBNe, Nat.reduceBEq, Nat.reduceBNe, Int.reduceToNat]
    refine places_spec _ _ hw _ ?_
    intro ip H3 hk3 hw3
    have hk23 := hk2.trans hk3
    simp only [zz, env0, aPure, aRead, aNew, aEff, aval, avals, aparts, aopt, wantedA, binA, isShift, binI, fillA, single, aRes, splice, mkv, unA, binS, sameAt, reduceCtorEq, reduceIte, Int.reduceEq, Int.reduceLT, Int.reduceLE, Int.reduceNe, Nat.reduceEqDiff, Nat.reduceLT, Nat.reduceAdd, Nat.reduceMul, Nat.reduceSub, Nat.reduceLeDiff, Int.reduceBEq, Int.reduceBNe, Nat.reduceBEq, Nat.reduceBNe, Int.reduceToNat]
    refine WC.mono (K := fun e env H' => e = .exit 3 ∧ ∃ vo ms a8 a14, Keeps H3 H' ∧ Bls H' vo ms ∧ ms.length = w.length + 1 ∧ (∀ j, ms[j]? = some true ↔ ∃ i, bs[i]? = some true ∧ den l w a i j) ∧
      env = [.sl b9 o9 l.length, .int .i64 a, .str w, vf, .nilsl, .ptr H.length 0, .junk, vo, a8, .int .u8 n.op, .bool false, .bool false, .junk, .bool true, a14, .junk]) ?_ ?_
    · refine WCL (fun r env H' => ∃ (t : Nat) (vo a14 : AV) (ms : List Bool), t ≤ n.kids.length ∧ r = n.kids.length - t ∧ Keeps H3 H' ∧ Bls H' vo ms ∧ ms.length = w.length + 1 ∧
          (∀ j, ms[j]? = some true ↔ ∃ i, bs[i]? = some true ∧ ∃ k, k ∈ n.kids.take t ∧ kidDen l w a k i j) ∧
          env = [.sl b9 o9 l.length, .int .i64 a, .str w, vf, .nilsl, .ptr H.length 0, .junk, vo, .int .i64 t, .int .u8 n.op, .bool false, .bool false, .junk, .bool true, a14, .junk]) (n := n.kids.length)
        ⟨0, .sl ip 0 (w.length + 1), _, List.replicate (w.length + 1) false, Nat.zero_le _, rfl, .refl _, by unfold Bls; rw [List.length_replicate]; exact hw3.row, by simp, fun j => by
          constructor
          · intro h; rw [List.getElem?_replicate] at h; split at h <;> simp at h
          · rintro ⟨i, _, k, h, _⟩; simp at h, rfl⟩ ?_
      rintro r env H' ⟨t, vo, a14, ms, ht, rfl, hk, hi, hml, hdm, rfl⟩
      have m5 := g5 _ (hk3.trans hk)
      simp only [m5, hlk, zz, env0, aPure, aRead, aNew, aEff, aval, avals, aparts, aopt, wantedA, binA, isShift, binI, fillA, single, aRes, splice, mkv, unA, binS, sameAt, reduceCtorEq, reduceIte, Int.reduceEq, Int.reduceLT, Int.reduceLE, Int.reduceNe, Nat.reduceEqDiff, Nat.reduceLT, Nat.reduceAdd, Nat.reduceMul, Nat.reduceSub, Nat.reduceLeDiff, Int.reduceBEq, Int.reduceBNe, Nat.reduceBEq, Nat.reduceBNe, Int.reduceToNat]
      refine onB_of (fun hlt => ?_) (fun hlt => ?_)
      · have hlt : t < n.kids.length := by simpa using hlt
        obtain ⟨x, hx⟩ : ∃ x, n.kids[t]? = some x := ⟨n.kids[t], List.getElem?_eq_getElem hlt⟩
        obtain ⟨m, rfl, hma, hkd⟩ := hkid x (List.mem_of_getElem? hx)
        obtain ⟨ik, ok, rfl, g1⟩ := (Rows.keeps IntP.mono (hk23.trans hk) hkv).int hx
        have r1 : (0 : Int) ≤ t := by omega
        have r2 : (t : Int) < n.kids.length := by omega
        have htk : n.kids.take (t + 1) = n.kids.take t ++ [(m : Int)] := by
          rw [List.take_succ_eq_append_getElem hlt]; congr 2
          rw [List.getElem?_eq_getElem hlt] at hx; simpa using hx
        have vt : IntKind.i64.wrap ((t : Int) + 1) = ((t + 1 : Nat) : Int) := by rw [wrap_i64 (by omega) (by omega)]; rfl
        simp only [m5, r1, r2, Nat.mul_one, g1, zz, env0, aPure, aRead, aNew, aEff, aval, avals, aparts, aopt, wantedA, binA, isShift, binI, fillA, single, aRes, splice, mkv, unA, binS, sameAt, reduceCtorEq, reduceIte, Int.reduceEq, Int.reduceLT, Int.reduceLE, Int.reduceNe, Nat.reduceEqDiff, Nat.reduceLT, Nat.reduceAdd, Nat.reduceMul, Nat.reduceSub, Nat.reduceLeDiff, Int.reduceBEq, Int.reduceBNe, Nat.reduceBEq, Nat.reduceBNe, Int.reduceToNat]
        refine ih m hma (by omega) _ _ bs _ (Rows.keeps NdP.mono (hk23.trans hk) hN) (hf.keeps (hk23.trans hk)) hbl ?_
        intro v2 H4 ms2 hk4 hi2 hl2 hd2
        simp only [zz, env0, aPure, aRead, aNew, aEff, aval, avals, aparts, aopt, wantedA, binA, isShift, binI, fillA, single, aRes, splice, mkv, unA, binS, sameAt, reduceCtorEq, reduceIte, Int.reduceEq, Int.reduceLT, Int.reduceLE, Int.reduceNe, Nat.reduceEqDiff, Nat.reduceLT, Nat.reduceAdd, Nat.reduceMul, Nat.reduceSub, Nat.reduceLeDiff, Int.reduceBEq, Int.reduceBNe, Nat.reduceBEq, Nat.reduceBNe, Int.reduceToNat]
        refine or_spec _ _ _ ms ms2 (hi.keeps hk4) hi2 (by omega) (by omega) _ ?_
        intro v3 H5 hk5 hi5
        have hll : ms.length = ms2.length := by omega
        have hol5 := orL_len hll
        have hog := orL_get hll
        simp only [vt, zz, env0, aPure, aRead, aNew, aEff, aval, avals, aparts, aopt, wantedA, binA, isShift, binI, fillA, single, aRes, splice, mkv, unA, binS, sameAt, reduceCtorEq, reduceIte, Int.reduceEq, Int.reduceLT, Int.reduceLE, Int.reduceNe, Nat.reduceEqDiff, Nat.reduceLT, Nat.reduceAdd, Nat.reduceMul, Nat.reduceSub, Nat.reduceLeDiff, Int.reduceBEq, Int.reduceBNe, Nat.reduceBEq, Nat.reduceBNe, Int.reduceToNat]
        refine ⟨n.kids.length - (t + 1), by omega, t + 1, v3, _, orL ms ms2, by omega, rfl, hk.trans (hk4.trans hk5), hi5, by omega, fun j => ?_, rfl⟩
        rw [hog, hdm j, hd2 j, htk]
        constructor
        · rintro (⟨i, h1, k, h2, h3⟩ | ⟨i, h1, h2⟩)
          · exact ⟨i, h1, k, by simp [h2], h3⟩
          · exact ⟨i, h1, m, by simp, by rw [hkd]; exact h2⟩
        · rintro ⟨i, h1, k, h2, h3⟩
          simp only [List.mem_append, List.mem_cons, List.not_mem_nil, or_false] at h2
          rcases h2 with h2 | rfl
          · exact .inl ⟨i, h1, k, h2, h3⟩
          · exact .inr ⟨i, h1, by rw [hkd] at h3; exact h3⟩
      · have hte : t = n.kids.length := by simp at hlt; omega
        subst hte
        rw [List.take_length] at hdm
        simp only [zz, env0, aPure, aRead, aNew, aEff, aval, avals, aparts, aopt, wantedA, binA, isShift, binI, fillA, single, aRes, splice, mkv, unA, binS, sameAt, reduceCtorEq, reduceIte, Int.reduceEq, Int.reduceLT, Int.reduceLE, Int.reduceNe, Nat.reduceEqDiff, Nat.reduceLT, Nat.reduceAdd, Nat.reduceMul, Nat.reduceSub, Nat.reduceLeDiff, Int.reduceBEq, Int.reduceBNe, Nat.reduceBEq, Nat.reduceBNe, Int.reduceToNat]
        refine ⟨vo, ms, _, _, hk, hi, hml, fun j => ?_, rfl⟩
        rw [hdm j]
        simp only [hden, ho]
        simp
    · rintro e env H' ⟨rfl, vo, ms, a8, a14, hk, hi, hml, hdm, rfl⟩
      simp only [zz, env0, aPure, aRead, aNew, aEff, aval, avals, aparts, aopt, wantedA, binA, isShift, binI, fillA, single, aRes, splice, mkv, unA, binS, sameAt, reduceCtorEq, reduceIte, Int.reduceEq, Int.reduceLT, Int.reduceLE, Int.reduceNe, Nat.reduceEqDiff, Nat.reduceLT, Nat.reduceAdd, Nat.reduceMul, Nat.reduceSub, Nat.reduceLeDiff, Int.reduceBEq, Int.reduceBNe, Nat.reduceBEq, Nat.reduceBNe, Int.reduceToNat]
      exact hK _ _ ms (hk23.trans hk) hi hml hdm
  · -- Rep
    have ho' : (n.op == 5) = true := by simp [ho]
    have e2 : (n.op == 2) = false := by simp [ho]
    have e3 : (n.op == 3) = false := by simp [ho]
    have e4 : (n.op == 4) = false := by simp [ho]
    have m2 := gn _ (.refl _)
    rw [ndRow] at m2
    simp only [e2, e3, e4, ho', m2, zz, env0, aPure, aRead, aNew, aEff, aval, avals, aparts, aopt, wantedA, binA, isShift, binI, fillA, single, aRes, splice, mkv, unA, binS, sameAt, reduceCtorEq, reduceIte, Int.reduceEq, Int.reduceLT, Int.reduceLE, Int.reduceNe, Nat.reduceEqDiff, Nat.reduceLT, Nat.reduceAdd, Nat.reduceMul, Nat.reduceSub, Nat.reduceLeDiff, Int.reduceBEq, Int.reduceBNe, Nat.reduceBEq, Nat.reduceBNe, Int.reduceToNat]
    have hs5 : n.kids.length = 1 ∧ 0 ≤ n.lo ∧ n.lo ≤ 4096 ∧ (n.hi = -1 ∨ 1 ≤ n.hi ∧ n.lo ≤ n.hi ∧ n.hi ≤ 4096) := by
      rcases hsh with h | h | h | h | h
      · omega
      · omega
      · omega
      · exact ⟨h.2.2.1, h.2.2.2.1, h.2.2.2.2.1, h.2.2.2.2.2.1⟩
      · omega
    obtain ⟨x, hx⟩ : ∃ x, n.kids = [x] := by
      match hh : n.kids, hs5.1 with
      | [x], _ => exact ⟨x, rfl⟩
    obtain ⟨m, rfl, hma, hkd⟩ := hkid x (by rw [hx]; simp)
    refine rep_spec (ih m hma (by omega)) hw _ kv vf n bs (Rows.keeps NdP.mono hk2 hN) (Rows.keeps IntP.mono hk2 hkv) hx ⟨hs5.2.1, hs5.2.2.1⟩ hs5.2.2.2 (hf.keeps hk2) hbl _ ?_
    intro v2 H4 ms2 hk4 hi2 hl2 hd2
    simp only [zz, env0, aPure, aRead, aNew, aEff, aval, avals, aparts, aopt, wantedA, binA, isShift, binI, fillA, single, aRes, splice, mkv, unA, binS, sameAt, reduceCtorEq, reduceIte, Int.reduceEq, Int.reduceLT, Int.reduceLE, Int.reduceNe, Nat.reduceEqDiff, Nat.reduceLT, Nat.reduceAdd, Nat.reduceMul, Nat.reduceSub, Nat.reduceLeDiff, Int.reduceBEq, Int.reduceBNe, Nat.reduceBEq, Nat.reduceBNe, Int.reduceToNat]
    refine hK _ _ ms2 (hk2.trans hk4) hi2 hl2 (fun j => ?_)
    rw [hd2 j]
    simp only [hden, ho, hx]
    simp [hkd]
  · have e2 : (n.op == 2) = false := by simp [o2]
    have e3 : (n.op == 3) = false := by simp [o3]
    have e4 : (n.op == 4) = false := by simp [o4]
    have e5 : (n.op == 5) = false := by simp [o5]
    simp only [e2, e3, e4, e5, zz, env0, aPure, aRead, aNew, aEff, aval, avals, aparts, aopt, wantedA, binA, isShift, binI, fillA, single, aRes, splice, mkv, unA, binS, sameAt, reduceCtorEq, reduceIte, Int.reduceEq, Int.reduceLT, Int.reduceLE, Int.reduceNe, Nat.reduceEqDiff, Nat.reduceLT, Nat.reduceAdd, Nat.reduceMul, Nat.reduceSub, Nat.reduceLeDiff, Int.reduceBEq, Int.reduceBNe, Nat.reduceBEq, Nat.reduceBNe, Int.reduceToNat]
    refine hK _ _ bs hk2 (hf.keeps hk2) hbl (fun j => ?_)
    simp only [hden, o2, o3, o4, o5, if_false]
    simp

/-- Which of some are. -/
def trues (bs : List Bool) : List Nat := (List.range bs.length).filter fun j => bs[j]? == some true
theorem trues_mem (bs : List Bool) (j : Nat) : j ∈ trues bs ↔ bs[j]? = some true := by
  simp only [trues, List.mem_filter, List.mem_range, beq_iff_eq]
  constructor
  · exact fun h => h.2
  · intro h
    refine ⟨?_, h⟩
    rcases Nat.lt_or_ge j bs.length with h' | h'
    · exact h'
    · rw [List.getElem?_eq_none h'] at h; simp at h
theorem trues_sorted (bs : List Bool) : (trues bs).Pairwise (· < ·) := List.Pairwise.filter _ List.pairwise_lt_range
/-- .. of the first k. -/
def truesTo (bs : List Bool) (k : Nat) : List Nat := (List.range k).filter fun j => bs[j]? == some true
theorem truesTo_succ (bs : List Bool) (k : Nat) : truesTo bs (k + 1) = if bs[k]? = some true then truesTo bs k ++ [k] else truesTo bs k := by
  simp only [truesTo, List.range_succ, List.filter_append]
  split
  · rename_i h; simp [h]
  · rename_i h; simp [h]
theorem truesTo_len (bs : List Bool) (k : Nat) : (truesTo bs k).length ≤ k := by
  have := List.length_filter_le (fun j => bs[j]? == some true) (List.range k)
  simpa [truesTo] using this

theorem rEnds_spec (H : AHeap) (v : AV) (l : List Nd) (w : List UInt8) (f : Int) (hN : Nds H v l) (hbig : l.length < 9223372036854775808) (hw : w.length ≤ 1000000) (K : AV → AHeap → Prop)
    (hK : ∀ v' H' ms, Keeps H H' → Ints H' v' (nts ms) → EndsL l w f ms → K v' H') : WF P0 22 [v, .str w, .int .i64 f] H K := by
  have hnil : ∀ H', Keeps H H' → ¬ (RightT l ∧ NoRef l ∧ 0 ≤ f ∧ f ≤ w.length) → K .nilsl H' := fun H' hk hno =>
    hK _ _ [] hk Rows.nil ⟨⟨.nil, by simp⟩, fun j => by
      simp only [List.not_mem_nil, false_iff]
      rintro ⟨a, b, c, d, _⟩; exact hno ⟨a, b, c, d⟩⟩
  have hla := hN.lenOf
  refine zWF rfl rfl rfl ?_
  simp only [a22, zz, env0, aPure, aRead, aNew, aEff, aval, avals, aparts, aopt, wantedA, binA, isShift, binI, fillA, single, aRes, splice, mkv, unA, binS, sameAt, reduceCtorEq, reduceIte, Int.reduceEq, Int.reduceLT, Int.reduceLE, Int.reduceNe, Nat.reduceEqDiff, Nat.reduceLT, Nat.reduceAdd, Nat.reduceMul, Nat.reduceSub, Nat.reduceLeDiff, Int.reduceBEq, Int.reduceBNe, Nat.reduceBEq, Nat.reduceBNe, Int.reduceToNat]
  refine rplain_spec _ _ l hN hbig _ ?_
  intro b H1 hk1 hb
  cases b with
  | false =>
    simp only [zz, env0, aPure, aRead, aNew, aEff, aval, avals, aparts, aopt, wantedA, binA, isShift, binI, fillA, single, aRes, splice, mkv, unA, binS, sameAt, reduceCtorEq, reduceIte, Int.reduceEq, Int.reduceLT, Int.reduceLE, Int.reduceNe, Nat.reduceEqDiff, Nat.reduceLT, Nat.reduceAdd, Nat.reduceMul, Nat.reduceSub, Nat.reduceLeDiff, Int.reduceBEq, Int.reduceBNe, Nat.reduceBEq, Nat.reduceBNe, Int.reduceToNat]
    exact hnil _ hk1 (fun h => by have := hb.2 ⟨h.1, h.2.1⟩; simp at this)
  | true =>
    obtain ⟨hR, hNo⟩ := hb.1 rfl
    have hl1 := hR.1
    have hl2 := hR.2.1
    simp only [zz, env0, aPure, aRead, aNew, aEff, aval, avals, aparts, aopt, wantedA, binA, isShift, binI, fillA, single, aRes, splice, mkv, unA, binS, sameAt, reduceCtorEq, reduceIte, Int.reduceEq, Int.reduceLT, Int.reduceLE, Int.reduceNe, Nat.reduceEqDiff, Nat.reduceLT, Nat.reduceAdd, Nat.reduceMul, Nat.reduceSub, Nat.reduceLeDiff, Int.reduceBEq, Int.reduceBNe, Nat.reduceBEq, Nat.reduceBNe, Int.reduceToNat]
    refine onG_f (fun h1 => ?_) (fun h1 => ?_)
    · simp only [h1, zz, env0, aPure, aRead, aNew, aEff, aval, avals, aparts, aopt, wantedA, binA, isShift, binI, fillA, single, aRes, splice, mkv, unA, binS, sameAt, reduceCtorEq, reduceIte, Int.reduceEq, Int.reduceLT, Int.reduceLE, Int.reduceNe, Nat.reduceEqDiff, Nat.reduceLT, Nat.reduceAdd, Nat.reduceMul, Nat.reduceSub, Nat.reduceLeDiff, Int.reduceBEq, Int.reduceBNe, Nat.reduceBEq, Nat.reduceBNe, Int.reduceToNat]
      refine onB_of (fun h2 => ?_) (fun h2 => ?_)
      · simp only [zz, env0, aPure, aRead, aNew, aEff, aval, avals, aparts, aopt, wantedA, binA, isShift, binI, fillA, single, aRes, splice, mkv, unA, binS, sameAt, reduceCtorEq, reduceIte, Int.reduceEq, Int.reduceLT, Int.reduceLE, Int.reduceNe, Nat.reduceEqDiff, Nat.reduceLT, Nat.reduceAdd, Nat.reduceMul, Nat.reduceSub, Nat.reduceLeDiff, Int.reduceBEq, Int.reduceBNe, Nat.reduceBEq, Nat.reduceBNe, Int.reduceToNat]
        exact hnil _ hk1 (fun h => by simp at h2; omega)
      · have hf1 : 0 ≤ f := by simpa using h1
        have hf2 : f ≤ w.length := by simpa using h2
        obtain ⟨g, rfl⟩ : ∃ g : Nat, f = g := ⟨f.toNat, by omega⟩
        simp only [zz, env0, aPure, aRead, aNew, aEff, aval, avals, aparts, aopt, wantedA, binA, isShift, binI, fillA, single, aRes, splice, mkv, unA, binS, sameAt, reduceCtorEq, reduceIte, Int.reduceEq, Int.reduceLT, Int.reduceLE, Int.reduceNe, Nat.reduceEqDiff, Nat.reduceLT, Nat.reduceAdd, Nat.reduceMul, Nat.reduceSub, Nat.reduceLeDiff, Int.reduceBEq, Int.reduceBNe, Nat.reduceBEq, Nat.reduceBNe, Int.reduceToNat]
        refine places_spec _ _ hw _ ?_
        intro ip H2 hk2 hw2
        obtain ⟨i4, q4, e4, H3, hs3, hw3, he3, _⟩ := hw2.store (k := g) (vs := [.bool true]) (by simp; omega) (by omega) rfl
        simp only [AV.sl.injEq] at e4
        obtain ⟨rfl, rfl, _⟩ := e4
        rw [Nat.zero_add] at hs3
        have r1 : (0 : Int) ≤ (g : Int) := by omega
        have r2 : (g : Int) < ((w.length + 1 : Nat) : Int) := by omega
        have v1 : IntKind.i64.wrap ((l.length : Int) - 1) = ((l.length - 1 : Nat) : Int) := by rw [wrap_i64 (by omega) (by omega)]; omega
        have hid := (hw2.id rfl).1
        have hk3 : Keeps H H3 := Else.keeps (hk1.trans hk2) he3 (fun j hj => by simp only [Option.some.injEq] at hj; have := hk1.1; omega)
        rw [splice_bls _ _ _ (by simp; omega)] at hw3
        simp only [r1, r2, Nat.mul_one, hs3, hla, v1, zz, env0, aPure, aRead, aNew, aEff, aval, avals, aparts, aopt, wantedA, binA, isShift, binI, fillA, single, aRes, splice, mkv, unA, binS, sameAt, reduceCtorEq, reduceIte, Int.reduceEq, Int.reduceLT, Int.reduceLE, Int.reduceNe, Nat.reduceEqDiff, Nat.reduceLT, Nat.reduceAdd, Nat.reduceMul, Nat.reduceSub, Nat.reduceLeDiff, Int.reduceBEq, Int.reduceBNe, Nat.reduceBEq, Nat.reduceBNe, Int.reduceToNat]
        refine rends_spec hR hw (l.length - 1) (by omega) _ _ ((List.replicate (w.length + 1) false).set g true) _ (Rows.keeps NdP.mono hk3 hN) (by unfold Bls; simpa using hw3.row) (by simp) ?_
        intro v4 H4 es hk4 hi4 hl4 hd4
        have hd4' : ∀ j, es[j]? = some true ↔ den l w (l.length - 1) g j := fun j => by
          rw [hd4 j]
          constructor
          · rintro ⟨i, h1, h2⟩
            rw [List.getElem?_set] at h1
            by_cases e : g = i
            · subst e; exact h2
            · rw [if_neg e, List.getElem?_replicate] at h1; split at h1 <;> simp at h1
          · intro h
            exact ⟨g, by rw [List.getElem?_set, if_pos rfl, if_pos (by simp; omega)], h⟩
        have hlo := RowAt.lenOf hi4
        simp only [zz, env0, aPure, aRead, aNew, aEff, aval, avals, aparts, aopt, wantedA, binA, isShift, binI, fillA, single, aRes, splice, mkv, unA, binS, sameAt, reduceCtorEq, reduceIte, Int.reduceEq, Int.reduceLT, Int.reduceLE, Int.reduceNe, Nat.reduceEqDiff, Nat.reduceLT, Nat.reduceAdd, Nat.reduceMul, Nat.reduceSub, Nat.reduceLeDiff, Int.reduceBEq, Int.reduceBNe, Nat.reduceBEq, Nat.reduceBNe, Int.reduceToNat]
        refine WCL (fun r env H' => Keeps H4 H' ∧ ∃ (k : Nat) (vo a9 a10 : AV), k ≤ es.length ∧ r = es.length - k ∧ WR H' H4.length 1 vo (truesTo es k).length ((nts (truesTo es k)).map (AV.int .i64)) ∧
            env = [v, .str w, .int .i64 g, .nilsl, .sl ip 0 (w.length + 1), v4, vo, .int .i64 k, .bool false, a9, a10]) (n := es.length)
          ⟨.refl _, 0, .nilsl, _, _, Nat.zero_le _, rfl, .nil, by rw [h2]; rfl⟩ ?_
        rintro r env H' ⟨hk, k, vo, a9, a10, hkl, rfl, hwo, rfl⟩
        simp only [hlo, zz, env0, aPure, aRead, aNew, aEff, aval, avals, aparts, aopt, wantedA, binA, isShift, binI, fillA, single, aRes, splice, mkv, unA, binS, sameAt, reduceCtorEq, reduceIte, Int.reduceEq, Int.reduceLT, Int.reduceLE, Int.reduceNe, Nat.reduceEqDiff, Nat.reduceLT, Nat.reduceAdd, Nat.reduceMul, Nat.reduceSub, Nat.reduceLeDiff, Int.reduceBEq, Int.reduceBNe, Nat.reduceBEq, Nat.reduceBNe, Int.reduceToNat]
        refine onB_of (fun hlt => ?_) (fun hlt => ?_)
        · have hlt : k < es.length := by simpa using hlt
          obtain ⟨x, hx⟩ : ∃ x, es[k]? = some x := ⟨es[k], List.getElem?_eq_getElem hlt⟩
          obtain ⟨i, o, rfl, g1⟩ := (hi4.keeps hk).at hx
          have r3 : (0 : Int) ≤ k := by omega
          have r4 : (k : Int) < es.length := by omega
          have vk : IntKind.i64.wrap ((k : Int) + 1) = ((k + 1 : Nat) : Int) := by rw [wrap_i64 (by omega) (by omega)]; rfl
          simp only [r3, r4, Nat.mul_one, g1, zz, env0, aPure, aRead, aNew, aEff, aval, avals, aparts, aopt, wantedA, binA, isShift, binI, fillA, single, aRes, splice, mkv, unA, binS, sameAt, reduceCtorEq, reduceIte, Int.reduceEq, Int.reduceLT, Int.reduceLE, Int.reduceNe, Nat.reduceEqDiff, Nat.reduceLT, Nat.reduceAdd, Nat.reduceMul, Nat.reduceSub, Nat.reduceLeDiff, Int.reduceBEq, Int.reduceBNe, Nat.reduceBEq, Nat.reduceBNe, Int.reduceToNat]
          have htl := truesTo_len es k
          cases x with
          | false =>
            simp only [vk, zz, env0, aPure, aRead, aNew, aEff, aval, avals, aparts, aopt, wantedA, binA, isShift, binI, fillA, single, aRes, splice, mkv, unA, binS, sameAt, reduceCtorEq, reduceIte, Int.reduceEq, Int.reduceLT, Int.reduceLE, Int.reduceNe, Nat.reduceEqDiff, Nat.reduceLT, Nat.reduceAdd, Nat.reduceMul, Nat.reduceSub, Nat.reduceLeDiff, Int.reduceBEq, Int.reduceBNe, Nat.reduceBEq, Nat.reduceBNe, Int.reduceToNat]
            refine ⟨es.length - (k + 1), by omega, hk, k + 1, vo, _, _, hlt, rfl, ?_, rfl⟩
            rw [truesTo_succ, if_neg (by rw [hx]; simp)]; exact hwo
          | true =>
            obtain ⟨v', H5, hap, hw5, he5, hid5⟩ := (hwo.keeps (Keeps.p1 H' (some (.cells 1 true [.int .i64 k])))).append (bytes := 8) (by have := hk.1; simp; omega) (src_new H' 1 1 [.int .i64 k] rfl) rfl rfl (by simp only [maxRoom]; omega)
            simp only [hap, vk, zz, env0, aPure, aRead, aNew, aEff, aval, avals, aparts, aopt, wantedA, binA, isShift, binI, fillA, single, aRes, splice, mkv, unA, binS, sameAt, reduceCtorEq, reduceIte, Int.reduceEq, Int.reduceLT, Int.reduceLE, Int.reduceNe, Nat.reduceEqDiff, Nat.reduceLT, Nat.reduceAdd, Nat.reduceMul, Nat.reduceSub, Nat.reduceLeDiff, Int.reduceBEq, Int.reduceBNe, Nat.reduceBEq, Nat.reduceBNe, Int.reduceToNat]
            refine ⟨es.length - (k + 1), by omega, Else.keeps (hk.trans (.p1 _ _)) he5 (fun i hi => (hwo.id hi).1), k + 1, v', _, _, hlt, rfl, ?_, rfl⟩
            rw [truesTo_succ, if_pos hx]
            have e : (truesTo es k ++ [k]).length = (truesTo es k).length + 1 := by simp
            rw [e, nts_app, List.map_append]
            exact hw5
        · have hke : k = es.length := by simp at hlt; omega
          subst hke
          simp only [zz, env0, aPure, aRead, aNew, aEff, aval, avals, aparts, aopt, wantedA, binA, isShift, binI, fillA, single, aRes, splice, mkv, unA, binS, sameAt, reduceCtorEq, reduceIte, Int.reduceEq, Int.reduceLT, Int.reduceLE, Int.reduceNe, Nat.reduceEqDiff, Nat.reduceLT, Nat.reduceAdd, Nat.reduceMul, Nat.reduceSub, Nat.reduceLeDiff, Int.reduceBEq, Int.reduceBNe, Nat.reduceBEq, Nat.reduceBNe, Int.reduceToNat]
          refine hK _ _ (trues es) (hk3.trans (hk4.trans hk)) (ints_of (by rw [nts_len]; exact hwo.row)) ⟨⟨trues_sorted es, fun n hn => ?_⟩, fun j => ?_⟩
          · have := (trues_mem es n).1 hn
            rcases Nat.lt_or_ge n es.length with h | h
            · omega
            · rw [List.getElem?_eq_none h] at this; simp at this
          · rw [trues_mem, hd4']
            simp [hR, hNo, hf2]
    · simp only [h1, zz, env0, aPure, aRead, aNew, aEff, aval, avals, aparts, aopt, wantedA, binA, isShift, binI, fillA, single, aRes, splice, mkv, unA, binS, sameAt, reduceCtorEq, reduceIte, Int.reduceEq, Int.reduceLT, Int.reduceLE, Int.reduceNe, Nat.reduceEqDiff, Nat.reduceLT, Nat.reduceAdd, Nat.reduceMul, Nat.reduceSub, Nat.reduceLeDiff, Int.reduceBEq, Int.reduceBNe, Nat.reduceBEq, Nat.reduceBNe, Int.reduceToNat]
      exact hnil _ hk1 (fun h => by simp at h1; omega)

theorem rIs_spec (H : AHeap) (v : AV) (l : List Nd) (w : List UInt8) (hN : Nds H v l) (hbig : l.length < 9223372036854775808) (hw : w.length ≤ 1000000) (K : AV → AHeap → Prop)
    (hK : ∀ b H', Keeps H H' → (b = true ↔ IsT l w) → K (.bool b) H') : WF P0 24 [v, .str w] H K := by
  refine zWF rfl rfl rfl ?_
  simp only [a24, zz, env0, aPure, aRead, aNew, aEff, aval, avals, aparts, aopt, wantedA, binA, isShift, binI, fillA, single, aRes, splice, mkv, unA, binS, sameAt, reduceCtorEq, reduceIte, Int.reduceEq, Int.reduceLT, Int.reduceLE, Int.reduceNe, Nat.reduceEqDiff, Nat.reduceLT, Nat.reduceAdd, Nat.reduceMul, Nat.reduceSub, Nat.reduceLeDiff, Int.reduceBEq, Int.reduceBNe, Nat.reduceBEq, Nat.reduceBNe, Int.reduceToNat]
  refine rEnds_spec _ _ l w 0 hN hbig hw _ ?_
  intro v1 H1 ms hk1 hi1 hE
  have hl := hE.1.len
  have hlo := hi1.lenOf
  rw [nts_len] at hlo
  have hin : w.length ∈ ms ↔ IsT l w := by
    rw [hE.2]
    constructor
    · rintro ⟨a, b, _, _, e⟩; exact ⟨a, b, e⟩
    · rintro ⟨a, b, c⟩; exact ⟨a, b, by omega, by omega, c⟩
  simp only [hlo, zz, env0, aPure, aRead, aNew, aEff, aval, avals, aparts, aopt, wantedA, binA, isShift, binI, fillA, single, aRes, splice, mkv, unA, binS, sameAt, reduceCtorEq, reduceIte, Int.reduceEq, Int.reduceLT, Int.reduceLE, Int.reduceNe, Nat.reduceEqDiff, Nat.reduceLT, Nat.reduceAdd, Nat.reduceMul, Nat.reduceSub, Nat.reduceLeDiff, Int.reduceBEq, Int.reduceBNe, Nat.reduceBEq, Nat.reduceBNe, Int.reduceToNat]
  refine onG_t (fun h1 => ?_) (fun h1 => ?_)
  · have hpos : 0 < ms.length := by simp at h1; cases ms with
      | nil => simp at h1
      | cons a b => simp
    obtain ⟨x, hx⟩ : ∃ x, ms[ms.length - 1]? = some x := ⟨ms[ms.length - 1], List.getElem?_eq_getElem (by omega)⟩
    obtain ⟨i, o, rfl, g1⟩ := hi1.int (nts_get hx)
    rw [nts_len] at *
    have e1 : IntKind.i64.wrap ((ms.length : Int) - 1) = ((ms.length - 1 : Nat) : Int) := by rw [wrap_i64 (by omega) (by omega)]; omega
    have p1 : (0 : Int) ≤ ((ms.length - 1 : Nat) : Int) := by omega
    have p2 : ((ms.length - 1 : Nat) : Int) < ms.length := by omega
    obtain ⟨m1, m2⟩ := last_max hE.1.1 hx
    simp only [h1, hlo, e1, p1, p2, Nat.mul_one, g1, zz, env0, aPure, aRead, aNew, aEff, aval, avals, aparts, aopt, wantedA, binA, isShift, binI, fillA, single, aRes, splice, mkv, unA, binS, sameAt, reduceCtorEq, reduceIte, Int.reduceEq, Int.reduceLT, Int.reduceLE, Int.reduceNe, Nat.reduceEqDiff, Nat.reduceLT, Nat.reduceAdd, Nat.reduceMul, Nat.reduceSub, Nat.reduceLeDiff, Int.reduceBEq, Int.reduceBNe, Nat.reduceBEq, Nat.reduceBNe, Int.reduceToNat]
    refine hK _ _ hk1 ?_
    rw [← hin]
    simp only [beq_iff_eq]
    constructor
    · intro h
      have : x = w.length := by omega
      rw [← this]; exact m1
    · intro h
      have h3 := m2 _ h
      have h4 := hE.1.2 _ m1
      omega
  · simp only [h1, zz, env0, aPure, aRead, aNew, aEff, aval, avals, aparts, aopt, wantedA, binA, isShift, binI, fillA, single, aRes, splice, mkv, unA, binS, sameAt, reduceCtorEq, reduceIte, Int.reduceEq, Int.reduceLT, Int.reduceLE, Int.reduceNe, Nat.reduceEqDiff, Nat.reduceLT, Nat.reduceAdd, Nat.reduceMul, Nat.reduceSub, Nat.reduceLeDiff, Int.reduceBEq, Int.reduceBNe, Nat.reduceBEq, Nat.reduceBNe, Int.reduceToNat]
    refine hK _ _ hk1 ?_
    rw [← hin]
    have : ms = [] := by simp at h1; exact h1
    subst this; simp

theorem rLongest_spec (H : AHeap) (v : AV) (l : List Nd) (w : List UInt8) (f : Int) (hN : Nds H v l) (hbig : l.length < 9223372036854775808) (hw : w.length ≤ 1000000) (K : AV → AHeap → Prop)
    (hK : ∀ n ok H' ms, Keeps H H' → EndsL l w f ms → LongT f ms n ok → K (.tup [.int .i64 n, .bool ok]) H') : WF P0 21 [v, .str w, .int .i64 f] H K := by
  refine zWF rfl rfl rfl ?_
  simp only [a21, zz, env0, aPure, aRead, aNew, aEff, aval, avals, aparts, aopt, wantedA, binA, isShift, binI, fillA, single, aRes, splice, mkv, unA, binS, sameAt, reduceCtorEq, reduceIte, Int.reduceEq, Int.reduceLT, Int.reduceLE, Int.reduceNe, Nat.reduceEqDiff, Nat.reduceLT, Nat.reduceAdd, Nat.reduceMul, Nat.reduceSub, Nat.reduceLeDiff, Int.reduceBEq, Int.reduceBNe, Nat.reduceBEq, Nat.reduceBNe, Int.reduceToNat]
  refine rEnds_spec _ _ l w f hN hbig hw _ ?_
  intro v1 H1 ms hk1 hi1 hE
  have hl := hE.1.len
  have hlo := hi1.lenOf
  rw [nts_len] at hlo
  simp only [hlo, zz, env0, aPure, aRead, aNew, aEff, aval, avals, aparts, aopt, wantedA, binA, isShift, binI, fillA, single, aRes, splice, mkv, unA, binS, sameAt, reduceCtorEq, reduceIte, Int.reduceEq, Int.reduceLT, Int.reduceLE, Int.reduceNe, Nat.reduceEqDiff, Nat.reduceLT, Nat.reduceAdd, Nat.reduceMul, Nat.reduceSub, Nat.reduceLeDiff, Int.reduceBEq, Int.reduceBNe, Nat.reduceBEq, Nat.reduceBNe, Int.reduceToNat]
  refine onG_f (fun h1 => ?_) (fun h1 => ?_)
  · have hpos : 0 < ms.length := by simp at h1; cases ms with
      | nil => simp at h1
      | cons a b => simp
    obtain ⟨x, hx⟩ : ∃ x, ms[ms.length - 1]? = some x := ⟨ms[ms.length - 1], List.getElem?_eq_getElem (by omega)⟩
    obtain ⟨i, o, rfl, g1⟩ := hi1.int (nts_get hx)
    rw [nts_len] at *
    have e1 : IntKind.i64.wrap ((ms.length : Int) - 1) = ((ms.length - 1 : Nat) : Int) := by rw [wrap_i64 (by omega) (by omega)]; omega
    have p1 : (0 : Int) ≤ ((ms.length - 1 : Nat) : Int) := by omega
    have p2 : ((ms.length - 1 : Nat) : Int) < ms.length := by omega
    obtain ⟨m1, m2⟩ := last_max hE.1.1 hx
    simp only [h1, hlo, e1, p1, p2, Nat.mul_one, g1, zz, env0, aPure, aRead, aNew, aEff, aval, avals, aparts, aopt, wantedA, binA, isShift, binI, fillA, single, aRes, splice, mkv, unA, binS, sameAt, reduceCtorEq, reduceIte, Int.reduceEq, Int.reduceLT, Int.reduceLE, Int.reduceNe, Nat.reduceEqDiff, Nat.reduceLT, Nat.reduceAdd, Nat.reduceMul, Nat.reduceSub, Nat.reduceLeDiff, Int.reduceBEq, Int.reduceBNe, Nat.reduceBEq, Nat.reduceBNe, Int.reduceToNat]
    refine onB_of (fun h2 => ?_) (fun h2 => ?_)
    · simp only [zz, env0, aPure, aRead, aNew, aEff, aval, avals, aparts, aopt, wantedA, binA, isShift, binI, fillA, single, aRes, splice, mkv, unA, binS, sameAt, reduceCtorEq, reduceIte, Int.reduceEq, Int.reduceLT, Int.reduceLE, Int.reduceNe, Nat.reduceEqDiff, Nat.reduceLT, Nat.reduceAdd, Nat.reduceMul, Nat.reduceSub, Nat.reduceLeDiff, Int.reduceBEq, Int.reduceBNe, Nat.reduceBEq, Nat.reduceBNe, Int.reduceToNat]
      refine hK _ _ _ ms hk1 hE ⟨fun h => by simp at h, fun _ => ⟨rfl, fun m hm => ?_⟩⟩
      have : (x : Int) ≤ f := by simpa using h2
      have := m2 m hm; omega
    · simp only [hlo, e1, p1, p2, Nat.mul_one, g1, zz, env0, aPure, aRead, aNew, aEff, aval, avals, aparts, aopt, wantedA, binA, isShift, binI, fillA, single, aRes, splice, mkv, unA, binS, sameAt, reduceCtorEq, reduceIte, Int.reduceEq, Int.reduceLT, Int.reduceLE, Int.reduceNe, Nat.reduceEqDiff, Nat.reduceLT, Nat.reduceAdd, Nat.reduceMul, Nat.reduceSub, Nat.reduceLeDiff, Int.reduceBEq, Int.reduceBNe, Nat.reduceBEq, Nat.reduceBNe, Int.reduceToNat]
      refine hK _ _ _ ms hk1 hE ⟨fun _ => ⟨x, m1, rfl, by simp at h2; omega, m2⟩, fun h => by simp at h⟩
  · simp only [h1, zz, env0, aPure, aRead, aNew, aEff, aval, avals, aparts, aopt, wantedA, binA, isShift, binI, fillA, single, aRes, splice, mkv, unA, binS, sameAt, reduceCtorEq, reduceIte, Int.reduceEq, Int.reduceLT, Int.reduceLE, Int.reduceNe, Nat.reduceEqDiff, Nat.reduceLT, Nat.reduceAdd, Nat.reduceMul, Nat.reduceSub, Nat.reduceLeDiff, Int.reduceBEq, Int.reduceBNe, Nat.reduceBEq, Nat.reduceBNe, Int.reduceToNat]
    have : ms = [] := by simp at h1; exact h1
    subst this
    exact hK _ _ _ [] hk1 hE ⟨fun h => by simp at h, fun _ => ⟨rfl, by simp⟩⟩

theorem ends_uniq {l : List Nd} {w : List UInt8} {f : Int} {a b : List Nat} (ha : EndsL l w f a) (hb : EndsL l w f b) : a = b :=
  sorted_ext ha.1.1 hb.1.1 (fun x => by rw [ha.2 x, hb.2 x])
theorem ends_ge {l : List Nd} {w : List UInt8} {f : Int} {a : List Nat} (ha : EndsL l w f a) {m : Nat} (hm : m ∈ a) : f ≤ m := by
  obtain ⟨_, _, h1, _, h2⟩ := (ha.2 m).1 hm
  have := (den_le _ _ _ _ _ h2).1
  omega
theorem long_uniq {l : List Nd} {w : List UInt8} {f : Int} {a : List Nat} (ha : EndsL l w f a) {n n' : Int} {ok ok' : Bool} (h : LongT f a n ok) (h' : LongT f a n' ok') : n = n' ∧ ok = ok' := by
  cases ok <;> cases ok'
  · exact ⟨by rw [(h.2 rfl).1, (h'.2 rfl).1], rfl⟩
  · obtain ⟨m, h1, h2, h3, _⟩ := h'.1 rfl
    have := (h.2 rfl).2 m h1
    have := ends_ge ha h1
    omega
  · obtain ⟨m, h1, h2, h3, _⟩ := h.1 rfl
    have := (h'.2 rfl).2 m h1
    have := ends_ge ha h1
    omega
  · obtain ⟨m, h1, h2, h3, h4⟩ := h.1 rfl
    obtain ⟨m', h1', h2', h3', h4'⟩ := h'.1 rfl
    have := h4 m' h1'
    have := h4' m h1
    exact ⟨by omega, rfl⟩
end Go.Proofs.Ytnblhjpbpobglaa

/- The laws' own functions: ints, list, wrap, pair. -/
set_option maxRecDepth 100000
set_option linter.unusedSimpArgs false
namespace Go.Am

/-- Operations end so, the heaps ahead of each known. -/
def XH (p : Prg) (all : List AOper) (env : List AV) (l : List AOper) (vals : List AV) (hs : List AHeap) (env' : List AV) (H : AHeap) (K : List AV → AHeap → Prop) : Prop :=
  ∃ m eF HF, runOps (p.call m) all env l vals hs env' H = some (eF, HF) ∧ K eF HF
section
variable {p : Prg} {all ops r : List AOper} {env vals env' : List AV} {hs : List AHeap} {H : AHeap} {op : AOp} {dst : Option Nat} {aft bef : List Nat}
theorem WC_regionH {K : KC} (h : XH p ops env ops [] [] env H (kReg K)) : WC p (.region ops) env H K := by
  obtain ⟨m, eF, HF, h2, h3⟩ := h
  exact ⟨m, 1, .normal, eF, HF, by simp [aCode, h2], h3⟩
theorem XH_nil {K : KO} (h : K env' H) : XH p all env [] vals hs env' H K := ⟨0, env', H, by simp only [runOps], h⟩
theorem XH_step {K : KO} {v : AV} {H1 : AHeap} (hop : ∀ n, aOp (p.call n) env vals H op = some (v, H1)) (ha : aft.all (sameAt all env vals H1) = true)
    (hb : bef.all (fun j => match hs[j]? with
      | some Hj => (match aRead env vals Hj op with
        | some u => AV.same u v
        | none => false)
      | none => false) = true) (h : XH p all env r (snoc vals v) (hs ++ [H]) (put env' dst v) H1 K) : XH p all env ({ op := op, dst := dst, aft := aft, bef := bef } :: r) vals hs env' H K := by
  obtain ⟨m, eF, HF, h2, h3⟩ := h
  rw [snoc_eq] at h2
  refine ⟨m, eF, HF, ?_, h3⟩
  simp only [runOps, wantedA, hop, ha, Bool.true_and]
  exact (if_pos hb).trans h2
end
end Go.Am
namespace Go.Proofs.Ytnblhjpbpobglaa
open Go.Am

theorem shown_sp (H : AHeap) (K : AV → AHeap → Prop) (hK : K (.bool true) H) : WF P0 10 [] H K := WF_orc rfl rfl hK

theorem ints_spec (H : AHeap) (va vb : AV) (xs ys : List Int) (hbig : xs.length < 9223372036854775808) (hx : Ints H va xs) (hy : Ints H vb ys) (K : AV → AHeap → Prop)
   (hK : ∀ b, (b = true ↔ xs = ys) → K (.bool b) H) : WF P0 14 [va, vb] H K := by
  have hla := hx.lenOf
  have hlb := hy.lenOf
  refine zWF rfl rfl rfl ?_
  simp only [a14, hla, hlb, zz, env0, aPure, aRead, aNew, aEff, aval, avals, aparts, aopt, wantedA, binA, isShift, binI, fillA, single, aRes, splice, mkv, unA, binS, sameAt, reduceCtorEq, reduceIte, Int.reduceEq, Int.reduceLT, Int.reduceLE, Int.reduceNe, Nat.reduceEqDiff, Nat.reduceLT, Nat.reduceAdd, Nat.reduceMul, Nat.reduceSub, Nat.reduceLeDiff, Int.reduceBEq, Int.reduceBNe, Nat.reduceBEq, Nat.reduceBNe, Int.reduceToNat]
  refine onB_of (fun h => ?_) (fun h => ?_)
  · have : xs ≠ ys := by intro e; subst e; simp at h
    simp only [zz, env0, aPure, aRead, aNew, aEff, aval, avals, aparts, aopt, wantedA, binA, isShift, binI, fillA, single, aRes, splice, mkv, unA, binS, sameAt, reduceCtorEq, reduceIte, Int.reduceEq, Int.reduceLT, Int.reduceLE, Int.reduceNe, Nat.reduceEqDiff, Nat.reduceLT, Nat.reduceAdd, Nat.reduceMul, Nat.reduceSub, Nat.reduceLeDiff, Int.reduceBEq, Int.reduceBNe, Nat.reduceBEq, Nat.reduceBNe, Int.reduceToNat]
    exact hK _ (by simp [this])
  · have hnm : xs.length = ys.length := by
      have h' : (xs.length : Int) = ys.length := by simpa [bne_iff_ne] using h
      omega
    simp only [hla, zz, env0, aPure, aRead, aNew, aEff, aval, avals, aparts, aopt, wantedA, binA, isShift, binI, fillA, single, aRes, splice, mkv, unA, binS, sameAt, reduceCtorEq, reduceIte, Int.reduceEq, Int.reduceLT, Int.reduceLE, Int.reduceNe, Nat.reduceEqDiff, Nat.reduceLT, Nat.reduceAdd, Nat.reduceMul, Nat.reduceSub, Nat.reduceLeDiff, Int.reduceBEq, Int.reduceBNe, Nat.reduceBEq, Nat.reduceBNe, Int.reduceToNat]
    refine WCL (fun r env H' => H' = H ∧ ∃ (k : Nat) (a3 a4 a7 a8 : AV), k ≤ xs.length ∧ r = xs.length - k ∧ xs.take k = ys.take k ∧ env = [va, vb, .bool false, a3, a4, .int .i64 xs.length, .int .i64 k, a7, a8]) (n := xs.length)
      ⟨rfl, 0, _, _, _, _, Nat.zero_le _, rfl, rfl, rfl⟩ ?_
    rintro r env H' ⟨rfl, k, a3, a4, a7, a8, hk, rfl, htk, rfl⟩
    simp only [zz, env0, aPure, aRead, aNew, aEff, aval, avals, aparts, aopt, wantedA, binA, isShift, binI, fillA, single, aRes, splice, mkv, unA, binS, sameAt, reduceCtorEq, reduceIte, Int.reduceEq, Int.reduceLT, Int.reduceLE, Int.reduceNe, Nat.reduceEqDiff, Nat.reduceLT, Nat.reduceAdd, Nat.reduceMul, Nat.reduceSub, Nat.reduceLeDiff, Int.reduceBEq, Int.reduceBNe, Nat.reduceBEq, Nat.reduceBNe, Int.reduceToNat]
    refine onB_of (fun hlt => ?_) (fun hlt => ?_)
    · have hlt : k < xs.length := by simpa using hlt
      obtain ⟨x, hxk⟩ : ∃ x, xs[k]? = some x := ⟨xs[k], List.getElem?_eq_getElem (by omega)⟩
      obtain ⟨y, hyk⟩ : ∃ y, ys[k]? = some y := ⟨ys[k], List.getElem?_eq_getElem (by omega)⟩
      obtain ⟨i, o, rfl, h1⟩ := hx.int hxk
      obtain ⟨j, q, rfl, h2⟩ := hy.int hyk
      have hw : IntKind.i64.wrap ((k : Int) + 1) = ((k + 1 : Nat) : Int) := by rw [wrap_i64 (by omega) (by omega)]; rfl
      have hk0 : (0 : Int) ≤ k := by omega
      have hk1 : (k : Int) < xs.length := by omega
      have hk2 : (k : Int) < ys.length := by omega
      simp only [Nat.mul_one, h1, h2, hk0, hk1, hk2, hw, zz, env0, aPure, aRead, aNew, aEff, aval, avals, aparts, aopt, wantedA, binA, isShift, binI, fillA, single, aRes, splice, mkv, unA, binS, sameAt, reduceCtorEq, reduceIte, Int.reduceEq, Int.reduceLT, Int.reduceLE, Int.reduceNe, Nat.reduceEqDiff, Nat.reduceLT, Nat.reduceAdd, Nat.reduceMul, Nat.reduceSub, Nat.reduceLeDiff, Int.reduceBEq, Int.reduceBNe, Nat.reduceBEq, Nat.reduceBNe, Int.reduceToNat]
      have hxe : xs[k]'(by omega) = x := by rw [List.getElem?_eq_getElem (by omega)] at hxk; simpa using hxk
      have hye : ys[k]'(by omega) = y := by rw [List.getElem?_eq_getElem (by omega)] at hyk; simpa using hyk
      refine onB_of (fun hne => ?_) (fun he => ?_)
      · simp only [zz, env0, aPure, aRead, aNew, aEff, aval, avals, aparts, aopt, wantedA, binA, isShift, binI, fillA, single, aRes, splice, mkv, unA, binS, sameAt, reduceCtorEq, reduceIte, Int.reduceEq, Int.reduceLT, Int.reduceLE, Int.reduceNe, Nat.reduceEqDiff, Nat.reduceLT, Nat.reduceAdd, Nat.reduceMul, Nat.reduceSub, Nat.reduceLeDiff, Int.reduceBEq, Int.reduceBNe, Nat.reduceBEq, Nat.reduceBNe, Int.reduceToNat]
        have hne : x ≠ y := by simpa using hne
        refine hK _ ?_
        simp only [Bool.false_eq_true, false_iff]
        intro e; subst e
        rw [hxk] at hyk; simp only [Option.some.injEq] at hyk; exact hne hyk
      · simp only [hw, zz, env0, aPure, aRead, aNew, aEff, aval, avals, aparts, aopt, wantedA, binA, isShift, binI, fillA, single, aRes, splice, mkv, unA, binS, sameAt, reduceCtorEq, reduceIte, Int.reduceEq, Int.reduceLT, Int.reduceLE, Int.reduceNe, Nat.reduceEqDiff, Nat.reduceLT, Nat.reduceAdd, Nat.reduceMul, Nat.reduceSub, Nat.reduceLeDiff, Int.reduceBEq, Int.reduceBNe, Nat.reduceBEq, Nat.reduceBNe, Int.reduceToNat]
        have he : x = y := by simpa using he
        refine ⟨xs.length - (k + 1), by omega, k + 1, _, _, _, _, by omega, rfl, ?_, rfl⟩
        rw [List.take_succ_eq_append_getElem (by omega), List.take_succ_eq_append_getElem (by omega), htk, hxe, hye, he]
    · have hkn : k = xs.length := by
        have : ¬ ((k : Int) < xs.length) := by simpa using hlt
        omega
      subst hkn
      simp only [zz, env0, aPure, aRead, aNew, aEff, aval, avals, aparts, aopt, wantedA, binA, isShift, binI, fillA, single, aRes, splice, mkv, unA, binS, sameAt, reduceCtorEq, reduceIte, Int.reduceEq, Int.reduceLT, Int.reduceLE, Int.reduceNe, Nat.reduceEqDiff, Nat.reduceLT, Nat.reduceAdd, Nat.reduceMul, Nat.reduceSub, Nat.reduceLeDiff, Int.reduceBEq, Int.reduceBNe, Nat.reduceBEq, Nat.reduceBNe, Int.reduceToNat]
      rw [List.take_of_length_le (by omega), List.take_of_length_le (by omega)] at htk
      exact hK _ (by simp [htk])

theorem list_fresh (H : AHeap) (v : AV) (bs : List Bool) (hb : Bls H v bs) (hbig : bs.length ≤ 1000000) (K : AV → AHeap → Prop)
    (hK : ∀ v' H', Keeps H H' → Ints H' v' (nts (trues bs)) → (∀ i, avId v' = some i → H.length ≤ i) → K v' H') : WF P0 16 [v] H K := by
  have hlo := RowAt.lenOf hb
  refine zWF rfl rfl rfl ?_
  simp only [a16, hlo, zz, env0, aPure, aRead, aNew, aEff, aval, avals, aparts, aopt, wantedA, binA, isShift, binI, fillA, single, aRes, splice, mkv, unA, binS, sameAt, reduceCtorEq, reduceIte, Int.reduceEq, Int.reduceLT, Int.reduceLE, Int.reduceNe, Nat.reduceEqDiff, Nat.reduceLT, Nat.reduceAdd, Nat.reduceMul, Nat.reduceSub, Nat.reduceLeDiff, Int.reduceBEq, Int.reduceBNe, Nat.reduceBEq, Nat.reduceBNe, Int.reduceToNat]
  refine WCL (fun r env H' => Keeps H H' ∧ ∃ (k : Nat) (vo a3 a4 a8 a9 : AV), k ≤ bs.length ∧ r = bs.length - k ∧ WR H' H.length 1 vo (truesTo bs k).length ((nts (truesTo bs k)).map (AV.int .i64)) ∧
      env = [v, .nilsl, vo, a3, a4, v, .int .i64 bs.length, .int .i64 k, a8, a9]) (n := bs.length)
    ⟨.refl _, 0, .nilsl, _, _, _, _, Nat.zero_le _, rfl, .nil, rfl⟩ ?_
  rintro r env H' ⟨hk, k, vo, a3, a4, a8, a9, hkl, rfl, hwo, rfl⟩
  simp only [zz, env0, aPure, aRead, aNew, aEff, aval, avals, aparts, aopt, wantedA, binA, isShift, binI, fillA, single, aRes, splice, mkv, unA, binS, sameAt, reduceCtorEq, reduceIte, Int.reduceEq, Int.reduceLT, Int.reduceLE, Int.reduceNe, Nat.reduceEqDiff, Nat.reduceLT, Nat.reduceAdd, Nat.reduceMul, Nat.reduceSub, Nat.reduceLeDiff, Int.reduceBEq, Int.reduceBNe, Nat.reduceBEq, Nat.reduceBNe, Int.reduceToNat]
  refine onB_of (fun hlt => ?_) (fun hlt => ?_)
  · have hlt : k < bs.length := by simpa using hlt
    obtain ⟨x, hx⟩ : ∃ x, bs[k]? = some x := ⟨bs[k], List.getElem?_eq_getElem hlt⟩
    obtain ⟨i, o, rfl, g1⟩ := (hb.keeps hk).at hx
    have r3 : (0 : Int) ≤ k := by omega
    have r4 : (k : Int) < bs.length := by omega
    have vk : IntKind.i64.wrap ((k : Int) + 1) = ((k + 1 : Nat) : Int) := by rw [wrap_i64 (by omega) (by omega)]; rfl
    simp only [r3, r4, Nat.mul_one, g1, zz, env0, aPure, aRead, aNew, aEff, aval, avals, aparts, aopt, wantedA, binA, isShift, binI, fillA, single, aRes, splice, mkv, unA, binS, sameAt, reduceCtorEq, reduceIte, Int.reduceEq, Int.reduceLT, Int.reduceLE, Int.reduceNe, Nat.reduceEqDiff, Nat.reduceLT, Nat.reduceAdd, Nat.reduceMul, Nat.reduceSub, Nat.reduceLeDiff, Int.reduceBEq, Int.reduceBNe, Nat.reduceBEq, Nat.reduceBNe, Int.reduceToNat]
    have htl := truesTo_len bs k
    cases x with
    | false =>
      simp only [vk, zz, env0, aPure, aRead, aNew, aEff, aval, avals, aparts, aopt, wantedA, binA, isShift, binI, fillA, single, aRes, splice, mkv, unA, binS, sameAt, reduceCtorEq, reduceIte, Int.reduceEq, Int.reduceLT, Int.reduceLE, Int.reduceNe, Nat.reduceEqDiff, Nat.reduceLT, Nat.reduceAdd, Nat.reduceMul, Nat.reduceSub, Nat.reduceLeDiff, Int.reduceBEq, Int.reduceBNe, Nat.reduceBEq, Nat.reduceBNe, Int.reduceToNat]
      refine ⟨bs.length - (k + 1), by omega, hk, k + 1, vo, _, _, _, _, hlt, rfl, ?_, rfl⟩
      rw [truesTo_succ, if_neg (by rw [hx]; simp)]; exact hwo
    | true =>
      obtain ⟨v', H5, hap, hw5, he5, hid5⟩ := (hwo.keeps (Keeps.p1 H' (some (.cells 1 true [.int .i64 k])))).append (bytes := 8) (by have := hk.1; simp; omega) (src_new H' 1 1 [.int .i64 k] rfl) rfl rfl (by simp only [maxRoom]; omega)
      simp only [hap, vk, zz, env0, aPure, aRead, aNew, aEff, aval, avals, aparts, aopt, wantedA, binA, isShift, binI, fillA, single, aRes, splice, mkv, unA, binS, sameAt, reduceCtorEq, reduceIte, Int.reduceEq, Int.reduceLT, Int.reduceLE, Int.reduceNe, Nat.reduceEqDiff, Nat.reduceLT, Nat.reduceAdd, Nat.reduceMul, Nat.reduceSub, Nat.reduceLeDiff, Int.reduceBEq, Int.reduceBNe, Nat.reduceBEq, Nat.reduceBNe, Int.reduceToNat]
      refine ⟨bs.length - (k + 1), by omega, Else.keeps (hk.trans (.p1 _ _)) he5 (fun i hi => (hwo.id hi).1), k + 1, v', _, _, _, _, hlt, rfl, ?_, rfl⟩
      rw [truesTo_succ, if_pos hx]
      have e : (truesTo bs k ++ [k]).length = (truesTo bs k).length + 1 := by simp
      rw [e, nts_app, List.map_append]
      exact hw5
  · have hke : k = bs.length := by simp at hlt; omega
    subst hke
    simp only [zz, env0, aPure, aRead, aNew, aEff, aval, avals, aparts, aopt, wantedA, binA, isShift, binI, fillA, single, aRes, splice, mkv, unA, binS, sameAt, reduceCtorEq, reduceIte, Int.reduceEq, Int.reduceLT, Int.reduceLE, Int.reduceNe, Nat.reduceEqDiff, Nat.reduceLT, Nat.reduceAdd, Nat.reduceMul, Nat.reduceSub, Nat.reduceLeDiff, Int.reduceBEq, Int.reduceBNe, Nat.reduceBEq, Nat.reduceBNe, Int.reduceToNat]
    exact hK _ _ hk (ints_of (by rw [nts_len]; exact hwo.row)) (fun i hi => (hwo.id hi).1)

theorem list_spec (H : AHeap) (v : AV) (bs : List Bool) (hb : Bls H v bs) (hbig : bs.length ≤ 1000000) (K : AV → AHeap → Prop)
    (hK : ∀ v' H', Keeps H H' → Ints H' v' (nts (trues bs)) → K v' H') : WF P0 16 [v] H K :=
  list_fresh H v bs hb hbig K (fun v' H' h1 h2 _ => hK v' H' h1 h2)

/-- A tree under a node more. -/
def wrapT (l : List Nd) (n : Nd) : List Nd := l ++ [{ n with kids := [(l.length : Int) - 1] }]

theorem nds_rows {H : AHeap} {v : AV} {l : List Nd} (h : Nds H v l) : ∃ rs : List (List AV), RowAt H 9 v l.length rs.flatten ∧ rs.length = l.length ∧ (rs.flatten.all AV.one = true) ∧ ∀ (k : Nat) (n : Nd), l[k]? = some n → ∃ kv, rs[k]? = some (ndRow n kv) ∧ n.Ok ∧ Ints H kv n.kids := by
  obtain ⟨rs, h1, h2, h3⟩ := h
  refine ⟨rs, h1, h2, ?_, fun k n hn => ?_⟩
  · rw [List.all_flatten, List.all_eq_true]
    intro r hr
    obtain ⟨k, hk⟩ := List.mem_iff_getElem?.1 hr
    have hkl : k < l.length := by
      rcases Nat.lt_or_ge k rs.length with h | h
      · omega
      · rw [List.getElem?_eq_none h] at hk; simp at hk
    obtain ⟨r', a, b, c⟩ := h3 k l[k] (List.getElem?_eq_getElem hkl)
    rw [a] at hk; simp only [Option.some.injEq] at hk; subst hk
    obtain ⟨_, kv, rfl, hkv⟩ := c
    simp [ndRow, one_int, one_str, hkv.flat.1]
  · obtain ⟨r, a, b, hok, kv, rfl, hkv⟩ := h3 k n hn
    exact ⟨kv, a, hok, hkv⟩

theorem wrap_spec (H : AHeap) (v kv0 : AV) (l : List Nd) (n : Nd) (hN : Nds H v l) (hl : l.length ≤ 1000) (hok : n.Ok) (hkv : Ints H kv0 n.kids) (K : AV → AHeap → Prop)
    (hK : ∀ v' H', Keeps H H' → Nds H' v' (wrapT l n) → K v' H') : WF P0 17 [v, .agg (ndRow n kv0)] H K := by
  have hla := hN.lenOf
  have hflat := hN.flat
  obtain ⟨rs, hrow, hrl, hone, hrs⟩ := nds_rows hN
  have v1 : IntKind.i64.wrap ((l.length : Int) - 1) = (l.length : Int) - 1 := by rw [wrap_i64 (by omega) (by omega)]
  refine zWF rfl rfl rfl ?_
  obtain ⟨f1, f2, f3, f4⟩ := hkv.flat
  simp only [a17, ndRow, hla, v1, zz, env0, aPure, aRead, aNew, aEff, aval, avals, aparts, aopt, wantedA, binA, isShift, binI, fillA, single, aRes, splice, mkv, unA, binS, sameAt, reduceCtorEq, reduceIte, Int.reduceEq, Int.reduceLT, Int.reduceLE, Int.reduceNe, Nat.reduceEqDiff, Nat.reduceLT, Nat.reduceAdd, Nat.reduceMul, Nat.reduceSub, Nat.reduceLeDiff, Int.reduceBEq, Int.reduceBNe, Nat.reduceBEq, Nat.reduceBNe, Int.reduceToNat]
  generalize hnb : (H ++ [some (Blk.cells 9 true [AV.int IntKind.u8 n.op, AV.int IntKind.u64 n.s0, AV.int IntKind.u64 n.s1, AV.int IntKind.u64 n.s2, AV.int IntKind.u64 n.s3, kv0, AV.int IntKind.i64 n.lo, AV.int IntKind.i64 n.hi, AV.str n.name])]).length = nb
  have hnb' : nb = H.length + 1 := by rw [← hnb]; simp
  have hrowE : [AV.int IntKind.u8 n.op, AV.int IntKind.u64 n.s0, AV.int IntKind.u64 n.s1, AV.int IntKind.u64 n.s2, AV.int IntKind.u64 n.s3, AV.sl nb 0 1, AV.int IntKind.i64 n.lo, AV.int IntKind.i64 n.hi, AV.str n.name] = ndRow { n with kids := [(l.length : Int) - 1] } (.sl nb 0 1) := rfl
  rw [hrowE]
  generalize hn' : ({ n with kids := [(l.length : Int) - 1] } : Nd) = n'
  generalize hHc : H ++ [some (Blk.cells 9 true (ndRow n' (.sl nb 0 1)))] ++ [some (Blk.cells 1 true [AV.int IntKind.i64 ((l.length : Int) - 1)])] = Hc
  have hkc : Keeps H Hc := by rw [← hHc]; exact .p2 _ _ _
  have hbox : getB Hc H.length = some (.cells 9 true (ndRow n' (.sl nb 0 1))) := by rw [← hHc]; exact gb_push _ (gb_new _ _)
  have hkb : getB Hc nb = some (.cells 1 true [.int .i64 ((l.length : Int) - 1)]) := by
    rw [← hHc, hnb']
    have := gb_new (H ++ [some (Blk.cells 9 true (ndRow n' (.sl nb 0 1)))]) (some (.cells 1 true [.int .i64 ((l.length : Int) - 1)]))
    simpa [hnb'] using this
  have hcl : Hc.length = H.length + 2 := by rw [← hHc]; simp
  have hx0 : cellsOfSrc Hc 9 v = some (l.length, rs.flatten) := (hrow.keeps hkc).src
  obtain ⟨va, Ha, h1, hw1, he1, hid1⟩ := (WR.new Hc 9 0 [] rfl (b := Hc.length) (Nat.le_refl _)).append (bytes := 96) (by simp) ((hrow.keeps hkc).keeps (.p1 Hc (some (.cells 9 true [])))).src (by rw [hrow.len]) hone (by simp only [maxRoom]; omega)
  rw [Nat.zero_add, List.nil_append] at hw1
  have hka : Keeps Hc Ha := Else.keeps (.p1 _ _) he1 (fun i hi => by simp [avId] at hi; omega)
  obtain ⟨vb, Hb, h2, hw2, he2, hid2⟩ := (hw1.keeps (Keeps.p1 Ha (some (.cells 9 true (ndRow n' (.sl nb 0 1)))))).append (bytes := 96) (by have := hka.1; simp; omega) (src_new Ha 9 1 _ rfl) rfl (by simp [ndRow, one_int, one_str, one_sl]) (by simp only [maxRoom]; omega)
  have hkb2 : Keeps Hc Hb := Else.keeps (hka.trans (.p1 _ _)) he2 (fun i hi => (hw1.id hi).1)
  have lb : ∀ H', Keeps Hc H' → loadA H' H.length 0 9 = some (ndRow n' (.sl nb 0 1)) := fun H' hk => load_at (hk.get hbox) (by simp [ndRow])
  have l1 := lb _ hka
  have l2 := lb _ (Keeps.p1 Hc (some (.cells 9 true [])))
  refine WC_regionH ?_
  refine XH_step (v := .sl Hc.length 0 0) (H1 := Hc ++ [some (.cells 9 true [])]) (fun m => by simp [aOp, AOp.cls, aNew, aparts, fillA, rows]) rfl rfl ?_
  refine XH_step (v := v) (H1 := Hc ++ [some (.cells 9 true [])]) (fun m => by simp [aOp, AOp.cls, aPure, aval]) rfl rfl ?_
  refine XH_step (v := va) (H1 := Ha) (fun m => by simp [aOp, AOp.cls, aEff, aval, snoc, hflat.2.2.2, h1]) rfl rfl ?_
  refine XH_step (v := .agg (ndRow n' (.sl nb 0 1))) (H1 := Ha) (fun m => by simp [aOp, AOp.cls, aRead, aval, l1, mkv]) rfl (by simp [aRead, aval, l2, mkv, AV.same_refl]) ?_
  refine XH_step (v := .sl Ha.length 0 1) (H1 := Ha ++ [some (.cells 9 true (ndRow n' (.sl nb 0 1)))]) (fun m => by simp [aOp, AOp.cls, aNew, aparts, fillA, rows, snoc, aval, ndRow, AV.isJunk, AV.cells, splice]) rfl rfl ?_
  refine XH_step (v := vb) (H1 := Hb) (fun m => by simp [aOp, AOp.cls, aEff, aval, snoc, AV.isStr, h2]) rfl rfl ?_
  refine XH_step (v := vb) (H1 := Hb) (fun m => by simp [aOp, AOp.cls, aPure, aval, snoc]) rfl rfl ?_
  refine XH_nil ?_
  simp only [zz, env0, aPure, aRead, aNew, aEff, aval, avals, aparts, aopt, wantedA, binA, isShift, binI, fillA, single, aRes, splice, mkv, unA, binS, sameAt, reduceCtorEq, reduceIte, Int.reduceEq, Int.reduceLT, Int.reduceLE, Int.reduceNe, Nat.reduceEqDiff, Nat.reduceLT, Nat.reduceAdd, Nat.reduceMul, Nat.reduceSub, Nat.reduceLeDiff, Int.reduceBEq, Int.reduceBNe, Nat.reduceBEq, Nat.reduceBNe, Int.reduceToNat]
  refine hK _ _ (hkc.trans hkb2) ?_
  refine ⟨rs ++ [ndRow n' (.sl nb 0 1)], ?_, by simp [wrapT, hrl], fun k m hm => ?_⟩
  · rw [List.flatten_append]
    have e : (wrapT l n).length = l.length + 1 := by simp [wrapT]
    rw [e]
    have := hw2.row
    simpa using this
  · rcases Nat.lt_or_ge k l.length with h | h
    · rw [wrapT, List.getElem?_append_left h] at hm
      obtain ⟨kv, g1, g2, g3⟩ := hrs k m hm
      exact ⟨ndRow m kv, by rw [List.getElem?_append_left (by omega)]; exact g1, rfl, g2, kv, rfl, Rows.keeps IntP.mono (hkc.trans hkb2) g3⟩
    · have hk' : k = l.length := by
        rcases Nat.lt_or_ge k (l.length + 1) with h' | h'
        · omega
        · rw [List.getElem?_eq_none (by simp [wrapT]; omega)] at hm; simp at hm
      subst hk'
      rw [wrapT, List.getElem?_append_right (Nat.le_refl _)] at hm
      simp at hm
      rw [hn'] at hm
      subst hm
      refine ⟨ndRow n' (.sl nb 0 1), by rw [List.getElem?_append_right (by omega), hrl]; simp, rfl, ?_, .sl nb 0 1, rfl, ?_⟩
      · rw [← hn']
        exact ⟨hok.op, hok.s0, hok.s1, hok.s2, hok.s3, fun k hk => by simp at hk; subst hk; exact ⟨by omega, by omega⟩, hok.lo, hok.hi, by simp, hok.name⟩
      · have e : n'.kids = [(l.length : Int) - 1] := by rw [← hn']
        rw [e]
        refine ints_of (.inr ⟨nb, 0, true, _, rfl, hkb2.get hkb, by simp, by simp⟩)
end Go.Proofs.Ytnblhjpbpobglaa

/- The laws' own function pair. -/
set_option maxRecDepth 100000
set_option linter.unusedSimpArgs false
namespace Go.Proofs.Ytnblhjpbpobglaa
open Go.Am

/-- A node whose kids stand d places further. -/
def shiftN (d : Nat) (n : Nd) : Nd := { n with kids := n.kids.map (· + (d : Int)) }
def rootN (op a b : Int) : Nd := ⟨op, 0, 0, 0, 0, [a, b], 0, 0, []⟩
theorem zero_u64 : u64In 0 := ⟨by decide, by decide⟩
theorem zero_i64 : i64In 0 := ⟨by decide, by decide⟩
theorem rootN_ok {op a b : Int} (hop : 0 ≤ op ∧ op < 256) (ha : i64In a) (hb : i64In b) : (rootN op a b).Ok :=
  ⟨hop, zero_u64, zero_u64, zero_u64, zero_u64, fun x hx => by
    simp [rootN] at hx
    rcases hx with rfl | rfl
    · exact ha
    · exact hb, zero_i64, zero_i64, by simp [rootN], by simp [rootN]⟩
/-- Two trees under one node. -/
def pairT (op : Int) (l m : List Nd) : List Nd := l ++ m.map (shiftN l.length) ++ [rootN op ((l.length : Int) - 1) (((l.length + m.length : Nat) : Int) - 1)]

theorem pair_spec (op : Int) (hop : 0 ≤ op ∧ op < 256) (H : AHeap) (va vb : AV) (l m : List Nd) (hl : Nds H va l) (hm : Nds H vb m) (h1 : l.length ≤ 1000) (h2 : m.length ≤ 1000)
    (hkids : ∀ n, n ∈ m → n.kids.length ≤ 1000 ∧ ∀ x, x ∈ n.kids → 0 ≤ x ∧ x ≤ 1000) (K : AV → AHeap → Prop) (hK : ∀ v' H', Keeps H H' → Nds H' v' (pairT op l m) → K v' H') :
    WF P0 15 [.int .u8 op, va, vb] H K := by
  have hla := hl.lenOf
  have hlb := hm.lenOf
  have s1 := hl.flat.2.2.2
  obtain ⟨rs, hrow, hrl, hone, hrs⟩ := nds_rows hl
  obtain ⟨v1, H1, g1, hw1, he1, hid1⟩ := (WR.new H 9 0 [] rfl (b := H.length) (Nat.le_refl _)).append (bytes := 96) (by simp) (hrow.keeps (.p1 H (some (.cells 9 true [])))).src (by rw [hrow.len]) hone (by simp only [maxRoom]; omega)
  rw [Nat.zero_add, List.nil_append] at hw1
  have hk1 : Keeps H H1 := Else.keeps (.p1 _ _) he1 (fun i hi => by simp [avId] at hi; omega)
  refine zWF rfl rfl rfl ?_
  simp only [a15, s1, g1, hlb, zz, env0, aPure, aRead, aNew, aEff, aval, avals, aparts, aopt, wantedA, binA, isShift, binI, fillA, single, aRes, splice, mkv, unA, binS, sameAt, reduceCtorEq, reduceIte, Int.reduceEq, Int.reduceLT, Int.reduceLE, Int.reduceNe, Nat.reduceEqDiff, Nat.reduceLT, Nat.reduceAdd, Nat.reduceMul, Nat.reduceSub, Nat.reduceLeDiff, Int.reduceBEq, Int.reduceBNe, Nat.reduceBEq, Nat.reduceBNe, Int.reduceToNat]
  refine WC.mono (K := fun e env H' => e = .exit 0 ∧ ∃ vo rsT a5 a6 a7 a10 a11 a12 a13 a14 a15, Keeps H H' ∧ WR H' H.length 9 vo (l.length + m.length) (rs ++ rsT).flatten ∧ rsT.length = m.length ∧
      (∀ (k : Nat) (n : Nd), m[k]? = some n → ∃ kv, rsT[k]? = some (ndRow (shiftN l.length n) kv) ∧ Ints H' kv (shiftN l.length n).kids) ∧
      env = [.int .u8 op, va, vb, .nilsl, vo, a5, a6, a7, vb, .int .i64 m.length, a10, a11, a12, a13, a14, a15]) ?_ ?_
  · refine WCL (fun r env H' => ∃ (t : Nat) (vo a5 a6 a7 a11 a12 a13 a14 a15 : AV) (rsT : List (List AV)), t ≤ m.length ∧ r = m.length - t ∧ Keeps H H' ∧ WR H' H.length 9 vo (l.length + t) (rs ++ rsT).flatten ∧ rsT.length = t ∧
        (∀ (k : Nat) (n : Nd), k < t → m[k]? = some n → ∃ kv, rsT[k]? = some (ndRow (shiftN l.length n) kv) ∧ Ints H' kv (shiftN l.length n).kids) ∧
        env = [.int .u8 op, va, vb, .nilsl, vo, a5, a6, a7, vb, .int .i64 m.length, .int .i64 t, a11, a12, a13, a14, a15]) (n := m.length)
      ⟨0, v1, _, _, _, _, _, _, _, _, [], Nat.zero_le _, rfl, hk1, by simpa using hw1, rfl, fun k n h => by omega, rfl⟩ ?_
    rintro r env H' ⟨t, vo, a5, a6, a7, a11, a12, a13, a14, a15, rsT, htm, rfl, hk, hwo, hrt, hrsT, rfl⟩
    simp only [zz, env0, aPure, aRead, aNew, aEff, aval, avals, aparts, aopt, wantedA, binA, isShift, binI, fillA, single, aRes, splice, mkv, unA, binS, sameAt, reduceCtorEq, reduceIte, Int.reduceEq, Int.reduceLT, Int.reduceLE, Int.reduceNe, Nat.reduceEqDiff, Nat.reduceLT, Nat.reduceAdd, Nat.reduceMul, Nat.reduceSub, Nat.reduceLeDiff, Int.reduceBEq, Int.reduceBNe, Nat.reduceBEq, Nat.reduceBNe, Int.reduceToNat]
    refine onB_of (fun hlt => ?_) (fun hlt => ?_)
    · have hlt : t < m.length := by simpa using hlt
      obtain ⟨n, hn⟩ : ∃ n, m[t]? = some n := ⟨m[t], List.getElem?_eq_getElem hlt⟩
      obtain ⟨b9, o9, kv, rfl, hok, hkv0, hld⟩ := hm.nd hn
      have hnm : n ∈ m := List.mem_of_getElem? hn
      obtain ⟨hkl, hkx⟩ := hkids n hnm
      have hkv := Rows.keeps IntP.mono hk hkv0
      have p1 : (0 : Int) ≤ t := by omega
      have p2 : (t : Int) < m.length := by omega
      have h9 := hk.load (hld 0 9 (by omega))
      simp only [Nat.add_zero, List.drop_zero, ndRow, List.take_succ_cons, List.take_zero] at h9
      obtain ⟨f1, f2, f3, f4⟩ := hkv.flat
      have hlk := hkv.lenOf
      simp only [p1, p2, h9, f1, hlk, zz, env0, aPure, aRead, aNew, aEff, aval, avals, aparts, aopt, wantedA, binA, isShift, binI, fillA, single, aRes, splice, mkv, unA, binS, sameAt, reduceCtorEq, reduceIte, Int.reduceEq, Int.reduceLT, Int.reduceLE, Int.reduceNe, Nat.reduceEqDiff, Nat.reduceLT, Nat.reduceAdd, Nat.reduceMul, Nat.reduceSub, Nat.reduceLeDiff, Int.reduceBEq, Int.reduceBNe, Nat.reduceBEq, Nat.reduceBNe, Int.reduceToNat]
      generalize hHb : H' ++ [some (Blk.cells 9 true [AV.int IntKind.u8 n.op, AV.int IntKind.u64 n.s0, AV.int IntKind.u64 n.s1, AV.int IntKind.u64 n.s2, AV.int IntKind.u64 n.s3, kv, AV.int IntKind.i64 n.lo, AV.int IntKind.i64 n.hi, AV.str n.name])] = Hb
      have hkb : Keeps H' Hb := by rw [← hHb]; exact .p1 _ _
      have hbl : Hb.length = H'.length + 1 := by rw [← hHb]; simp
      have hbox : getB Hb H'.length = some (.cells 9 true (ndRow n kv)) := by rw [← hHb]; exact gb_new _ _
      refine WC.mono (K := fun e env H2 => e = .exit 2 ∧ ∃ vk a7 a14 a15, Keeps Hb H2 ∧ WR H2 Hb.length 1 vk n.kids.length ((n.kids.map (· + (l.length : Int))).map (AV.int .i64)) ∧
          env = [.int .u8 op, va, .sl b9 o9 m.length, .nilsl, vo, .ptr H'.length 0, vk, a7, .sl b9 o9 m.length, .int .i64 m.length, .int .i64 t, .bool true, kv, .int .i64 n.kids.length, a14, a15]) ?_ ?_
      · refine WCL (fun r env H2 => ∃ (j : Nat) (vk a7 a15 : AV), j ≤ n.kids.length ∧ r = n.kids.length - j ∧ Keeps Hb H2 ∧ WR H2 Hb.length 1 vk j (((n.kids.take j).map (· + (l.length : Int))).map (AV.int .i64)) ∧
            env = [.int .u8 op, va, .sl b9 o9 m.length, .nilsl, vo, .ptr H'.length 0, vk, a7, .sl b9 o9 m.length, .int .i64 m.length, .int .i64 t, .bool true, kv, .int .i64 n.kids.length, .int .i64 j, a15]) (n := n.kids.length)
          ⟨0, .nilsl, _, _, Nat.zero_le _, rfl, .refl _, .nil, rfl⟩ ?_
        rintro r env H2 ⟨j, vk, c7, c15, hj, rfl, hkk, hwk, rfl⟩
        simp only [zz, env0, aPure, aRead, aNew, aEff, aval, avals, aparts, aopt, wantedA, binA, isShift, binI, fillA, single, aRes, splice, mkv, unA, binS, sameAt, reduceCtorEq, reduceIte, Int.reduceEq, Int.reduceLT, Int.reduceLE, Int.reduceNe, Nat.reduceEqDiff, Nat.reduceLT, Nat.reduceAdd, Nat.reduceMul, Nat.reduceSub, Nat.reduceLeDiff, Int.reduceBEq, Int.reduceBNe, Nat.reduceBEq, Nat.reduceBNe, Int.reduceToNat]
        refine onB_of (fun hlt2 => ?_) (fun hlt2 => ?_)
        · have hlt2 : j < n.kids.length := by simpa using hlt2
          obtain ⟨x, hx⟩ : ∃ x, n.kids[j]? = some x := ⟨n.kids[j], List.getElem?_eq_getElem hlt2⟩
          obtain ⟨ik, ok, rfl, g1⟩ := (Rows.keeps IntP.mono (hkb.trans hkk) hkv).int hx
          have hxr := hkx x (List.mem_of_getElem? hx)
          have r1 : (0 : Int) ≤ j := by omega
          have r2 : (j : Int) < n.kids.length := by omega
          have vj : IntKind.i64.wrap ((j : Int) + 1) = ((j + 1 : Nat) : Int) := by rw [wrap_i64 (by omega) (by omega)]; rfl
          have vx : IntKind.i64.wrap (x + (l.length : Int)) = x + (l.length : Int) := wrap_i64 (by omega) (by omega)
          have htk : n.kids.take (j + 1) = n.kids.take j ++ [x] := by
            rw [List.take_succ_eq_append_getElem hlt2]; congr 2
            rw [List.getElem?_eq_getElem hlt2] at hx; simpa using hx
          obtain ⟨v', H5, hap, hw5, he5, hid5⟩ := (hwk.keeps (Keeps.p1 H2 (some (.cells 1 true [.int .i64 (x + (l.length : Int))])))).append (bytes := 8) (by have := hkk.1; simp; omega) (src_new H2 1 1 [.int .i64 (x + (l.length : Int))] rfl) rfl rfl (by simp only [maxRoom]; omega)
          simp only [r1, r2, Nat.mul_one, g1, hla, vx, hap, vj, zz, env0, aPure, aRead, aNew, aEff, aval, avals, aparts, aopt, wantedA, binA, isShift, binI, fillA, single, aRes, splice, mkv, unA, binS, sameAt, reduceCtorEq, reduceIte, Int.reduceEq, Int.reduceLT, Int.reduceLE, Int.reduceNe, Nat.reduceEqDiff, Nat.reduceLT, Nat.reduceAdd, Nat.reduceMul, Nat.reduceSub, Nat.reduceLeDiff, Int.reduceBEq, Int.reduceBNe, Nat.reduceBEq, Nat.reduceBNe, Int.reduceToNat]
          refine ⟨n.kids.length - (j + 1), by omega, j + 1, v', _, _, by omega, rfl, Else.keeps (hkk.trans (.p1 _ _)) he5 (fun i hi => (hwk.id hi).1), ?_, rfl⟩
          rw [htk, List.map_append, List.map_append]
          exact hw5
        · have hje : j = n.kids.length := by simp at hlt2; omega
          subst hje
          rw [List.take_length] at hwk
          simp only [zz, env0, aPure, aRead, aNew, aEff, aval, avals, aparts, aopt, wantedA, binA, isShift, binI, fillA, single, aRes, splice, mkv, unA, binS, sameAt, reduceCtorEq, reduceIte, Int.reduceEq, Int.reduceLT, Int.reduceLE, Int.reduceNe, Nat.reduceEqDiff, Nat.reduceLT, Nat.reduceAdd, Nat.reduceMul, Nat.reduceSub, Nat.reduceLeDiff, Int.reduceBEq, Int.reduceBNe, Nat.reduceBEq, Nat.reduceBNe, Int.reduceToNat]
          exact ⟨vk, _, _, _, hkk, hwk, rfl⟩
      · rintro e env H2 ⟨rfl, vk, c7, c14, c15, hkk, hwk, rfl⟩
        have hbox2 := hkk.get hbox
        obtain ⟨e1, e2, e3, e4⟩ := hwk.row.flat
        have hst := store_of hbox2 5 [vk]
        rw [if_pos (by simp [ndRow]), if_pos (by simp [e1])] at hst
        have hsp : splice (ndRow n kv) 5 [vk] = ndRow (shiftN l.length n) vk := rfl
        rw [hsp] at hst
        have hlt2 := gb_lt hbox2
        generalize hH3 : H2.set H'.length (some (.cells 9 true (ndRow (shiftN l.length n) vk))) = H3 at hst
        have hbox3 : getB H3 H'.length = some (.cells 9 true (ndRow (shiftN l.length n) vk)) := by rw [← hH3]; exact gb_set _ hlt2
        have hne3 : ∀ i q, i ≠ H'.length → getB H2 i = some q → getB H3 i = some q := fun i q h1 h2 => by rw [← hH3, gb_set_ne _ (Ne.symm h1)]; exact h2
        have hl3 : H3.length = H2.length := by rw [← hH3]; simp
        have hwo3 : WR H3 H.length 9 vo (l.length + t) (rs ++ rsT).flatten := (hwo.keeps (hkb.trans hkk)).keep (fun i q hi hq => hne3 i q (by have := (hwo.id hi).2; omega) hq)
        have l9 : loadA H3 H'.length 0 9 = some (ndRow (shiftN l.length n) vk) := load_at hbox3 (by simp [ndRow])
        have hlb2 : Hb.length ≤ H2.length := hkk.1
        obtain ⟨v', H4, hap, hw4, he4, hid4⟩ := (hwo3.keeps (Keeps.p1 H3 (some (.cells 9 true (ndRow (shiftN l.length n) vk))))).append (bytes := 96) (by have := hk.1; simp; omega) (src_new H3 9 1 _ rfl) rfl (by simp [ndRow, one_int, one_str, e1]) (by simp only [maxRoom]; omega)
        have vt : IntKind.i64.wrap ((t : Int) + 1) = ((t + 1 : Nat) : Int) := by rw [wrap_i64 (by omega) (by omega)]; rfl
        have hkeep : ∀ i q, i ≠ H'.length → avId vo ≠ some i → getB H2 i = some q → getB H4 i = some q := fun i q h1 h2 h3 => he4.2 i q h2 (gb_push _ (hne3 i q h1 h3))
        simp only [ndRow] at l9 hap
        simp only [e2, e3, hst, l9, e1, hap, vt, zz, env0, aPure, aRead, aNew, aEff, aval, avals, aparts, aopt, wantedA, binA, isShift, binI, fillA, single, aRes, splice, mkv, unA, binS, sameAt, reduceCtorEq, reduceIte, Int.reduceEq, Int.reduceLT, Int.reduceLE, Int.reduceNe, Nat.reduceEqDiff, Nat.reduceLT, Nat.reduceAdd, Nat.reduceMul, Nat.reduceSub, Nat.reduceLeDiff, Int.reduceBEq, Int.reduceBNe, Nat.reduceBEq, Nat.reduceBNe, Int.reduceToNat]
        refine ⟨m.length - (t + 1), by omega, t + 1, v', _, _, _, _, _, _, _, _, rsT ++ [ndRow (shiftN l.length n) vk], hlt, rfl, ⟨by have h1 := he4.1; have h3 := hk.1; simp at h1; omega, fun i q hq => ?_⟩, ?_, by simp [hrt], fun k n' hk' hn' => ?_, rfl⟩
        · have hi := gb_lt hq
          have hi2 := gb_lt (hk.get hq)
          exact hkeep i q (by omega) (fun e => by have := (hwo.id e).1; omega) ((hkb.trans hkk).get (hk.get hq))
        · rw [← List.append_assoc, List.flatten_append]
          have := hw4
          rw [Nat.add_assoc] at this
          simpa using this
        · rcases Nat.lt_or_ge k t with h | h
          · obtain ⟨kv', q1, q2⟩ := hrsT k n' h hn'
            refine ⟨kv', by rw [List.getElem?_append_left (by omega)]; exact q1, ints_else q2 (fun i q hi hq => ?_)⟩
            obtain ⟨rw', cs', hc⟩ := RowAt.id q2.ints hi
            have hi2 := gb_lt hq
            exact hkeep i q (by omega) (fun e => by obtain ⟨rw2, cs2, hc2⟩ := RowAt.id hwo.row e; rw [hc] at hc2; simp at hc2) ((hkb.trans hkk).get hq)
          · have : k = t := by omega
            subst this
            rw [hn] at hn'; simp only [Option.some.injEq] at hn'; subst hn'
            refine ⟨vk, by rw [List.getElem?_append_right (by omega), hrt]; simp, ?_⟩
            have hI : Ints H2 vk (shiftN l.length n).kids := ints_of (by
              have e : (shiftN l.length n).kids.length = n.kids.length := by simp [shiftN]
              rw [e]; exact hwk.row)
            refine ints_else hI (fun i q hi hq => ?_)
            have hi2 := (hwk.id hi).1
            exact hkeep i q (by omega) (fun e => by have := (hwo.id e).2; omega) hq
    · have hte : t = m.length := by simp at hlt; omega
      subst hte
      simp only [zz, env0, aPure, aRead, aNew, aEff, aval, avals, aparts, aopt, wantedA, binA, isShift, binI, fillA, single, aRes, splice, mkv, unA, binS, sameAt, reduceCtorEq, reduceIte, Int.reduceEq, Int.reduceLT, Int.reduceLE, Int.reduceNe, Nat.reduceEqDiff, Nat.reduceLT, Nat.reduceAdd, Nat.reduceMul, Nat.reduceSub, Nat.reduceLeDiff, Int.reduceBEq, Int.reduceBNe, Nat.reduceBEq, Nat.reduceBNe, Int.reduceToNat]
      refine ⟨vo, rsT, _, _, _, _, _, _, _, _, _, hk, hwo, hrt, fun k n hn => hrsT k n ?_ hn, rfl⟩
      rcases Nat.lt_or_ge k m.length with h | h
      · exact h
      · rw [List.getElem?_eq_none h] at hn; simp at hn
  · rintro e env H' ⟨rfl, vo, rsT, a5, a6, a7, a10, a11, a12, a13, a14, a15, hk, hwo, hrt, hrsT, rfl⟩
    have hlo := hwo.lenOf
    have w1 : IntKind.i64.wrap ((l.length : Int) - 1) = (l.length : Int) - 1 := wrap_i64 (by omega) (by omega)
    have w2 : IntKind.i64.wrap (((l.length + m.length : Nat) : Int) - 1) = ((l.length + m.length : Nat) : Int) - 1 := wrap_i64 (by omega) (by omega)
    generalize hHk : H' ++ [some (Blk.cells 1 true [.int .i64 ((l.length : Int) - 1), .int .i64 (((l.length + m.length : Nat) : Int) - 1)])] = Hk
    have hkk : Keeps H' Hk := by rw [← hHk]; exact .p1 _ _
    have hkb : getB Hk H'.length = some (.cells 1 true [.int .i64 ((l.length : Int) - 1), .int .i64 (((l.length + m.length : Nat) : Int) - 1)]) := by rw [← hHk]; exact gb_new _ _
    obtain ⟨v', H4, hap, hw4, he4, hid4⟩ := ((hwo.keeps hkk).keeps (Keeps.p1 Hk (some (.cells 9 true (ndRow (rootN op ((l.length : Int) - 1) (((l.length + m.length : Nat) : Int) - 1)) (.sl H'.length 0 2)))))).append (bytes := 96) (by have := hk.1; have := hkk.1; simp; omega) (src_new Hk 9 1 _ rfl) rfl rfl (by simp only [maxRoom]; omega)
    simp only [ndRow, rootN] at hap
    have hk4 : Keeps H H4 := Else.keeps ((hk.trans hkk).trans (.p1 _ _)) he4 (fun i hi => (hwo.id hi).1)
    simp only [hla, hlo, w1, w2, hHk, hap, zz, env0, aPure, aRead, aNew, aEff, aval, avals, aparts, aopt, wantedA, binA, isShift, binI, fillA, single, aRes, splice, mkv, unA, binS, sameAt, reduceCtorEq, reduceIte, Int.reduceEq, Int.reduceLT, Int.reduceLE, Int.reduceNe, Nat.reduceEqDiff, Nat.reduceLT, Nat.reduceAdd, Nat.reduceMul, Nat.reduceSub, Nat.reduceLeDiff, Int.reduceBEq, Int.reduceBNe, Nat.reduceBEq, Nat.reduceBNe, Int.reduceToNat]
    refine hK _ _ hk4 ⟨rs ++ rsT ++ [ndRow (rootN op ((l.length : Int) - 1) (((l.length + m.length : Nat) : Int) - 1)) (.sl H'.length 0 2)], ?_, by simp [pairT, hrl, hrt], fun k n hn => ?_⟩
    · rw [List.flatten_append]
      have e : (pairT op l m).length = l.length + m.length + 1 := by simp [pairT]; omega
      rw [e]
      have := hw4.row
      simpa using this
    · have h1sz : ∀ i rw cs, getB H' i = some (.cells 1 rw cs) → getB H4 i = some (.cells 1 rw cs) := fun i rw cs hc => he4.2 i _ (fun e => by obtain ⟨rw2, cs2, hc2⟩ := RowAt.id hwo.row e; rw [hc] at hc2; simp at hc2) (gb_push _ (hkk.get hc))
      rcases Nat.lt_or_ge k l.length with h | h
      · rw [pairT, List.append_assoc, List.getElem?_append_left h] at hn
        obtain ⟨kv, q1, q2, q3⟩ := hrs k n hn
        exact ⟨ndRow n kv, by rw [List.append_assoc, List.getElem?_append_left (by omega)]; exact q1, rfl, q2, kv, rfl, Rows.keeps IntP.mono hk4 q3⟩
      · rcases Nat.lt_or_ge k (l.length + m.length) with h' | h'
        · rw [pairT, List.getElem?_append_left (by simp; omega), List.getElem?_append_right h, List.getElem?_map] at hn
          obtain ⟨n0, hn0⟩ : ∃ n0, m[k - l.length]? = some n0 := ⟨m[k - l.length]'(by omega), List.getElem?_eq_getElem (by omega)⟩
          rw [hn0] at hn
          simp only [Option.map_some, Option.some.injEq] at hn
          subst hn
          obtain ⟨kv, q1, q2⟩ := hrsT _ _ hn0
          obtain ⟨_, _, _, _, hok, _⟩ := hm.nd hn0
          obtain ⟨hkl, hkx⟩ := hkids n0 (List.mem_of_getElem? hn0)
          refine ⟨ndRow (shiftN l.length n0) kv, ?_, rfl, ⟨hok.op, hok.s0, hok.s1, hok.s2, hok.s3, fun x hx => ?_, hok.lo, hok.hi, by simp [shiftN]; omega, hok.name⟩, kv, rfl, ints_sz h1sz q2⟩
          · rw [List.getElem?_append_left (by simp; omega), List.getElem?_append_right (by omega), hrl]; exact q1
          · simp only [shiftN, List.mem_map] at hx
            obtain ⟨y, hy, rfl⟩ := hx
            have := hkx y hy
            exact ⟨by omega, by omega⟩
        · have hke : k = l.length + m.length := by
            rcases Nat.lt_or_ge k (l.length + m.length + 1) with h2 | h2
            · omega
            · rw [List.getElem?_eq_none (by simp [pairT]; omega)] at hn; simp at hn
          subst hke
          have hlast : (pairT op l m)[l.length + m.length]? = some (rootN op ((l.length : Int) - 1) (((l.length + m.length : Nat) : Int) - 1)) := by
            rw [pairT, List.getElem?_append_right (by simp)]; simp
          rw [hlast] at hn
          simp only [Option.some.injEq] at hn
          subst hn
          refine ⟨ndRow (rootN op ((l.length : Int) - 1) (((l.length + m.length : Nat) : Int) - 1)) (.sl H'.length 0 2), ?_, rfl, rootN_ok hop ⟨by omega, by omega⟩ ⟨by omega, by omega⟩, .sl H'.length 0 2, rfl, ?_⟩
          · rw [List.getElem?_append_right (by simp; omega)]; simp [hrl, hrt]
          · exact ints_of (.inr ⟨H'.length, 0, true, _, rfl, he4.2 _ _ (fun e => by have := (hwo.id e).2; omega) (gb_push _ hkb), by simp [rootN], by simp [rootN]⟩)
end Go.Proofs.Ytnblhjpbpobglaa

/- What two trees under one node mean, and a tree under a node more. -/
set_option maxRecDepth 100000
set_option linter.unusedSimpArgs false
namespace Go.Proofs.Ytnblhjpbpobglaa
open Go.Am

theorem shift_shaped (d : Nat) (n : Nd) : Shaped (shiftN d n) ↔ Shaped n := by
  simp [Shaped, shiftN, zeroS]

theorem stk_app {l : List Nd} {S : List Int} (hl : Stk l S) {m : List Nd} {s : List Int} (hm : Stk m s) : Stk (l ++ m.map (shiftN l.length)) (S ++ s.map (· + (l.length : Int))) := by
  induction hm with
  | nil => simpa using hl
  | @snoc m st n h1 h2 ih =>
    have : Stk ((l ++ m.map (shiftN l.length)) ++ [shiftN l.length n]) ((S ++ st.map (· + (l.length : Int))) ++ [((l ++ m.map (shiftN l.length)).length : Int)]) := by
      refine .snoc ?_ ((shift_shaped _ _).2 h2)
      rw [List.map_append] at ih
      simpa [shiftN] using ih
    rw [List.map_append, List.map_append, ← List.append_assoc, ← List.append_assoc]
    have e : [((l ++ m.map (shiftN l.length)).length : Int)] = [(m.length : Int)].map (· + (l.length : Int)) := by
      simp; omega
    rw [e] at this
    exact this

theorem stk_root {l : List Nd} {r : Int} (h : Stk l [r]) (h1 : 1 ≤ l.length) : r = ((l.length - 1 : Nat) : Int) := by
  have hne : l ≠ [] := by intro e; subst e; simp at h1
  rw [← List.dropLast_concat_getLast hne] at h
  obtain ⟨st, e, _, _⟩ := stk_inv h
  have := List.append_inj' (show ([] : List Int) ++ [r] = st ++ [((l.dropLast).length : Int)] from e) rfl
  have := this.2
  simp at this; omega

theorem pair_right {op : Int} (hop : op = 3 ∨ op = 4) {l m : List Nd} (hl : RightT l) (hm : RightT m) (hlen : l.length + m.length + 1 ≤ 1024) : RightT (pairT op l m) := by
  obtain ⟨l1, _, r, hr⟩ := hl
  obtain ⟨m1, _, s, hs⟩ := hm
  have er := stk_root hr l1
  have es := stk_root hs m1
  refine ⟨by simp [pairT]; omega, by simp [pairT]; omega, ((l.length + m.length : Nat) : Int), ?_⟩
  have h := stk_app hr hs
  have : Stk ((l ++ m.map (shiftN l.length)) ++ [rootN op ((l.length : Int) - 1) (((l.length + m.length : Nat) : Int) - 1)]) ([] ++ [((l ++ m.map (shiftN l.length)).length : Int)]) := by
    refine .snoc ?_ ?_
    · have e : ([r] ++ [s].map (· + (l.length : Int))) = [] ++ (rootN op ((l.length : Int) - 1) (((l.length + m.length : Nat) : Int) - 1)).kids := by
        simp [rootN]; omega
      rw [e] at h; exact h
    · rcases hop with rfl | rfl
      · exact .inr (.inr (.inl ⟨.inl rfl, ⟨rfl, rfl, rfl, rfl⟩, by simp [rootN], rfl, rfl, rfl⟩))
      · exact .inr (.inr (.inl ⟨.inr rfl, ⟨rfl, rfl, rfl, rfl⟩, by simp [rootN], rfl, rfl, rfl⟩))
  simpa [pairT] using this

theorem pair_noref {op : Int} (hop : op ≠ 6) {l m : List Nd} (hl : NoRef l) (hm : NoRef m) : NoRef (pairT op l m) := by
  intro n hn
  simp only [pairT, List.mem_append, List.mem_map, List.mem_singleton] at hn
  rcases hn with (hn | ⟨n', hn, rfl⟩) | rfl
  · exact hl n hn
  · exact hm n' hn
  · exact hop

theorem den_more (l x : List Nd) (y : List UInt8) : ∀ a, a < l.length → den (l ++ x) y a = den l y a := by
  intro a
  induction a using Nat.strongRecOn with
  | _ a ih =>
    intro ha
    have h1 : l[a]? = some l[a] := List.getElem?_eq_getElem ha
    have h2 : (l ++ x)[a]? = some l[a] := by rw [List.getElem?_append_left ha]; exact h1
    have hk : kidDen (l ++ x) y a = kidDen l y a := by
      funext k
      unfold kidDen
      split
      · rename_i h; exact ih _ h (by omega)
      · rfl
    funext i j
    apply propext
    rw [den_eq _ _ _ _ h1, den_eq _ _ _ _ h2, hk]

theorem den_shift (l m x : List Nd) (y : List UInt8) (hs : ∀ n, n ∈ m → Shaped n) (hk : ∀ (a : Nat) (n : Nd), m[a]? = some n → ∀ k, k ∈ n.kids → 0 ≤ k ∧ k < (a : Int)) :
    ∀ a, a < m.length → den (l ++ m.map (shiftN l.length) ++ x) y (l.length + a) = den m y a := by
  intro a
  induction a using Nat.strongRecOn with
  | _ a ih =>
    intro ha
    obtain ⟨n, hn⟩ : ∃ n, m[a]? = some n := ⟨m[a], List.getElem?_eq_getElem ha⟩
    have h2 : (l ++ m.map (shiftN l.length) ++ x)[l.length + a]? = some (shiftN l.length n) := by
      rw [List.getElem?_append_left (by simp; omega), List.getElem?_append_right (by omega), List.getElem?_map]
      have : l.length + a - l.length = a := by omega
      rw [this, hn]; rfl
    have hkid : ∀ k, k ∈ n.kids → kidDen (l ++ m.map (shiftN l.length) ++ x) y (l.length + a) (k + (l.length : Int)) = kidDen m y a k := fun k hkm => by
      have := hk a n hn k hkm
      have e : (k + (l.length : Int)).toNat = l.length + k.toNat := by omega
      unfold kidDen
      rw [e, if_pos (by omega), if_pos (by omega)]
      exact ih _ (by omega) (by omega)
    have hmap : (shiftN l.length n).kids.map (kidDen (l ++ m.map (shiftN l.length) ++ x) y (l.length + a)) = n.kids.map (kidDen m y a) := by
      simp only [shiftN, List.map_map]
      exact List.map_congr_left (fun k hkm => hkid k hkm)
    funext i j
    apply propext
    rw [den_eq _ _ _ _ hn, den_eq _ _ _ _ h2, hmap]
    have ho : (shiftN l.length n).op = n.op := rfl
    have hh : ∀ c, ndHas (shiftN l.length n) c ↔ ndHas n c := fun c => Iff.rfl
    rw [ho]
    by_cases o2 : n.op = 2
    · simp only [o2, if_true, hh]
    rw [if_neg o2, if_neg o2]
    by_cases o3 : n.op = 3
    · simp only [o3, if_true]
    rw [if_neg o3, if_neg o3]
    by_cases o4 : n.op = 4
    · simp only [o4, if_true, shiftN]
      constructor
      · rintro ⟨k, h1, h2⟩
        obtain ⟨k', h3, rfl⟩ := List.mem_map.1 h1
        exact ⟨k', h3, by rw [hkid k' h3] at h2; exact h2⟩
      · rintro ⟨k, h1, h2⟩
        exact ⟨k + (l.length : Int), List.mem_map.2 ⟨k, h1, rfl⟩, by rw [hkid k h1]; exact h2⟩
    rw [if_neg o4, if_neg o4]
    by_cases o5 : n.op = 5
    · simp only [o5, if_true]
      have hsn := hs n (List.mem_of_getElem? hn)
      have hkl : n.kids.length = 1 := by
        rcases hsn with h | h | h | h | h
        · omega
        · omega
        · omega
        · exact h.2.2.1
        · omega
      obtain ⟨k, hk1⟩ : ∃ k, n.kids = [k] := by
        match hh : n.kids, hkl with
        | [k], _ => exact ⟨k, rfl⟩
      have e1 : (shiftN l.length n).kids.headD 0 = k + (l.length : Int) := by simp [shiftN, hk1]
      have e2 : n.kids.headD 0 = k := by simp [hk1]
      rw [e1, e2, hkid k (by rw [hk1]; simp)]
      exact Iff.rfl
    · rw [if_neg o5, if_neg o5]

theorem right_kids {m : List Nd} (hm : RightT m) : (∀ n, n ∈ m → Shaped n) ∧ ∀ (a : Nat) (n : Nd), m[a]? = some n → ∀ k, k ∈ n.kids → 0 ≤ k ∧ k < (a : Int) := by
  obtain ⟨_, _, r, hr⟩ := hm
  refine ⟨fun n hn => ?_, fun a n hn => (stk_kids hr hn).2.2⟩
  obtain ⟨k, hk⟩ := List.mem_iff_getElem?.1 hn
  exact (stk_kids hr hk).1

theorem pair_kids {op : Int} {l m : List Nd} (y : List UInt8) (hl : RightT l) (hm : RightT m) :
    kidDen (pairT op l m) y (l.length + m.length) ((l.length : Int) - 1) = den l y (l.length - 1) ∧ kidDen (pairT op l m) y (l.length + m.length) (((l.length + m.length : Nat) : Int) - 1) = den m y (m.length - 1) := by
  obtain ⟨hs, hk⟩ := right_kids hm
  have l1 := hl.1
  have m1 := hm.1
  constructor
  · have e : ((l.length : Int) - 1).toNat = l.length - 1 := by omega
    unfold kidDen
    rw [e, if_pos (by omega), pairT, List.append_assoc]
    exact den_more l _ y _ (by omega)
  · have e : (((l.length + m.length : Nat) : Int) - 1).toNat = l.length + (m.length - 1) := by omega
    unfold kidDen
    rw [e, if_pos (by omega), pairT]
    exact den_shift l m _ y hs hk _ (by omega)

theorem pair_len (op : Int) (l m : List Nd) : (pairT op l m).length - 1 = l.length + m.length := by simp [pairT]
theorem pair_last (op : Int) (l m : List Nd) : (pairT op l m)[l.length + m.length]? = some (rootN op ((l.length : Int) - 1) (((l.length + m.length : Nat) : Int) - 1)) := by
  rw [pairT, List.getElem?_append_right (by simp)]; simp

theorem cat_den {l m : List Nd} (y : List UInt8) (hl : RightT l) (hm : RightT m) (i j : Nat) : den (pairT 3 l m) y ((pairT 3 l m).length - 1) i j ↔ ∃ k, den l y (l.length - 1) i k ∧ den m y (m.length - 1) k j := by
  obtain ⟨k1, k2⟩ := pair_kids (op := 3) y hl hm
  rw [pair_len, den_eq _ _ _ _ (pair_last 3 l m), if_neg (by simp [rootN]), if_pos (by simp [rootN])]
  simp only [rootN, List.map_cons, List.map_nil, chain, k1, k2]
  constructor
  · rintro ⟨k, h1, j', h2, rfl⟩; exact ⟨k, h1, h2⟩
  · rintro ⟨k, h1, h2⟩; exact ⟨k, h1, j, h2, rfl⟩
theorem alt_den {l m : List Nd} (y : List UInt8) (hl : RightT l) (hm : RightT m) (i j : Nat) : den (pairT 4 l m) y ((pairT 4 l m).length - 1) i j ↔ den l y (l.length - 1) i j ∨ den m y (m.length - 1) i j := by
  obtain ⟨k1, k2⟩ := pair_kids (op := 4) y hl hm
  rw [pair_len, den_eq _ _ _ _ (pair_last 4 l m), if_neg (by simp [rootN]), if_neg (by simp [rootN]), if_pos (by simp [rootN])]
  constructor
  · rintro ⟨k, h1, h2⟩
    simp [rootN] at h1
    rcases h1 with rfl | rfl
    · left; rw [k1] at h2; exact h2
    · right
      have e : ((l.length : Int) + (m.length : Int) - 1) = ((l.length + m.length : Nat) : Int) - 1 := by omega
      rw [e, k2] at h2; exact h2
  · rintro (h | h)
    · exact ⟨(l.length : Int) - 1, by simp [rootN], by rw [k1]; exact h⟩
    · exact ⟨((l.length + m.length : Nat) : Int) - 1, by simp [rootN], by rw [k2]; exact h⟩

theorem wrap_right {l : List Nd} {n : Nd} (hl : RightT l) (hlen : l.length + 1 ≤ 1024) (hs : Shaped { n with kids := [(l.length : Int) - 1] }) : RightT (wrapT l n) := by
  obtain ⟨l1, _, r, hr⟩ := hl
  have er := stk_root hr l1
  refine ⟨by simp [wrapT], by simp [wrapT]; omega, (l.length : Int), ?_⟩
  have : Stk (l ++ [{ n with kids := [(l.length : Int) - 1] }]) ([] ++ [(l.length : Int)]) := by
    refine .snoc ?_ hs
    have e : r = (l.length : Int) - 1 := by omega
    rw [e] at hr; exact hr
  exact this
theorem wrap_noref {l : List Nd} {n : Nd} (hl : NoRef l) (hn : n.op ≠ 6) : NoRef (wrapT l n) := by
  intro n' hn'
  simp only [wrapT, List.mem_append, List.mem_singleton] at hn'
  rcases hn' with h | rfl
  · exact hl n' h
  · exact hn
theorem rep_den {l : List Nd} {n : Nd} (y : List UInt8) (hl : RightT l) (ho : n.op = 5) (i j : Nat) : den (wrapT l n) y ((wrapT l n).length - 1) i j ↔
    ∃ c : Nat, n.lo ≤ c ∧ (n.hi = -1 ∨ (c : Int) ≤ n.hi) ∧ iterN (den l y (l.length - 1)) c i j := by
  have l1 := hl.1
  have e : (wrapT l n).length - 1 = l.length := by simp [wrapT]
  have hlast : (wrapT l n)[l.length]? = some { n with kids := [(l.length : Int) - 1] } := by rw [wrapT, List.getElem?_append_right (by omega)]; simp
  have hk : kidDen (wrapT l n) y l.length ((l.length : Int) - 1) = den l y (l.length - 1) := by
    have e : ((l.length : Int) - 1).toNat = l.length - 1 := by omega
    unfold kidDen
    rw [e, if_pos (by omega), wrapT]
    exact den_more l _ y _ (by omega)
  rw [e, den_eq _ _ _ _ hlast]
  simp only [ho]
  rw [if_neg (by decide), if_neg (by decide), if_neg (by decide), if_pos trivial]
  simp only [List.headD_cons, hk]
end Go.Proofs.Ytnblhjpbpobglaa

/- What a tree means in a part of a text. -/
set_option maxRecDepth 100000
set_option linter.unusedSimpArgs false
namespace Go.Proofs.Ytnblhjpbpobglaa
open Go.Am

theorem chain_mono {rs : List (Nat → Nat → Prop)} (h : ∀ r, r ∈ rs → ∀ i j, r i j → i ≤ j) : ∀ i j, chain rs i j → i ≤ j := by
  induction rs with
  | nil => intro i j h; simp only [chain] at h; omega
  | cons r rs ih =>
    rintro i j ⟨k, h1, h2⟩
    have := h r (by simp) i k h1
    have := ih (fun r hr => h r (by simp [hr])) k j h2
    omega
theorem iterN_mono {r : Nat → Nat → Prop} (h : ∀ i j, r i j → i ≤ j) : ∀ n i j, iterN r n i j → i ≤ j := by
  intro n
  induction n with
  | zero => intro i j h; simp only [iterN] at h; omega
  | succ n ih =>
    rintro i j ⟨k, h1, h2⟩
    have := h i k h1
    have := ih k j h2
    omega

theorem kid_mono (l : List Nd) (w : List UInt8) (a : Nat) (k : Int) (i j : Nat) (h : kidDen l w a k i j) : i ≤ j := by
  unfold kidDen at h
  split at h
  · exact (den_le _ _ _ _ _ h).1
  · exact h.elim

theorem den_take (l : List Nd) (w : List UInt8) (k : Nat) (hk : k ≤ w.length) : ∀ a i j, i ≤ k → (den l (w.take k) a i j ↔ den l w a i j ∧ j ≤ k) := by
  intro a
  induction a using Nat.strongRecOn with
  | _ a ih =>
    intro i j hi
    have kid : ∀ x i j, i ≤ k → (kidDen l (w.take k) a x i j ↔ kidDen l w a x i j ∧ j ≤ k) := fun x i j hi => by
      unfold kidDen
      split
      · rename_i h; exact ih _ h i j hi
      · simp
    cases hn : l[a]? with
    | none => rw [den, den, hn]; simp
    | some n =>
      rw [den_eq _ _ _ _ hn, den_eq _ _ _ _ hn]
      split
      · constructor
        · rintro ⟨⟨c, h1, h2⟩, rfl⟩
          have : i < k := by
            rcases Nat.lt_or_ge i k with h | h
            · exact h
            · rw [List.getElem?_eq_none (by rw [List.length_take]; omega)] at h1; simp at h1
          rw [List.getElem?_take_of_lt this] at h1
          exact ⟨⟨⟨c, h1, h2⟩, rfl⟩, by omega⟩
        · rintro ⟨⟨⟨c, h1, h2⟩, rfl⟩, h3⟩
          exact ⟨⟨c, by rw [List.getElem?_take_of_lt (by omega)]; exact h1, h2⟩, rfl⟩
      split
      · have : ∀ (ks : List Int) i j, i ≤ k → (chain (ks.map (kidDen l (w.take k) a)) i j ↔ chain (ks.map (kidDen l w a)) i j ∧ j ≤ k) := by
          intro ks
          induction ks with
          | nil => intro i j hi; simp only [List.map_nil, chain]; constructor
                   · rintro rfl; exact ⟨rfl, hi⟩
                   · exact fun h => h.1
          | cons x ks ihk =>
            intro i j hi
            simp only [List.map_cons, chain]
            constructor
            · rintro ⟨m, h1, h2⟩
              obtain ⟨h3, h4⟩ := (kid x i m hi).1 h1
              obtain ⟨h5, h6⟩ := (ihk m j h4).1 h2
              exact ⟨⟨m, h3, h5⟩, h6⟩
            · rintro ⟨⟨m, h1, h2⟩, h3⟩
              have hm : m ≤ j := chain_mono (fun r hr i j h => by
                obtain ⟨x, _, rfl⟩ := List.mem_map.1 hr
                exact kid_mono _ _ _ _ _ _ h) m j h2
              exact ⟨m, (kid x i m hi).2 ⟨h1, by omega⟩, (ihk m j (by omega)).2 ⟨h2, h3⟩⟩
        exact this _ i j hi
      split
      · constructor
        · rintro ⟨x, h1, h2⟩
          obtain ⟨h3, h4⟩ := (kid x i j hi).1 h2
          exact ⟨⟨x, h1, h3⟩, h4⟩
        · rintro ⟨⟨x, h1, h2⟩, h3⟩
          exact ⟨x, h1, (kid x i j hi).2 ⟨h2, h3⟩⟩
      split
      · have : ∀ c i j, i ≤ k → (iterN (kidDen l (w.take k) a (n.kids.headD 0)) c i j ↔ iterN (kidDen l w a (n.kids.headD 0)) c i j ∧ j ≤ k) := by
          intro c
          induction c with
          | zero => intro i j hi; simp only [iterN]; constructor
                    · rintro rfl; exact ⟨rfl, hi⟩
                    · exact fun h => h.1
          | succ c ihc =>
            intro i j hi
            simp only [iterN]
            constructor
            · rintro ⟨m, h1, h2⟩
              obtain ⟨h3, h4⟩ := (kid _ i m hi).1 h1
              obtain ⟨h5, h6⟩ := (ihc m j h4).1 h2
              exact ⟨⟨m, h3, h5⟩, h6⟩
            · rintro ⟨⟨m, h1, h2⟩, h3⟩
              have hm : m ≤ j := iterN_mono (fun i j h => kid_mono _ _ _ _ _ _ h) c m j h2
              exact ⟨m, (kid _ i m hi).2 ⟨h1, by omega⟩, (ihc m j (by omega)).2 ⟨h2, h3⟩⟩
        constructor
        · rintro ⟨c, h1, h2, h3⟩
          obtain ⟨h4, h5⟩ := (this c i j hi).1 h3
          exact ⟨⟨c, h1, h2, h4⟩, h5⟩
        · rintro ⟨⟨c, h1, h2, h3⟩, h4⟩
          exact ⟨c, h1, h2, (this c i j hi).2 ⟨h3, h4⟩⟩
      · constructor
        · rintro rfl; exact ⟨rfl, hi⟩
        · exact fun h => h.1

theorem den_drop (l : List Nd) (w : List UInt8) (k : Nat) : ∀ a i j, den l (w.drop k) a i j ↔ den l w a (k + i) (k + j) := by
  intro a
  induction a using Nat.strongRecOn with
  | _ a ih =>
    intro i j
    have kid : ∀ x i j, (kidDen l (w.drop k) a x i j ↔ kidDen l w a x (k + i) (k + j)) := fun x i j => by
      unfold kidDen
      split
      · rename_i h; exact ih _ h i j
      · exact Iff.rfl
    cases hn : l[a]? with
    | none => rw [den, den, hn]
    | some n =>
      rw [den_eq _ _ _ _ hn, den_eq _ _ _ _ hn]
      split
      · rw [List.getElem?_drop]
        constructor
        · rintro ⟨h, rfl⟩; exact ⟨h, by omega⟩
        · rintro ⟨h, h2⟩; exact ⟨h, by omega⟩
      split
      · have : ∀ (ks : List Int) i j, (chain (ks.map (kidDen l (w.drop k) a)) i j ↔ chain (ks.map (kidDen l w a)) (k + i) (k + j)) := by
          intro ks
          induction ks with
          | nil => intro i j; simp only [List.map_nil, chain]; omega
          | cons x ks ihk =>
            intro i j
            simp only [List.map_cons, chain]
            constructor
            · rintro ⟨m, h1, h2⟩
              exact ⟨k + m, (kid x i m).1 h1, (ihk m j).1 h2⟩
            · rintro ⟨m, h1, h2⟩
              have hm := kid_mono _ _ _ _ _ _ h1
              obtain ⟨m', rfl⟩ : ∃ m', m = k + m' := ⟨m - k, by omega⟩
              exact ⟨m', (kid x i m').2 h1, (ihk m' j).2 h2⟩
        exact this _ i j
      split
      · constructor
        · rintro ⟨x, h1, h2⟩; exact ⟨x, h1, (kid x i j).1 h2⟩
        · rintro ⟨x, h1, h2⟩; exact ⟨x, h1, (kid x i j).2 h2⟩
      split
      · have : ∀ c i j, (iterN (kidDen l (w.drop k) a (n.kids.headD 0)) c i j ↔ iterN (kidDen l w a (n.kids.headD 0)) c (k + i) (k + j)) := by
          intro c
          induction c with
          | zero => intro i j; simp only [iterN]; omega
          | succ c ihc =>
            intro i j
            simp only [iterN]
            constructor
            · rintro ⟨m, h1, h2⟩
              exact ⟨k + m, (kid _ i m).1 h1, (ihc m j).1 h2⟩
            · rintro ⟨m, h1, h2⟩
              have hm := kid_mono _ _ _ _ _ _ h1
              obtain ⟨m', rfl⟩ : ∃ m', m = k + m' := ⟨m - k, by omega⟩
              exact ⟨m', (kid _ i m').2 h1, (ihc m' j).2 h2⟩
        constructor
        · rintro ⟨c, h1, h2, h3⟩; exact ⟨c, h1, h2, (this c i j).1 h3⟩
        · rintro ⟨c, h1, h2, h3⟩; exact ⟨c, h1, h2, (this c i j).2 h3⟩
      · omega

theorem is_take {l : List Nd} {w : List UInt8} {k : Nat} (hk : k ≤ w.length) : IsT l (w.take k) ↔ RightT l ∧ NoRef l ∧ den l w (l.length - 1) 0 k := by
  unfold IsT
  have e : (w.take k).length = k := by rw [List.length_take]; omega
  rw [e, den_take l w k hk _ 0 k (Nat.zero_le _)]
  simp
theorem is_drop {l : List Nd} {w : List UInt8} {k : Nat} (hk : k ≤ w.length) : IsT l (w.drop k) ↔ RightT l ∧ NoRef l ∧ den l w (l.length - 1) k w.length := by
  unfold IsT
  have e : (w.drop k).length = w.length - k := by rw [List.length_drop]
  rw [e, den_drop l w k _ 0 _, Nat.add_zero]
  have e2 : k + (w.length - k) = w.length := by omega
  rw [e2]
end Go.Proofs.Ytnblhjpbpobglaa
