/- slices.Concat of two, slices.Compact, lang.merge. -/
import Derived.Test.YtnblhjpbpobglaaSD
set_option maxRecDepth 100000
set_option linter.unusedSimpArgs false
namespace Go.Proofs.Ytnblhjpbpobglaa
open Go.Am

theorem grow_run (H : AHeap) (n : Nat) (hn : n ≤ 1000000000) (K : AV → AHeap → Prop) (hK : ∀ v H', Keeps H H' → WR H' H.length 1 v 0 [] → K v H') :
    WF P0 71 [.nilsl, .int .i64 n] H K := by
  by_cases h : n = 0
  · subst h
    exact WF_orc rfl (by simp [orcGrow]) (hK _ _ (.refl _) .nil)
  · refine WF_orc rfl (r := .sl H.length 0 0) (H' := H ++ [some (.cells 1 true [])]) ?_ (hK _ _ (.p1 _ _) (WR.new H 1 0 [] rfl (Nat.le_refl _)))
    simp only [orcGrow]
    rw [if_neg (by omega), if_pos ⟨by omega, by simp only [maxRoom]; omega, by omega⟩]

theorem concat_spec (H : AHeap) (j : Nat) (va vb : AV) (n m : Nat) (cs1 cs2 : List AV) (h1 : loadA H j 0 1 = some [va]) (h2 : loadA H j 1 1 = some [vb]) (ha : RowAt H 1 va n cs1) (hb : RowAt H 1 vb m cs2)
    (ho1 : cs1.all AV.one = true) (ho2 : cs2.all AV.one = true) (hn : n ≤ 100000000) (hm : m ≤ 100000000) (K : AV → AHeap → Prop)
    (hK : ∀ v H', Keeps H H' → WR H' H.length 1 v (n + m) (cs1 ++ cs2) → K v H') : WF P0 59 [.sl j 0 2] H K := by
  have la := ha.lenOf
  have lb := hb.lenOf
  have w1 : IntKind.i64.wrap (0 + 1) = 1 := by decide
  have w2 : IntKind.i64.wrap (1 + 1) = 2 := by decide
  have w3 : IntKind.i64.wrap (0 + (n : Int)) = n := by rw [wrap_i64 (by omega) (by omega)]; omega
  have w4 : IntKind.i64.wrap ((n : Int) + m) = ((n + m : Nat) : Int) := by rw [wrap_i64 (by omega) (by omega)]; omega
  have c1 : decide ((n : Int) < 0) = false := by simp
  have c2 : decide (((n + m : Nat) : Int) < 0) = false := by simp; omega
  refine zWF rfl rfl rfl ?_
  simp only [a59, zz, env0, aPure, aRead, aNew, aEff, aval, avals, aparts, aopt, wantedA, binA, isShift, binI, fillA, single, aRes, splice, mkv, unA, binS, sameAt, reduceCtorEq, reduceIte, Int.reduceEq, Int.reduceLT, Int.reduceLE, Int.reduceNe, Nat.reduceEqDiff, Nat.reduceLT, Nat.reduceAdd, Nat.reduceMul, Nat.reduceSub, Nat.reduceLeDiff, Int.reduceBEq, Int.reduceBNe, Nat.reduceBEq, Nat.reduceBNe, Int.reduceToNat]
  refine WC_unroll ?_
  simp only [Int.reduceToNat, h1, la, w1, w3, c1, zz, env0, aPure, aRead, aNew, aEff, aval, avals, aparts, aopt, wantedA, binA, isShift, binI, fillA, single, aRes, splice, mkv, unA, binS, sameAt, reduceCtorEq, reduceIte, Int.reduceEq, Int.reduceLT, Int.reduceLE, Int.reduceNe, Nat.reduceEqDiff, Nat.reduceLT, Nat.reduceAdd, Nat.reduceMul, Nat.reduceSub, Nat.reduceLeDiff, Int.reduceBEq, Int.reduceBNe, Nat.reduceBEq, Nat.reduceBNe, Int.reduceToNat]
  refine WC_unroll ?_
  simp only [Int.reduceToNat, h2, lb, w2, w4, c2, zz, env0, aPure, aRead, aNew, aEff, aval, avals, aparts, aopt, wantedA, binA, isShift, binI, fillA, single, aRes, splice, mkv, unA, binS, sameAt, reduceCtorEq, reduceIte, Int.reduceEq, Int.reduceLT, Int.reduceLE, Int.reduceNe, Nat.reduceEqDiff, Nat.reduceLT, Nat.reduceAdd, Nat.reduceMul, Nat.reduceSub, Nat.reduceLeDiff, Int.reduceBEq, Int.reduceBNe, Nat.reduceBEq, Nat.reduceBNe, Int.reduceToNat]
  refine WC_unroll ?_
  simp only [zz, env0, aPure, aRead, aNew, aEff, aval, avals, aparts, aopt, wantedA, binA, isShift, binI, fillA, single, aRes, splice, mkv, unA, binS, sameAt, reduceCtorEq, reduceIte, Int.reduceEq, Int.reduceLT, Int.reduceLE, Int.reduceNe, Nat.reduceEqDiff, Nat.reduceLT, Nat.reduceAdd, Nat.reduceMul, Nat.reduceSub, Nat.reduceLeDiff, Int.reduceBEq, Int.reduceBNe, Nat.reduceBEq, Nat.reduceBNe, Int.reduceToNat]
  refine grow_run _ _ (by omega) _ ?_
  intro v1 H1 hk1 hw1
  simp only [zz, env0, aPure, aRead, aNew, aEff, aval, avals, aparts, aopt, wantedA, binA, isShift, binI, fillA, single, aRes, splice, mkv, unA, binS, sameAt, reduceCtorEq, reduceIte, Int.reduceEq, Int.reduceLT, Int.reduceLE, Int.reduceNe, Nat.reduceEqDiff, Nat.reduceLT, Nat.reduceAdd, Nat.reduceMul, Nat.reduceSub, Nat.reduceLeDiff, Int.reduceBEq, Int.reduceBNe, Nat.reduceBEq, Nat.reduceBNe, Int.reduceToNat]
  obtain ⟨v2, H2, a2, hw2, he2, hid2⟩ := hw1.append (bytes := 8) hk1.1 (ha.keeps hk1).src (by rw [ha.len]) ho1 (by simp only [maxRoom]; omega)
  have hk2 : Keeps H H2 := Else.keeps hk1 he2 (fun i hi => (hw1.id hi).1)
  obtain ⟨v3, H3, a3, hw3, he3, hid3⟩ := hw2.append (bytes := 8) hk2.1 (hb.keeps hk2).src (by rw [hb.len]) ho2 (by simp only [maxRoom]; omega)
  have hk3 : Keeps H H3 := Else.keeps hk2 he3 (fun i hi => (hw2.id hi).1)
  have s1 := ha.flat.2.2.2
  have s2 := hb.flat.2.2.2
  have l1 := hk1.load h1
  have l2 := hk2.load h2
  refine WC_unroll ?_
  simp only [Int.reduceToNat, l1, s1, a2, w1, zz, env0, aPure, aRead, aNew, aEff, aval, avals, aparts, aopt, wantedA, binA, isShift, binI, fillA, single, aRes, splice, mkv, unA, binS, sameAt, reduceCtorEq, reduceIte, Int.reduceEq, Int.reduceLT, Int.reduceLE, Int.reduceNe, Nat.reduceEqDiff, Nat.reduceLT, Nat.reduceAdd, Nat.reduceMul, Nat.reduceSub, Nat.reduceLeDiff, Int.reduceBEq, Int.reduceBNe, Nat.reduceBEq, Nat.reduceBNe, Int.reduceToNat]
  refine WC_unroll ?_
  simp only [Int.reduceToNat, l2, s2, a3, w2, zz, env0, aPure, aRead, aNew, aEff, aval, avals, aparts, aopt, wantedA, binA, isShift, binI, fillA, single, aRes, splice, mkv, unA, binS, sameAt, reduceCtorEq, reduceIte, Int.reduceEq, Int.reduceLT, Int.reduceLE, Int.reduceNe, Nat.reduceEqDiff, Nat.reduceLT, Nat.reduceAdd, Nat.reduceMul, Nat.reduceSub, Nat.reduceLeDiff, Int.reduceBEq, Int.reduceBNe, Nat.reduceBEq, Nat.reduceBNe, Int.reduceToNat]
  refine WC_unroll ?_
  simp only [zz, env0, aPure, aRead, aNew, aEff, aval, avals, aparts, aopt, wantedA, binA, isShift, binI, fillA, single, aRes, splice, mkv, unA, binS, sameAt, reduceCtorEq, reduceIte, Int.reduceEq, Int.reduceLT, Int.reduceLE, Int.reduceNe, Nat.reduceEqDiff, Nat.reduceLT, Nat.reduceAdd, Nat.reduceMul, Nat.reduceSub, Nat.reduceLeDiff, Int.reduceBEq, Int.reduceBNe, Nat.reduceBEq, Nat.reduceBNe, Int.reduceToNat]
  refine hK _ _ hk3 ?_
  simpa using hw3

def ddF (acc : List Int) (x : Int) : List Int := if acc.getLast? = some x then acc else acc ++ [x]
/-- Neighbours that are alike, once. -/
def dd (xs : List Int) : List Int := xs.foldl ddF []
theorem dd_snoc (xs : List Int) (x : Int) : dd (xs ++ [x]) = ddF (dd xs) x := by simp [dd]
theorem snoc_ind {P : List Int → Prop} (h0 : P []) (h1 : ∀ l x, P l → P (l ++ [x])) : ∀ l, P l := by
  intro l
  have : ∀ n (l : List Int), l.length = n → P l := by
    intro n
    induction n with
    | zero => intro l hl; rw [List.length_eq_zero_iff.1 hl]; exact h0
    | succ n ih =>
      intro l hl
      have hne : l ≠ [] := by intro e; subst e; simp at hl
      rw [← List.dropLast_concat_getLast hne]
      exact h1 _ _ (ih _ (by simp [hl]))
  exact this _ l rfl
theorem dd_last (xs : List Int) : (dd xs).getLast? = xs.getLast? := by
  refine snoc_ind (P := fun xs => (dd xs).getLast? = xs.getLast?) rfl (fun l x ih => ?_) xs
  rw [dd_snoc, ddF]
  split
  · rename_i h; rw [h]; simp
  · simp
theorem dd_mem (xs : List Int) : ∀ z, z ∈ dd xs ↔ z ∈ xs := by
  refine snoc_ind (P := fun xs => ∀ z, z ∈ dd xs ↔ z ∈ xs) (by simp [dd]) (fun l x ih z => ?_) xs
  rw [dd_snoc, ddF]
  split
  · rename_i h
    rw [ih]
    have : x ∈ l := by rw [dd_last] at h; exact List.mem_of_getLast? h
    simp only [List.mem_append, List.mem_cons, List.not_mem_nil, or_false]
    constructor
    · exact Or.inl
    · rintro (h | rfl)
      · exact h
      · exact this
  · simp [ih]
theorem dd_sorted (xs : List Int) (h : xs.Pairwise (· ≤ ·)) : (dd xs).Pairwise (· < ·) := by
  revert h
  refine snoc_ind (P := fun xs => xs.Pairwise (· ≤ ·) → (dd xs).Pairwise (· < ·)) (fun _ => .nil) (fun l x ih h => ?_) xs
  rw [List.pairwise_append] at h
  have ih := ih h.1
  rw [dd_snoc, ddF]
  split
  · exact ih
  · rename_i hne
    rw [List.pairwise_append]
    refine ⟨ih, by simp, fun a ha b hb => ?_⟩
    simp only [List.mem_cons, List.not_mem_nil, or_false] at hb
    subst hb
    have hle : ∀ y, y ∈ dd l → y ≤ b := fun y hy => h.2.2 y ((dd_mem l y).1 hy) b (by simp)
    rcases Int.lt_or_le a b with h1 | h1
    · exact h1
    · exfalso
      have hab : a = b := Int.le_antisymm (hle a ha) h1
      subst hab
      have hn : dd l ≠ [] := by intro e; rw [e] at ha; simp at ha
      have hl := List.getLast?_eq_some_getLast hn
      have hlast := List.getLast_mem hn
      have e1 : (dd l).getLast hn ≤ a := hle _ hlast
      rcases List.getLast?_eq_some_iff.1 hl with ⟨ys, hys⟩
      rw [hys] at ha ih
      simp only [List.mem_append, List.mem_cons, List.not_mem_nil, or_false] at ha
      rcases ha with ha | ha
      · have := (List.pairwise_append.1 ih).2.2 a ha _ (List.mem_cons_self ..)
        omega
      · exact hne (by rw [hl, ← ha])
theorem dd_len (xs : List Int) : (dd xs).length ≤ xs.length := by
  refine snoc_ind (P := fun xs => (dd xs).length ≤ xs.length) (by simp [dd]) (fun l x ih => ?_) xs
  rw [dd_snoc, ddF]; split
  · simp; omega
  · simp; omega

theorem dd_take {xs : List Int} {k : Nat} {x : Int} (hx : xs[k]? = some x) : dd (xs.take (k + 1)) = ddF (dd (xs.take k)) x := by
  have hk : k < xs.length := by
    rcases Nat.lt_or_ge k xs.length with h | h
    · exact h
    · rw [List.getElem?_eq_none h] at hx; simp at hx
  rw [List.take_succ_eq_append_getElem hk, dd_snoc]
  rw [List.getElem?_eq_getElem hk] at hx
  simp only [Option.some.injEq] at hx
  rw [hx]
theorem take_last {xs : List Int} {k : Nat} {x : Int} (h0 : 0 < k) (hx : xs[k - 1]? = some x) : (xs.take k).getLast? = some x := by
  rw [List.getLast?_eq_getElem?, List.length_take]
  have hk : k - 1 < xs.length := by
    rcases Nat.lt_or_ge (k - 1) xs.length with h | h
    · exact h
    · rw [List.getElem?_eq_none h] at hx; simp at hx
  rw [Nat.min_eq_left (by omega), List.getElem?_take_of_lt (by omega)]
  exact hx

theorem compact_spec (H : AHeap) (b : Nat) (v : AV) (xs : List Int) (hv : WR H b 1 v xs.length (xs.map (AV.int .i64))) (hbig : xs.length ≤ 1000000000) (K : AV → AHeap → Prop)
    (hK : ∀ v' H', Else H H' (avId v) → WR H' b 1 v' (dd xs).length ((dd xs).map (AV.int .i64)) → K v' H') : WF P0 61 [v] H K := by
  have hl := hv.lenOf
  have done : ∀ H', Else H H' (avId v) → WR H' b 1 v xs.length (xs.map (AV.int .i64)) → dd xs = xs → K v H' := fun H' he hw e => hK v H' he (by rw [e]; exact hw)
  refine zWF rfl rfl rfl ?_
  simp only [a61, hl, zz, env0, aPure, aRead, aNew, aEff, aval, avals, aparts, aopt, wantedA, binA, isShift, binI, fillA, single, aRes, splice, mkv, unA, binS, sameAt, reduceCtorEq, reduceIte, Int.reduceEq, Int.reduceLT, Int.reduceLE, Int.reduceNe, Nat.reduceEqDiff, Nat.reduceLT, Nat.reduceAdd, Nat.reduceMul, Nat.reduceSub, Nat.reduceLeDiff, Int.reduceBEq, Int.reduceBNe, Nat.reduceBEq, Nat.reduceBNe, Int.reduceToNat]
  refine onB_of (fun h => ?_) (fun h => ?_)
  · simp only [zz, env0, aPure, aRead, aNew, aEff, aval, avals, aparts, aopt, wantedA, binA, isShift, binI, fillA, single, aRes, splice, mkv, unA, binS, sameAt, reduceCtorEq, reduceIte, Int.reduceEq, Int.reduceLT, Int.reduceLE, Int.reduceNe, Nat.reduceEqDiff, Nat.reduceLT, Nat.reduceAdd, Nat.reduceMul, Nat.reduceSub, Nat.reduceLeDiff, Int.reduceBEq, Int.reduceBNe, Nat.reduceBEq, Nat.reduceBNe, Int.reduceToNat]
    refine done _ ⟨Nat.le_refl _, fun _ _ _ h => h⟩ hv ?_
    match xs, h with
    | [], _ => rfl
    | [x], _ => rfl
    | a :: b :: r, h => simp at h; omega
  · have hn2 : 2 ≤ xs.length := by simp at h; omega
    simp only [h, hl, zz, env0, aPure, aRead, aNew, aEff, aval, avals, aparts, aopt, wantedA, binA, isShift, binI, fillA, single, aRes, splice, mkv, unA, binS, sameAt, reduceCtorEq, reduceIte, Int.reduceEq, Int.reduceLT, Int.reduceLE, Int.reduceNe, Nat.reduceEqDiff, Nat.reduceLT, Nat.reduceAdd, Nat.reduceMul, Nat.reduceSub, Nat.reduceLeDiff, Int.reduceBEq, Int.reduceBNe, Nat.reduceBEq, Nat.reduceBNe, Int.reduceToNat]
    refine WCL (fun r env H' => H' = H ∧ ∃ (k : Nat) (a6 a7 : AV), 1 ≤ k ∧ k ≤ xs.length ∧ r = xs.length - k ∧ dd (xs.take k) = xs.take k ∧ env = [v, .nilsl, .int .i64 k, .junk, .junk, .bool false, a6, a7, .junk, .junk]) (n := xs.length - 1)
      ⟨rfl, 1, _, _, Nat.le_refl _, by omega, rfl, ?_, rfl⟩ ?_
    · obtain ⟨a, r, rfl⟩ : ∃ a r, xs = a :: r := by cases xs with
        | nil => simp at hn2
        | cons a r => exact ⟨a, r, rfl⟩
      rfl
    rintro r env H' ⟨rfl, k, a6, a7, hk1, hkn, rfl, hdd, rfl⟩
    simp only [hl, zz, env0, aPure, aRead, aNew, aEff, aval, avals, aparts, aopt, wantedA, binA, isShift, binI, fillA, single, aRes, splice, mkv, unA, binS, sameAt, reduceCtorEq, reduceIte, Int.reduceEq, Int.reduceLT, Int.reduceLE, Int.reduceNe, Nat.reduceEqDiff, Nat.reduceLT, Nat.reduceAdd, Nat.reduceMul, Nat.reduceSub, Nat.reduceLeDiff, Int.reduceBEq, Int.reduceBNe, Nat.reduceBEq, Nat.reduceBNe, Int.reduceToNat]
    refine onB_of (fun hlt => ?_) (fun hlt => ?_)
    · have hlt : k < xs.length := by simpa using hlt
      obtain ⟨x, hx⟩ : ∃ x, xs[k]? = some x := ⟨xs[k], List.getElem?_eq_getElem (by omega)⟩
      obtain ⟨y, hy⟩ : ∃ y, xs[k - 1]? = some y := ⟨xs[k - 1], List.getElem?_eq_getElem (by omega)⟩
      have hI := ints_of hv.row
      obtain ⟨i, o, rfl, g1⟩ := hI.int hx
      obtain ⟨i', o', e', g2⟩ := hI.int hy
      simp only [AV.sl.injEq] at e'
      obtain ⟨rfl, rfl, _⟩ := e'
      have hwk : IntKind.i64.wrap ((k : Int) - 1) = ((k - 1 : Nat) : Int) := by rw [wrap_i64 (by omega) (by omega)]; omega
      have hw : IntKind.i64.wrap ((k : Int) + 1) = ((k + 1 : Nat) : Int) := by rw [wrap_i64 (by omega) (by omega)]; rfl
      have p1 : (0 : Int) ≤ k := by omega
      have p2 : (k : Int) < xs.length := by omega
      have p3 : (0 : Int) ≤ ((k - 1 : Nat) : Int) := by omega
      have p4 : ((k - 1 : Nat) : Int) < xs.length := by omega
      simp only [Nat.mul_one, g1, g2, hwk, hw, p1, p2, p3, p4, zz, env0, aPure, aRead, aNew, aEff, aval, avals, aparts, aopt, wantedA, binA, isShift, binI, fillA, single, aRes, splice, mkv, unA, binS, sameAt, reduceCtorEq, reduceIte, Int.reduceEq, Int.reduceLT, Int.reduceLE, Int.reduceNe, Nat.reduceEqDiff, Nat.reduceLT, Nat.reduceAdd, Nat.reduceMul, Nat.reduceSub, Nat.reduceLeDiff, Int.reduceBEq, Int.reduceBNe, Nat.reduceBEq, Nat.reduceBNe, Int.reduceToNat]
      refine onB_of (fun he => ?_) (fun he => ?_)
      · have hxy : x = y := by simpa using he
        subst hxy
        have hs : ∀ q : Nat, q ≤ xs.length → sliceA 1 (.sl i o xs.length) (some (.int .i64 q)) none none = some (.sl i (o + q) (xs.length - q)) := fun q hq => by simp [sliceA, slLen, bound, hq]
        have hsk := hs k hkn
        have hz := hv.row.szOk
        simp only [hz, hsk, he, zz, env0, aPure, aRead, aNew, aEff, aval, avals, aparts, aopt, wantedA, binA, isShift, binI, fillA, single, aRes, splice, mkv, unA, binS, sameAt, reduceCtorEq, reduceIte, Int.reduceEq, Int.reduceLT, Int.reduceLE, Int.reduceNe, Nat.reduceEqDiff, Nat.reduceLT, Nat.reduceAdd, Nat.reduceMul, Nat.reduceSub, Nat.reduceLeDiff, Int.reduceBEq, Int.reduceBNe, Nat.reduceBEq, Nat.reduceBNe, Int.reduceToNat]
        refine WCL (fun r env H2 => Else H' H2 (some i) ∧ ∃ (q m : Nat) (a8 a9 : AV), 1 ≤ q ∧ k + q ≤ xs.length ∧ r = xs.length - k - q ∧ m = (dd (xs.take (k + q))).length ∧ m + 1 ≤ k + q ∧
            WR H2 b 1 (.sl i o xs.length) xs.length ((dd (xs.take (k + q)) ++ xs.drop m).map (AV.int .i64)) ∧
            env = [.sl i o xs.length, .nilsl, .int .i64 m, .sl i (o + k) (xs.length - k), .int .i64 q, .bool false, .bool true, .bool true, a8, a9]) (n := xs.length - k - 1)
          ⟨⟨Nat.le_refl _, fun _ _ _ h => h⟩, 1, k, _, _, Nat.le_refl _, by omega, rfl, ?_, by omega, ?_, rfl⟩ ?_
        · rw [dd_take hx, ddF, if_pos (by rw [dd_last]; exact take_last hk1 hy), hdd, List.length_take]; omega
        · rw [dd_take hx, ddF, if_pos (by rw [dd_last]; exact take_last hk1 hy), hdd, List.take_append_drop]; exact hv
        rintro r env H2 ⟨he2, q, m, a8, a9, hq1, hqn, rfl, hm, hmq, hw2, rfl⟩
        simp only [zz, env0, aPure, aRead, aNew, aEff, aval, avals, aparts, aopt, wantedA, binA, isShift, binI, fillA, single, aRes, splice, mkv, unA, binS, sameAt, reduceCtorEq, reduceIte, Int.reduceEq, Int.reduceLT, Int.reduceLE, Int.reduceNe, Nat.reduceEqDiff, Nat.reduceLT, Nat.reduceAdd, Nat.reduceMul, Nat.reduceSub, Nat.reduceLeDiff, Int.reduceBEq, Int.reduceBNe, Nat.reduceBEq, Nat.reduceBNe, Int.reduceToNat]
        refine onB_of (fun hlt2 => ?_) (fun hlt2 => ?_)
        · have hlt2 : k + q < xs.length := by simp at hlt2; omega
          have hlen : (dd (xs.take (k + q)) ++ xs.drop m).length = xs.length := by simp [← hm]; omega
          obtain ⟨u, hu⟩ : ∃ u, xs[k + q]? = some u := ⟨xs[k + q], List.getElem?_eq_getElem (by omega)⟩
          obtain ⟨w, hwv⟩ : ∃ w, xs[k + q - 1]? = some w := ⟨xs[k + q - 1], List.getElem?_eq_getElem (by omega)⟩
          have hI2 : Ints H2 (.sl i o xs.length) (dd (xs.take (k + q)) ++ xs.drop m) := ints_of (by rw [hlen]; exact hw2.row)
          have hu2 : (dd (xs.take (k + q)) ++ xs.drop m)[k + q]? = some u := by
            rw [List.getElem?_append_right (by omega), List.getElem?_drop, ← hu]; congr 1; omega
          have hw3 : (dd (xs.take (k + q)) ++ xs.drop m)[k + q - 1]? = some w := by
            rw [List.getElem?_append_right (by omega), List.getElem?_drop, ← hwv]; congr 1; omega
          obtain ⟨i2, o2, e2, g3⟩ := hI2.int hu2
          obtain ⟨i3, o3, e3, g4⟩ := hI2.int hw3
          simp only [AV.sl.injEq] at e2 e3
          obtain ⟨rfl, rfl, _⟩ := e2
          obtain ⟨rfl, rfl, _⟩ := e3
          have v1 : IntKind.i64.wrap ((q : Int) - 1) = ((q - 1 : Nat) : Int) := by rw [wrap_i64 (by omega) (by omega)]; omega
          have v2 : IntKind.i64.wrap ((q : Int) + 1) = ((q + 1 : Nat) : Int) := by rw [wrap_i64 (by omega) (by omega)]; rfl
          have v3 : IntKind.i64.wrap ((m : Int) + 1) = ((m + 1 : Nat) : Int) := by rw [wrap_i64 (by omega) (by omega)]; rfl
          have r1 : (0 : Int) ≤ q := by omega
          have r2 : (q : Int) < ((xs.length - k : Nat) : Int) := by omega
          have r3 : (0 : Int) ≤ ((q - 1 : Nat) : Int) := by omega
          have r4 : ((q - 1 : Nat) : Int) < ((xs.length - k : Nat) : Int) := by omega
          have r5 : (0 : Int) ≤ m := by omega
          have r6 : (m : Int) < xs.length := by omega
          have g3' : loadA H2 i (o + k + q) 1 = some [.int .i64 u] := by rw [Nat.add_assoc]; exact g3
          have g4' : loadA H2 i (o + k + (q - 1)) 1 = some [.int .i64 w] := by rw [← g4]; congr 1; omega
          simp only [Nat.mul_one, g3', g4', v1, r1, r2, r3, r4, zz, env0, aPure, aRead, aNew, aEff, aval, avals, aparts, aopt, wantedA, binA, isShift, binI, fillA, single, aRes, splice, mkv, unA, binS, sameAt, reduceCtorEq, reduceIte, Int.reduceEq, Int.reduceLT, Int.reduceLE, Int.reduceNe, Nat.reduceEqDiff, Nat.reduceLT, Nat.reduceAdd, Nat.reduceMul, Nat.reduceSub, Nat.reduceLeDiff, Int.reduceBEq, Int.reduceBNe, Nat.reduceBEq, Nat.reduceBNe, Int.reduceToNat]
          refine onB_of (fun hne => ?_) (fun hne => ?_)
          · have hne' : u ≠ w := by simpa [bne_iff_ne] using hne
            obtain ⟨i4, o4, e4, H3, hst, hw5, he5, _⟩ := hw2.store (k := m) (vs := [.int .i64 u]) (by simp; omega) (by omega) rfl
            simp only [AV.sl.injEq] at e4
            obtain ⟨rfl, rfl, _⟩ := e4
            simp only [Nat.mul_one, g3', r1, r2, r5, r6, hst, v2, v3, zz, env0, aPure, aRead, aNew, aEff, aval, avals, aparts, aopt, wantedA, binA, isShift, binI, fillA, single, aRes, splice, mkv, unA, binS, sameAt, reduceCtorEq, reduceIte, Int.reduceEq, Int.reduceLT, Int.reduceLE, Int.reduceNe, Nat.reduceEqDiff, Nat.reduceLT, Nat.reduceAdd, Nat.reduceMul, Nat.reduceSub, Nat.reduceLeDiff, Int.reduceBEq, Int.reduceBNe, Nat.reduceBEq, Nat.reduceBNe, Int.reduceToNat]
            have hnew : dd (xs.take (k + (q + 1))) = dd (xs.take (k + q)) ++ [u] := by
              rw [← Nat.add_assoc, dd_take hu, ddF, if_neg]
              rw [dd_last, take_last (by omega) hwv]; simp; exact fun e => hne' e.symm
            refine ⟨xs.length - k - (q + 1), by omega, ⟨Nat.le_trans he2.1 he5.1, fun j c hj hc => he5.2 j c hj (he2.2 j c hj hc)⟩, q + 1, m + 1, _, _, by omega, by omega, rfl, ?_, by omega, ?_, rfl⟩
            · rw [hnew]; simp [← hm]
            · rw [splice_ints _ _ _ (by rw [hlen]; omega)] at hw5
              have e : (dd (xs.take (k + q)) ++ xs.drop m).set m u = dd (xs.take (k + (q + 1))) ++ xs.drop (m + 1) := by
                rw [hnew, List.set_append_right _ _ (by omega), ← hm, Nat.sub_self, List.append_assoc]
                congr 1
                rw [List.drop_eq_getElem_cons (by omega)]
                rfl
              rw [e] at hw5; exact hw5
          · have hne' : u = w := by simpa [bne_iff_ne] using hne
            subst hne'
            simp only [v2, zz, env0, aPure, aRead, aNew, aEff, aval, avals, aparts, aopt, wantedA, binA, isShift, binI, fillA, single, aRes, splice, mkv, unA, binS, sameAt, reduceCtorEq, reduceIte, Int.reduceEq, Int.reduceLT, Int.reduceLE, Int.reduceNe, Nat.reduceEqDiff, Nat.reduceLT, Nat.reduceAdd, Nat.reduceMul, Nat.reduceSub, Nat.reduceLeDiff, Int.reduceBEq, Int.reduceBNe, Nat.reduceBEq, Nat.reduceBNe, Int.reduceToNat]
            have hnew : dd (xs.take (k + (q + 1))) = dd (xs.take (k + q)) := by
              rw [← Nat.add_assoc, dd_take hu, ddF, if_pos]
              rw [dd_last, take_last (by omega) hwv]
            refine ⟨xs.length - k - (q + 1), by omega, he2, q + 1, m, _, _, by omega, by omega, rfl, by rw [hnew]; exact hm, by omega, by rw [hnew]; exact hw2, rfl⟩
        · have hqe : k + q = xs.length := by simp at hlt2; omega
          rw [hqe, List.take_length] at hm hw2
          have hmle : m ≤ xs.length := by omega
          have hsm := hs m hmle
          have hz2 := hw2.row.szOk
          obtain ⟨i4, o4, e4, H3, hst, hw5, he5, _⟩ := hw2.store (k := m) (vs := rows (xs.length - m) [.int .i64 0]) (by simp [rows]; omega) (by omega) (by simp [rows, AV.one])
          simp only [AV.sl.injEq] at e4
          obtain ⟨rfl, rfl, _⟩ := e4
          have hz3 := hw5.row.szOk
          have hcl : clearA H2 [.int .i64 0] (.sl i (o + m) (xs.length - m)) = some (.tup [], H3) := by
            simp only [clearA, hst]
            rw [if_neg (by omega)]
          have hhi : sliceA 1 (.sl i o xs.length) none (some (.int .i64 m)) none = some (.sl i o m) := by simp [sliceA, slLen, bound, hmle]
          simp only [hz2, hsm, hcl, hz3, hhi, zz, env0, aPure, aRead, aNew, aEff, aval, avals, aparts, aopt, wantedA, binA, isShift, binI, fillA, single, aRes, splice, mkv, unA, binS, sameAt, reduceCtorEq, reduceIte, Int.reduceEq, Int.reduceLT, Int.reduceLE, Int.reduceNe, Nat.reduceEqDiff, Nat.reduceLT, Nat.reduceAdd, Nat.reduceMul, Nat.reduceSub, Nat.reduceLeDiff, Int.reduceBEq, Int.reduceBNe, Nat.reduceBEq, Nat.reduceBNe, Int.reduceToNat]
          refine hK _ _ ⟨Nat.le_trans he2.1 he5.1, fun j c hj hc => he5.2 j c hj (he2.2 j c hj hc)⟩ ?_
          obtain ⟨v', h1, h2, _⟩ := hw5.sliceHi (l := m) hmle
          rw [hhi] at h1
          simp only [Option.some.injEq] at h1
          subst h1
          rw [← hm]
          have : List.take (m * 1) (splice ((dd xs ++ xs.drop m).map (AV.int .i64)) m (rows (xs.length - m) [.int .i64 0])) = (dd xs).map (AV.int .i64) := by
            rw [Nat.mul_one, splice, List.append_assoc, List.take_append_of_le_length (by simp; omega), List.take_take, Nat.min_self, List.map_append, List.take_append_of_le_length (by simp; omega), List.take_of_length_le (by simp; omega)]
          rw [this] at h2
          exact h2
      · simp only [hw, zz, env0, aPure, aRead, aNew, aEff, aval, avals, aparts, aopt, wantedA, binA, isShift, binI, fillA, single, aRes, splice, mkv, unA, binS, sameAt, reduceCtorEq, reduceIte, Int.reduceEq, Int.reduceLT, Int.reduceLE, Int.reduceNe, Nat.reduceEqDiff, Nat.reduceLT, Nat.reduceAdd, Nat.reduceMul, Nat.reduceSub, Nat.reduceLeDiff, Int.reduceBEq, Int.reduceBNe, Nat.reduceBEq, Nat.reduceBNe, Int.reduceToNat]
        have hxy : x ≠ y := by simpa using he
        refine ⟨xs.length - (k + 1), by omega, k + 1, _, _, by omega, by omega, rfl, ?_, rfl⟩
        rw [dd_take hx, ddF, if_neg, hdd, List.take_succ_eq_append_getElem hlt]
        · rw [List.getElem?_eq_getElem hlt] at hx; simp at hx; rw [hx]
        · rw [dd_last, take_last hk1 hy]; simp; exact fun e => hxy e.symm
    · have hke : k = xs.length := by simp at hlt; omega
      subst hke
      rw [List.take_length] at hdd
      simp only [zz, env0, aPure, aRead, aNew, aEff, aval, avals, aparts, aopt, wantedA, binA, isShift, binI, fillA, single, aRes, splice, mkv, unA, binS, sameAt, reduceCtorEq, reduceIte, Int.reduceEq, Int.reduceLT, Int.reduceLE, Int.reduceNe, Nat.reduceEqDiff, Nat.reduceLT, Nat.reduceAdd, Nat.reduceMul, Nat.reduceSub, Nat.reduceLeDiff, Int.reduceBEq, Int.reduceBNe, Nat.reduceBEq, Nat.reduceBNe, Int.reduceToNat]
      exact done _ ⟨Nat.le_refl _, fun _ _ _ h => h⟩ hv hdd
end Go.Proofs.Ytnblhjpbpobglaa
