/- lang.merge, slices.Clone, slices.BinarySearch. -/
import Derived.Test.YtnblhjpbpobglaaSF
set_option maxRecDepth 100000
set_option linter.unusedSimpArgs false
namespace Go.Proofs.Ytnblhjpbpobglaa
open Go.Am

def mergeL (xs ys : List Int) : List Int := dd (sortI (xs ++ ys))
theorem mergeL_sorted (xs ys : List Int) : (mergeL xs ys).Pairwise (· < ·) := dd_sorted _ (sortI_sorted _)
theorem mergeL_mem (xs ys : List Int) (z : Int) : z ∈ mergeL xs ys ↔ z ∈ xs ∨ z ∈ ys := by
  rw [mergeL, dd_mem, (sortI_perm _).mem_iff, List.mem_append]
theorem mergeL_len (xs ys : List Int) : (mergeL xs ys).length ≤ xs.length + ys.length := by
  have := dd_len (sortI (xs ++ ys))
  rw [sortI_len, List.length_append] at this; exact this

theorem sort_run (H : AHeap) (b : Nat) (v : AV) (xs : List Int) (hv : WR H b 1 v xs.length (xs.map (AV.int .i64))) (hbig : xs.length < 4611686018427387904) (K : AV → AHeap → Prop)
    (hK : ∀ H', Else H H' (avId v) → WR H' b 1 v xs.length ((sortI xs).map (AV.int .i64)) → K (.tup []) H') : WF P0 60 [v] H K := by
  by_cases h0 : xs.length = 0
  · have := List.length_eq_zero_iff.1 h0
    subst this
    refine WF_orc rfl (r := .tup []) (H' := H) ?_ (hK H ⟨Nat.le_refl _, fun _ _ _ h => h⟩ hv)
    rcases hv with ⟨rfl | rfl, _⟩ | ⟨i, o, cs, rfl, _⟩ <;> simp [orcSort]
  · obtain ⟨i, o, rfl, H', hst, hw, he, _⟩ := hv.store (k := 0) (vs := (sortI xs).map (AV.int .i64)) (by simp [sortI_len]) (by omega) (one_ints _)
    refine WF_orc rfl (r := .tup []) (H' := H') ?_ (hK H' he ?_)
    · have hl : loadA H i o xs.length = some (xs.map (AV.int .i64)) := by
        rcases hv with ⟨h, _⟩ | ⟨i', o', cs, e, _, h3, h4, h5⟩
        · rcases h with h | h <;> simp at h
        · simp only [AV.sl.injEq] at e
          obtain ⟨rfl, rfl, _⟩ := e
          rw [load_of h3, if_pos (by omega)]
          rw [Nat.mul_one] at h5; rw [h5]
      have hi : ∀ xs : List Int, intsOf (xs.map (AV.int .i64)) = some xs := by
        intro xs; induction xs with
        | nil => rfl
        | cons a l ih => simp [intsOf, ih]
      rw [Nat.add_zero] at hst
      simp only [orcSort, h0, if_false, hl, hi, hbig, if_true, hst]
    · have e : splice (xs.map (AV.int .i64)) 0 ((sortI xs).map (AV.int .i64)) = (sortI xs).map (AV.int .i64) := by
        simp only [splice, List.take_zero, List.nil_append, Nat.zero_add, List.length_map, sortI_len]
        rw [List.drop_of_length_le (by simp), List.append_nil]
      rw [e] at hw; exact hw

theorem merge_spec (H : AHeap) (va vb : AV) (xs ys : List Int) (hx : Ints H va xs) (hy : Ints H vb ys) (h1 : xs.length ≤ 100000000) (h2 : ys.length ≤ 100000000) (K : AV → AHeap → Prop)
    (hK : ∀ v H', Keeps H H' → WR H' H.length 1 v (mergeL xs ys).length ((mergeL xs ys).map (AV.int .i64)) → K v H') : WF P0 43 [va, vb] H K := by
  refine zWF rfl rfl rfl ?_
  obtain ⟨f1, f2, f3, f4⟩ := hx.flat
  obtain ⟨g1, g2, g3, g4⟩ := hy.flat
  simp only [a43, f2, f3, g2, g3, zz, env0, aPure, aRead, aNew, aEff, aval, avals, aparts, aopt, wantedA, binA, isShift, binI, fillA, single, aRes, splice, mkv, unA, binS, sameAt, reduceCtorEq, reduceIte, Int.reduceEq, Int.reduceLT, Int.reduceLE, Int.reduceNe, Nat.reduceEqDiff, Nat.reduceLT, Nat.reduceAdd, Nat.reduceMul, Nat.reduceSub, Nat.reduceLeDiff, Int.reduceBEq, Int.reduceBNe, Nat.reduceBEq, Nat.reduceBNe, Int.reduceToNat]
  refine concat_spec _ _ va vb xs.length ys.length _ _ (load_one (gb_new _ _) rfl) (load_one (gb_new _ _) rfl) (Rows.keeps IntP.mono (.p1 _ _) hx).ints (Rows.keeps IntP.mono (.p1 _ _) hy).ints (one_ints _) (one_ints _) h1 h2 _ ?_
  intro v1 H1 hk1 hw1
  have hkH : Keeps H H1 := (Keeps.p1 _ _).trans hk1
  have hl1 : H.length ≤ (H ++ [some (Blk.cells 1 true [va, vb])]).length := by simp
  rw [← List.map_append] at hw1
  have hl : (xs ++ ys).length = xs.length + ys.length := List.length_append
  rw [← hl] at hw1
  simp only [zz, env0, aPure, aRead, aNew, aEff, aval, avals, aparts, aopt, wantedA, binA, isShift, binI, fillA, single, aRes, splice, mkv, unA, binS, sameAt, reduceCtorEq, reduceIte, Int.reduceEq, Int.reduceLT, Int.reduceLE, Int.reduceNe, Nat.reduceEqDiff, Nat.reduceLT, Nat.reduceAdd, Nat.reduceMul, Nat.reduceSub, Nat.reduceLeDiff, Int.reduceBEq, Int.reduceBNe, Nat.reduceBEq, Nat.reduceBNe, Int.reduceToNat]
  refine sort_run _ _ _ _ hw1 (by rw [hl]; omega) _ ?_
  intro H2 he2 hw2
  have hk2 : Keeps H H2 := Else.keeps hkH he2 (fun i hi => by have := (hw1.id hi).1; omega)
  simp only [zz, env0, aPure, aRead, aNew, aEff, aval, avals, aparts, aopt, wantedA, binA, isShift, binI, fillA, single, aRes, splice, mkv, unA, binS, sameAt, reduceCtorEq, reduceIte, Int.reduceEq, Int.reduceLT, Int.reduceLE, Int.reduceNe, Nat.reduceEqDiff, Nat.reduceLT, Nat.reduceAdd, Nat.reduceMul, Nat.reduceSub, Nat.reduceLeDiff, Int.reduceBEq, Int.reduceBNe, Nat.reduceBEq, Nat.reduceBNe, Int.reduceToNat]
  rw [← sortI_len (xs ++ ys)] at hw2
  refine compact_spec _ _ _ (sortI (xs ++ ys)) hw2 (by rw [sortI_len, hl]; omega) _ ?_
  intro v3 H3 he3 hw3
  have hk3 : Keeps H H3 := Else.keeps hk2 he3 (fun i hi => by have := (hw2.id hi).1; omega)
  simp only [zz, env0, aPure, aRead, aNew, aEff, aval, avals, aparts, aopt, wantedA, binA, isShift, binI, fillA, single, aRes, splice, mkv, unA, binS, sameAt, reduceCtorEq, reduceIte, Int.reduceEq, Int.reduceLT, Int.reduceLE, Int.reduceNe, Nat.reduceEqDiff, Nat.reduceLT, Nat.reduceAdd, Nat.reduceMul, Nat.reduceSub, Nat.reduceLeDiff, Int.reduceBEq, Int.reduceBNe, Nat.reduceBEq, Nat.reduceBNe, Int.reduceToNat]
  exact hK _ _ hk3 (hw3.weak hl1)

theorem clone_spec (H : AHeap) (v : AV) (xs : List Int) (hx : Ints H v xs) (h1 : xs.length ≤ 100000000) (K : AV → AHeap → Prop)
    (hK : ∀ v H', Keeps H H' → WR H' H.length 1 v xs.length (xs.map (AV.int .i64)) → K v H') : WF P0 30 [v] H K := by
  refine zWF rfl rfl rfl ?_
  by_cases hn : v = .nilsl
  · subst hn
    have hl := hx.lenOf
    simp only [lenOf_nil, Option.some.injEq, AV.int.injEq, true_and] at hl
    have : xs = [] := List.length_eq_zero_iff.1 (by omega)
    subst this
    simp only [a30, zz, env0, aPure, aRead, aNew, aEff, aval, avals, aparts, aopt, wantedA, binA, isShift, binI, fillA, single, aRes, splice, mkv, unA, binS, sameAt, reduceCtorEq, reduceIte, Int.reduceEq, Int.reduceLT, Int.reduceLE, Int.reduceNe, Nat.reduceEqDiff, Nat.reduceLT, Nat.reduceAdd, Nat.reduceMul, Nat.reduceSub, Nat.reduceLeDiff, Int.reduceBEq, Int.reduceBNe, Nat.reduceBEq, Nat.reduceBNe, Int.reduceToNat]
    exact hK _ _ (.refl _) .nil
  · have hne : eqNil .slice v .nilsl = some false := by
      rcases hx.ints.lenL with ⟨rfl, _⟩ | ⟨rfl, _⟩ | ⟨i, o, rfl⟩
      · exact absurd rfl hn
      · rfl
      · rfl
    have s1 := hx.flat.2.2.2
    obtain ⟨v', H', ha, hw, he, _⟩ := (WR.new H 1 0 [] rfl (Nat.le_refl _)).append (bytes := 8) (by simp) (Rows.keeps IntP.mono (.p1 H _) hx).ints.src (by simp) (one_ints _) (by simp only [maxRoom]; omega)
    have hk : Keeps H H' := Else.keeps (.p1 _ _) he (fun i hi => by simp [avId] at hi; omega)
    simp only [a30, hne, s1, ha, zz, env0, aPure, aRead, aNew, aEff, aval, avals, aparts, aopt, wantedA, binA, isShift, binI, fillA, single, aRes, splice, mkv, unA, binS, sameAt, reduceCtorEq, reduceIte, Int.reduceEq, Int.reduceLT, Int.reduceLE, Int.reduceNe, Nat.reduceEqDiff, Nat.reduceLT, Nat.reduceAdd, Nat.reduceMul, Nat.reduceSub, Nat.reduceLeDiff, Int.reduceBEq, Int.reduceBNe, Nat.reduceBEq, Nat.reduceBNe, Int.reduceToNat]
    refine hK _ _ hk ?_
    simpa using hw

theorem isNaN1_spec (H : AHeap) (x : Int) (K : AV → AHeap → Prop) (hK : K (.bool false) H) : WF P0 49 [.int .i64 x] H K := by
  refine zWF rfl rfl rfl ?_
  have e : (x != x) = false := by simp
  simp only [a49, e, zz, env0, aPure, aRead, aNew, aEff, aval, avals, aparts, aopt, wantedA, binA, isShift, binI, fillA, single, aRes, splice, mkv, unA, binS, sameAt, reduceCtorEq, reduceIte, Int.reduceEq, Int.reduceLT, Int.reduceLE, Int.reduceNe, Nat.reduceEqDiff, Nat.reduceLT, Nat.reduceAdd, Nat.reduceMul, Nat.reduceSub, Nat.reduceLeDiff, Int.reduceBEq, Int.reduceBNe, Nat.reduceBEq, Nat.reduceBNe, Int.reduceToNat]
  exact hK
theorem isNaN2_spec (H : AHeap) (x : Int) (K : AV → AHeap → Prop) (hK : K (.bool false) H) : WF P0 64 [.int .i64 x] H K := by
  refine zWF rfl rfl rfl ?_
  have e : (x != x) = false := by simp
  simp only [a64, e, zz, env0, aPure, aRead, aNew, aEff, aval, avals, aparts, aopt, wantedA, binA, isShift, binI, fillA, single, aRes, splice, mkv, unA, binS, sameAt, reduceCtorEq, reduceIte, Int.reduceEq, Int.reduceLT, Int.reduceLE, Int.reduceNe, Nat.reduceEqDiff, Nat.reduceLT, Nat.reduceAdd, Nat.reduceMul, Nat.reduceSub, Nat.reduceLeDiff, Int.reduceBEq, Int.reduceBNe, Nat.reduceBEq, Nat.reduceBNe, Int.reduceToNat]
  exact hK
theorem less_spec (H : AHeap) (x y : Int) (K : AV → AHeap → Prop) (hK : K (.bool (decide (x < y))) H) : WF P0 48 [.int .i64 x, .int .i64 y] H K := by
  refine zWF rfl rfl rfl ?_
  simp only [a48, zz, env0, aPure, aRead, aNew, aEff, aval, avals, aparts, aopt, wantedA, binA, isShift, binI, fillA, single, aRes, splice, mkv, unA, binS, sameAt, reduceCtorEq, reduceIte, Int.reduceEq, Int.reduceLT, Int.reduceLE, Int.reduceNe, Nat.reduceEqDiff, Nat.reduceLT, Nat.reduceAdd, Nat.reduceMul, Nat.reduceSub, Nat.reduceLeDiff, Int.reduceBEq, Int.reduceBNe, Nat.reduceBEq, Nat.reduceBNe, Int.reduceToNat]
  refine isNaN2_spec _ _ _ ?_
  simp only [zz, env0, aPure, aRead, aNew, aEff, aval, avals, aparts, aopt, wantedA, binA, isShift, binI, fillA, single, aRes, splice, mkv, unA, binS, sameAt, reduceCtorEq, reduceIte, Int.reduceEq, Int.reduceLT, Int.reduceLE, Int.reduceNe, Nat.reduceEqDiff, Nat.reduceLT, Nat.reduceAdd, Nat.reduceMul, Nat.reduceSub, Nat.reduceLeDiff, Int.reduceBEq, Int.reduceBNe, Nat.reduceBEq, Nat.reduceBNe, Int.reduceToNat]
  exact hK

theorem search_spec (H : AHeap) (v : AV) (xs : List Int) (t : Int) (hx : Ints H v xs) (h1 : xs.length ≤ 100000000) (hs : xs.Pairwise (· < ·)) (K : AV → AHeap → Prop)
    (hK : ∀ (k : Int) b, (b = true ↔ t ∈ xs) → K (.tup [.int .i64 k, .bool b]) H) : WF P0 34 [v, .int .i64 t] H K := by
  have hl := hx.lenOf
  refine zWF rfl rfl rfl ?_
  simp only [a34, hl, zz, env0, aPure, aRead, aNew, aEff, aval, avals, aparts, aopt, wantedA, binA, isShift, binI, fillA, single, aRes, splice, mkv, unA, binS, sameAt, reduceCtorEq, reduceIte, Int.reduceEq, Int.reduceLT, Int.reduceLE, Int.reduceNe, Nat.reduceEqDiff, Nat.reduceLT, Nat.reduceAdd, Nat.reduceMul, Nat.reduceSub, Nat.reduceLeDiff, Int.reduceBEq, Int.reduceBNe, Nat.reduceBEq, Nat.reduceBNe, Int.reduceToNat]
  refine WCL (fun r env H' => H' = H ∧ ∃ (i j : Nat) (a7 a8 a9 : AV), i ≤ j ∧ j ≤ xs.length ∧ r = j - i ∧ (∀ k x, k < i → xs[k]? = some x → x < t) ∧ (∀ k x, j ≤ k → xs[k]? = some x → t ≤ x) ∧
      env = [v, .int .i64 t, .int .i64 0, .bool false, .int .i64 xs.length, .int .i64 i, .int .i64 j, a7, a8, a9]) (n := xs.length)
    ⟨rfl, 0, xs.length, _, _, _, Nat.zero_le _, Nat.le_refl _, by omega, fun k x h => by omega, fun k x h hx => by rw [List.getElem?_eq_none h] at hx; simp at hx, rfl⟩ ?_
  rintro r env H' ⟨rfl, i, j, a7, a8, a9, hij, hjn, rfl, hlo, hhi, rfl⟩
  simp only [zz, env0, aPure, aRead, aNew, aEff, aval, avals, aparts, aopt, wantedA, binA, isShift, binI, fillA, single, aRes, splice, mkv, unA, binS, sameAt, reduceCtorEq, reduceIte, Int.reduceEq, Int.reduceLT, Int.reduceLE, Int.reduceNe, Nat.reduceEqDiff, Nat.reduceLT, Nat.reduceAdd, Nat.reduceMul, Nat.reduceSub, Nat.reduceLeDiff, Int.reduceBEq, Int.reduceBNe, Nat.reduceBEq, Nat.reduceBNe, Int.reduceToNat]
  refine onB_of (fun hlt => ?_) (fun hlt => ?_)
  · have hlt' : i < j := by simp at hlt; omega
    have e1 : IntKind.i64.wrap ((i : Int) + j) = ((i + j : Nat) : Int) := by rw [wrap_i64 (by omega) (by omega)]; omega
    have e2 : IntKind.u64.wrap ((i + j : Nat) : Int) = ((i + j : Nat) : Int) := by rw [wrap_u64 (by omega) (by omega)]
    have e3 : shiftI .shr .u64 ((i + j : Nat) : Int) 1 = some (.int .u64 (((i + j) / 2 : Nat) : Int)) := by
      simp only [shiftI, IntKind.bits]
      rw [if_neg (by omega)]
      congr 2
      show Int.fdiv _ (2 ^ 1) = _
      rw [Int.fdiv_eq_ediv_of_nonneg _ (by decide)]; omega
    have e4 : IntKind.i64.wrap (((i + j) / 2 : Nat) : Int) = (((i + j) / 2 : Nat) : Int) := by rw [wrap_i64 (by omega) (by omega)]
    have hm : (i + j) / 2 < xs.length := by omega
    obtain ⟨x, hxm⟩ : ∃ x, xs[(i + j) / 2]? = some x := ⟨xs[(i + j) / 2], List.getElem?_eq_getElem (by omega)⟩
    obtain ⟨b, o, rfl, g1⟩ := hx.int hxm
    have p1 : (0 : Int) ≤ (((i + j) / 2 : Nat) : Int) := by omega
    have p2 : (((i + j) / 2 : Nat) : Int) < xs.length := by omega
    have e5 : IntKind.i64.wrap ((((i + j) / 2 : Nat) : Int) + 1) = (((i + j) / 2 + 1 : Nat) : Int) := by rw [wrap_i64 (by omega) (by omega)]; omega
    simp only [e1, e2, e3, e4, p1, p2, Nat.mul_one, g1, zz, env0, aPure, aRead, aNew, aEff, aval, avals, aparts, aopt, wantedA, binA, isShift, binI, fillA, single, aRes, splice, mkv, unA, binS, sameAt, reduceCtorEq, reduceIte, Int.reduceEq, Int.reduceLT, Int.reduceLE, Int.reduceNe, Nat.reduceEqDiff, Nat.reduceLT, Nat.reduceAdd, Nat.reduceMul, Nat.reduceSub, Nat.reduceLeDiff, Int.reduceBEq, Int.reduceBNe, Nat.reduceBEq, Nat.reduceBNe, Int.reduceToNat]
    refine less_spec _ _ _ _ ?_
    simp only [zz, env0, aPure, aRead, aNew, aEff, aval, avals, aparts, aopt, wantedA, binA, isShift, binI, fillA, single, aRes, splice, mkv, unA, binS, sameAt, reduceCtorEq, reduceIte, Int.reduceEq, Int.reduceLT, Int.reduceLE, Int.reduceNe, Nat.reduceEqDiff, Nat.reduceLT, Nat.reduceAdd, Nat.reduceMul, Nat.reduceSub, Nat.reduceLeDiff, Int.reduceBEq, Int.reduceBNe, Nat.reduceBEq, Nat.reduceBNe, Int.reduceToNat]
    refine onB_of (fun h => ?_) (fun h => ?_)
    · have h : x < t := by simpa using h
      simp only [e5, zz, env0, aPure, aRead, aNew, aEff, aval, avals, aparts, aopt, wantedA, binA, isShift, binI, fillA, single, aRes, splice, mkv, unA, binS, sameAt, reduceCtorEq, reduceIte, Int.reduceEq, Int.reduceLT, Int.reduceLE, Int.reduceNe, Nat.reduceEqDiff, Nat.reduceLT, Nat.reduceAdd, Nat.reduceMul, Nat.reduceSub, Nat.reduceLeDiff, Int.reduceBEq, Int.reduceBNe, Nat.reduceBEq, Nat.reduceBNe, Int.reduceToNat]
      refine ⟨j - ((i + j) / 2 + 1), by omega, (i + j) / 2 + 1, j, _, _, _, by omega, hjn, rfl, fun k y hk hy => ?_, hhi, rfl⟩
      rcases Nat.lt_or_ge k ((i + j) / 2) with hk | hk
      · have := List.pairwise_iff_getElem.1 hs k ((i + j) / 2) (by omega) hm hk
        rw [List.getElem?_eq_getElem (by omega)] at hy hxm
        simp only [Option.some.injEq] at hy hxm
        omega
      · have : k = (i + j) / 2 := by omega
        subst this; rw [hy] at hxm; simp only [Option.some.injEq] at hxm; omega
    · have h : ¬ x < t := by simpa using h
      simp only [zz, env0, aPure, aRead, aNew, aEff, aval, avals, aparts, aopt, wantedA, binA, isShift, binI, fillA, single, aRes, splice, mkv, unA, binS, sameAt, reduceCtorEq, reduceIte, Int.reduceEq, Int.reduceLT, Int.reduceLE, Int.reduceNe, Nat.reduceEqDiff, Nat.reduceLT, Nat.reduceAdd, Nat.reduceMul, Nat.reduceSub, Nat.reduceLeDiff, Int.reduceBEq, Int.reduceBNe, Nat.reduceBEq, Nat.reduceBNe, Int.reduceToNat]
      refine ⟨(i + j) / 2 - i, by omega, i, (i + j) / 2, _, _, _, by omega, by omega, rfl, hlo, fun k y hk hy => ?_, rfl⟩
      rcases Nat.lt_or_ge ((i + j) / 2) k with hk | hk
      · have hkl : k < xs.length := by
          rcases Nat.lt_or_ge k xs.length with h | h
          · exact h
          · rw [List.getElem?_eq_none h] at hy; simp at hy
        have := List.pairwise_iff_getElem.1 hs ((i + j) / 2) k hm hkl hk
        rw [List.getElem?_eq_getElem hkl] at hy
        rw [List.getElem?_eq_getElem hm] at hxm
        simp only [Option.some.injEq] at hy hxm
        omega
      · have : k = (i + j) / 2 := by omega
        subst this; rw [hy] at hxm; simp only [Option.some.injEq] at hxm; omega
  · have hij' : i = j := by simp at hlt; omega
    subst hij'
    have none : i = xs.length → t ∉ xs := fun e hm => by
      obtain ⟨k, hk⟩ := List.mem_iff_getElem?.1 hm
      have hkl : k < xs.length := by
        rcases Nat.lt_or_ge k xs.length with h | h
        · exact h
        · rw [List.getElem?_eq_none h] at hk; simp at hk
      have := hlo k t (by omega) hk; omega
    simp only [zz, env0, aPure, aRead, aNew, aEff, aval, avals, aparts, aopt, wantedA, binA, isShift, binI, fillA, single, aRes, splice, mkv, unA, binS, sameAt, reduceCtorEq, reduceIte, Int.reduceEq, Int.reduceLT, Int.reduceLE, Int.reduceNe, Nat.reduceEqDiff, Nat.reduceLT, Nat.reduceAdd, Nat.reduceMul, Nat.reduceSub, Nat.reduceLeDiff, Int.reduceBEq, Int.reduceBNe, Nat.reduceBEq, Nat.reduceBNe, Int.reduceToNat]
    refine onG_t (fun h => ?_) (fun h => ?_)
    · have h' : i < xs.length := by simp at h; omega
      obtain ⟨x, hxm⟩ : ∃ x, xs[i]? = some x := ⟨xs[i], List.getElem?_eq_getElem h'⟩
      obtain ⟨b, o, rfl, g1⟩ := hx.int hxm
      have p1 : (0 : Int) ≤ (i : Int) := by omega
      have p2 : (i : Int) < xs.length := by omega
      simp only [h, p1, p2, Nat.mul_one, g1, zz, env0, aPure, aRead, aNew, aEff, aval, avals, aparts, aopt, wantedA, binA, isShift, binI, fillA, single, aRes, splice, mkv, unA, binS, sameAt, reduceCtorEq, reduceIte, Int.reduceEq, Int.reduceLT, Int.reduceLE, Int.reduceNe, Nat.reduceEqDiff, Nat.reduceLT, Nat.reduceAdd, Nat.reduceMul, Nat.reduceSub, Nat.reduceLeDiff, Int.reduceBEq, Int.reduceBNe, Nat.reduceBEq, Nat.reduceBNe, Int.reduceToNat]
      refine onG_f (fun h2 => ?_) (fun h2 => ?_)
      · simp only [h, h2, p1, p2, Nat.mul_one, g1, zz, env0, aPure, aRead, aNew, aEff, aval, avals, aparts, aopt, wantedA, binA, isShift, binI, fillA, single, aRes, splice, mkv, unA, binS, sameAt, reduceCtorEq, reduceIte, Int.reduceEq, Int.reduceLT, Int.reduceLE, Int.reduceNe, Nat.reduceEqDiff, Nat.reduceLT, Nat.reduceAdd, Nat.reduceMul, Nat.reduceSub, Nat.reduceLeDiff, Int.reduceBEq, Int.reduceBNe, Nat.reduceBEq, Nat.reduceBNe, Int.reduceToNat]
        refine isNaN1_spec _ _ _ ?_
        simp only [h, h2, zz, env0, aPure, aRead, aNew, aEff, aval, avals, aparts, aopt, wantedA, binA, isShift, binI, fillA, single, aRes, splice, mkv, unA, binS, sameAt, reduceCtorEq, reduceIte, Int.reduceEq, Int.reduceLT, Int.reduceLE, Int.reduceNe, Nat.reduceEqDiff, Nat.reduceLT, Nat.reduceAdd, Nat.reduceMul, Nat.reduceSub, Nat.reduceLeDiff, Int.reduceBEq, Int.reduceBNe, Nat.reduceBEq, Nat.reduceBNe, Int.reduceToNat]
        refine hK _ _ ?_
        simp only [Bool.false_eq_true, false_iff]
        intro hm
        obtain ⟨k, hk⟩ := List.mem_iff_getElem?.1 hm
        have hne : x ≠ t := by simpa using h2
        have hxt := hhi i x (Nat.le_refl _) hxm
        rcases Nat.lt_trichotomy k i with h3 | h3 | h3
        · have := hlo k t h3 hk; omega
        · subst h3; rw [hk] at hxm; simp only [Option.some.injEq] at hxm; exact hne hxm.symm
        · have hkl : k < xs.length := by
            rcases Nat.lt_or_ge k xs.length with h | h
            · exact h
            · rw [List.getElem?_eq_none h] at hk; simp at hk
          have := List.pairwise_iff_getElem.1 hs i k h' hkl h3
          rw [List.getElem?_eq_getElem hkl] at hk
          rw [List.getElem?_eq_getElem h'] at hxm
          simp only [Option.some.injEq] at hk hxm
          omega
      · simp only [h, h2, zz, env0, aPure, aRead, aNew, aEff, aval, avals, aparts, aopt, wantedA, binA, isShift, binI, fillA, single, aRes, splice, mkv, unA, binS, sameAt, reduceCtorEq, reduceIte, Int.reduceEq, Int.reduceLT, Int.reduceLE, Int.reduceNe, Nat.reduceEqDiff, Nat.reduceLT, Nat.reduceAdd, Nat.reduceMul, Nat.reduceSub, Nat.reduceLeDiff, Int.reduceBEq, Int.reduceBNe, Nat.reduceBEq, Nat.reduceBNe, Int.reduceToNat]
        refine hK _ _ ?_
        have hx' : x = t := by simpa using h2
        subst hx'
        simp only [true_iff]
        exact List.mem_iff_getElem?.2 ⟨i, hxm⟩
    · simp only [h, zz, env0, aPure, aRead, aNew, aEff, aval, avals, aparts, aopt, wantedA, binA, isShift, binI, fillA, single, aRes, splice, mkv, unA, binS, sameAt, reduceCtorEq, reduceIte, Int.reduceEq, Int.reduceLT, Int.reduceLE, Int.reduceNe, Nat.reduceEqDiff, Nat.reduceLT, Nat.reduceAdd, Nat.reduceMul, Nat.reduceSub, Nat.reduceLeDiff, Int.reduceBEq, Int.reduceBNe, Nat.reduceBEq, Nat.reduceBNe, Int.reduceToNat]
      refine hK _ _ ?_
      simp only [Bool.false_eq_true, false_iff]
      exact none (by simp at h; omega)
end Go.Proofs.Ytnblhjpbpobglaa
