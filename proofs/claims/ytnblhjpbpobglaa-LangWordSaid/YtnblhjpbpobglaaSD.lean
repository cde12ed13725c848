/- slices.Equal, syntax.Right. -/
import Derived.Test.YtnblhjpbpobglaaSC
set_option maxRecDepth 100000
set_option linter.unusedSimpArgs false
namespace Go.Proofs.Ytnblhjpbpobglaa
open Go.Am

theorem equal_spec (H : AHeap) (va vb : AV) (xs ys : List Int) (hbig : xs.length < 9223372036854775808) (hx : Ints H va xs) (hy : Ints H vb ys) (K : AV → AHeap → Prop)
   (hK : ∀ b, (b = true ↔ xs = ys) → K (.bool b) H) : WF P0 62 [va, vb] H K := by
  have hla := hx.lenOf
  have hlb := hy.lenOf
  refine zWF rfl rfl rfl ?_
  simp only [a62, hla, hlb, zz, env0, aPure, aRead, aNew, aEff, aval, avals, aparts, aopt, wantedA, binA, isShift, binI, fillA, single, aRes, splice, mkv, unA, binS, sameAt, reduceCtorEq, reduceIte, Int.reduceEq, Int.reduceLT, Int.reduceLE, Int.reduceNe, Nat.reduceEqDiff, Nat.reduceLT, Nat.reduceAdd, Nat.reduceMul, Nat.reduceSub, Nat.reduceLeDiff, Int.reduceBEq, Int.reduceBNe, Nat.reduceBEq, Nat.reduceBNe, Int.reduceToNat]
  refine onB_of (fun h => ?_) (fun h => ?_)
  · have : xs ≠ ys := by intro e; subst e; simp at h
    simp only [zz, env0, aPure, aRead, aNew, aEff, aval, avals, aparts, aopt, wantedA, binA, isShift, binI, fillA, single, aRes, splice, mkv, unA, binS, sameAt, reduceCtorEq, reduceIte, Int.reduceEq, Int.reduceLT, Int.reduceLE, Int.reduceNe, Nat.reduceEqDiff, Nat.reduceLT, Nat.reduceAdd, Nat.reduceMul, Nat.reduceSub, Nat.reduceLeDiff, Int.reduceBEq, Int.reduceBNe, Nat.reduceBEq, Nat.reduceBNe, Int.reduceToNat]
    exact hK _ (by simp [this])
  · have hnm : xs.length = ys.length := by
      have h' : (xs.length : Int) = ys.length := by simpa [bne_iff_ne] using h
      omega
    simp only [hla, zz, env0, aPure, aRead, aNew, aEff, aval, avals, aparts, aopt, wantedA, binA, isShift, binI, fillA, single, aRes, splice, mkv, unA, binS, sameAt, reduceCtorEq, reduceIte, Int.reduceEq, Int.reduceLT, Int.reduceLE, Int.reduceNe, Nat.reduceEqDiff, Nat.reduceLT, Nat.reduceAdd, Nat.reduceMul, Nat.reduceSub, Nat.reduceLeDiff, Int.reduceBEq, Int.reduceBNe, Nat.reduceBEq, Nat.reduceBNe, Int.reduceToNat]
    refine WCL (fun r env H' => H' = H ∧ ∃ (k : Nat) (a3 a4 a7 a8 : AV), k ≤ xs.length ∧ r = xs.length - k ∧ xs.take k = ys.take k ∧ env = [va, vb, .bool false, a3, a4, .int .i64 xs.length, .int .i64 k, a7, a8]) (n := xs.length)
      ⟨rfl, 0, _, _, _, _, Nat.zero_le _, rfl, rfl, rfl⟩ ?_
    rintro r env H' ⟨rfl, k, a3, a4, a7, a8, hk, rfl, htk, rfl⟩
    simp only [zz, env0, aPure, aRead, aNew, aEff, aval, avals, aparts, aopt, wantedA, binA, isShift, binI, fillA, single, aRes, splice, mkv, unA, binS, sameAt, reduceCtorEq, reduceIte, Int.reduceEq, Int.reduceLT, Int.reduceLE, Int.reduceNe, Nat.reduceEqDiff, Nat.reduceLT, Nat.reduceAdd, Nat.reduceMul, Nat.reduceSub, Nat.reduceLeDiff, Int.reduceBEq, Int.reduceBNe, Nat.reduceBEq, Nat.reduceBNe, Int.reduceToNat]
    refine onB_of (fun hlt => ?_) (fun hlt => ?_)
    · have hlt : k < xs.length := by simpa using hlt
      obtain ⟨x, hxk⟩ : ∃ x, xs[k]? = some x := ⟨xs[k], List.getElem?_eq_getElem (by omega)⟩
      obtain ⟨y, hyk⟩ : ∃ y, ys[k]? = some y := ⟨ys[k], List.getElem?_eq_getElem (by omega)⟩
      obtain ⟨i, o, rfl, h1⟩ := hx.int hxk
      obtain ⟨j, q, rfl, h2⟩ := hy.int hyk
      have hw : IntKind.i64.wrap ((k : Int) + 1) = ((k + 1 : Nat) : Int) := by rw [wrap_i64 (by omega) (by omega)]; rfl
      have hk0 : (0 : Int) ≤ k := by omega
      have hk1 : (k : Int) < xs.length := by omega
      have hk2 : (k : Int) < ys.length := by omega
      simp only [Nat.mul_one, h1, h2, hk0, hk1, hk2, hw, zz, env0, aPure, aRead, aNew, aEff, aval, avals, aparts, aopt, wantedA, binA, isShift, binI, fillA, single, aRes, splice, mkv, unA, binS, sameAt, reduceCtorEq, reduceIte, Int.reduceEq, Int.reduceLT, Int.reduceLE, Int.reduceNe, Nat.reduceEqDiff, Nat.reduceLT, Nat.reduceAdd, Nat.reduceMul, Nat.reduceSub, Nat.reduceLeDiff, Int.reduceBEq, Int.reduceBNe, Nat.reduceBEq, Nat.reduceBNe, Int.reduceToNat]
      have hxe : xs[k]'(by omega) = x := by rw [List.getElem?_eq_getElem (by omega)] at hxk; simpa using hxk
      have hye : ys[k]'(by omega) = y := by rw [List.getElem?_eq_getElem (by omega)] at hyk; simpa using hyk
      refine onB_of (fun hne => ?_) (fun he => ?_)
      · simp only [zz, env0, aPure, aRead, aNew, aEff, aval, avals, aparts, aopt, wantedA, binA, isShift, binI, fillA, single, aRes, splice, mkv, unA, binS, sameAt, reduceCtorEq, reduceIte, Int.reduceEq, Int.reduceLT, Int.reduceLE, Int.reduceNe, Nat.reduceEqDiff, Nat.reduceLT, Nat.reduceAdd, Nat.reduceMul, Nat.reduceSub, Nat.reduceLeDiff, Int.reduceBEq, Int.reduceBNe, Nat.reduceBEq, Nat.reduceBNe, Int.reduceToNat]
        have hne : x ≠ y := by simpa using hne
        refine hK _ ?_
        simp only [Bool.false_eq_true, false_iff]
        intro e; subst e
        rw [hxk] at hyk; simp only [Option.some.injEq] at hyk; exact hne hyk
      · simp only [hw, zz, env0, aPure, aRead, aNew, aEff, aval, avals, aparts, aopt, wantedA, binA, isShift, binI, fillA, single, aRes, splice, mkv, unA, binS, sameAt, reduceCtorEq, reduceIte, Int.reduceEq, Int.reduceLT, Int.reduceLE, Int.reduceNe, Nat.reduceEqDiff, Nat.reduceLT, Nat.reduceAdd, Nat.reduceMul, Nat.reduceSub, Nat.reduceLeDiff, Int.reduceBEq, Int.reduceBNe, Nat.reduceBEq, Nat.reduceBNe, Int.reduceToNat]
        have he : x = y := by simpa using he
        refine ⟨xs.length - (k + 1), by omega, k + 1, _, _, _, _, by omega, rfl, ?_, rfl⟩
        rw [List.take_succ_eq_append_getElem (by omega), List.take_succ_eq_append_getElem (by omega), htk, hxe, hye, he]
    · have hkn : k = xs.length := by
        have : ¬ ((k : Int) < xs.length) := by simpa using hlt
        omega
      subst hkn
      simp only [zz, env0, aPure, aRead, aNew, aEff, aval, avals, aparts, aopt, wantedA, binA, isShift, binI, fillA, single, aRes, splice, mkv, unA, binS, sameAt, reduceCtorEq, reduceIte, Int.reduceEq, Int.reduceLT, Int.reduceLE, Int.reduceNe, Nat.reduceEqDiff, Nat.reduceLT, Nat.reduceAdd, Nat.reduceMul, Nat.reduceSub, Nat.reduceLeDiff, Int.reduceBEq, Int.reduceBNe, Nat.reduceBEq, Nat.reduceBNe, Int.reduceToNat]
      rw [List.take_of_length_le (by omega), List.take_of_length_le (by omega)] at htk
      exact hK _ (by simp [htk])
end Go.Proofs.Ytnblhjpbpobglaa
