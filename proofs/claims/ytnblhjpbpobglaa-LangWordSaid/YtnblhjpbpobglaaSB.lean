/- Names. -/
import Derived.Test.YtnblhjpbpobglaaBase
import Derived.Test.YtnblhjpbpobglaaAmZE
set_option maxRecDepth 100000
set_option linter.unusedSimpArgs false
namespace Go.Proofs.Ytnblhjpbpobglaa
open Go.Am

def digitB (c : Int) : Bool := decide (48 ≤ c) && decide (c ≤ 57)
def letterB (c : Int) : Bool := (decide (97 ≤ c) && decide (c ≤ 122)) || (decide (65 ≤ c) && decide (c ≤ 90)) || decide (c = 95)

theorem digit_spec (H : AHeap) (c : Int) (K : AV → AHeap → Prop) (hK : K (.bool (digitB c)) H) : WF P0 79 [.int .u8 c] H K := by
  refine zWF rfl rfl rfl ?_
  simp only [a79, zz, env0, aPure, aRead, aNew, aEff, aval, avals, aparts, aopt, wantedA, binA, isShift, binI, fillA, single, aRes, splice, mkv, unA, binS, sameAt, reduceCtorEq, reduceIte, Int.reduceEq, Int.reduceLT, Int.reduceLE, Int.reduceNe, Nat.reduceEqDiff, Nat.reduceLT, Nat.reduceAdd, Nat.reduceMul, Nat.reduceSub, Nat.reduceLeDiff, Int.reduceBEq, Int.reduceBNe, Nat.reduceBEq, Nat.reduceBNe, Int.reduceToNat]
  refine onG_t (fun h => ?_) (fun h => ?_)
  · simp only [h, zz, env0, aPure, aRead, aNew, aEff, aval, avals, aparts, aopt, wantedA, binA, isShift, binI, fillA, single, aRes, splice, mkv, unA, binS, sameAt, reduceCtorEq, reduceIte, Int.reduceEq, Int.reduceLT, Int.reduceLE, Int.reduceNe, Nat.reduceEqDiff, Nat.reduceLT, Nat.reduceAdd, Nat.reduceMul, Nat.reduceSub, Nat.reduceLeDiff, Int.reduceBEq, Int.reduceBNe, Nat.reduceBEq, Nat.reduceBNe, Int.reduceToNat]
    simpa [digitB, h] using hK
  · simp only [h, zz, env0, aPure, aRead, aNew, aEff, aval, avals, aparts, aopt, wantedA, binA, isShift, binI, fillA, single, aRes, splice, mkv, unA, binS, sameAt, reduceCtorEq, reduceIte, Int.reduceEq, Int.reduceLT, Int.reduceLE, Int.reduceNe, Nat.reduceEqDiff, Nat.reduceLT, Nat.reduceAdd, Nat.reduceMul, Nat.reduceSub, Nat.reduceLeDiff, Int.reduceBEq, Int.reduceBNe, Nat.reduceBEq, Nat.reduceBNe, Int.reduceToNat]
    simpa [digitB, h] using hK

theorem letter_spec (H : AHeap) (c : Int) (K : AV → AHeap → Prop) (hK : K (.bool (letterB c)) H) : WF P0 78 [.int .u8 c] H K := by
  refine zWF rfl rfl rfl ?_
  by_cases h1 : 97 ≤ c <;> by_cases h2 : c ≤ 122 <;> by_cases h3 : 65 ≤ c <;> by_cases h4 : c ≤ 90 <;> by_cases h5 : c = 95 <;> simp [h1, h2, h3, h4, h5, letterB] at hK <;>
  first | (exfalso; omega) | (simp only [a78, ieq, ge_iff_le, gt_iff_lt, h1, h2, h3, h4, h5, decide_true, decide_false, zz, env0, aPure, aRead, aNew, aEff, aval, avals, aparts, aopt, wantedA, binA, isShift, binI, fillA, single, aRes, splice, mkv, unA, binS, sameAt, reduceCtorEq, reduceIte, Int.reduceEq, Int.reduceLT, Int.reduceLE, Int.reduceNe, Nat.reduceEqDiff, Nat.reduceLT, Nat.reduceAdd, Nat.reduceMul, Nat.reduceSub, Nat.reduceLeDiff, Int.reduceBEq, Int.reduceBNe, Nat.reduceBEq, Nat.reduceBNe, Int.reduceToNat]; simp_all; done) | skip

/-- Is a byte at a place one of a name? -/
def nameAt (s : List UInt8) (k : Nat) : Bool := match s[k]? with
  | some c => letterB c.toNat || (k != 0 && digitB c.toNat)
  | none => false
def nameB (s : List UInt8) : Bool := (List.range s.length).all (nameAt s) && (decide (1 ≤ s.length) && decide (s.length ≤ 32))

theorem name_spec (H : AHeap) (s : List UInt8) (hs : s.length < 9223372036854775808) (K : AV → AHeap → Prop) (hK : K (.bool (nameB s)) H) : WF P0 68 [.str s] H K := by
  refine zWF rfl rfl rfl ?_
  simp only [a68, zz, env0, aPure, aRead, aNew, aEff, aval, avals, aparts, aopt, wantedA, binA, isShift, binI, fillA, single, aRes, splice, mkv, unA, binS, sameAt, reduceCtorEq, reduceIte, Int.reduceEq, Int.reduceLT, Int.reduceLE, Int.reduceNe, Nat.reduceEqDiff, Nat.reduceLT, Nat.reduceAdd, Nat.reduceMul, Nat.reduceSub, Nat.reduceLeDiff, Int.reduceBEq, Int.reduceBNe, Nat.reduceBEq, Nat.reduceBNe, Int.reduceToNat]
  refine WC_loop (fun r env H' => H' = H ∧ ∃ (k : Nat) (a2 a5 a6 : AV), k ≤ s.length ∧ r = s.length - k ∧ (∀ j, j < k → nameAt s j = true) ∧ env = [.str s, .bool false, a2, .int .i64 s.length, .int .i64 k, a5, a6]) ?_ s.length _ _
      ⟨rfl, 0, _, _, _, Nat.zero_le _, rfl, by simp, rfl⟩
  rintro r env H' ⟨rfl, k, a2, a5, a6, hk, rfl, hall, rfl⟩
  simp only [zz, env0, aPure, aRead, aNew, aEff, aval, avals, aparts, aopt, wantedA, binA, isShift, binI, fillA, single, aRes, splice, mkv, unA, binS, sameAt, reduceCtorEq, reduceIte, Int.reduceEq, Int.reduceLT, Int.reduceLE, Int.reduceNe, Nat.reduceEqDiff, Nat.reduceLT, Nat.reduceAdd, Nat.reduceMul, Nat.reduceSub, Nat.reduceLeDiff, Int.reduceBEq, Int.reduceBNe, Nat.reduceBEq, Nat.reduceBNe, Int.reduceToNat]
  refine onB_of (fun hlt => ?_) (fun hlt => ?_)
  · have hlt : k < s.length := by simpa using hlt
    obtain ⟨c, hc⟩ : ∃ c, s[k]? = some c := ⟨s[k], List.getElem?_eq_getElem hlt⟩
    have hw : IntKind.i64.wrap ((k : Int) + 1) = ((k + 1 : Nat) : Int) := by rw [wrap_i64 (by omega) (by omega)]; rfl
    have hc0 : (0 : Int) ≤ k := by omega
    simp only [hc, hc0, zz, env0, aPure, aRead, aNew, aEff, aval, avals, aparts, aopt, wantedA, binA, isShift, binI, fillA, single, aRes, splice, mkv, unA, binS, sameAt, reduceCtorEq, reduceIte, Int.reduceEq, Int.reduceLT, Int.reduceLE, Int.reduceNe, Nat.reduceEqDiff, Nat.reduceLT, Nat.reduceAdd, Nat.reduceMul, Nat.reduceSub, Nat.reduceLeDiff, Int.reduceBEq, Int.reduceBNe, Nat.reduceBEq, Nat.reduceBNe, Int.reduceToNat]
    refine letter_spec _ _ _ ?_
    have hk0 : ((k : Int) == 0) = decide (k = 0) := by rw [ieq]; simp
    have stop : nameAt s k = false → K (.bool false) H' := fun hn => by
      have : nameB s = false := by
        simp only [nameB, Bool.and_eq_false_iff]
        left
        rw [List.all_eq_false]
        exact ⟨k, List.mem_range.2 hlt, by simp [hn]⟩
      rw [← this]; exact hK
    cases hL : letterB c.toNat <;> cases hz : decide (k = 0)
    all_goals simp only [hk0, hz, hw, hc, hc0, zz, env0, aPure, aRead, aNew, aEff, aval, avals, aparts, aopt, wantedA, binA, isShift, binI, fillA, single, aRes, splice, mkv, unA, binS, sameAt, reduceCtorEq, reduceIte, Int.reduceEq, Int.reduceLT, Int.reduceLE, Int.reduceNe, Nat.reduceEqDiff, Nat.reduceLT, Nat.reduceAdd, Nat.reduceMul, Nat.reduceSub, Nat.reduceLeDiff, Int.reduceBEq, Int.reduceBNe, Nat.reduceBEq, Nat.reduceBNe, Int.reduceToNat]
    · refine digit_spec _ _ _ ?_
      cases hD : digitB c.toNat
      all_goals simp only [hw, zz, env0, aPure, aRead, aNew, aEff, aval, avals, aparts, aopt, wantedA, binA, isShift, binI, fillA, single, aRes, splice, mkv, unA, binS, sameAt, reduceCtorEq, reduceIte, Int.reduceEq, Int.reduceLT, Int.reduceLE, Int.reduceNe, Nat.reduceEqDiff, Nat.reduceLT, Nat.reduceAdd, Nat.reduceMul, Nat.reduceSub, Nat.reduceLeDiff, Int.reduceBEq, Int.reduceBNe, Nat.reduceBEq, Nat.reduceBNe, Int.reduceToNat]
      · intro _; exact stop (by simp [nameAt, hc, hL, hD])
      · refine ⟨⟨s.length - (k + 1), by omega, k + 1, _, _, _, by omega, rfl, fun j hj => ?_, rfl⟩, fun h => absurd rfl h⟩
        by_cases e : j = k
        · subst e; simp at hz; simp [nameAt, hc, hL, hD, hz]
        · exact hall j (by omega)
    · intro _; simp at hz; subst hz; exact stop (by simp [nameAt, hc, hL])
    all_goals
      refine ⟨⟨s.length - (k + 1), by omega, k + 1, _, _, _, by omega, rfl, fun j hj => ?_, rfl⟩, fun h => absurd rfl h⟩
      by_cases e : j = k
      · subst e; simp [nameAt, hc, hL]
      · exact hall j (by omega)
  · have hkn : k = s.length := by
      have : ¬ ((k : Int) < s.length) := by simpa using hlt
      omega
    subst hkn
    have hall' : (List.range s.length).all (nameAt s) = true := by
      rw [List.all_eq_true]; intro j hj; exact hall j (List.mem_range.1 hj)
    simp only [hlt, zz, env0, aPure, aRead, aNew, aEff, aval, avals, aparts, aopt, wantedA, binA, isShift, binI, fillA, single, aRes, splice, mkv, unA, binS, sameAt, reduceCtorEq, reduceIte, Int.reduceEq, Int.reduceLT, Int.reduceLE, Int.reduceNe, Nat.reduceEqDiff, Nat.reduceLT, Nat.reduceAdd, Nat.reduceMul, Nat.reduceSub, Nat.reduceLeDiff, Int.reduceBEq, Int.reduceBNe, Nat.reduceBEq, Nat.reduceBNe, Int.reduceToNat]
    intro _
    refine onG_t (fun h => ?_) (fun h => ?_)
    · simp only [h, zz, env0, aPure, aRead, aNew, aEff, aval, avals, aparts, aopt, wantedA, binA, isShift, binI, fillA, single, aRes, splice, mkv, unA, binS, sameAt, reduceCtorEq, reduceIte, Int.reduceEq, Int.reduceLT, Int.reduceLE, Int.reduceNe, Nat.reduceEqDiff, Nat.reduceLT, Nat.reduceAdd, Nat.reduceMul, Nat.reduceSub, Nat.reduceLeDiff, Int.reduceBEq, Int.reduceBNe, Nat.reduceBEq, Nat.reduceBNe, Int.reduceToNat]
      have h1 : 1 ≤ s.length := by simp at h; omega
      have : (decide ((s.length : Int) ≤ 32)) = nameB s := by simp only [nameB, hall', Bool.true_and]; simp [h1]; omega
      rw [this]; exact hK
    · simp only [h, zz, env0, aPure, aRead, aNew, aEff, aval, avals, aparts, aopt, wantedA, binA, isShift, binI, fillA, single, aRes, splice, mkv, unA, binS, sameAt, reduceCtorEq, reduceIte, Int.reduceEq, Int.reduceLT, Int.reduceLE, Int.reduceNe, Nat.reduceEqDiff, Nat.reduceLT, Nat.reduceAdd, Nat.reduceMul, Nat.reduceSub, Nat.reduceLeDiff, Int.reduceBEq, Int.reduceBNe, Nat.reduceBEq, Nat.reduceBNe, Int.reduceToNat]
      have h1 : ¬ 1 ≤ s.length := by simp at h; omega
      have : false = nameB s := by simp only [nameB, hall', Bool.true_and]; simp [h1]
      rw [this]; exact hK
end Go.Proofs.Ytnblhjpbpobglaa
