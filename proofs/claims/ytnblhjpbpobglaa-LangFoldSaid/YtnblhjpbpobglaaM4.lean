/- Texts put to one: SB SC SD SE SF SG SH SI SK SL SM SN SO SP. -/
import Derived.Test.YtnblhjpbpobglaaM3
import Derived.Test.YtnblhjpbpobglaaM2

/- Names. -/
set_option maxRecDepth 100000
set_option linter.unusedSimpArgs false
namespace Go.Proofs.Ytnblhjpbpobglaa
open Go.Am

def digitB (c : Int) : Bool := decide (48 ≤ c) && decide (c ≤ 57)
def letterB (c : Int) : Bool := (decide (97 ≤ c) && decide (c ≤ 122)) || (decide (65 ≤ c) && decide (c ≤ 90)) || decide (c = 95)

theorem digit_spec (H : AHeap) (c : Int) (K : AV → AHeap → Prop) (hK : K (.bool (digitB c)) H) : WF P0 79 [.int .u8 c] H K := by
  refine zWF rfl rfl rfl ?_
  simp only [a79, zz, env0, aPure, aRead, aNew, aEff, aval, avals, aparts, aopt, wantedA, binA, isShift, binI, fillA, single, aRes, splice, mkv, unA, binS, sameAt, reduceCtorEq, reduceIte, Int.reduceEq, Int.reduceLT, Int.reduceLE, Int.reduceNe, Nat.reduceEqDiff, Nat.reduceLT, Nat.reduceAdd, Nat.reduceMul, Nat.reduceSub, Nat.reduceLeDiff, Int.reduceBEq, Int.reduceBNe, Nat.reduceBEq, Nat.reduceBNe, Int.reduceToNat]
  refine onG_t (fun h => ?_) (fun h => ?_)
  · simp only [h, zz, env0, aPure, aRead, aNew, aEff, aval, avals, aparts, aopt, wantedA, binA, isShift, binI, fillA, single, aRes, splice, mkv, unA, binS, sameAt, reduceCtorEq, reduceIte, Int.reduceEq, Int.reduceLT, Int.reduceLE, Int.reduceNe, Nat.reduceEqDiff, Nat.reduceLT, Nat.reduceAdd, Nat.reduceMul, Nat.reduceSub, Nat.reduceLeDiff, Int.reduceBEq, Int.reduceBNe, Nat.reduceBEq, Nat.reduceBNe, Int.reduceToNat]
    simpa [digitB, h] using hK
  · simp only [h, zz, env0, aPure, aRead, aNew, aEff, aval, avals, aparts, aopt, wantedA, binA, isShift, binI, fillA, single, aRes, splice, mkv, unA, binS, sameAt, reduceCtorEq, reduceIte, Int.reduceEq, Int.reduceLT, Int.reduceLE, Int.reduceNe, Nat.reduceEqDiff, Nat.reduceLT, Nat.reduceAdd, Nat.reduceMul, Nat.reduceSub, Nat.reduceLeDiff, Int.reduceBEq, Int.reduceBNe, Nat.reduceBEq, Nat.reduceBNe, Int.reduceToNat]
    simpa [digitB, h] using hK

theorem letter_spec (H : AHeap) (c : Int) (K : AV → AHeap → Prop) (hK : K (.bool (letterB c)) H) : WF P0 78 [.int .u8 c] H K := by
  refine zWF rfl rfl rfl ?_
  by_cases h1 : 97 ≤ c <;> by_cases h2 : c ≤ 122 <;> by_cases h3 : 65 ≤ c <;> by_cases h4 : c ≤ 90 <;> by_cases h5 : c = 95 <;> simp [h1, h2, h3, h4, h5, letterB] at hK <;>
  first | (exfalso; omega) | (simp only [a78, ieq, ge_iff_le, gt_iff_lt, h1, h2, h3, h4, h5, decide_true, decide_false, zz, env0, aPure, aRead, aNew, aEff, aval, avals, aparts, aopt, wantedA, binA, isShift, binI, fillA, single, aRes, splice, mkv, unA, binS, sameAt, reduceCtorEq, reduceIte, Int.reduceEq, Int.reduceLT, Int.reduceLE, Int.reduceNe, Nat.reduceEqDiff, Nat.reduceLT, Nat.reduceAdd, Nat.reduceMul, Nat.reduceSub, Nat.reduceLeDiff, Int.reduceBEq, Int.reduceBNe, Nat.reduceBEq, Nat.reduceBNe, Int.reduceToNat]; simp_all; done) | skip

/-- Is a byte at a place one of a name? -/
def nameAt (s : List UInt8) (k : Nat) : Bool := match s[k]? with
  | some c => letterB c.toNat || (k != 0 && digitB c.toNat)
  | none => false
def nameB (s : List UInt8) : Bool := (List.range s.length).all (nameAt s) && (decide (1 ≤ s.length) && decide (s.length ≤ 32))

theorem name_spec (H : AHeap) (s : List UInt8) (hs : s.length < 9223372036854775808) (K : AV → AHeap → Prop) (hK : K (.bool (nameB s)) H) : WF P0 68 [.str s] H K := by
  refine zWF rfl rfl rfl ?_
  simp only [a68, zz, env0, aPure, aRead, aNew, aEff, aval, avals, aparts, aopt, wantedA, binA, isShift, binI, fillA, single, aRes, splice, mkv, unA, binS, sameAt, reduceCtorEq, reduceIte, Int.reduceEq, Int.reduceLT, Int.reduceLE, Int.reduceNe, Nat.reduceEqDiff, Nat.reduceLT, Nat.reduceAdd, Nat.reduceMul, Nat.reduceSub, Nat.reduceLeDiff, Int.reduceBEq, Int.reduceBNe, Nat.reduceBEq, Nat.reduceBNe, Int.reduceToNat]
  refine WC_loop (fun r env H' => H' = H ∧ ∃ (k : Nat) (a2 a5 a6 : AV), k ≤ s.length ∧ r = s.length - k ∧ (∀ j, j < k → nameAt s j = true) ∧ env = [.str s, .bool false, a2, .int .i64 s.length, .int .i64 k, a5, a6]) ?_ s.length _ _
      ⟨rfl, 0, _, _, _, Nat.zero_le _, rfl, by simp, rfl⟩
  rintro r env H' ⟨rfl, k, a2, a5, a6, hk, rfl, hall, rfl⟩
  simp only [zz, env0, aPure, aRead, aNew, aEff, aval, avals, aparts, aopt, wantedA, binA, isShift, binI, fillA, single, aRes, splice, mkv, unA, binS, sameAt, reduceCtorEq, reduceIte, Int.reduceEq, Int.reduceLT, Int.reduceLE, Int.reduceNe, Nat.reduceEqDiff, Nat.reduceLT, Nat.reduceAdd, Nat.reduceMul, Nat.reduceSub, Nat.reduceLeDiff, Int.reduceBEq, Int.reduceBNe, Nat.reduceBEq, Nat.reduceBNe, Int.reduceToNat]
  refine onB_of (fun hlt => ?_) (fun hlt => ?_)
  · have hlt : k < s.length := by simpa using hlt
    obtain ⟨c, hc⟩ : ∃ c, s[k]? = some c := ⟨s[k], List.getElem?_eq_getElem hlt⟩
    have hw : IntKind.i64.wrap ((k : Int) + 1) = ((k + 1 : Nat) : Int) := by rw [wrap_i64 (by omega) (by omega)]; rfl
    have hc0 : (0 : Int) ≤ k := by omega
    simp only [hc, hc0, zz, env0, aPure, aRead, aNew, aEff, aval, avals, aparts, aopt, wantedA, binA, isShift, binI, fillA, single, aRes, splice, mkv, unA, binS, sameAt, reduceCtorEq, reduceIte, Int.reduceEq, Int.reduceLT, Int.reduceLE, Int.reduceNe, Nat.reduceEqDiff, Nat.reduceLT, Nat.reduceAdd, Nat.reduceMul, Nat.reduceSub, Nat.reduceLeDiff, Int.reduceBEq, Int.reduceBNe, Nat.reduceBEq, Nat.reduceBNe, Int.reduceToNat]
    refine letter_spec _ _ _ ?_
    have hk0 : ((k : Int) == 0) = decide (k = 0) := by rw [ieq]; simp
    have stop : nameAt s k = false → K (.bool false) H' := fun hn => by
      have : nameB s = false := by
        simp only [nameB, Bool.and_eq_false_iff]
        left
        rw [List.all_eq_false]
        exact ⟨k, List.mem_range.2 hlt, by simp [hn]⟩
      rw [← this]; exact hK
    cases hL : letterB c.toNat <;> cases hz : decide (k = 0)
    all_goals simp only [hk0, hz, hw, hc, hc0, zz, env0, aPure, aRead, aNew, aEff, aval, avals, aparts, aopt, wantedA, binA, isShift, binI, fillA, single, aRes, splice, mkv, unA, binS, sameAt, reduceCtorEq, reduceIte, Int.reduceEq, Int.reduceLT, Int.reduceLE, Int.reduceNe, Nat.reduceEqDiff, Nat.reduceLT, Nat.reduceAdd, Nat.reduceMul, Nat.reduceSub, Nat.reduceLeDiff, Int.reduceBEq, Int.reduceBNe, Nat.reduceBEq, Nat.reduceBNe, Int.reduceToNat]
    · refine digit_spec _ _ _ ?_
      cases hD : digitB c.toNat
      all_goals simp only [hw, zz, env0, aPure, aRead, aNew, aEff, aval, avals, aparts, aopt, wantedA, binA, isShift, binI, fillA, single, aRes, splice, mkv, unA, binS, sameAt, reduceCtorEq, reduceIte, Int.reduceEq, Int.reduceLT, Int.reduceLE, Int.reduceNe, Nat.reduceEqDiff, Nat.reduceLT, Nat.reduceAdd, Nat.reduceMul, Nat.reduceSub, Nat.reduceLeDiff, Int.reduceBEq, Int.reduceBNe, Nat.reduceBEq, Nat.reduceBNe, Int.reduceToNat]
      · intro _; exact stop (by simp [nameAt, hc, hL, hD])
      · refine ⟨⟨s.length - (k + 1), by omega, k + 1, _, _, _, by omega, rfl, fun j hj => ?_, rfl⟩, fun h => absurd rfl h⟩
        by_cases e : j = k
        · subst e; simp at hz; simp [nameAt, hc, hL, hD, hz]
        · exact hall j (by omega)
    · intro _; simp at hz; subst hz; exact stop (by simp [nameAt, hc, hL])
    all_goals
      refine ⟨⟨s.length - (k + 1), by omega, k + 1, _, _, _, by omega, rfl, fun j hj => ?_, rfl⟩, fun h => absurd rfl h⟩
      by_cases e : j = k
      · subst e; simp [nameAt, hc, hL]
      · exact hall j (by omega)
  · have hkn : k = s.length := by
      have : ¬ ((k : Int) < s.length) := by simpa using hlt
      omega
    subst hkn
    have hall' : (List.range s.length).all (nameAt s) = true := by
      rw [List.all_eq_true]; intro j hj; exact hall j (List.mem_range.1 hj)
    simp only [hlt, zz, env0, aPure, aRead, aNew, aEff, aval, avals, aparts, aopt, wantedA, binA, isShift, binI, fillA, single, aRes, splice, mkv, unA, binS, sameAt, reduceCtorEq, reduceIte, Int.reduceEq, Int.reduceLT, Int.reduceLE, Int.reduceNe, Nat.reduceEqDiff, Nat.reduceLT, Nat.reduceAdd, Nat.reduceMul, Nat.reduceSub, Nat.reduceLeDiff, Int.reduceBEq, Int.reduceBNe, Nat.reduceBEq, Nat.reduceBNe, Int.reduceToNat]
    intro _
    refine onG_t (fun h => ?_) (fun h => ?_)
    · simp only [h, zz, env0, aPure, aRead, aNew, aEff, aval, avals, aparts, aopt, wantedA, binA, isShift, binI, fillA, single, aRes, splice, mkv, unA, binS, sameAt, reduceCtorEq, reduceIte, Int.reduceEq, Int.reduceLT, Int.reduceLE, Int.reduceNe, Nat.reduceEqDiff, Nat.reduceLT, Nat.reduceAdd, Nat.reduceMul, Nat.reduceSub, Nat.reduceLeDiff, Int.reduceBEq, Int.reduceBNe, Nat.reduceBEq, Nat.reduceBNe, Int.reduceToNat]
      have h1 : 1 ≤ s.length := by simp at h; omega
      have : (decide ((s.length : Int) ≤ 32)) = nameB s := by simp only [nameB, hall', Bool.true_and]; simp [h1]; omega
      rw [this]; exact hK
    · simp only [h, zz, env0, aPure, aRead, aNew, aEff, aval, avals, aparts, aopt, wantedA, binA, isShift, binI, fillA, single, aRes, splice, mkv, unA, binS, sameAt, reduceCtorEq, reduceIte, Int.reduceEq, Int.reduceLT, Int.reduceLE, Int.reduceNe, Nat.reduceEqDiff, Nat.reduceLT, Nat.reduceAdd, Nat.reduceMul, Nat.reduceSub, Nat.reduceLeDiff, Int.reduceBEq, Int.reduceBNe, Nat.reduceBEq, Nat.reduceBNe, Int.reduceToNat]
      have h1 : ¬ 1 ≤ s.length := by simp at h; omega
      have : false = nameB s := by simp only [nameB, hall', Bool.true_and]; simp [h1]
      rw [this]; exact hK
end Go.Proofs.Ytnblhjpbpobglaa

/- syntax.shaped. -/
set_option maxRecDepth 100000
set_option linter.unusedSimpArgs false
namespace Go.Proofs.Ytnblhjpbpobglaa
open Go.Am

def Shaped (n : Nd) : Prop :=
  (n.op = 1 ∧ zeroS n ∧ n.kids = [] ∧ n.lo = 0 ∧ n.hi = 0 ∧ n.name = []) ∨
  (n.op = 2 ∧ ¬ zeroS n ∧ n.kids = [] ∧ n.lo = 0 ∧ n.hi = 0 ∧ n.name = []) ∨
  ((n.op = 3 ∨ n.op = 4) ∧ zeroS n ∧ 2 ≤ n.kids.length ∧ n.lo = 0 ∧ n.hi = 0 ∧ n.name = []) ∨
  (n.op = 5 ∧ zeroS n ∧ n.kids.length = 1 ∧ 0 ≤ n.lo ∧ n.lo ≤ 4096 ∧ (n.hi = -1 ∨ 1 ≤ n.hi ∧ n.lo ≤ n.hi ∧ n.hi ≤ 4096) ∧ n.name = []) ∨
  (n.op = 6 ∧ zeroS n ∧ n.kids = [] ∧ n.lo = 0 ∧ n.hi = 0 ∧ nameB n.name = true)

theorem shaped_spec (H : AHeap) (n : Nd) (kv : AV) (hok : n.Ok) (hkv : Ints H kv n.kids) (K : AV → AHeap → Prop) (hK : ∀ b H', Keeps H H' → (b = true ↔ Shaped n) → K (.bool b) H') : WF P0 67 [.agg (ndRow n kv)] H K := by
  have hl := hkv.lenOf
  refine zWF rfl rfl rfl ?_
  simp only [a67, ndRow, hl, zz, env0, aPure, aRead, aNew, aEff, aval, avals, aparts, aopt, wantedA, binA, isShift, binI, fillA, single, aRes, splice, mkv, unA, binS, sameAt, reduceCtorEq, reduceIte, Int.reduceEq, Int.reduceLT, Int.reduceLE, Int.reduceNe, Nat.reduceEqDiff, Nat.reduceLT, Nat.reduceAdd, Nat.reduceMul, Nat.reduceSub, Nat.reduceLeDiff, Int.reduceBEq, Int.reduceBNe, Nat.reduceBEq, Nat.reduceBNe, Int.reduceToNat]
  have hcase : n.op = 1 ∨ n.op = 2 ∨ n.op = 3 ∨ n.op = 4 ∨ n.op = 5 ∨ n.op = 6 ∨ (n.op ≠ 1 ∧ n.op ≠ 2 ∧ n.op ≠ 3 ∧ n.op ≠ 4 ∧ n.op ≠ 5 ∧ n.op ≠ 6) := by omega
  rcases hcase with ho | ho | ho | ho | ho | ho | ⟨o1, o2, o3, o4, o5, o6⟩
  · simp only [ho, zz, env0, aPure, aRead, aNew, aEff, aval, avals, aparts, aopt, wantedA, binA, isShift, binI, fillA, single, aRes, splice, mkv, unA, binS, sameAt, reduceCtorEq, reduceIte, Int.reduceEq, Int.reduceLT, Int.reduceLE, Int.reduceNe, Nat.reduceEqDiff, Nat.reduceLT, Nat.reduceAdd, Nat.reduceMul, Nat.reduceSub, Nat.reduceLeDiff, Int.reduceBEq, Int.reduceBNe, Nat.reduceBEq, Nat.reduceBNe, Int.reduceToNat]
    repeat' (first | (refine onB_of (fun h => ?_) (fun h => ?_) <;> (simp only [h, zz, env0, aPure, aRead, aNew, aEff, aval, avals, aparts, aopt, wantedA, binA, isShift, binI, fillA, single, aRes, splice, mkv, unA, binS, sameAt, reduceCtorEq, reduceIte, Int.reduceEq, Int.reduceLT, Int.reduceLE, Int.reduceNe, Nat.reduceEqDiff, Nat.reduceLT, Nat.reduceAdd, Nat.reduceMul, Nat.reduceSub, Nat.reduceLeDiff, Int.reduceBEq, Int.reduceBNe, Nat.reduceBEq, Nat.reduceBNe, Int.reduceToNat])) | (refine onG_t (fun h => ?_) (fun h => ?_) <;> (simp only [h, zz, env0, aPure, aRead, aNew, aEff, aval, avals, aparts, aopt, wantedA, binA, isShift, binI, fillA, single, aRes, splice, mkv, unA, binS, sameAt, reduceCtorEq, reduceIte, Int.reduceEq, Int.reduceLT, Int.reduceLE, Int.reduceNe, Nat.reduceEqDiff, Nat.reduceLT, Nat.reduceAdd, Nat.reduceMul, Nat.reduceSub, Nat.reduceLeDiff, Int.reduceBEq, Int.reduceBNe, Nat.reduceBEq, Nat.reduceBNe, Int.reduceToNat])) | (refine onG_f (fun h => ?_) (fun h => ?_) <;> (simp only [h, zz, env0, aPure, aRead, aNew, aEff, aval, avals, aparts, aopt, wantedA, binA, isShift, binI, fillA, single, aRes, splice, mkv, unA, binS, sameAt, reduceCtorEq, reduceIte, Int.reduceEq, Int.reduceLT, Int.reduceLE, Int.reduceNe, Nat.reduceEqDiff, Nat.reduceLT, Nat.reduceAdd, Nat.reduceMul, Nat.reduceSub, Nat.reduceLeDiff, Int.reduceBEq, Int.reduceBNe, Nat.reduceBEq, Nat.reduceBNe, Int.reduceToNat])))
    all_goals (refine hK _ _ (Keeps.p2 _ _ _) ?_; clear hK; simp_all [Shaped, zeroS] <;> omega)
  · simp only [ho, zz, env0, aPure, aRead, aNew, aEff, aval, avals, aparts, aopt, wantedA, binA, isShift, binI, fillA, single, aRes, splice, mkv, unA, binS, sameAt, reduceCtorEq, reduceIte, Int.reduceEq, Int.reduceLT, Int.reduceLE, Int.reduceNe, Nat.reduceEqDiff, Nat.reduceLT, Nat.reduceAdd, Nat.reduceMul, Nat.reduceSub, Nat.reduceLeDiff, Int.reduceBEq, Int.reduceBNe, Nat.reduceBEq, Nat.reduceBNe, Int.reduceToNat]
    repeat' (first | (refine onB_of (fun h => ?_) (fun h => ?_) <;> (simp only [h, zz, env0, aPure, aRead, aNew, aEff, aval, avals, aparts, aopt, wantedA, binA, isShift, binI, fillA, single, aRes, splice, mkv, unA, binS, sameAt, reduceCtorEq, reduceIte, Int.reduceEq, Int.reduceLT, Int.reduceLE, Int.reduceNe, Nat.reduceEqDiff, Nat.reduceLT, Nat.reduceAdd, Nat.reduceMul, Nat.reduceSub, Nat.reduceLeDiff, Int.reduceBEq, Int.reduceBNe, Nat.reduceBEq, Nat.reduceBNe, Int.reduceToNat])) | (refine onG_t (fun h => ?_) (fun h => ?_) <;> (simp only [h, zz, env0, aPure, aRead, aNew, aEff, aval, avals, aparts, aopt, wantedA, binA, isShift, binI, fillA, single, aRes, splice, mkv, unA, binS, sameAt, reduceCtorEq, reduceIte, Int.reduceEq, Int.reduceLT, Int.reduceLE, Int.reduceNe, Nat.reduceEqDiff, Nat.reduceLT, Nat.reduceAdd, Nat.reduceMul, Nat.reduceSub, Nat.reduceLeDiff, Int.reduceBEq, Int.reduceBNe, Nat.reduceBEq, Nat.reduceBNe, Int.reduceToNat])) | (refine onG_f (fun h => ?_) (fun h => ?_) <;> (simp only [h, zz, env0, aPure, aRead, aNew, aEff, aval, avals, aparts, aopt, wantedA, binA, isShift, binI, fillA, single, aRes, splice, mkv, unA, binS, sameAt, reduceCtorEq, reduceIte, Int.reduceEq, Int.reduceLT, Int.reduceLE, Int.reduceNe, Nat.reduceEqDiff, Nat.reduceLT, Nat.reduceAdd, Nat.reduceMul, Nat.reduceSub, Nat.reduceLeDiff, Int.reduceBEq, Int.reduceBNe, Nat.reduceBEq, Nat.reduceBNe, Int.reduceToNat])))
    all_goals (refine hK _ _ (Keeps.p2 _ _ _) ?_; clear hK; simp_all [Shaped, zeroS] <;> omega)
  · simp only [ho, zz, env0, aPure, aRead, aNew, aEff, aval, avals, aparts, aopt, wantedA, binA, isShift, binI, fillA, single, aRes, splice, mkv, unA, binS, sameAt, reduceCtorEq, reduceIte, Int.reduceEq, Int.reduceLT, Int.reduceLE, Int.reduceNe, Nat.reduceEqDiff, Nat.reduceLT, Nat.reduceAdd, Nat.reduceMul, Nat.reduceSub, Nat.reduceLeDiff, Int.reduceBEq, Int.reduceBNe, Nat.reduceBEq, Nat.reduceBNe, Int.reduceToNat]
    repeat' (first | (refine onB_of (fun h => ?_) (fun h => ?_) <;> (simp only [h, zz, env0, aPure, aRead, aNew, aEff, aval, avals, aparts, aopt, wantedA, binA, isShift, binI, fillA, single, aRes, splice, mkv, unA, binS, sameAt, reduceCtorEq, reduceIte, Int.reduceEq, Int.reduceLT, Int.reduceLE, Int.reduceNe, Nat.reduceEqDiff, Nat.reduceLT, Nat.reduceAdd, Nat.reduceMul, Nat.reduceSub, Nat.reduceLeDiff, Int.reduceBEq, Int.reduceBNe, Nat.reduceBEq, Nat.reduceBNe, Int.reduceToNat])) | (refine onG_t (fun h => ?_) (fun h => ?_) <;> (simp only [h, zz, env0, aPure, aRead, aNew, aEff, aval, avals, aparts, aopt, wantedA, binA, isShift, binI, fillA, single, aRes, splice, mkv, unA, binS, sameAt, reduceCtorEq, reduceIte, Int.reduceEq, Int.reduceLT, Int.reduceLE, Int.reduceNe, Nat.reduceEqDiff, Nat.reduceLT, Nat.reduceAdd, Nat.reduceMul, Nat.reduceSub, Nat.reduceLeDiff, Int.reduceBEq, Int.reduceBNe, Nat.reduceBEq, Nat.reduceBNe, Int.reduceToNat])) | (refine onG_f (fun h => ?_) (fun h => ?_) <;> (simp only [h, zz, env0, aPure, aRead, aNew, aEff, aval, avals, aparts, aopt, wantedA, binA, isShift, binI, fillA, single, aRes, splice, mkv, unA, binS, sameAt, reduceCtorEq, reduceIte, Int.reduceEq, Int.reduceLT, Int.reduceLE, Int.reduceNe, Nat.reduceEqDiff, Nat.reduceLT, Nat.reduceAdd, Nat.reduceMul, Nat.reduceSub, Nat.reduceLeDiff, Int.reduceBEq, Int.reduceBNe, Nat.reduceBEq, Nat.reduceBNe, Int.reduceToNat])))
    all_goals (refine hK _ _ (Keeps.p2 _ _ _) ?_; clear hK; simp_all [Shaped, zeroS] <;> omega)
  · simp only [ho, zz, env0, aPure, aRead, aNew, aEff, aval, avals, aparts, aopt, wantedA, binA, isShift, binI, fillA, single, aRes, splice, mkv, unA, binS, sameAt, reduceCtorEq, reduceIte, Int.reduceEq, Int.reduceLT, Int.reduceLE, Int.reduceNe, Nat.reduceEqDiff, Nat.reduceLT, Nat.reduceAdd, Nat.reduceMul, Nat.reduceSub, Nat.reduceLeDiff, Int.reduceBEq, Int.reduceBNe, Nat.reduceBEq, Nat.reduceBNe, Int.reduceToNat]
    repeat' (first | (refine onB_of (fun h => ?_) (fun h => ?_) <;> (simp only [h, zz, env0, aPure, aRead, aNew, aEff, aval, avals, aparts, aopt, wantedA, binA, isShift, binI, fillA, single, aRes, splice, mkv, unA, binS, sameAt, reduceCtorEq, reduceIte, Int.reduceEq, Int.reduceLT, Int.reduceLE, Int.reduceNe, Nat.reduceEqDiff, Nat.reduceLT, Nat.reduceAdd, Nat.reduceMul, Nat.reduceSub, Nat.reduceLeDiff, Int.reduceBEq, Int.reduceBNe, Nat.reduceBEq, Nat.reduceBNe, Int.reduceToNat])) | (refine onG_t (fun h => ?_) (fun h => ?_) <;> (simp only [h, zz, env0, aPure, aRead, aNew, aEff, aval, avals, aparts, aopt, wantedA, binA, isShift, binI, fillA, single, aRes, splice, mkv, unA, binS, sameAt, reduceCtorEq, reduceIte, Int.reduceEq, Int.reduceLT, Int.reduceLE, Int.reduceNe, Nat.reduceEqDiff, Nat.reduceLT, Nat.reduceAdd, Nat.reduceMul, Nat.reduceSub, Nat.reduceLeDiff, Int.reduceBEq, Int.reduceBNe, Nat.reduceBEq, Nat.reduceBNe, Int.reduceToNat])) | (refine onG_f (fun h => ?_) (fun h => ?_) <;> (simp only [h, zz, env0, aPure, aRead, aNew, aEff, aval, avals, aparts, aopt, wantedA, binA, isShift, binI, fillA, single, aRes, splice, mkv, unA, binS, sameAt, reduceCtorEq, reduceIte, Int.reduceEq, Int.reduceLT, Int.reduceLE, Int.reduceNe, Nat.reduceEqDiff, Nat.reduceLT, Nat.reduceAdd, Nat.reduceMul, Nat.reduceSub, Nat.reduceLeDiff, Int.reduceBEq, Int.reduceBNe, Nat.reduceBEq, Nat.reduceBNe, Int.reduceToNat])))
    all_goals (refine hK _ _ (Keeps.p2 _ _ _) ?_; clear hK; simp_all [Shaped, zeroS] <;> omega)
  · simp only [ho, zz, env0, aPure, aRead, aNew, aEff, aval, avals, aparts, aopt, wantedA, binA, isShift, binI, fillA, single, aRes, splice, mkv, unA, binS, sameAt, reduceCtorEq, reduceIte, Int.reduceEq, Int.reduceLT, Int.reduceLE, Int.reduceNe, Nat.reduceEqDiff, Nat.reduceLT, Nat.reduceAdd, Nat.reduceMul, Nat.reduceSub, Nat.reduceLeDiff, Int.reduceBEq, Int.reduceBNe, Nat.reduceBEq, Nat.reduceBNe, Int.reduceToNat]
    have hw : IntKind.i64.wrap ((n.kids.length : Int) - 1) = (n.kids.length : Int) - 1 := by have := hok.klen; rw [wrap_i64 (by omega) (by omega)]
    repeat' (first | (refine onB_of (fun h => ?_) (fun h => ?_) <;> (simp only [h, hw, zz, env0, aPure, aRead, aNew, aEff, aval, avals, aparts, aopt, wantedA, binA, isShift, binI, fillA, single, aRes, splice, mkv, unA, binS, sameAt, reduceCtorEq, reduceIte, Int.reduceEq, Int.reduceLT, Int.reduceLE, Int.reduceNe, Nat.reduceEqDiff, Nat.reduceLT, Nat.reduceAdd, Nat.reduceMul, Nat.reduceSub, Nat.reduceLeDiff, Int.reduceBEq, Int.reduceBNe, Nat.reduceBEq, Nat.reduceBNe, Int.reduceToNat])) | (refine onG_t (fun h => ?_) (fun h => ?_) <;> (simp only [h, hw, zz, env0, aPure, aRead, aNew, aEff, aval, avals, aparts, aopt, wantedA, binA, isShift, binI, fillA, single, aRes, splice, mkv, unA, binS, sameAt, reduceCtorEq, reduceIte, Int.reduceEq, Int.reduceLT, Int.reduceLE, Int.reduceNe, Nat.reduceEqDiff, Nat.reduceLT, Nat.reduceAdd, Nat.reduceMul, Nat.reduceSub, Nat.reduceLeDiff, Int.reduceBEq, Int.reduceBNe, Nat.reduceBEq, Nat.reduceBNe, Int.reduceToNat])) | (refine onG_f (fun h => ?_) (fun h => ?_) <;> (simp only [h, hw, zz, env0, aPure, aRead, aNew, aEff, aval, avals, aparts, aopt, wantedA, binA, isShift, binI, fillA, single, aRes, splice, mkv, unA, binS, sameAt, reduceCtorEq, reduceIte, Int.reduceEq, Int.reduceLT, Int.reduceLE, Int.reduceNe, Nat.reduceEqDiff, Nat.reduceLT, Nat.reduceAdd, Nat.reduceMul, Nat.reduceSub, Nat.reduceLeDiff, Int.reduceBEq, Int.reduceBNe, Nat.reduceBEq, Nat.reduceBNe, Int.reduceToNat])))
    all_goals (refine hK _ _ (Keeps.p2 _ _ _) ?_; clear hK hw hl hkv; simp_all [Shaped, zeroS] <;> first | omega | (have e1 : n.kids.length = 1 := by omega) <;> (have e2 : 1 ≤ n.hi ∧ n.lo ≤ n.hi := by split at * <;> omega) <;> simp [e1, e2])
  · simp only [ho, zz, env0, aPure, aRead, aNew, aEff, aval, avals, aparts, aopt, wantedA, binA, isShift, binI, fillA, single, aRes, splice, mkv, unA, binS, sameAt, reduceCtorEq, reduceIte, Int.reduceEq, Int.reduceLT, Int.reduceLE, Int.reduceNe, Nat.reduceEqDiff, Nat.reduceLT, Nat.reduceAdd, Nat.reduceMul, Nat.reduceSub, Nat.reduceLeDiff, Int.reduceBEq, Int.reduceBNe, Nat.reduceBEq, Nat.reduceBNe, Int.reduceToNat]
    refine name_spec _ _ (by have := hok.name; omega) _ ?_
    simp only [zz, env0, aPure, aRead, aNew, aEff, aval, avals, aparts, aopt, wantedA, binA, isShift, binI, fillA, single, aRes, splice, mkv, unA, binS, sameAt, reduceCtorEq, reduceIte, Int.reduceEq, Int.reduceLT, Int.reduceLE, Int.reduceNe, Nat.reduceEqDiff, Nat.reduceLT, Nat.reduceAdd, Nat.reduceMul, Nat.reduceSub, Nat.reduceLeDiff, Int.reduceBEq, Int.reduceBNe, Nat.reduceBEq, Nat.reduceBNe, Int.reduceToNat]
    refine onB_of (fun h => ?_) (fun h => ?_)
    · simp only [h, zz, env0, aPure, aRead, aNew, aEff, aval, avals, aparts, aopt, wantedA, binA, isShift, binI, fillA, single, aRes, splice, mkv, unA, binS, sameAt, reduceCtorEq, reduceIte, Int.reduceEq, Int.reduceLT, Int.reduceLE, Int.reduceNe, Nat.reduceEqDiff, Nat.reduceLT, Nat.reduceAdd, Nat.reduceMul, Nat.reduceSub, Nat.reduceLeDiff, Int.reduceBEq, Int.reduceBNe, Nat.reduceBEq, Nat.reduceBNe, Int.reduceToNat]
      refine hK _ _ (Keeps.p2 _ _ _) ?_; clear hK; simp_all [Shaped, zeroS]
    · simp only [h, zz, env0, aPure, aRead, aNew, aEff, aval, avals, aparts, aopt, wantedA, binA, isShift, binI, fillA, single, aRes, splice, mkv, unA, binS, sameAt, reduceCtorEq, reduceIte, Int.reduceEq, Int.reduceLT, Int.reduceLE, Int.reduceNe, Nat.reduceEqDiff, Nat.reduceLT, Nat.reduceAdd, Nat.reduceMul, Nat.reduceSub, Nat.reduceLeDiff, Int.reduceBEq, Int.reduceBNe, Nat.reduceBEq, Nat.reduceBNe, Int.reduceToNat]
      repeat' (first | (refine onB_of (fun h => ?_) (fun h => ?_) <;> (simp only [h, zz, env0, aPure, aRead, aNew, aEff, aval, avals, aparts, aopt, wantedA, binA, isShift, binI, fillA, single, aRes, splice, mkv, unA, binS, sameAt, reduceCtorEq, reduceIte, Int.reduceEq, Int.reduceLT, Int.reduceLE, Int.reduceNe, Nat.reduceEqDiff, Nat.reduceLT, Nat.reduceAdd, Nat.reduceMul, Nat.reduceSub, Nat.reduceLeDiff, Int.reduceBEq, Int.reduceBNe, Nat.reduceBEq, Nat.reduceBNe, Int.reduceToNat])) | (refine onG_t (fun h => ?_) (fun h => ?_) <;> (simp only [h, zz, env0, aPure, aRead, aNew, aEff, aval, avals, aparts, aopt, wantedA, binA, isShift, binI, fillA, single, aRes, splice, mkv, unA, binS, sameAt, reduceCtorEq, reduceIte, Int.reduceEq, Int.reduceLT, Int.reduceLE, Int.reduceNe, Nat.reduceEqDiff, Nat.reduceLT, Nat.reduceAdd, Nat.reduceMul, Nat.reduceSub, Nat.reduceLeDiff, Int.reduceBEq, Int.reduceBNe, Nat.reduceBEq, Nat.reduceBNe, Int.reduceToNat])) | (refine onG_f (fun h => ?_) (fun h => ?_) <;> (simp only [h, zz, env0, aPure, aRead, aNew, aEff, aval, avals, aparts, aopt, wantedA, binA, isShift, binI, fillA, single, aRes, splice, mkv, unA, binS, sameAt, reduceCtorEq, reduceIte, Int.reduceEq, Int.reduceLT, Int.reduceLE, Int.reduceNe, Nat.reduceEqDiff, Nat.reduceLT, Nat.reduceAdd, Nat.reduceMul, Nat.reduceSub, Nat.reduceLeDiff, Int.reduceBEq, Int.reduceBNe, Nat.reduceBEq, Nat.reduceBNe, Int.reduceToNat])))
      all_goals (refine hK _ _ (Keeps.p2 _ _ _) ?_; clear hK; simp_all [Shaped, zeroS] <;> omega)
  · have e1 : (n.op == 1) = false := by simp [o1]
    have e2 : (n.op == 2) = false := by simp [o2]
    have e3 : (n.op == 3) = false := by simp [o3]
    have e4 : (n.op == 4) = false := by simp [o4]
    have e5 : (n.op == 5) = false := by simp [o5]
    have e6 : (n.op == 6) = false := by simp [o6]
    simp only [e1,e2,e3,e4,e5,e6, zz, env0, aPure, aRead, aNew, aEff, aval, avals, aparts, aopt, wantedA, binA, isShift, binI, fillA, single, aRes, splice, mkv, unA, binS, sameAt, reduceCtorEq, reduceIte, Int.reduceEq, Int.reduceLT, Int.reduceLE, Int.reduceNe, Nat.reduceEqDiff, Nat.reduceLT, Nat.reduceAdd, Nat.reduceMul, Nat.reduceSub, Nat.reduceLeDiff, Int.reduceBEq, Int.reduceBNe, Nat.reduceBEq, Nat.reduceBNe, Int.reduceToNat]
    refine hK _ _ (Keeps.p2 _ _ _) ?_; simp_all [Shaped, zeroS]
end Go.Proofs.Ytnblhjpbpobglaa

/- slices.Equal, syntax.Right. -/
set_option maxRecDepth 100000
set_option linter.unusedSimpArgs false
namespace Go.Proofs.Ytnblhjpbpobglaa
open Go.Am

theorem equal_spec (H : AHeap) (va vb : AV) (xs ys : List Int) (hbig : xs.length < 9223372036854775808) (hx : Ints H va xs) (hy : Ints H vb ys) (K : AV → AHeap → Prop)
   (hK : ∀ b, (b = true ↔ xs = ys) → K (.bool b) H) : WF P0 62 [va, vb] H K := by
  have hla := hx.lenOf
  have hlb := hy.lenOf
  refine zWF rfl rfl rfl ?_
  simp only [a62, hla, hlb, zz, env0, aPure, aRead, aNew, aEff, aval, avals, aparts, aopt, wantedA, binA, isShift, binI, fillA, single, aRes, splice, mkv, unA, binS, sameAt, reduceCtorEq, reduceIte, Int.reduceEq, Int.reduceLT, Int.reduceLE, Int.reduceNe, Nat.reduceEqDiff, Nat.reduceLT, Nat.reduceAdd, Nat.reduceMul, Nat.reduceSub, Nat.reduceLeDiff, Int.reduceBEq, Int.reduceBNe, Nat.reduceBEq, Nat.reduceBNe, Int.reduceToNat]
  refine onB_of (fun h => ?_) (fun h => ?_)
  · have : xs ≠ ys := by intro e; subst e; simp at h
    simp only [zz, env0, aPure, aRead, aNew, aEff, aval, avals, aparts, aopt, wantedA, binA, isShift, binI, fillA, single, aRes, splice, mkv, unA, binS, sameAt, reduceCtorEq, reduceIte, Int.reduceEq, Int.reduceLT, Int.reduceLE, Int.reduceNe, Nat.reduceEqDiff, Nat.reduceLT, Nat.reduceAdd, Nat.reduceMul, Nat.reduceSub, Nat.reduceLeDiff, Int.reduceBEq, Int.reduceBNe, Nat.reduceBEq, Nat.reduceBNe, Int.reduceToNat]
    exact hK _ (by simp [this])
  · have hnm : xs.length = ys.length := by
      have h' : (xs.length : Int) = ys.length := by simpa [bne_iff_ne] using h
      omega
    simp only [hla, zz, env0, aPure, aRead, aNew, aEff, aval, avals, aparts, aopt, wantedA, binA, isShift, binI, fillA, single, aRes, splice, mkv, unA, binS, sameAt, reduceCtorEq, reduceIte, Int.reduceEq, Int.reduceLT, Int.reduceLE, Int.reduceNe, Nat.reduceEqDiff, Nat.reduceLT, Nat.reduceAdd, Nat.reduceMul, Nat.reduceSub, Nat.reduceLeDiff, Int.reduceBEq, Int.reduceBNe, Nat.reduceBEq, Nat.reduceBNe, Int.reduceToNat]
    refine WCL (fun r env H' => H' = H ∧ ∃ (k : Nat) (a3 a4 a7 a8 : AV), k ≤ xs.length ∧ r = xs.length - k ∧ xs.take k = ys.take k ∧ env = [va, vb, .bool false, a3, a4, .int .i64 xs.length, .int .i64 k, a7, a8]) (n := xs.length)
      ⟨rfl, 0, _, _, _, _, Nat.zero_le _, rfl, rfl, rfl⟩ ?_
    rintro r env H' ⟨rfl, k, a3, a4, a7, a8, hk, rfl, htk, rfl⟩
    simp only [zz, env0, aPure, aRead, aNew, aEff, aval, avals, aparts, aopt, wantedA, binA, isShift, binI, fillA, single, aRes, splice, mkv, unA, binS, sameAt, reduceCtorEq, reduceIte, Int.reduceEq, Int.reduceLT, Int.reduceLE, Int.reduceNe, Nat.reduceEqDiff, Nat.reduceLT, Nat.reduceAdd, Nat.reduceMul, Nat.reduceSub, Nat.reduceLeDiff, Int.reduceBEq, Int.reduceBNe, Nat.reduceBEq, Nat.reduceBNe, Int.reduceToNat]
    refine onB_of (fun hlt => ?_) (fun hlt => ?_)
    · have hlt : k < xs.length := by simpa using hlt
      obtain ⟨x, hxk⟩ : ∃ x, xs[k]? = some x := ⟨xs[k], List.getElem?_eq_getElem (by omega)⟩
      obtain ⟨y, hyk⟩ : ∃ y, ys[k]? = some y := ⟨ys[k], List.getElem?_eq_getElem (by omega)⟩
      obtain ⟨i, o, rfl, h1⟩ := hx.int hxk
      obtain ⟨j, q, rfl, h2⟩ := hy.int hyk
      have hw : IntKind.i64.wrap ((k : Int) + 1) = ((k + 1 : Nat) : Int) := by rw [wrap_i64 (by omega) (by omega)]; rfl
      have hk0 : (0 : Int) ≤ k := by omega
      have hk1 : (k : Int) < xs.length := by omega
      have hk2 : (k : Int) < ys.length := by omega
      simp only [Nat.mul_one, h1, h2, hk0, hk1, hk2, hw, zz, env0, aPure, aRead, aNew, aEff, aval, avals, aparts, aopt, wantedA, binA, isShift, binI, fillA, single, aRes, splice, mkv, unA, binS, sameAt, reduceCtorEq, reduceIte, Int.reduceEq, Int.reduceLT, Int.reduceLE, Int.reduceNe, Nat.reduceEqDiff, Nat.reduceLT, Nat.reduceAdd, Nat.reduceMul, Nat.reduceSub, Nat.reduceLeDiff, Int.reduceBEq, Int.reduceBNe, Nat.reduceBEq, Nat.reduceBNe, Int.reduceToNat]
      have hxe : xs[k]'(by omega) = x := by rw [List.getElem?_eq_getElem (by omega)] at hxk; simpa using hxk
      have hye : ys[k]'(by omega) = y := by rw [List.getElem?_eq_getElem (by omega)] at hyk; simpa using hyk
      refine onB_of (fun hne => ?_) (fun he => ?_)
      · simp only [zz, env0, aPure, aRead, aNew, aEff, aval, avals, aparts, aopt, wantedA, binA, isShift, binI, fillA, single, aRes, splice, mkv, unA, binS, sameAt, reduceCtorEq, reduceIte, Int.reduceEq, Int.reduceLT, Int.reduceLE, Int.reduceNe, Nat.reduceEqDiff, Nat.reduceLT, Nat.reduceAdd, Nat.reduceMul, Nat.reduceSub, Nat.reduceLeDiff, Int.reduceBEq, Int.reduceBNe, Nat.reduceBEq, Nat.reduceBNe, Int.reduceToNat]
        have hne : x ≠ y := by simpa using hne
        refine hK _ ?_
        simp only [Bool.false_eq_true, false_iff]
        intro e; subst e
        rw [hxk] at hyk; simp only [Option.some.injEq] at hyk; exact hne hyk
      · simp only [hw, zz, env0, aPure, aRead, aNew, aEff, aval, avals, aparts, aopt, wantedA, binA, isShift, binI, fillA, single, aRes, splice, mkv, unA, binS, sameAt, reduceCtorEq, reduceIte, Int.reduceEq, Int.reduceLT, Int.reduceLE, Int.reduceNe, Nat.reduceEqDiff, Nat.reduceLT, Nat.reduceAdd, Nat.reduceMul, Nat.reduceSub, Nat.reduceLeDiff, Int.reduceBEq, Int.reduceBNe, Nat.reduceBEq, Nat.reduceBNe, Int.reduceToNat]
        have he : x = y := by simpa using he
        refine ⟨xs.length - (k + 1), by omega, k + 1, _, _, _, _, by omega, rfl, ?_, rfl⟩
        rw [List.take_succ_eq_append_getElem (by omega), List.take_succ_eq_append_getElem (by omega), htk, hxe, hye, he]
    · have hkn : k = xs.length := by
        have : ¬ ((k : Int) < xs.length) := by simpa using hlt
        omega
      subst hkn
      simp only [zz, env0, aPure, aRead, aNew, aEff, aval, avals, aparts, aopt, wantedA, binA, isShift, binI, fillA, single, aRes, splice, mkv, unA, binS, sameAt, reduceCtorEq, reduceIte, Int.reduceEq, Int.reduceLT, Int.reduceLE, Int.reduceNe, Nat.reduceEqDiff, Nat.reduceLT, Nat.reduceAdd, Nat.reduceMul, Nat.reduceSub, Nat.reduceLeDiff, Int.reduceBEq, Int.reduceBNe, Nat.reduceBEq, Nat.reduceBNe, Int.reduceToNat]
      rw [List.take_of_length_le (by omega), List.take_of_length_le (by omega)] at htk
      exact hK _ (by simp [htk])
end Go.Proofs.Ytnblhjpbpobglaa

/- syntax.Right. -/
set_option maxRecDepth 100000
set_option linter.unusedSimpArgs false
namespace Go.Proofs.Ytnblhjpbpobglaa
open Go.Am

/-- Which nodes are open behind some nodes. -/
inductive Stk : List Nd → List Int → Prop
  | nil : Stk [] []
  | snoc {l : List Nd} {st : List Int} {n : Nd} : Stk l (st ++ n.kids) → Shaped n → Stk (l ++ [n]) (st ++ [(l.length : Int)])

def RightT (l : List Nd) : Prop := 1 ≤ l.length ∧ l.length ≤ 1024 ∧ ∃ r, Stk l [r]

theorem stk_inv {l : List Nd} {n : Nd} {s : List Int} (h : Stk (l ++ [n]) s) : ∃ st, s = st ++ [(l.length : Int)] ∧ Stk l (st ++ n.kids) ∧ Shaped n := by
  generalize hL : l ++ [n] = L at h
  cases h with
  | nil => simp at hL
  | snoc h1 h2 =>
    have := List.append_inj' hL rfl
    obtain ⟨rfl, h3⟩ := this
    simp only [List.cons.injEq, and_true] at h3
    subst h3
    exact ⟨_, rfl, h1, h2⟩

theorem stk_det : ∀ {l : List Nd} {a b : List Int}, Stk l a → Stk l b → a = b := by
  intro l a b ha
  induction ha generalizing b with
  | nil => intro hb; generalize hL : ([] : List Nd) = L at hb; cases hb with
    | nil => rfl
    | snoc _ _ => simp at hL
  | snoc h1 h2 ih =>
    intro hb
    obtain ⟨st, rfl, h3, h4⟩ := stk_inv hb
    have := ih h3
    have := List.append_cancel_right this
    rw [this]

theorem stk_take {l : List Nd} {a : List Int} (h : Stk l a) : ∀ k, k ≤ l.length → ∃ s, Stk (l.take k) s := by
  induction h with
  | nil => intro k hk; simp at hk; subst hk; exact ⟨_, .nil⟩
  | @snoc l st n h1 h2 ih =>
    intro k hk
    simp only [List.length_append, List.length_cons, List.length_nil, Nat.zero_add] at hk
    rcases Nat.lt_or_ge l.length k with h | h
    · have : k = (l ++ [n]).length := by simp; omega
      rw [this, List.take_length]; exact ⟨_, .snoc h1 h2⟩
    · obtain ⟨s, hs⟩ := ih k h
      exact ⟨s, by rw [List.take_append_of_le_length h]; exact hs⟩

theorem stk_len {l : List Nd} {a : List Int} (h : Stk l a) : a.length ≤ l.length ∧ ∀ x, x ∈ a → 0 ≤ x ∧ x < l.length := by
  induction h with
  | nil => simp
  | snoc h1 h2 ih =>
    obtain ⟨i1, i2⟩ := ih
    simp only [List.length_append, List.length_cons, List.length_nil] at i1 ⊢
    refine ⟨by omega, fun x hx => ?_⟩
    simp only [List.mem_append, List.mem_cons, List.not_mem_nil, or_false] at hx
    rcases hx with hx | rfl
    · have := i2 x (by simp [hx]); omega
    · omega

theorem right_spec (H : AHeap) (v : AV) (l : List Nd) (hN : Nds H v l) (hbig : l.length < 9223372036854775808) (K : AV → AHeap → Prop)
   (hK : ∀ b H', Keeps H H' → (b = true ↔ RightT l) → K (.bool b) H') : WF P0 56 [v] H K := by
  have hla := hN.lenOf
  refine zWF rfl rfl rfl ?_
  simp only [a56, hla, zz, env0, aPure, aRead, aNew, aEff, aval, avals, aparts, aopt, wantedA, binA, isShift, binI, fillA, single, aRes, splice, mkv, unA, binS, sameAt, reduceCtorEq, reduceIte, Int.reduceEq, Int.reduceLT, Int.reduceLE, Int.reduceNe, Nat.reduceEqDiff, Nat.reduceLT, Nat.reduceAdd, Nat.reduceMul, Nat.reduceSub, Nat.reduceLeDiff, Int.reduceBEq, Int.reduceBNe, Nat.reduceBEq, Nat.reduceBNe, Int.reduceToNat]
  refine onG_f (fun h1 => ?_) (fun h1 => ?_)
  · simp only [h1, hla, zz, env0, aPure, aRead, aNew, aEff, aval, avals, aparts, aopt, wantedA, binA, isShift, binI, fillA, single, aRes, splice, mkv, unA, binS, sameAt, reduceCtorEq, reduceIte, Int.reduceEq, Int.reduceLT, Int.reduceLE, Int.reduceNe, Nat.reduceEqDiff, Nat.reduceLT, Nat.reduceAdd, Nat.reduceMul, Nat.reduceSub, Nat.reduceLeDiff, Int.reduceBEq, Int.reduceBNe, Nat.reduceBEq, Nat.reduceBNe, Int.reduceToNat]
    refine onB_of (fun h2 => ?_) (fun h2 => ?_)
    · simp only [zz, env0, aPure, aRead, aNew, aEff, aval, avals, aparts, aopt, wantedA, binA, isShift, binI, fillA, single, aRes, splice, mkv, unA, binS, sameAt, reduceCtorEq, reduceIte, Int.reduceEq, Int.reduceLT, Int.reduceLE, Int.reduceNe, Nat.reduceEqDiff, Nat.reduceLT, Nat.reduceAdd, Nat.reduceMul, Nat.reduceSub, Nat.reduceLeDiff, Int.reduceBEq, Int.reduceBNe, Nat.reduceBEq, Nat.reduceBNe, Int.reduceToNat]
      refine hK _ _ (.refl _) ?_
      simp at h2
      simp [RightT]; omega
    · simp only [h2, hla, zz, env0, aPure, aRead, aNew, aEff, aval, avals, aparts, aopt, wantedA, binA, isShift, binI, fillA, single, aRes, splice, mkv, unA, binS, sameAt, reduceCtorEq, reduceIte, Int.reduceEq, Int.reduceLT, Int.reduceLE, Int.reduceNe, Nat.reduceEqDiff, Nat.reduceLT, Nat.reduceAdd, Nat.reduceMul, Nat.reduceSub, Nat.reduceLeDiff, Int.reduceBEq, Int.reduceBNe, Nat.reduceBEq, Nat.reduceBNe, Int.reduceToNat]
      have hl1 : 1 ≤ l.length := by simp at h1; omega
      have hl2 : l.length ≤ 1024 := by simp at h2; omega
      refine WCL (fun r env H' => Keeps H H' ∧ ∃ (k : Nat) (op : List Int) (vo a3 a4 a5 a10 a11 a12 : AV), k ≤ l.length ∧ r = l.length - k ∧ Stk (l.take k) op ∧ WR H' H.length 1 vo op.length (op.map (AV.int .i64)) ∧
          env = [v, .bool false, vo, a3, a4, a5, .bool false, v, .int .i64 l.length, .int .i64 k, a10, a11, a12]) (n := l.length)
        ⟨.refl _, 0, [], .nilsl, _, _, _, _, _, _, Nat.zero_le _, rfl, .nil, .nil, rfl⟩ ?_
      rintro r env H' ⟨hk, k, op, vo, a3, a4, a5, a10, a11, a12, hkl, rfl, hst, hvo, rfl⟩
      simp only [zz, env0, aPure, aRead, aNew, aEff, aval, avals, aparts, aopt, wantedA, binA, isShift, binI, fillA, single, aRes, splice, mkv, unA, binS, sameAt, reduceCtorEq, reduceIte, Int.reduceEq, Int.reduceLT, Int.reduceLE, Int.reduceNe, Nat.reduceEqDiff, Nat.reduceLT, Nat.reduceAdd, Nat.reduceMul, Nat.reduceSub, Nat.reduceLeDiff, Int.reduceBEq, Int.reduceBNe, Nat.reduceBEq, Nat.reduceBNe, Int.reduceToNat]
      refine onB_of (fun hlt => ?_) (fun hlt => ?_)
      · have hlt : k < l.length := by simpa using hlt
        obtain ⟨n, hn⟩ : ∃ n, l[k]? = some n := ⟨l[k], List.getElem?_eq_getElem (by omega)⟩
        obtain ⟨i, o, kv, rfl, hok, hkv, hld⟩ := (Rows.keeps NdP.mono hk hN).nd hn
        have hk0 : (0 : Int) ≤ k := by omega
        have hk1 : (k : Int) < l.length := by omega
        have h9 := hld 0 9 (by omega)
        simp only [Nat.add_zero, List.drop_zero, ndRow, List.take_succ_cons, List.take_zero] at h9
        obtain ⟨f1, f2, f3, f4⟩ := hkv.flat
        simp only [hk0, hk1, h9, f1, zz, env0, aPure, aRead, aNew, aEff, aval, avals, aparts, aopt, wantedA, binA, isShift, binI, fillA, single, aRes, splice, mkv, unA, binS, sameAt, reduceCtorEq, reduceIte, Int.reduceEq, Int.reduceLT, Int.reduceLE, Int.reduceNe, Nat.reduceEqDiff, Nat.reduceLT, Nat.reduceAdd, Nat.reduceMul, Nat.reduceSub, Nat.reduceLeDiff, Int.reduceBEq, Int.reduceBNe, Nat.reduceBEq, Nat.reduceBNe, Int.reduceToNat]
        refine shaped_spec _ _ _ hok (Rows.keeps IntP.mono (.p1 _ _) hkv) _ ?_
        intro b H2 hk2 hb
        have hbox := hk2.get (gb_new H' _)
        have hvo2 := WR.keeps hk2 (hvo.keeps (.p1 H' _))
        have hlo := hvo2.lenOf
        have hlk := hkv.lenOf
        have hb5 : loadA H2 H'.length 5 1 = some [kv] := load_one hbox rfl
        have hsh : k + 1 ≤ l.length := hlt
        have htk : l.take (k + 1) = l.take k ++ [n] := by
          rw [List.take_succ_eq_append_getElem hlt]; congr 2
          rw [List.getElem?_eq_getElem hlt] at hn; simpa using hn
        have hlen : (l.take k).length = k := by rw [List.length_take]; omega
        have stop : (¬ (Shaped n ∧ ∃ st, op = st ++ n.kids)) → ∀ H3, Keeps H H3 → K (.bool false) H3 := fun hno H3 hk3 => by
          refine hK _ _ hk3 ?_
          simp only [Bool.false_eq_true, false_iff]
          rintro ⟨_, _, r, hr⟩
          obtain ⟨s, hs⟩ := stk_take hr (k + 1) hlt
          rw [htk] at hs
          obtain ⟨st, _, h5, h6⟩ := stk_inv hs
          exact hno ⟨h6, st, stk_det hst h5⟩
        have hkH2 : Keeps H H2 := hk.trans ((Keeps.p1 _ _).trans hk2)
        cases b with
        | false =>
          simp only [zz, env0, aPure, aRead, aNew, aEff, aval, avals, aparts, aopt, wantedA, binA, isShift, binI, fillA, single, aRes, splice, mkv, unA, binS, sameAt, reduceCtorEq, reduceIte, Int.reduceEq, Int.reduceLT, Int.reduceLE, Int.reduceNe, Nat.reduceEqDiff, Nat.reduceLT, Nat.reduceAdd, Nat.reduceMul, Nat.reduceSub, Nat.reduceLeDiff, Int.reduceBEq, Int.reduceBNe, Nat.reduceBEq, Nat.reduceBNe, Int.reduceToNat]
          exact stop (fun h => by have := hb.2 h.1; simp at this) _ hkH2
        | true =>
          have hshp := hb.1 rfl
          simp only [hlo, hlk, hb5, zz, env0, aPure, aRead, aNew, aEff, aval, avals, aparts, aopt, wantedA, binA, isShift, binI, fillA, single, aRes, splice, mkv, unA, binS, sameAt, reduceCtorEq, reduceIte, Int.reduceEq, Int.reduceLT, Int.reduceLE, Int.reduceNe, Nat.reduceEqDiff, Nat.reduceLT, Nat.reduceAdd, Nat.reduceMul, Nat.reduceSub, Nat.reduceLeDiff, Int.reduceBEq, Int.reduceBNe, Nat.reduceBEq, Nat.reduceBNe, Int.reduceToNat]
          refine onB_of (fun h => ?_) (fun h => ?_)
          · simp only [zz, env0, aPure, aRead, aNew, aEff, aval, avals, aparts, aopt, wantedA, binA, isShift, binI, fillA, single, aRes, splice, mkv, unA, binS, sameAt, reduceCtorEq, reduceIte, Int.reduceEq, Int.reduceLT, Int.reduceLE, Int.reduceNe, Nat.reduceEqDiff, Nat.reduceLT, Nat.reduceAdd, Nat.reduceMul, Nat.reduceSub, Nat.reduceLeDiff, Int.reduceBEq, Int.reduceBNe, Nat.reduceBEq, Nat.reduceBNe, Int.reduceToNat]
            refine stop (fun h => ?_) _ hkH2
            obtain ⟨_, st, rfl⟩ := h
            simp at h; omega
          · have hle : n.kids.length ≤ op.length := by simp at h; omega
            have hopl : op.length ≤ 1024 := by have := (stk_len hst).1; rw [hlen] at this; omega
            have hw : IntKind.i64.wrap ((op.length : Int) - n.kids.length) = ((op.length - n.kids.length : Nat) : Int) := by rw [wrap_i64 (by omega) (by omega)]; omega
            obtain ⟨w1, hs1, hr1, _⟩ := sliceA_lo hvo2.row (l := op.length - n.kids.length) (by omega)
            have hz := hvo2.row.szOk
            simp only [hlo, hlk, hb5, hw, hz, hs1, zz, env0, aPure, aRead, aNew, aEff, aval, avals, aparts, aopt, wantedA, binA, isShift, binI, fillA, single, aRes, splice, mkv, unA, binS, sameAt, reduceCtorEq, reduceIte, Int.reduceEq, Int.reduceLT, Int.reduceLE, Int.reduceNe, Nat.reduceEqDiff, Nat.reduceLT, Nat.reduceAdd, Nat.reduceMul, Nat.reduceSub, Nat.reduceLeDiff, Int.reduceBEq, Int.reduceBNe, Nat.reduceBEq, Nat.reduceBNe, Int.reduceToNat]
            refine equal_spec _ _ _ (op.drop (op.length - n.kids.length)) n.kids (by simp; omega) ?_ (Rows.keeps IntP.mono ((Keeps.p1 _ _).trans hk2) hkv) _ ?_
            · refine ints_of ?_
              have e : (op.drop (op.length - n.kids.length)).length = op.length - (op.length - n.kids.length) := by simp
              rw [e, List.map_drop]; simpa using hr1
            intro b2 hb2
            cases b2 with
            | false =>
              simp only [zz, env0, aPure, aRead, aNew, aEff, aval, avals, aparts, aopt, wantedA, binA, isShift, binI, fillA, single, aRes, splice, mkv, unA, binS, sameAt, reduceCtorEq, reduceIte, Int.reduceEq, Int.reduceLT, Int.reduceLE, Int.reduceNe, Nat.reduceEqDiff, Nat.reduceLT, Nat.reduceAdd, Nat.reduceMul, Nat.reduceSub, Nat.reduceLeDiff, Int.reduceBEq, Int.reduceBNe, Nat.reduceBEq, Nat.reduceBNe, Int.reduceToNat]
              refine stop (fun h => ?_) _ hkH2
              obtain ⟨_, st, rfl⟩ := h
              have := hb2.2 (by simp)
              simp at this
            | true =>
              have hop : op = op.take (op.length - n.kids.length) ++ n.kids := by
                have := hb2.1 rfl
                conv => lhs; rw [← List.take_append_drop (op.length - n.kids.length) op, this]
              obtain ⟨w2, hs2, hr2, hid2⟩ := hvo2.sliceHi (l := op.length - n.kids.length) (by omega)
              have hw3 : IntKind.i64.wrap ((k : Int) + 1) = ((k + 1 : Nat) : Int) := by rw [wrap_i64 (by omega) (by omega)]; rfl
              obtain ⟨v', H4, ha, hw4, he4, hid4⟩ := (hr2.keeps (Keeps.p1 H2 (some (.cells 1 true [.int .i64 k])))).append (bytes := 8) (by have := hkH2.1; simp; omega) (src_new H2 1 1 [.int .i64 k] rfl) rfl rfl (by simp only [maxRoom]; omega)
              simp only [hz, hs2, ha, hw3, zz, env0, aPure, aRead, aNew, aEff, aval, avals, aparts, aopt, wantedA, binA, isShift, binI, fillA, single, aRes, splice, mkv, unA, binS, sameAt, reduceCtorEq, reduceIte, Int.reduceEq, Int.reduceLT, Int.reduceLE, Int.reduceNe, Nat.reduceEqDiff, Nat.reduceLT, Nat.reduceAdd, Nat.reduceMul, Nat.reduceSub, Nat.reduceLeDiff, Int.reduceBEq, Int.reduceBNe, Nat.reduceBEq, Nat.reduceBNe, Int.reduceToNat]
              have hkH4 : Keeps H H4 := Else.keeps (hkH2.trans (.p1 _ _)) he4 (fun i hi => (hr2.id hi).1)
              refine ⟨l.length - (k + 1), by omega, hkH4, k + 1, op.take (op.length - n.kids.length) ++ [(k : Int)], v', _, _, _, _, _, _, hlt, rfl, ?_, ?_, rfl⟩
              · rw [htk]
                have := Stk.snoc (by rw [← hop]; exact hst) hshp
                rwa [hlen] at this
              · have e : (op.take (op.length - n.kids.length) ++ [(k : Int)]).length = op.length - n.kids.length + 1 := by simp
                rw [e, List.map_append, List.map_take]
                simpa using hw4
      · have hkn : k = l.length := by
          have : ¬ ((k : Int) < l.length) := by simpa using hlt
          omega
        subst hkn
        rw [List.take_length] at hst
        have hlo := hvo.lenOf
        simp only [hlo, zz, env0, aPure, aRead, aNew, aEff, aval, avals, aparts, aopt, wantedA, binA, isShift, binI, fillA, single, aRes, splice, mkv, unA, binS, sameAt, reduceCtorEq, reduceIte, Int.reduceEq, Int.reduceLT, Int.reduceLE, Int.reduceNe, Nat.reduceEqDiff, Nat.reduceLT, Nat.reduceAdd, Nat.reduceMul, Nat.reduceSub, Nat.reduceLeDiff, Int.reduceBEq, Int.reduceBNe, Nat.reduceBEq, Nat.reduceBNe, Int.reduceToNat]
        refine hK _ _ hk ?_
        simp only [ieq, decide_eq_true_eq]
        constructor
        · intro h
          refine ⟨hl1, hl2, ?_⟩
          match op, h with
          | [r], _ => exact ⟨r, hst⟩
        · rintro ⟨_, _, r, hr⟩
          rw [stk_det hst hr]; rfl
  · simp only [h1, zz, env0, aPure, aRead, aNew, aEff, aval, avals, aparts, aopt, wantedA, binA, isShift, binI, fillA, single, aRes, splice, mkv, unA, binS, sameAt, reduceCtorEq, reduceIte, Int.reduceEq, Int.reduceLT, Int.reduceLE, Int.reduceNe, Nat.reduceEqDiff, Nat.reduceLT, Nat.reduceAdd, Nat.reduceMul, Nat.reduceSub, Nat.reduceLeDiff, Int.reduceBEq, Int.reduceBNe, Nat.reduceBEq, Nat.reduceBNe, Int.reduceToNat]
    refine hK _ _ (.refl _) ?_
    simp at h1
    simp [RightT]; omega
end Go.Proofs.Ytnblhjpbpobglaa

/- slices.Concat of two, slices.Compact, lang.merge. -/
set_option maxRecDepth 100000
set_option linter.unusedSimpArgs false
namespace Go.Proofs.Ytnblhjpbpobglaa
open Go.Am

theorem grow_run (H : AHeap) (n : Nat) (hn : n ≤ 1000000000) (K : AV → AHeap → Prop) (hK : ∀ v H', Keeps H H' → WR H' H.length 1 v 0 [] → K v H') :
    WF P0 71 [.nilsl, .int .i64 n] H K := by
  by_cases h : n = 0
  · subst h
    exact WF_orc rfl (by simp [orcGrow]) (hK _ _ (.refl _) .nil)
  · refine WF_orc rfl (r := .sl H.length 0 0) (H' := H ++ [some (.cells 1 true [])]) ?_ (hK _ _ (.p1 _ _) (WR.new H 1 0 [] rfl (Nat.le_refl _)))
    simp only [orcGrow]
    rw [if_neg (by omega), if_pos ⟨by omega, by simp only [maxRoom]; omega, by omega⟩]

theorem concat_spec (H : AHeap) (j : Nat) (va vb : AV) (n m : Nat) (cs1 cs2 : List AV) (h1 : loadA H j 0 1 = some [va]) (h2 : loadA H j 1 1 = some [vb]) (ha : RowAt H 1 va n cs1) (hb : RowAt H 1 vb m cs2)
    (ho1 : cs1.all AV.one = true) (ho2 : cs2.all AV.one = true) (hn : n ≤ 100000000) (hm : m ≤ 100000000) (K : AV → AHeap → Prop)
    (hK : ∀ v H', Keeps H H' → WR H' H.length 1 v (n + m) (cs1 ++ cs2) → K v H') : WF P0 59 [.sl j 0 2] H K := by
  have la := ha.lenOf
  have lb := hb.lenOf
  have w1 : IntKind.i64.wrap (0 + 1) = 1 := by decide
  have w2 : IntKind.i64.wrap (1 + 1) = 2 := by decide
  have w3 : IntKind.i64.wrap (0 + (n : Int)) = n := by rw [wrap_i64 (by omega) (by omega)]; omega
  have w4 : IntKind.i64.wrap ((n : Int) + m) = ((n + m : Nat) : Int) := by rw [wrap_i64 (by omega) (by omega)]; omega
  have c1 : decide ((n : Int) < 0) = false := by simp
  have c2 : decide (((n + m : Nat) : Int) < 0) = false := by simp; omega
  refine zWF rfl rfl rfl ?_
  simp only [a59, zz, env0, aPure, aRead, aNew, aEff, aval, avals, aparts, aopt, wantedA, binA, isShift, binI, fillA, single, aRes, splice, mkv, unA, binS, sameAt, reduceCtorEq, reduceIte, Int.reduceEq, Int.reduceLT, Int.reduceLE, Int.reduceNe, Nat.reduceEqDiff, Nat.reduceLT, Nat.reduceAdd, Nat.reduceMul, Nat.reduceSub, Nat.reduceLeDiff, Int.reduceBEq, Int.reduceBNe, Nat.reduceBEq, Nat.reduceBNe, Int.reduceToNat]
  refine WC_unroll ?_
  simp only [Int.reduceToNat, h1, la, w1, w3, c1, zz, env0, aPure, aRead, aNew, aEff, aval, avals, aparts, aopt, wantedA, binA, isShift, binI, fillA, single, aRes, splice, mkv, unA, binS, sameAt, reduceCtorEq, reduceIte, Int.reduceEq, Int.reduceLT, Int.reduceLE, Int.reduceNe, Nat.reduceEqDiff, Nat.reduceLT, Nat.reduceAdd, Nat.reduceMul, Nat.reduceSub, Nat.reduceLeDiff, Int.reduceBEq, Int.reduceBNe, Nat.reduceBEq, Nat.reduceBNe, Int.reduceToNat]
  refine WC_unroll ?_
  simp only [Int.reduceToNat, h2, lb, w2, w4, c2, zz, env0, aPure, aRead, aNew, aEff, aval, avals, aparts, aopt, wantedA, binA, isShift, binI, fillA, single, aRes, splice, mkv, unA, binS, sameAt, reduceCtorEq, reduceIte, Int.reduceEq, Int.reduceLT, Int.reduceLE, Int.reduceNe, Nat.reduceEqDiff, Nat.reduceLT, Nat.reduceAdd, Nat.reduceMul, Nat.reduceSub, Nat.reduceLeDiff, Int.reduceBEq, Int.reduceBNe, Nat.reduceBEq, Nat.reduceBNe, Int.reduceToNat]
  refine WC_unroll ?_
  simp only [zz, env0, aPure, aRead, aNew, aEff, aval, avals, aparts, aopt, wantedA, binA, isShift, binI, fillA, single, aRes, splice, mkv, unA, binS, sameAt, reduceCtorEq, reduceIte, Int.reduceEq, Int.reduceLT, Int.reduceLE, Int.reduceNe, Nat.reduceEqDiff, Nat.reduceLT, Nat.reduceAdd, Nat.reduceMul, Nat.reduceSub, Nat.reduceLeDiff, Int.reduceBEq, Int.reduceBNe, Nat.reduceBEq, Nat.reduceBNe, Int.reduceToNat]
  refine grow_run _ _ (by omega) _ ?_
  intro v1 H1 hk1 hw1
  simp only [zz, env0, aPure, aRead, aNew, aEff, aval, avals, aparts, aopt, wantedA, binA, isShift, binI, fillA, single, aRes, splice, mkv, unA, binS, sameAt, reduceCtorEq, reduceIte, Int.reduceEq, Int.reduceLT, Int.reduceLE, Int.reduceNe, Nat.reduceEqDiff, Nat.reduceLT, Nat.reduceAdd, Nat.reduceMul, Nat.reduceSub, Nat.reduceLeDiff, Int.reduceBEq, Int.reduceBNe, Nat.reduceBEq, Nat.reduceBNe, Int.reduceToNat]
  obtain ⟨v2, H2, a2, hw2, he2, hid2⟩ := hw1.append (bytes := 8) hk1.1 (ha.keeps hk1).src (by rw [ha.len]) ho1 (by simp only [maxRoom]; omega)
  have hk2 : Keeps H H2 := Else.keeps hk1 he2 (fun i hi => (hw1.id hi).1)
  obtain ⟨v3, H3, a3, hw3, he3, hid3⟩ := hw2.append (bytes := 8) hk2.1 (hb.keeps hk2).src (by rw [hb.len]) ho2 (by simp only [maxRoom]; omega)
  have hk3 : Keeps H H3 := Else.keeps hk2 he3 (fun i hi => (hw2.id hi).1)
  have s1 := ha.flat.2.2.2
  have s2 := hb.flat.2.2.2
  have l1 := hk1.load h1
  have l2 := hk2.load h2
  refine WC_unroll ?_
  simp only [Int.reduceToNat, l1, s1, a2, w1, zz, env0, aPure, aRead, aNew, aEff, aval, avals, aparts, aopt, wantedA, binA, isShift, binI, fillA, single, aRes, splice, mkv, unA, binS, sameAt, reduceCtorEq, reduceIte, Int.reduceEq, Int.reduceLT, Int.reduceLE, Int.reduceNe, Nat.reduceEqDiff, Nat.reduceLT, Nat.reduceAdd, Nat.reduceMul, Nat.reduceSub, Nat.reduceLeDiff, Int.reduceBEq, Int.reduceBNe, Nat.reduceBEq, Nat.reduceBNe, Int.reduceToNat]
  refine WC_unroll ?_
  simp only [Int.reduceToNat, l2, s2, a3, w2, zz, env0, aPure, aRead, aNew, aEff, aval, avals, aparts, aopt, wantedA, binA, isShift, binI, fillA, single, aRes, splice, mkv, unA, binS, sameAt, reduceCtorEq, reduceIte, Int.reduceEq, Int.reduceLT, Int.reduceLE, Int.reduceNe, Nat.reduceEqDiff, Nat.reduceLT, Nat.reduceAdd, Nat.reduceMul, Nat.reduceSub, Nat.reduceLeDiff, Int.reduceBEq, Int.reduceBNe, Nat.reduceBEq, Nat.reduceBNe, Int.reduceToNat]
  refine WC_unroll ?_
  simp only [zz, env0, aPure, aRead, aNew, aEff, aval, avals, aparts, aopt, wantedA, binA, isShift, binI, fillA, single, aRes, splice, mkv, unA, binS, sameAt, reduceCtorEq, reduceIte, Int.reduceEq, Int.reduceLT, Int.reduceLE, Int.reduceNe, Nat.reduceEqDiff, Nat.reduceLT, Nat.reduceAdd, Nat.reduceMul, Nat.reduceSub, Nat.reduceLeDiff, Int.reduceBEq, Int.reduceBNe, Nat.reduceBEq, Nat.reduceBNe, Int.reduceToNat]
  refine hK _ _ hk3 ?_
  simpa using hw3

def ddF (acc : List Int) (x : Int) : List Int := if acc.getLast? = some x then acc else acc ++ [x]
/-- Neighbours that are alike, once. -/
def dd (xs : List Int) : List Int := xs.foldl ddF []
theorem dd_snoc (xs : List Int) (x : Int) : dd (xs ++ [x]) = ddF (dd xs) x := by simp [dd]
theorem snoc_ind {P : List Int → Prop} (h0 : P []) (h1 : ∀ l x, P l → P (l ++ [x])) : ∀ l, P l := by
  intro l
  have : ∀ n (l : List Int), l.length = n → P l := by
    intro n
    induction n with
    | zero => intro l hl; rw [List.length_eq_zero_iff.1 hl]; exact h0
    | succ n ih =>
      intro l hl
      have hne : l ≠ [] := by intro e; subst e; simp at hl
      rw [← List.dropLast_concat_getLast hne]
      exact h1 _ _ (ih _ (by simp [hl]))
  exact this _ l rfl
theorem dd_last (xs : List Int) : (dd xs).getLast? = xs.getLast? := by
  refine snoc_ind (P := fun xs => (dd xs).getLast? = xs.getLast?) rfl (fun l x ih => ?_) xs
  rw [dd_snoc, ddF]
  split
  · rename_i h; rw [h]; simp
  · simp
theorem dd_mem (xs : List Int) : ∀ z, z ∈ dd xs ↔ z ∈ xs := by
  refine snoc_ind (P := fun xs => ∀ z, z ∈ dd xs ↔ z ∈ xs) (by simp [dd]) (fun l x ih z => ?_) xs
  rw [dd_snoc, ddF]
  split
  · rename_i h
    rw [ih]
    have : x ∈ l := by rw [dd_last] at h; exact List.mem_of_getLast? h
    simp only [List.mem_append, List.mem_cons, List.not_mem_nil, or_false]
    constructor
    · exact Or.inl
    · rintro (h | rfl)
      · exact h
      · exact this
  · simp [ih]
theorem dd_sorted (xs : List Int) (h : xs.Pairwise (· ≤ ·)) : (dd xs).Pairwise (· < ·) := by
  revert h
  refine snoc_ind (P := fun xs => xs.Pairwise (· ≤ ·) → (dd xs).Pairwise (· < ·)) (fun _ => .nil) (fun l x ih h => ?_) xs
  rw [List.pairwise_append] at h
  have ih := ih h.1
  rw [dd_snoc, ddF]
  split
  · exact ih
  · rename_i hne
    rw [List.pairwise_append]
    refine ⟨ih, by simp, fun a ha b hb => ?_⟩
    simp only [List.mem_cons, List.not_mem_nil, or_false] at hb
    subst hb
    have hle : ∀ y, y ∈ dd l → y ≤ b := fun y hy => h.2.2 y ((dd_mem l y).1 hy) b (by simp)
    rcases Int.lt_or_le a b with h1 | h1
    · exact h1
    · exfalso
      have hab : a = b := Int.le_antisymm (hle a ha) h1
      subst hab
      have hn : dd l ≠ [] := by intro e; rw [e] at ha; simp at ha
      have hl := List.getLast?_eq_some_getLast hn
      have hlast := List.getLast_mem hn
      have e1 : (dd l).getLast hn ≤ a := hle _ hlast
      rcases List.getLast?_eq_some_iff.1 hl with ⟨ys, hys⟩
      rw [hys] at ha ih
      simp only [List.mem_append, List.mem_cons, List.not_mem_nil, or_false] at ha
      rcases ha with ha | ha
      · have := (List.pairwise_append.1 ih).2.2 a ha _ (List.mem_cons_self ..)
        omega
      · exact hne (by rw [hl, ← ha])
theorem dd_len (xs : List Int) : (dd xs).length ≤ xs.length := by
  refine snoc_ind (P := fun xs => (dd xs).length ≤ xs.length) (by simp [dd]) (fun l x ih => ?_) xs
  rw [dd_snoc, ddF]; split
  · simp; omega
  · simp; omega

theorem dd_take {xs : List Int} {k : Nat} {x : Int} (hx : xs[k]? = some x) : dd (xs.take (k + 1)) = ddF (dd (xs.take k)) x := by
  have hk : k < xs.length := by
    rcases Nat.lt_or_ge k xs.length with h | h
    · exact h
    · rw [List.getElem?_eq_none h] at hx; simp at hx
  rw [List.take_succ_eq_append_getElem hk, dd_snoc]
  rw [List.getElem?_eq_getElem hk] at hx
  simp only [Option.some.injEq] at hx
  rw [hx]
theorem take_last {xs : List Int} {k : Nat} {x : Int} (h0 : 0 < k) (hx : xs[k - 1]? = some x) : (xs.take k).getLast? = some x := by
  rw [List.getLast?_eq_getElem?, List.length_take]
  have hk : k - 1 < xs.length := by
    rcases Nat.lt_or_ge (k - 1) xs.length with h | h
    · exact h
    · rw [List.getElem?_eq_none h] at hx; simp at hx
  rw [Nat.min_eq_left (by omega), List.getElem?_take_of_lt (by omega)]
  exact hx

theorem compact_spec (H : AHeap) (b : Nat) (v : AV) (xs : List Int) (hv : WR H b 1 v xs.length (xs.map (AV.int .i64))) (hbig : xs.length ≤ 1000000000) (K : AV → AHeap → Prop)
    (hK : ∀ v' H', Else H H' (avId v) → WR H' b 1 v' (dd xs).length ((dd xs).map (AV.int .i64)) → K v' H') : WF P0 61 [v] H K := by
  have hl := hv.lenOf
  have done : ∀ H', Else H H' (avId v) → WR H' b 1 v xs.length (xs.map (AV.int .i64)) → dd xs = xs → K v H' := fun H' he hw e => hK v H' he (by rw [e]; exact hw)
  refine zWF rfl rfl rfl ?_
  simp only [a61, hl, zz, env0, aPure, aRead, aNew, aEff, aval, avals, aparts, aopt, wantedA, binA, isShift, binI, fillA, single, aRes, splice, mkv, unA, binS, sameAt, reduceCtorEq, reduceIte, Int.reduceEq, Int.reduceLT, Int.reduceLE, Int.reduceNe, Nat.reduceEqDiff, Nat.reduceLT, Nat.reduceAdd, Nat.reduceMul, Nat.reduceSub, Nat.reduceLeDiff, Int.reduceBEq, Int.reduceBNe, Nat.reduceBEq, Nat.reduceBNe, Int.reduceToNat]
  refine onB_of (fun h => ?_) (fun h => ?_)
  · simp only [zz, env0, aPure, aRead, aNew, aEff, aval, avals, aparts, aopt, wantedA, binA, isShift, binI, fillA, single, aRes, splice, mkv, unA, binS, sameAt, reduceCtorEq, reduceIte, Int.reduceEq, Int.reduceLT, Int.reduceLE, Int.reduceNe, Nat.reduceEqDiff, Nat.reduceLT, Nat.reduceAdd, Nat.reduceMul, Nat.reduceSub, Nat.reduceLeDiff, Int.reduceBEq, Int.reduceBNe, Nat.reduceBEq, Nat.reduceBNe, Int.reduceToNat]
    refine done _ ⟨Nat.le_refl _, fun _ _ _ h => h⟩ hv ?_
    match xs, h with
    | [], _ => rfl
    | [x], _ => rfl
    | a :: b :: r, h => simp at h; omega
  · have hn2 : 2 ≤ xs.length := by simp at h; omega
    simp only [h, hl, zz, env0, aPure, aRead, aNew, aEff, aval, avals, aparts, aopt, wantedA, binA, isShift, binI, fillA, single, aRes, splice, mkv, unA, binS, sameAt, reduceCtorEq, reduceIte, Int.reduceEq, Int.reduceLT, Int.reduceLE, Int.reduceNe, Nat.reduceEqDiff, Nat.reduceLT, Nat.reduceAdd, Nat.reduceMul, Nat.reduceSub, Nat.reduceLeDiff, Int.reduceBEq, Int.reduceBNe, Nat.reduceBEq, Nat.reduceBNe, Int.reduceToNat]
    refine WCL (fun r env H' => H' = H ∧ ∃ (k : Nat) (a6 a7 : AV), 1 ≤ k ∧ k ≤ xs.length ∧ r = xs.length - k ∧ dd (xs.take k) = xs.take k ∧ env = [v, .nilsl, .int .i64 k, .junk, .junk, .bool false, a6, a7, .junk, .junk]) (n := xs.length - 1)
      ⟨rfl, 1, _, _, Nat.le_refl _, by omega, rfl, ?_, rfl⟩ ?_
    · obtain ⟨a, r, rfl⟩ : ∃ a r, xs = a :: r := by cases xs with
        | nil => simp at hn2
        | cons a r => exact ⟨a, r, rfl⟩
      rfl
    rintro r env H' ⟨rfl, k, a6, a7, hk1, hkn, rfl, hdd, rfl⟩
    simp only [hl, zz, env0, aPure, aRead, aNew, aEff, aval, avals, aparts, aopt, wantedA, binA, isShift, binI, fillA, single, aRes, splice, mkv, unA, binS, sameAt, reduceCtorEq, reduceIte, Int.reduceEq, Int.reduceLT, Int.reduceLE, Int.reduceNe, Nat.reduceEqDiff, Nat.reduceLT, Nat.reduceAdd, Nat.reduceMul, Nat.reduceSub, Nat.reduceLeDiff, Int.reduceBEq, Int.reduceBNe, Nat.reduceBEq, Nat.reduceBNe, Int.reduceToNat]
    refine onB_of (fun hlt => ?_) (fun hlt => ?_)
    · have hlt : k < xs.length := by simpa using hlt
      obtain ⟨x, hx⟩ : ∃ x, xs[k]? = some x := ⟨xs[k], List.getElem?_eq_getElem (by omega)⟩
      obtain ⟨y, hy⟩ : ∃ y, xs[k - 1]? = some y := ⟨xs[k - 1], List.getElem?_eq_getElem (by omega)⟩
      have hI := ints_of hv.row
      obtain ⟨i, o, rfl, g1⟩ := hI.int hx
      obtain ⟨i', o', e', g2⟩ := hI.int hy
      simp only [AV.sl.injEq] at e'
      obtain ⟨rfl, rfl, _⟩ := e'
      have hwk : IntKind.i64.wrap ((k : Int) - 1) = ((k - 1 : Nat) : Int) := by rw [wrap_i64 (by omega) (by omega)]; omega
      have hw : IntKind.i64.wrap ((k : Int) + 1) = ((k + 1 : Nat) : Int) := by rw [wrap_i64 (by omega) (by omega)]; rfl
      have p1 : (0 : Int) ≤ k := by omega
      have p2 : (k : Int) < xs.length := by omega
      have p3 : (0 : Int) ≤ ((k - 1 : Nat) : Int) := by omega
      have p4 : ((k - 1 : Nat) : Int) < xs.length := by omega
      simp only [Nat.mul_one, g1, g2, hwk, hw, p1, p2, p3, p4, zz, env0, aPure, aRead, aNew, aEff, aval, avals, aparts, aopt, wantedA, binA, isShift, binI, fillA, single, aRes, splice, mkv, unA, binS, sameAt, reduceCtorEq, reduceIte, Int.reduceEq, Int.reduceLT, Int.reduceLE, Int.reduceNe, Nat.reduceEqDiff, Nat.reduceLT, Nat.reduceAdd, Nat.reduceMul, Nat.reduceSub, Nat.reduceLeDiff, Int.reduceBEq, Int.reduceBNe, Nat.reduceBEq, Nat.reduceBNe, Int.reduceToNat]
      refine onB_of (fun he => ?_) (fun he => ?_)
      · have hxy : x = y := by simpa using he
        subst hxy
        have hs : ∀ q : Nat, q ≤ xs.length → sliceA 1 (.sl i o xs.length) (some (.int .i64 q)) none none = some (.sl i (o + q) (xs.length - q)) := fun q hq => by simp [sliceA, slLen, bound, hq]
        have hsk := hs k hkn
        have hz := hv.row.szOk
        simp only [hz, hsk, he, zz, env0, aPure, aRead, aNew, aEff, aval, avals, aparts, aopt, wantedA, binA, isShift, binI, fillA, single, aRes, splice, mkv, unA, binS, sameAt, reduceCtorEq, reduceIte, Int.reduceEq, Int.reduceLT, Int.reduceLE, Int.reduceNe, Nat.reduceEqDiff, Nat.reduceLT, Nat.reduceAdd, Nat.reduceMul, Nat.reduceSub, Nat.reduceLeDiff, Int.reduceBEq, Int.reduceBNe, Nat.reduceBEq, Nat.reduceBNe, Int.reduceToNat]
        refine WCL (fun r env H2 => Else H' H2 (some i) ∧ ∃ (q m : Nat) (a8 a9 : AV), 1 ≤ q ∧ k + q ≤ xs.length ∧ r = xs.length - k - q ∧ m = (dd (xs.take (k + q))).length ∧ m + 1 ≤ k + q ∧
            WR H2 b 1 (.sl i o xs.length) xs.length ((dd (xs.take (k + q)) ++ xs.drop m).map (AV.int .i64)) ∧
            env = [.sl i o xs.length, .nilsl, .int .i64 m, .sl i (o + k) (xs.length - k), .int .i64 q, .bool false, .bool true, .bool true, a8, a9]) (n := xs.length - k - 1)
          ⟨⟨Nat.le_refl _, fun _ _ _ h => h⟩, 1, k, _, _, Nat.le_refl _, by omega, rfl, ?_, by omega, ?_, rfl⟩ ?_
        · rw [dd_take hx, ddF, if_pos (by rw [dd_last]; exact take_last hk1 hy), hdd, List.length_take]; omega
        · rw [dd_take hx, ddF, if_pos (by rw [dd_last]; exact take_last hk1 hy), hdd, List.take_append_drop]; exact hv
        rintro r env H2 ⟨he2, q, m, a8, a9, hq1, hqn, rfl, hm, hmq, hw2, rfl⟩
        simp only [zz, env0, aPure, aRead, aNew, aEff, aval, avals, aparts, aopt, wantedA, binA, isShift, binI, fillA, single, aRes, splice, mkv, unA, binS, sameAt, reduceCtorEq, reduceIte, Int.reduceEq, Int.reduceLT, Int.reduceLE, Int.reduceNe, Nat.reduceEqDiff, Nat.reduceLT, Nat.reduceAdd, Nat.reduceMul, Nat.reduceSub, Nat.reduceLeDiff, Int.reduceBEq, Int.reduceBNe, Nat.reduceBEq, Nat.reduceBNe, Int.reduceToNat]
        refine onB_of (fun hlt2 => ?_) (fun hlt2 => ?_)
        · have hlt2 : k + q < xs.length := by simp at hlt2; omega
          have hlen : (dd (xs.take (k + q)) ++ xs.drop m).length = xs.length := by simp [← hm]; omega
          obtain ⟨u, hu⟩ : ∃ u, xs[k + q]? = some u := ⟨xs[k + q], List.getElem?_eq_getElem (by omega)⟩
          obtain ⟨w, hwv⟩ : ∃ w, xs[k + q - 1]? = some w := ⟨xs[k + q - 1], List.getElem?_eq_getElem (by omega)⟩
          have hI2 : Ints H2 (.sl i o xs.length) (dd (xs.take (k + q)) ++ xs.drop m) := ints_of (by rw [hlen]; exact hw2.row)
          have hu2 : (dd (xs.take (k + q)) ++ xs.drop m)[k + q]? = some u := by
            rw [List.getElem?_append_right (by omega), List.getElem?_drop, ← hu]; congr 1; omega
          have hw3 : (dd (xs.take (k + q)) ++ xs.drop m)[k + q - 1]? = some w := by
            rw [List.getElem?_append_right (by omega), List.getElem?_drop, ← hwv]; congr 1; omega
          obtain ⟨i2, o2, e2, g3⟩ := hI2.int hu2
          obtain ⟨i3, o3, e3, g4⟩ := hI2.int hw3
          simp only [AV.sl.injEq] at e2 e3
          obtain ⟨rfl, rfl, _⟩ := e2
          obtain ⟨rfl, rfl, _⟩ := e3
          have v1 : IntKind.i64.wrap ((q : Int) - 1) = ((q - 1 : Nat) : Int) := by rw [wrap_i64 (by omega) (by omega)]; omega
          have v2 : IntKind.i64.wrap ((q : Int) + 1) = ((q + 1 : Nat) : Int) := by rw [wrap_i64 (by omega) (by omega)]; rfl
          have v3 : IntKind.i64.wrap ((m : Int) + 1) = ((m + 1 : Nat) : Int) := by rw [wrap_i64 (by omega) (by omega)]; rfl
          have r1 : (0 : Int) ≤ q := by omega
          have r2 : (q : Int) < ((xs.length - k : Nat) : Int) := by omega
          have r3 : (0 : Int) ≤ ((q - 1 : Nat) : Int) := by omega
          have r4 : ((q - 1 : Nat) : Int) < ((xs.length - k : Nat) : Int) := by omega
          have r5 : (0 : Int) ≤ m := by omega
          have r6 : (m : Int) < xs.length := by omega
          have g3' : loadA H2 i (o + k + q) 1 = some [.int .i64 u] := by rw [Nat.add_assoc]; exact g3
          have g4' : loadA H2 i (o + k + (q - 1)) 1 = some [.int .i64 w] := by rw [← g4]; congr 1; omega
          simp only [Nat.mul_one, g3', g4', v1, r1, r2, r3, r4, zz, env0, aPure, aRead, aNew, aEff, aval, avals, aparts, aopt, wantedA, binA, isShift, binI, fillA, single, aRes, splice, mkv, unA, binS, sameAt, reduceCtorEq, reduceIte, Int.reduceEq, Int.reduceLT, Int.reduceLE, Int.reduceNe, Nat.reduceEqDiff, Nat.reduceLT, Nat.reduceAdd, Nat.reduceMul, Nat.reduceSub, Nat.reduceLeDiff, Int.reduceBEq, Int.reduceBNe, Nat.reduceBEq, Nat.reduceBNe, Int.reduceToNat]
          refine onB_of (fun hne => ?_) (fun hne => ?_)
          · have hne' : u ≠ w := by simpa [bne_iff_ne] using hne
            obtain ⟨i4, o4, e4, H3, hst, hw5, he5, _⟩ := hw2.store (k := m) (vs := [.int .i64 u]) (by simp; omega) (by omega) rfl
            simp only [AV.sl.injEq] at e4
            obtain ⟨rfl, rfl, _⟩ := e4
            simp only [Nat.mul_one, g3', r1, r2, r5, r6, hst, v2, v3, zz, env0, aPure, aRead, aNew, aEff, aval, avals, aparts, aopt, wantedA, binA, isShift, binI, fillA, single, aRes, splice, mkv, unA, binS, sameAt, reduceCtorEq, reduceIte, Int.reduceEq, Int.reduceLT, Int.reduceLE, Int.reduceNe, Nat.reduceEqDiff, Nat.reduceLT, Nat.reduceAdd, Nat.reduceMul, Nat.reduceSub, Nat.reduceLeDiff, Int.reduceBEq, Int.reduceBNe, Nat.reduceBEq, Nat.reduceBNe, Int.reduceToNat]
            have hnew : dd (xs.take (k + (q + 1))) = dd (xs.take (k + q)) ++ [u] := by
              rw [← Nat.add_assoc, dd_take hu, ddF, if_neg]
              rw [dd_last, take_last (by omega) hwv]; simp; exact fun e => hne' e.symm
            refine ⟨xs.length - k - (q + 1), by omega, ⟨Nat.le_trans he2.1 he5.1, fun j c hj hc => he5.2 j c hj (he2.2 j c hj hc)⟩, q + 1, m + 1, _, _, by omega, by omega, rfl, ?_, by omega, ?_, rfl⟩
            · rw [hnew]; simp [← hm]
            · rw [splice_ints _ _ _ (by rw [hlen]; omega)] at hw5
              have e : (dd (xs.take (k + q)) ++ xs.drop m).set m u = dd (xs.take (k + (q + 1))) ++ xs.drop (m + 1) := by
                rw [hnew, List.set_append_right _ _ (by omega), ← hm, Nat.sub_self, List.append_assoc]
                congr 1
                rw [List.drop_eq_getElem_cons (by omega)]
                rfl
              rw [e] at hw5; exact hw5
          · have hne' : u = w := by simpa [bne_iff_ne] using hne
            subst hne'
            simp only [v2, zz, env0, aPure, aRead, aNew, aEff, aval, avals, aparts, aopt, wantedA, binA, isShift, binI, fillA, single, aRes, splice, mkv, unA, binS, sameAt, reduceCtorEq, reduceIte, Int.reduceEq, Int.reduceLT, Int.reduceLE, Int.reduceNe, Nat.reduceEqDiff, Nat.reduceLT, Nat.reduceAdd, Nat.reduceMul, Nat.reduceSub, Nat.reduceLeDiff, Int.reduceBEq, Int.reduceBNe, Nat.reduceBEq, Nat.reduceBNe, Int.reduceToNat]
            have hnew : dd (xs.take (k + (q + 1))) = dd (xs.take (k + q)) := by
              rw [← Nat.add_assoc, dd_take hu, ddF, if_pos]
              rw [dd_last, take_last (by omega) hwv]
            refine ⟨xs.length - k - (q + 1), by omega, he2, q + 1, m, _, _, by omega, by omega, rfl, by rw [hnew]; exact hm, by omega, by rw [hnew]; exact hw2, rfl⟩
        · have hqe : k + q = xs.length := by simp at hlt2; omega
          rw [hqe, List.take_length] at hm hw2
          have hmle : m ≤ xs.length := by omega
          have hsm := hs m hmle
          have hz2 := hw2.row.szOk
          obtain ⟨i4, o4, e4, H3, hst, hw5, he5, _⟩ := hw2.store (k := m) (vs := rows (xs.length - m) [.int .i64 0]) (by simp [rows]; omega) (by omega) (by simp [rows, AV.one])
          simp only [AV.sl.injEq] at e4
          obtain ⟨rfl, rfl, _⟩ := e4
          have hz3 := hw5.row.szOk
          have hcl : clearA H2 [.int .i64 0] (.sl i (o + m) (xs.length - m)) = some (.tup [], H3) := by
            simp only [clearA, hst]
            rw [if_neg (by omega)]
          have hhi : sliceA 1 (.sl i o xs.length) none (some (.int .i64 m)) none = some (.sl i o m) := by simp [sliceA, slLen, bound, hmle]
          simp only [hz2, hsm, hcl, hz3, hhi, zz, env0, aPure, aRead, aNew, aEff, aval, avals, aparts, aopt, wantedA, binA, isShift, binI, fillA, single, aRes, splice, mkv, unA, binS, sameAt, reduceCtorEq, reduceIte, Int.reduceEq, Int.reduceLT, Int.reduceLE, Int.reduceNe, Nat.reduceEqDiff, Nat.reduceLT, Nat.reduceAdd, Nat.reduceMul, Nat.reduceSub, Nat.reduceLeDiff, Int.reduceBEq, Int.reduceBNe, Nat.reduceBEq, Nat.reduceBNe, Int.reduceToNat]
          refine hK _ _ ⟨Nat.le_trans he2.1 he5.1, fun j c hj hc => he5.2 j c hj (he2.2 j c hj hc)⟩ ?_
          obtain ⟨v', h1, h2, _⟩ := hw5.sliceHi (l := m) hmle
          rw [hhi] at h1
          simp only [Option.some.injEq] at h1
          subst h1
          rw [← hm]
          have : List.take (m * 1) (splice ((dd xs ++ xs.drop m).map (AV.int .i64)) m (rows (xs.length - m) [.int .i64 0])) = (dd xs).map (AV.int .i64) := by
            rw [Nat.mul_one, splice, List.append_assoc, List.take_append_of_le_length (by simp; omega), List.take_take, Nat.min_self, List.map_append, List.take_append_of_le_length (by simp; omega), List.take_of_length_le (by simp; omega)]
          rw [this] at h2
          exact h2
      · simp only [hw, zz, env0, aPure, aRead, aNew, aEff, aval, avals, aparts, aopt, wantedA, binA, isShift, binI, fillA, single, aRes, splice, mkv, unA, binS, sameAt, reduceCtorEq, reduceIte, Int.reduceEq, Int.reduceLT, Int.reduceLE, Int.reduceNe, Nat.reduceEqDiff, Nat.reduceLT, Nat.reduceAdd, Nat.reduceMul, Nat.reduceSub, Nat.reduceLeDiff, Int.reduceBEq, Int.reduceBNe, Nat.reduceBEq, Nat.reduceBNe, Int.reduceToNat]
        have hxy : x ≠ y := by simpa using he
        refine ⟨xs.length - (k + 1), by omega, k + 1, _, _, by omega, by omega, rfl, ?_, rfl⟩
        rw [dd_take hx, ddF, if_neg, hdd, List.take_succ_eq_append_getElem hlt]
        · rw [List.getElem?_eq_getElem hlt] at hx; simp at hx; rw [hx]
        · rw [dd_last, take_last hk1 hy]; simp; exact fun e => hxy e.symm
    · have hke : k = xs.length := by simp at hlt; omega
      subst hke
      rw [List.take_length] at hdd
      simp only [zz, env0, aPure, aRead, aNew, aEff, aval, avals, aparts, aopt, wantedA, binA, isShift, binI, fillA, single, aRes, splice, mkv, unA, binS, sameAt, reduceCtorEq, reduceIte, Int.reduceEq, Int.reduceLT, Int.reduceLE, Int.reduceNe, Nat.reduceEqDiff, Nat.reduceLT, Nat.reduceAdd, Nat.reduceMul, Nat.reduceSub, Nat.reduceLeDiff, Int.reduceBEq, Int.reduceBNe, Nat.reduceBEq, Nat.reduceBNe, Int.reduceToNat]
      exact done _ ⟨Nat.le_refl _, fun _ _ _ h => h⟩ hv hdd
end Go.Proofs.Ytnblhjpbpobglaa

/- lang.merge, slices.Clone, slices.BinarySearch. -/
set_option maxRecDepth 100000
set_option linter.unusedSimpArgs false
namespace Go.Proofs.Ytnblhjpbpobglaa
open Go.Am

def mergeL (xs ys : List Int) : List Int := dd (sortI (xs ++ ys))
theorem mergeL_sorted (xs ys : List Int) : (mergeL xs ys).Pairwise (· < ·) := dd_sorted _ (sortI_sorted _)
theorem mergeL_mem (xs ys : List Int) (z : Int) : z ∈ mergeL xs ys ↔ z ∈ xs ∨ z ∈ ys := by
  rw [mergeL, dd_mem, (sortI_perm _).mem_iff, List.mem_append]
theorem mergeL_len (xs ys : List Int) : (mergeL xs ys).length ≤ xs.length + ys.length := by
  have := dd_len (sortI (xs ++ ys))
  rw [sortI_len, List.length_append] at this; exact this

theorem sort_run (H : AHeap) (b : Nat) (v : AV) (xs : List Int) (hv : WR H b 1 v xs.length (xs.map (AV.int .i64))) (hbig : xs.length < 4611686018427387904) (K : AV → AHeap → Prop)
    (hK : ∀ H', Else H H' (avId v) → WR H' b 1 v xs.length ((sortI xs).map (AV.int .i64)) → K (.tup []) H') : WF P0 60 [v] H K := by
  by_cases h0 : xs.length = 0
  · have := List.length_eq_zero_iff.1 h0
    subst this
    refine WF_orc rfl (r := .tup []) (H' := H) ?_ (hK H ⟨Nat.le_refl _, fun _ _ _ h => h⟩ hv)
    rcases hv with ⟨rfl | rfl, _⟩ | ⟨i, o, cs, rfl, _⟩ <;> simp [orcSort]
  · obtain ⟨i, o, rfl, H', hst, hw, he, _⟩ := hv.store (k := 0) (vs := (sortI xs).map (AV.int .i64)) (by simp [sortI_len]) (by omega) (one_ints _)
    refine WF_orc rfl (r := .tup []) (H' := H') ?_ (hK H' he ?_)
    · have hl : loadA H i o xs.length = some (xs.map (AV.int .i64)) := by
        rcases hv with ⟨h, _⟩ | ⟨i', o', cs, e, _, h3, h4, h5⟩
        · rcases h with h | h <;> simp at h
        · simp only [AV.sl.injEq] at e
          obtain ⟨rfl, rfl, _⟩ := e
          rw [load_of h3, if_pos (by omega)]
          rw [Nat.mul_one] at h5; rw [h5]
      have hi : ∀ xs : List Int, intsOf (xs.map (AV.int .i64)) = some xs := by
        intro xs; induction xs with
        | nil => rfl
        | cons a l ih => simp [intsOf, ih]
      rw [Nat.add_zero] at hst
      simp only [orcSort, h0, if_false, hl, hi, hbig, if_true, hst]
    · have e : splice (xs.map (AV.int .i64)) 0 ((sortI xs).map (AV.int .i64)) = (sortI xs).map (AV.int .i64) := by
        simp only [splice, List.take_zero, List.nil_append, Nat.zero_add, List.length_map, sortI_len]
        rw [List.drop_of_length_le (by simp), List.append_nil]
      rw [e] at hw; exact hw

theorem merge_spec (H : AHeap) (va vb : AV) (xs ys : List Int) (hx : Ints H va xs) (hy : Ints H vb ys) (h1 : xs.length ≤ 100000000) (h2 : ys.length ≤ 100000000) (K : AV → AHeap → Prop)
    (hK : ∀ v H', Keeps H H' → WR H' H.length 1 v (mergeL xs ys).length ((mergeL xs ys).map (AV.int .i64)) → K v H') : WF P0 43 [va, vb] H K := by
  refine zWF rfl rfl rfl ?_
  obtain ⟨f1, f2, f3, f4⟩ := hx.flat
  obtain ⟨g1, g2, g3, g4⟩ := hy.flat
  simp only [a43, f2, f3, g2, g3, zz, env0, aPure, aRead, aNew, aEff, aval, avals, aparts, aopt, wantedA, binA, isShift, binI, fillA, single, aRes, splice, mkv, unA, binS, sameAt, reduceCtorEq, reduceIte, Int.reduceEq, Int.reduceLT, Int.reduceLE, Int.reduceNe, Nat.reduceEqDiff, Nat.reduceLT, Nat.reduceAdd, Nat.reduceMul, Nat.reduceSub, Nat.reduceLeDiff, Int.reduceBEq, Int.reduceBNe, Nat.reduceBEq, Nat.reduceBNe, Int.reduceToNat]
  refine concat_spec _ _ va vb xs.length ys.length _ _ (load_one (gb_new _ _) rfl) (load_one (gb_new _ _) rfl) (Rows.keeps IntP.mono (.p1 _ _) hx).ints (Rows.keeps IntP.mono (.p1 _ _) hy).ints (one_ints _) (one_ints _) h1 h2 _ ?_
  intro v1 H1 hk1 hw1
  have hkH : Keeps H H1 := (Keeps.p1 _ _).trans hk1
  have hl1 : H.length ≤ (H ++ [some (Blk.cells 1 true [va, vb])]).length := by simp
  rw [← List.map_append] at hw1
  have hl : (xs ++ ys).length = xs.length + ys.length := List.length_append
  rw [← hl] at hw1
  simp only [zz, env0, aPure, aRead, aNew, aEff, aval, avals, aparts, aopt, wantedA, binA, isShift, binI, fillA, single, aRes, splice, mkv, unA, binS, sameAt, reduceCtorEq, reduceIte, Int.reduceEq, Int.reduceLT, Int.reduceLE, Int.reduceNe, Nat.reduceEqDiff, Nat.reduceLT, Nat.reduceAdd, Nat.reduceMul, Nat.reduceSub, Nat.reduceLeDiff, Int.reduceBEq, Int.reduceBNe, Nat.reduceBEq, Nat.reduceBNe, Int.reduceToNat]
  refine sort_run _ _ _ _ hw1 (by rw [hl]; omega) _ ?_
  intro H2 he2 hw2
  have hk2 : Keeps H H2 := Else.keeps hkH he2 (fun i hi => by have := (hw1.id hi).1; omega)
  simp only [zz, env0, aPure, aRead, aNew, aEff, aval, avals, aparts, aopt, wantedA, binA, isShift, binI, fillA, single, aRes, splice, mkv, unA, binS, sameAt, reduceCtorEq, reduceIte, Int.reduceEq, Int.reduceLT, Int.reduceLE, Int.reduceNe, Nat.reduceEqDiff, Nat.reduceLT, Nat.reduceAdd, Nat.reduceMul, Nat.reduceSub, Nat.reduceLeDiff, Int.reduceBEq, Int.reduceBNe, Nat.reduceBEq, Nat.reduceBNe, Int.reduceToNat]
  rw [← sortI_len (xs ++ ys)] at hw2
  refine compact_spec _ _ _ (sortI (xs ++ ys)) hw2 (by rw [sortI_len, hl]; omega) _ ?_
  intro v3 H3 he3 hw3
  have hk3 : Keeps H H3 := Else.keeps hk2 he3 (fun i hi => by have := (hw2.id hi).1; omega)
  simp only [zz, env0, aPure, aRead, aNew, aEff, aval, avals, aparts, aopt, wantedA, binA, isShift, binI, fillA, single, aRes, splice, mkv, unA, binS, sameAt, reduceCtorEq, reduceIte, Int.reduceEq, Int.reduceLT, Int.reduceLE, Int.reduceNe, Nat.reduceEqDiff, Nat.reduceLT, Nat.reduceAdd, Nat.reduceMul, Nat.reduceSub, Nat.reduceLeDiff, Int.reduceBEq, Int.reduceBNe, Nat.reduceBEq, Nat.reduceBNe, Int.reduceToNat]
  exact hK _ _ hk3 (hw3.weak hl1)

theorem clone_spec (H : AHeap) (v : AV) (xs : List Int) (hx : Ints H v xs) (h1 : xs.length ≤ 100000000) (K : AV → AHeap → Prop)
    (hK : ∀ v H', Keeps H H' → WR H' H.length 1 v xs.length (xs.map (AV.int .i64)) → K v H') : WF P0 30 [v] H K := by
  refine zWF rfl rfl rfl ?_
  by_cases hn : v = .nilsl
  · subst hn
    have hl := hx.lenOf
    simp only [lenOf_nil, Option.some.injEq, AV.int.injEq, true_and] at hl
    have : xs = [] := List.length_eq_zero_iff.1 (by omega)
    subst this
    simp only [a30, zz, env0, aPure, aRead, aNew, aEff, aval, avals, aparts, aopt, wantedA, binA, isShift, binI, fillA, single, aRes, splice, mkv, unA, binS, sameAt, reduceCtorEq, reduceIte, Int.reduceEq, Int.reduceLT, Int.reduceLE, Int.reduceNe, Nat.reduceEqDiff, Nat.reduceLT, Nat.reduceAdd, Nat.reduceMul, Nat.reduceSub, Nat.reduceLeDiff, Int.reduceBEq, Int.reduceBNe, Nat.reduceBEq, Nat.reduceBNe, Int.reduceToNat]
    exact hK _ _ (.refl _) .nil
  · have hne : eqNil .slice v .nilsl = some false := by
      rcases hx.ints.lenL with ⟨rfl, _⟩ | ⟨rfl, _⟩ | ⟨i, o, rfl⟩
      · exact absurd rfl hn
      · rfl
      · rfl
    have s1 := hx.flat.2.2.2
    obtain ⟨v', H', ha, hw, he, _⟩ := (WR.new H 1 0 [] rfl (Nat.le_refl _)).append (bytes := 8) (by simp) (Rows.keeps IntP.mono (.p1 H _) hx).ints.src (by simp) (one_ints _) (by simp only [maxRoom]; omega)
    have hk : Keeps H H' := Else.keeps (.p1 _ _) he (fun i hi => by simp [avId] at hi; omega)
    simp only [a30, hne, s1, ha, zz, env0, aPure, aRead, aNew, aEff, aval, avals, aparts, aopt, wantedA, binA, isShift, binI, fillA, single, aRes, splice, mkv, unA, binS, sameAt, reduceCtorEq, reduceIte, Int.reduceEq, Int.reduceLT, Int.reduceLE, Int.reduceNe, Nat.reduceEqDiff, Nat.reduceLT, Nat.reduceAdd, Nat.reduceMul, Nat.reduceSub, Nat.reduceLeDiff, Int.reduceBEq, Int.reduceBNe, Nat.reduceBEq, Nat.reduceBNe, Int.reduceToNat]
    refine hK _ _ hk ?_
    simpa using hw

theorem isNaN1_spec (H : AHeap) (x : Int) (K : AV → AHeap → Prop) (hK : K (.bool false) H) : WF P0 49 [.int .i64 x] H K := by
  refine zWF rfl rfl rfl ?_
  have e : (x != x) = false := by simp
  simp only [a49, e, zz, env0, aPure, aRead, aNew, aEff, aval, avals, aparts, aopt, wantedA, binA, isShift, binI, fillA, single, aRes, splice, mkv, unA, binS, sameAt, reduceCtorEq, reduceIte, Int.reduceEq, Int.reduceLT, Int.reduceLE, Int.reduceNe, Nat.reduceEqDiff, Nat.reduceLT, Nat.reduceAdd, Nat.reduceMul, Nat.reduceSub, Nat.reduceLeDiff, Int.reduceBEq, Int.reduceBNe, Nat.reduceBEq, Nat.reduceBNe, Int.reduceToNat]
  exact hK
theorem isNaN2_spec (H : AHeap) (x : Int) (K : AV → AHeap → Prop) (hK : K (.bool false) H) : WF P0 64 [.int .i64 x] H K := by
  refine zWF rfl rfl rfl ?_
  have e : (x != x) = false := by simp
  simp only [a64, e, zz, env0, aPure, aRead, aNew, aEff, aval, avals, aparts, aopt, wantedA, binA, isShift, binI, fillA, single, aRes, splice, mkv, unA, binS, sameAt, reduceCtorEq, reduceIte, Int.reduceEq, Int.reduceLT, Int.reduceLE, Int.reduceNe, Nat.reduceEqDiff, Nat.reduceLT, Nat.reduceAdd, Nat.reduceMul, Nat.reduceSub, Nat.reduceLeDiff, Int.reduceBEq, Int.reduceBNe, Nat.reduceBEq, Nat.reduceBNe, Int.reduceToNat]
  exact hK
theorem less_spec (H : AHeap) (x y : Int) (K : AV → AHeap → Prop) (hK : K (.bool (decide (x < y))) H) : WF P0 48 [.int .i64 x, .int .i64 y] H K := by
  refine zWF rfl rfl rfl ?_
  simp only [a48, zz, env0, aPure, aRead, aNew, aEff, aval, avals, aparts, aopt, wantedA, binA, isShift, binI, fillA, single, aRes, splice, mkv, unA, binS, sameAt, reduceCtorEq, reduceIte, Int.reduceEq, Int.reduceLT, Int.reduceLE, Int.reduceNe, Nat.reduceEqDiff, Nat.reduceLT, Nat.reduceAdd, Nat.reduceMul, Nat.reduceSub, Nat.reduceLeDiff, Int.reduceBEq, Int.reduceBNe, Nat.reduceBEq, Nat.reduceBNe, Int.reduceToNat]
  refine isNaN2_spec _ _ _ ?_
  simp only [zz, env0, aPure, aRead, aNew, aEff, aval, avals, aparts, aopt, wantedA, binA, isShift, binI, fillA, single, aRes, splice, mkv, unA, binS, sameAt, reduceCtorEq, reduceIte, Int.reduceEq, Int.reduceLT, Int.reduceLE, Int.reduceNe, Nat.reduceEqDiff, Nat.reduceLT, Nat.reduceAdd, Nat.reduceMul, Nat.reduceSub, Nat.reduceLeDiff, Int.reduceBEq, Int.reduceBNe, Nat.reduceBEq, Nat.reduceBNe, Int.reduceToNat]
  exact hK

theorem search_spec (H : AHeap) (v : AV) (xs : List Int) (t : Int) (hx : Ints H v xs) (h1 : xs.length ≤ 100000000) (hs : xs.Pairwise (· < ·)) (K : AV → AHeap → Prop)
    (hK : ∀ (k : Int) b, (b = true ↔ t ∈ xs) → K (.tup [.int .i64 k, .bool b]) H) : WF P0 34 [v, .int .i64 t] H K := by
  have hl := hx.lenOf
  refine zWF rfl rfl rfl ?_
  simp only [a34, hl, zz, env0, aPure, aRead, aNew, aEff, aval, avals, aparts, aopt, wantedA, binA, isShift, binI, fillA, single, aRes, splice, mkv, unA, binS, sameAt, reduceCtorEq, reduceIte, Int.reduceEq, Int.reduceLT, Int.reduceLE, Int.reduceNe, Nat.reduceEqDiff, Nat.reduceLT, Nat.reduceAdd, Nat.reduceMul, Nat.reduceSub, Nat.reduceLeDiff, Int.reduceBEq, Int.reduceBNe, Nat.reduceBEq, Nat.reduceBNe, Int.reduceToNat]
  refine WCL (fun r env H' => H' = H ∧ ∃ (i j : Nat) (a7 a8 a9 : AV), i ≤ j ∧ j ≤ xs.length ∧ r = j - i ∧ (∀ k x, k < i → xs[k]? = some x → x < t) ∧ (∀ k x, j ≤ k → xs[k]? = some x → t ≤ x) ∧
      env = [v, .int .i64 t, .int .i64 0, .bool false, .int .i64 xs.length, .int .i64 i, .int .i64 j, a7, a8, a9]) (n := xs.length)
    ⟨rfl, 0, xs.length, _, _, _, Nat.zero_le _, Nat.le_refl _, by omega, fun k x h => by omega, fun k x h hx => by rw [List.getElem?_eq_none h] at hx; simp at hx, rfl⟩ ?_
  rintro r env H' ⟨rfl, i, j, a7, a8, a9, hij, hjn, rfl, hlo, hhi, rfl⟩
  simp only [zz, env0, aPure, aRead, aNew, aEff, aval, avals, aparts, aopt, wantedA, binA, isShift, binI, fillA, single, aRes, splice, mkv, unA, binS, sameAt, reduceCtorEq, reduceIte, Int.reduceEq, Int.reduceLT, Int.reduceLE, Int.reduceNe, Nat.reduceEqDiff, Nat.reduceLT, Nat.reduceAdd, Nat.reduceMul, Nat.reduceSub, Nat.reduceLeDiff, Int.reduceBEq, Int.reduceBNe, Nat.reduceBEq, Nat.reduceBNe, Int.reduceToNat]
  refine onB_of (fun hlt => ?_) (fun hlt => ?_)
  · have hlt' : i < j := by simp at hlt; omega
    have e1 : IntKind.i64.wrap ((i : Int) + j) = ((i + j : Nat) : Int) := by rw [wrap_i64 (by omega) (by omega)]; omega
    have e2 : IntKind.u64.wrap ((i + j : Nat) : Int) = ((i + j : Nat) : Int) := by rw [wrap_u64 (by omega) (by omega)]
    have e3 : shiftI .shr .u64 ((i + j : Nat) : Int) 1 = some (.int .u64 (((i + j) / 2 : Nat) : Int)) := by
      simp only [shiftI, IntKind.bits]
      rw [if_neg (by omega)]
      congr 2
      show Int.fdiv _ (2 ^ 1) = _
      rw [Int.fdiv_eq_ediv_of_nonneg _ (by decide)]; omega
    have e4 : IntKind.i64.wrap (((i + j) / 2 : Nat) : Int) = (((i + j) / 2 : Nat) : Int) := by rw [wrap_i64 (by omega) (by omega)]
    have hm : (i + j) / 2 < xs.length := by omega
    obtain ⟨x, hxm⟩ : ∃ x, xs[(i + j) / 2]? = some x := ⟨xs[(i + j) / 2], List.getElem?_eq_getElem (by omega)⟩
    obtain ⟨b, o, rfl, g1⟩ := hx.int hxm
    have p1 : (0 : Int) ≤ (((i + j) / 2 : Nat) : Int) := by omega
    have p2 : (((i + j) / 2 : Nat) : Int) < xs.length := by omega
    have e5 : IntKind.i64.wrap ((((i + j) / 2 : Nat) : Int) + 1) = (((i + j) / 2 + 1 : Nat) : Int) := by rw [wrap_i64 (by omega) (by omega)]; omega
    simp only [e1, e2, e3, e4, p1, p2, Nat.mul_one, g1, zz, env0, aPure, aRead, aNew, aEff, aval, avals, aparts, aopt, wantedA, binA, isShift, binI, fillA, single, aRes, splice, mkv, unA, binS, sameAt, reduceCtorEq, reduceIte, Int.reduceEq, Int.reduceLT, Int.reduceLE, Int.reduceNe, Nat.reduceEqDiff, Nat.reduceLT, Nat.reduceAdd, Nat.reduceMul, Nat.reduceSub, Nat.reduceLeDiff, Int.reduceBEq, Int.reduceBNe, Nat.reduceBEq, Nat.reduceBNe, Int.reduceToNat]
    refine less_spec _ _ _ _ ?_
    simp only [zz, env0, aPure, aRead, aNew, aEff, aval, avals, aparts, aopt, wantedA, binA, isShift, binI, fillA, single, aRes, splice, mkv, unA, binS, sameAt, reduceCtorEq, reduceIte, Int.reduceEq, Int.reduceLT, Int.reduceLE, Int.reduceNe, Nat.reduceEqDiff, Nat.reduceLT, Nat.reduceAdd, Nat.reduceMul, Nat.reduceSub, Nat.reduceLeDiff, Int.reduceBEq, Int.reduceBNe, Nat.reduceBEq, Nat.reduceBNe, Int.reduceToNat]
    refine onB_of (fun h => ?_) (fun h => ?_)
    · have h : x < t := by simpa using h
      simp only [e5, zz, env0, aPure, aRead, aNew, aEff, aval, avals, aparts, aopt, wantedA, binA, isShift, binI, fillA, single, aRes, splice, mkv, unA, binS, sameAt, reduceCtorEq, reduceIte, Int.reduceEq, Int.reduceLT, Int.reduceLE, Int.reduceNe, Nat.reduceEqDiff, Nat.reduceLT, Nat.reduceAdd, Nat.reduceMul, Nat.reduceSub, Nat.reduceLeDiff, Int.reduceBEq, Int.reduceBNe, Nat.reduceBEq, Nat.reduceBNe, Int.reduceToNat]
      refine ⟨j - ((i + j) / 2 + 1), by omega, (i + j) / 2 + 1, j, _, _, _, by omega, hjn, rfl, fun k y hk hy => ?_, hhi, rfl⟩
      rcases Nat.lt_or_ge k ((i + j) / 2) with hk | hk
      · have := List.pairwise_iff_getElem.1 hs k ((i + j) / 2) (by omega) hm hk
        rw [List.getElem?_eq_getElem (by omega)] at hy hxm
        simp only [Option.some.injEq] at hy hxm
        omega
      · have : k = (i + j) / 2 := by omega
        subst this; rw [hy] at hxm; simp only [Option.some.injEq] at hxm; omega
    · have h : ¬ x < t := by simpa using h
      simp only [zz, env0, aPure, aRead, aNew, aEff, aval, avals, aparts, aopt, wantedA, binA, isShift, binI, fillA, single, aRes, splice, mkv, unA, binS, sameAt, reduceCtorEq, reduceIte, Int.reduceEq, Int.reduceLT, Int.reduceLE, Int.reduceNe, Nat.reduceEqDiff, Nat.reduceLT, Nat.reduceAdd, Nat.reduceMul, Nat.reduceSub, Nat.reduceLeDiff, Int.reduceBEq, Int.reduceBNe, Nat.reduceBEq, Nat.reduceBNe, Int.reduceToNat]
      refine ⟨(i + j) / 2 - i, by omega, i, (i + j) / 2, _, _, _, by omega, by omega, rfl, hlo, fun k y hk hy => ?_, rfl⟩
      rcases Nat.lt_or_ge ((i + j) / 2) k with hk | hk
      · have hkl : k < xs.length := by
          rcases Nat.lt_or_ge k xs.length with h | h
          · exact h
          · rw [List.getElem?_eq_none h] at hy; simp at hy
        have := List.pairwise_iff_getElem.1 hs ((i + j) / 2) k hm hkl hk
        rw [List.getElem?_eq_getElem hkl] at hy
        rw [List.getElem?_eq_getElem hm] at hxm
        simp only [Option.some.injEq] at hy hxm
        omega
      · have : k = (i + j) / 2 := by omega
        subst this; rw [hy] at hxm; simp only [Option.some.injEq] at hxm; omega
  · have hij' : i = j := by simp at hlt; omega
    subst hij'
    have none : i = xs.length → t ∉ xs := fun e hm => by
      obtain ⟨k, hk⟩ := List.mem_iff_getElem?.1 hm
      have hkl : k < xs.length := by
        rcases Nat.lt_or_ge k xs.length with h | h
        · exact h
        · rw [List.getElem?_eq_none h] at hk; simp at hk
      have := hlo k t (by omega) hk; omega
    simp only [zz, env0, aPure, aRead, aNew, aEff, aval, avals, aparts, aopt, wantedA, binA, isShift, binI, fillA, single, aRes, splice, mkv, unA, binS, sameAt, reduceCtorEq, reduceIte, Int.reduceEq, Int.reduceLT, Int.reduceLE, Int.reduceNe, Nat.reduceEqDiff, Nat.reduceLT, Nat.reduceAdd, Nat.reduceMul, Nat.reduceSub, Nat.reduceLeDiff, Int.reduceBEq, Int.reduceBNe, Nat.reduceBEq, Nat.reduceBNe, Int.reduceToNat]
    refine onG_t (fun h => ?_) (fun h => ?_)
    · have h' : i < xs.length := by simp at h; omega
      obtain ⟨x, hxm⟩ : ∃ x, xs[i]? = some x := ⟨xs[i], List.getElem?_eq_getElem h'⟩
      obtain ⟨b, o, rfl, g1⟩ := hx.int hxm
      have p1 : (0 : Int) ≤ (i : Int) := by omega
      have p2 : (i : Int) < xs.length := by omega
      simp only [h, p1, p2, Nat.mul_one, g1, zz, env0, aPure, aRead, aNew, aEff, aval, avals, aparts, aopt, wantedA, binA, isShift, binI, fillA, single, aRes, splice, mkv, unA, binS, sameAt, reduceCtorEq, reduceIte, Int.reduceEq, Int.reduceLT, Int.reduceLE, Int.reduceNe, Nat.reduceEqDiff, Nat.reduceLT, Nat.reduceAdd, Nat.reduceMul, Nat.reduceSub, Nat.reduceLeDiff, Int.reduceBEq, Int.reduceBNe, Nat.reduceBEq, Nat.reduceBNe, Int.reduceToNat]
      refine onG_f (fun h2 => ?_) (fun h2 => ?_)
      · simp only [h, h2, p1, p2, Nat.mul_one, g1, zz, env0, aPure, aRead, aNew, aEff, aval, avals, aparts, aopt, wantedA, binA, isShift, binI, fillA, single, aRes, splice, mkv, unA, binS, sameAt, reduceCtorEq, reduceIte, Int.reduceEq, Int.reduceLT, Int.reduceLE, Int.reduceNe, Nat.reduceEqDiff, Nat.reduceLT, Nat.reduceAdd, Nat.reduceMul, Nat.reduceSub, Nat.reduceLeDiff, Int.reduceBEq, Int.reduceBNe, Nat.reduceBEq, Nat.reduceBNe, Int.reduceToNat]
        refine isNaN1_spec _ _ _ ?_
        simp only [h, h2, zz, env0, aPure, aRead, aNew, aEff, aval, avals, aparts, aopt, wantedA, binA, isShift, binI, fillA, single, aRes, splice, mkv, unA, binS, sameAt, reduceCtorEq, reduceIte, Int.reduceEq, Int.reduceLT, Int.reduceLE, Int.reduceNe, Nat.reduceEqDiff, Nat.reduceLT, Nat.reduceAdd, Nat.reduceMul, Nat.reduceSub, Nat.reduceLeDiff, Int.reduceBEq, Int.reduceBNe, Nat.reduceBEq, Nat.reduceBNe, Int.reduceToNat]
        refine hK _ _ ?_
        simp only [Bool.false_eq_true, false_iff]
        intro hm
        obtain ⟨k, hk⟩ := List.mem_iff_getElem?.1 hm
        have hne : x ≠ t := by simpa using h2
        have hxt := hhi i x (Nat.le_refl _) hxm
        rcases Nat.lt_trichotomy k i with h3 | h3 | h3
        · have := hlo k t h3 hk; omega
        · subst h3; rw [hk] at hxm; simp only [Option.some.injEq] at hxm; exact hne hxm.symm
        · have hkl : k < xs.length := by
            rcases Nat.lt_or_ge k xs.length with h | h
            · exact h
            · rw [List.getElem?_eq_none h] at hk; simp at hk
          have := List.pairwise_iff_getElem.1 hs i k h' hkl h3
          rw [List.getElem?_eq_getElem hkl] at hk
          rw [List.getElem?_eq_getElem h'] at hxm
          simp only [Option.some.injEq] at hk hxm
          omega
      · simp only [h, h2, zz, env0, aPure, aRead, aNew, aEff, aval, avals, aparts, aopt, wantedA, binA, isShift, binI, fillA, single, aRes, splice, mkv, unA, binS, sameAt, reduceCtorEq, reduceIte, Int.reduceEq, Int.reduceLT, Int.reduceLE, Int.reduceNe, Nat.reduceEqDiff, Nat.reduceLT, Nat.reduceAdd, Nat.reduceMul, Nat.reduceSub, Nat.reduceLeDiff, Int.reduceBEq, Int.reduceBNe, Nat.reduceBEq, Nat.reduceBNe, Int.reduceToNat]
        refine hK _ _ ?_
        have hx' : x = t := by simpa using h2
        subst hx'
        simp only [true_iff]
        exact List.mem_iff_getElem?.2 ⟨i, hxm⟩
    · simp only [h, zz, env0, aPure, aRead, aNew, aEff, aval, avals, aparts, aopt, wantedA, binA, isShift, binI, fillA, single, aRes, splice, mkv, unA, binS, sameAt, reduceCtorEq, reduceIte, Int.reduceEq, Int.reduceLT, Int.reduceLE, Int.reduceNe, Nat.reduceEqDiff, Nat.reduceLT, Nat.reduceAdd, Nat.reduceMul, Nat.reduceSub, Nat.reduceLeDiff, Int.reduceBEq, Int.reduceBNe, Nat.reduceBEq, Nat.reduceBNe, Int.reduceToNat]
      refine hK _ _ ?_
      simp only [Bool.false_eq_true, false_iff]
      exact none (by simp at h; omega)
end Go.Proofs.Ytnblhjpbpobglaa

/- norm: Right of no names, put, name of none, tree, Expand without names; lang.plain. -/
set_option maxRecDepth 100000
set_option linter.unusedSimpArgs false
namespace Go.Proofs.Ytnblhjpbpobglaa
open Go.Am

theorem normRight0_spec (H : AHeap) (K : AV → AHeap → Prop) (hK : ∀ H', Keeps H H' → K (.bool true) H') : WF P0 57 [.nilsl] H K := by
  refine zWF rfl rfl rfl ?_
  simp only [a57, zz, env0, aPure, aRead, aNew, aEff, aval, avals, aparts, aopt, wantedA, binA, isShift, binI, fillA, single, aRes, splice, mkv, unA, binS, sameAt, reduceCtorEq, reduceIte, Int.reduceEq, Int.reduceLT, Int.reduceLE, Int.reduceNe, Nat.reduceEqDiff, Nat.reduceLT, Nat.reduceAdd, Nat.reduceMul, Nat.reduceSub, Nat.reduceLeDiff, Int.reduceBEq, Int.reduceBNe, Nat.reduceBEq, Nat.reduceBNe, Int.reduceToNat]
  refine WC_unroll ?_
  simp only [zz, env0, aPure, aRead, aNew, aEff, aval, avals, aparts, aopt, wantedA, binA, isShift, binI, fillA, single, aRes, splice, mkv, unA, binS, sameAt, reduceCtorEq, reduceIte, Int.reduceEq, Int.reduceLT, Int.reduceLE, Int.reduceNe, Nat.reduceEqDiff, Nat.reduceLT, Nat.reduceAdd, Nat.reduceMul, Nat.reduceSub, Nat.reduceLeDiff, Int.reduceBEq, Int.reduceBNe, Nat.reduceBEq, Nat.reduceBNe, Int.reduceToNat]
  exact hK _ (.p1 _ _)

/-- All blocks but two. -/
def Else2 (H H' : AHeap) (x : Nat) (y : Option Nat) : Prop := H.length ≤ H'.length ∧ ∀ i b, i ≠ x → y ≠ some i → getB H i = some b → getB H' i = some b

theorem else_trans {H1 H2 H3 : AHeap} {x : Option Nat} (h : Else H1 H2 x) (k : Else H2 H3 x) : Else H1 H3 x := ⟨Nat.le_trans h.1 k.1, fun i b hi hb => k.2 i b hi (h.2 i b hi hb)⟩
theorem else_refl (H : AHeap) (x : Option Nat) : Else H H x := ⟨Nat.le_refl _, fun _ _ _ h => h⟩

def ren (ats : List Int) (k : Int) : Int := ats.getD k.toNat 0

theorem put_spec (H : AHeap) (b bx : Nat) (d o outv va kv : AV) (n : Nd) (ats : List Int) (m : Nat) (cells : List AV) (hbx : getB H bx = some (.cells 3 true [d, o, outv])) (hout : WR H b 9 outv m cells)
    (hb : b ≤ H.length) (_hok : n.Ok) (hkv : Ints H kv n.kids) (hat : Ints H va ats) (hkids : ∀ k, k ∈ n.kids → 0 ≤ k ∧ k < ats.length) (hkl : n.kids.length ≤ 1000000) (K : AV → AHeap → Prop)
    (hlong : 1024 ≤ m → ∀ H', Keeps H H' → K (.tup [.int .i64 0, .int .i64 3]) H')
    (hK : m < 1024 → ∀ H' outv' kv', Else2 H H' bx (avId outv) → getB H' bx = some (.cells 3 true [d, o, outv']) → WR H' b 9 outv' (m + 1) (cells ++ ndRow n kv') → Ints H' kv' (n.kids.map (ren ats)) →
      (∀ i, avId outv' = some i → avId outv = some i ∨ H.length ≤ i) → (∀ i, avId kv' = some i → H.length ≤ i) → K (.tup [.int .i64 m, .int .i64 0]) H') :
    WF P0 70 [.ptr bx 0, .agg (ndRow n kv), va] H K := by
  have hlo := hout.lenOf
  have hlt := gb_lt hbx
  have l2 : loadA H bx 2 1 = some [outv] := load_one hbx rfl
  refine zWF rfl rfl rfl ?_
  simp only [a70, ndRow, hlt, l2, hlo, zz, env0, aPure, aRead, aNew, aEff, aval, avals, aparts, aopt, wantedA, binA, isShift, binI, fillA, single, aRes, splice, mkv, unA, binS, sameAt, reduceCtorEq, reduceIte, Int.reduceEq, Int.reduceLT, Int.reduceLE, Int.reduceNe, Nat.reduceEqDiff, Nat.reduceLT, Nat.reduceAdd, Nat.reduceMul, Nat.reduceSub, Nat.reduceLeDiff, Int.reduceBEq, Int.reduceBNe, Nat.reduceBEq, Nat.reduceBNe, Int.reduceToNat]
  refine onB_of (fun h => ?_) (fun h => ?_)
  · simp only [zz, env0, aPure, aRead, aNew, aEff, aval, avals, aparts, aopt, wantedA, binA, isShift, binI, fillA, single, aRes, splice, mkv, unA, binS, sameAt, reduceCtorEq, reduceIte, Int.reduceEq, Int.reduceLT, Int.reduceLE, Int.reduceNe, Nat.reduceEqDiff, Nat.reduceLT, Nat.reduceAdd, Nat.reduceMul, Nat.reduceSub, Nat.reduceLeDiff, Int.reduceBEq, Int.reduceBNe, Nat.reduceBEq, Nat.reduceBNe, Int.reduceToNat]
    exact hlong (by simp at h; omega) _ (.p1 _ _)
  · have hm : m < 1024 := by simp at h; omega
    simp only [h, zz, env0, aPure, aRead, aNew, aEff, aval, avals, aparts, aopt, wantedA, binA, isShift, binI, fillA, single, aRes, splice, mkv, unA, binS, sameAt, reduceCtorEq, reduceIte, Int.reduceEq, Int.reduceLT, Int.reduceLE, Int.reduceNe, Nat.reduceEqDiff, Nat.reduceLT, Nat.reduceAdd, Nat.reduceMul, Nat.reduceSub, Nat.reduceLeDiff, Int.reduceBEq, Int.reduceBNe, Nat.reduceBEq, Nat.reduceBNe, Int.reduceToNat]
    refine clone_spec _ _ _ (Rows.keeps IntP.mono (.p1 _ _) hkv) (by omega) _ ?_
    intro v1 H2 hk2 hw1
    have hbox := hk2.get (gb_new H _)
    obtain ⟨f1, f2, f3, f4⟩ := hw1.row.flat
    have hst := store_of hbox 5 [v1]
    have hl1 := hw1.lenOf
    have hH1 : (H ++ [some (Blk.cells 9 true (ndRow n kv))]).length = H.length + 1 := by simp
    have hnb : H.length < H2.length := by have := hk2.1; simp at this; omega
    have hid1 : ∀ i, avId v1 = some i → H.length + 1 ≤ i := fun i hi => by have := (hw1.id hi).1; simp at this; omega
    have hset : ∀ q, getB (H2.set H.length q) H.length = q := fun q => gb_set q hnb
    generalize hH3 : H2.set H.length (some (Blk.cells 9 true (ndRow n v1))) = H3
    have hbox3 : getB H3 H.length = some (.cells 9 true (ndRow n v1)) := by rw [← hH3]; exact hset _
    have he3 : Else H2 H3 (some H.length) := ⟨by rw [← hH3]; simp, fun i c hi hc => by rw [← hH3, gb_set_ne _ (fun e => hi (by rw [e]))]; exact hc⟩
    have hw3 : WR H3 (H.length + 1) 1 v1 n.kids.length (n.kids.map (AV.int .i64)) := by
      rw [← hH1]; exact hw1.keep (fun i q hi hq => he3.2 i q (fun e => by simp only [Option.some.injEq] at e; have := hid1 i hi; omega) hq)
    have hk3 : Keeps H H3 := ⟨by have h1 := hk2.1; have h2 := he3.1; simp at h1; omega, fun i c hc => he3.2 i c (fun e => by simp only [Option.some.injEq] at e; have := gb_lt hc; omega) (hk2.get (gb_push _ hc))⟩
    have hst' : storeA H2 H.length 5 [v1] = some H3 := by
      rw [hst, if_pos (by simp), if_pos (by simp [f1]), ← hH3]
      rfl
    have l5 : loadA H3 H.length 5 1 = some [v1] := load_one hbox3 rfl
    simp only [f2, hst', l5, hl1, zz, env0, aPure, aRead, aNew, aEff, aval, avals, aparts, aopt, wantedA, binA, isShift, binI, fillA, single, aRes, splice, mkv, unA, binS, sameAt, reduceCtorEq, reduceIte, Int.reduceEq, Int.reduceLT, Int.reduceLE, Int.reduceNe, Nat.reduceEqDiff, Nat.reduceLT, Nat.reduceAdd, Nat.reduceMul, Nat.reduceSub, Nat.reduceLeDiff, Int.reduceBEq, Int.reduceBNe, Nat.reduceBEq, Nat.reduceBNe, Int.reduceToNat]
    refine WCL (fun r env H' => Else H3 H' (avId v1) ∧ ∃ (k : Nat) (a6 a7 a12 : AV), k ≤ n.kids.length ∧ r = n.kids.length - k ∧
        WR H' (H.length + 1) 1 v1 n.kids.length (((n.kids.take k).map (ren ats) ++ n.kids.drop k).map (AV.int .i64)) ∧
        env = [.ptr bx 0, .agg (ndRow n kv), va, .ptr H.length 0, .int .i64 0, .int .i64 0, a6, a7, .bool false, v1, .int .i64 n.kids.length, .int .i64 k, a12]) (n := n.kids.length)
      ⟨else_refl _ _, 0, _, _, _, Nat.zero_le _, rfl, by simpa using hw3, rfl⟩ ?_
    rintro r env H' ⟨he, k, a6, a7, a12, hkn, rfl, hw, rfl⟩
    have hbox' : getB H' H.length = some (.cells 9 true (ndRow n v1)) := he.2 _ _ (fun e => by have := hid1 _ e; omega) hbox3
    have l5' : loadA H' H.length 5 1 = some [v1] := load_one hbox' rfl
    have hold : ∀ i c, getB H i = some c → getB H' i = some c := fun i c hc => he.2 i c (fun e => by have := hid1 _ e; have := gb_lt hc; omega) (hk3.get hc)
    simp only [zz, env0, aPure, aRead, aNew, aEff, aval, avals, aparts, aopt, wantedA, binA, isShift, binI, fillA, single, aRes, splice, mkv, unA, binS, sameAt, reduceCtorEq, reduceIte, Int.reduceEq, Int.reduceLT, Int.reduceLE, Int.reduceNe, Nat.reduceEqDiff, Nat.reduceLT, Nat.reduceAdd, Nat.reduceMul, Nat.reduceSub, Nat.reduceLeDiff, Int.reduceBEq, Int.reduceBNe, Nat.reduceBEq, Nat.reduceBNe, Int.reduceToNat]
    refine onB_of (fun hlt3 => ?_) (fun hlt3 => ?_)
    · have hlt3 : k < n.kids.length := by simpa using hlt3
      obtain ⟨x, hx⟩ : ∃ x, n.kids[k]? = some x := ⟨n.kids[k], List.getElem?_eq_getElem hlt3⟩
      have hxr := hkids x (List.mem_of_getElem? hx)
      have hlen : ((n.kids.take k).map (ren ats) ++ n.kids.drop k).length = n.kids.length := by simp; omega
      have hI : Ints H' v1 ((n.kids.take k).map (ren ats) ++ n.kids.drop k) := ints_of (by rw [hlen]; exact hw.row)
      have hx2 : ((n.kids.take k).map (ren ats) ++ n.kids.drop k)[k]? = some x := by
        rw [List.getElem?_append_right (by simp; omega), List.getElem?_drop, ← hx]; congr 1; simp; omega
      obtain ⟨i, q, rfl, g1⟩ := hI.int hx2
      obtain ⟨y, hy⟩ : ∃ y, ats[x.toNat]? = some y := ⟨ats[x.toNat]'(by omega), List.getElem?_eq_getElem (by omega)⟩
      have hat' : Ints H' va ats := ints_else hat (fun i c _ hc => hold i c hc)
      obtain ⟨j, p, rfl, g2⟩ := hat'.int hy
      obtain ⟨i4, q4, e4, H4, hs4, hw4, he4, _⟩ := hw.store (k := k) (vs := [.int .i64 y]) (by simp; omega) (by omega) rfl
      rw [hlen] at e4
      simp only [AV.sl.injEq] at e4
      obtain ⟨rfl, rfl, _⟩ := e4
      have p1 : (0 : Int) ≤ k := by omega
      have p2 : (k : Int) < ((n.kids.take k).map (ren ats) ++ n.kids.drop k).length := by rw [hlen]; omega
      have v2 : IntKind.i64.wrap ((k : Int) + 1) = ((k + 1 : Nat) : Int) := by rw [wrap_i64 (by omega) (by omega)]; rfl
      simp only [Nat.mul_one, g1, p1, p2, l5', g2, hxr.1, hxr.2, hs4, v2, zz, env0, aPure, aRead, aNew, aEff, aval, avals, aparts, aopt, wantedA, binA, isShift, binI, fillA, single, aRes, splice, mkv, unA, binS, sameAt, reduceCtorEq, reduceIte, Int.reduceEq, Int.reduceLT, Int.reduceLE, Int.reduceNe, Nat.reduceEqDiff, Nat.reduceLT, Nat.reduceAdd, Nat.reduceMul, Nat.reduceSub, Nat.reduceLeDiff, Int.reduceBEq, Int.reduceBNe, Nat.reduceBEq, Nat.reduceBNe, Int.reduceToNat]
      refine ⟨n.kids.length - (k + 1), by omega, else_trans he he4, k + 1, _, _, _, hlt3, rfl, ?_, rfl⟩
      rw [splice_ints _ _ _ (by rw [hlen]; omega)] at hw4
      have e : ((n.kids.take k).map (ren ats) ++ n.kids.drop k).set k y = (n.kids.take (k + 1)).map (ren ats) ++ n.kids.drop (k + 1) := by
        rw [List.set_append_right _ _ (by simp; omega), List.take_succ_eq_append_getElem hlt3, List.map_append, List.append_assoc]
        congr 1
        have : k - ((n.kids.take k).map (ren ats)).length = 0 := by simp; omega
        rw [this, List.drop_eq_getElem_cons hlt3]
        rw [List.getElem?_eq_getElem hlt3] at hx
        simp only [Option.some.injEq] at hx
        rw [hx]
        have hren : ren ats x = y := by simp [ren, List.getD_eq_getElem?_getD, hy]
        simp [hren]
      rw [e] at hw4; exact hw4
    · have hke : k = n.kids.length := by simp at hlt3; omega
      subst hke
      rw [List.take_length, List.drop_length, List.append_nil] at hw
      have hbx' := hold _ _ hbx
      have l2' : loadA H' bx 2 1 = some [outv] := load_one hbx' rfl
      have l9 : loadA H' H.length 0 9 = some (ndRow n v1) := load_at hbox' (by simp [ndRow])
      have hout' : WR H' b 9 outv m cells := hout.keep (fun i q _ hq => hold i q hq)
      have hlen' : H.length + 1 ≤ H'.length := by have h1 := he.1; have h2 := he3.1; have h3 := hk2.1; simp at h3; omega
      obtain ⟨v', H4, ha, hw4, he4, hid4⟩ := (hout'.keeps (Keeps.p1 H' (some (.cells 9 true (ndRow n v1))))).append (bytes := 96) (by simp; omega) (src_new H' 9 1 (ndRow n v1) rfl) rfl (by simp [ndRow, one_int, one_str, f1]) (by simp only [maxRoom]; omega)
      have hidv : ∀ i, avId outv = some i → i ≠ bx := fun i hi e => by
        subst e
        obtain ⟨rw', cs', hc⟩ := RowAt.id hout.row hi
        rw [hbx] at hc; simp at hc
      have hbx4 : getB H4 bx = some (.cells 3 true [d, o, outv]) := he4.2 _ _ (fun e => hidv _ e rfl) (gb_push _ hbx')
      obtain ⟨w1, w2, w3, w4⟩ := hw4.row.flat
      have hst4 := store_of hbx4 2 [v']
      rw [if_pos (by simp), if_pos (by simp [w1])] at hst4
      have hlo4 := hw4.lenOf
      have hbx5 : getB (H4.set bx (some (.cells 3 true (splice [d, o, outv] 2 [v'])))) bx = some (.cells 3 true [d, o, v']) := gb_set _ (gb_lt hbx4)
      have hl5 : loadA (H4.set bx (some (.cells 3 true (splice [d, o, outv] 2 [v'])))) bx 2 1 = some [v'] := load_one hbx5 rfl
      have hsp : splice [d, o, outv] 2 [v'] = [d, o, v'] := rfl
      rw [hsp] at hst4 hbx5 hl5
      simp only [ndRow] at l9 ha
      have hw5 : IntKind.i64.wrap ((((m + 1 : Nat) : Int)) - 1) = (m : Int) := by rw [wrap_i64 (by omega) (by omega)]; omega
      simp only [l2', l9, f1, f2, f3, ha, w2, hst4, hl5, hlo4, hw5, zz, env0, aPure, aRead, aNew, aEff, aval, avals, aparts, aopt, wantedA, binA, isShift, binI, fillA, single, aRes, splice, mkv, unA, binS, sameAt, reduceCtorEq, reduceIte, Int.reduceEq, Int.reduceLT, Int.reduceLE, Int.reduceNe, Nat.reduceEqDiff, Nat.reduceLT, Nat.reduceAdd, Nat.reduceMul, Nat.reduceSub, Nat.reduceLeDiff, Int.reduceBEq, Int.reduceBNe, Nat.reduceBEq, Nat.reduceBNe, Int.reduceToNat]
      have hkeep : ∀ i q, i ≠ bx → avId outv ≠ some i → getB H' i = some q → getB (H4.set bx (some (.cells 3 true [d, o, v']))) i = some q := fun i q h1 h2 h3 => by
        rw [gb_set_ne _ (Ne.symm h1)]
        exact he4.2 i q h2 (gb_push _ h3)
      have hsz : ∀ i cs rw, getB H' i = some (.cells 1 rw cs) → i ≠ bx ∧ avId outv ≠ some i := fun i cs rw hc => by
        refine ⟨fun e => ?_, fun e => ?_⟩
        · subst e; rw [hbx'] at hc; simp at hc
        · obtain ⟨rw', cs', hc'⟩ := RowAt.id hout'.row e
          rw [hc'] at hc; simp at hc
      refine hK hm _ v' v1 ⟨by rw [List.length_set]; have := he4.1; simp at this; omega, fun i q h1 h2 h3 => hkeep i q h1 h2 (hold i q h3)⟩ hbx5 ?_ ?_ ?_ (fun i hi => by have := hid1 i hi; omega)
      · refine hw4.keep (fun i q hi hq => ?_)
        rw [gb_set_ne _ (fun e => ?_)]
        · exact hq
        · subst e
          rcases hid4 _ hi with h | h
          · exact hidv _ h rfl
          · simp at h; omega
      · have hI : Ints H' v1 (n.kids.map (ren ats)) := ints_of (by rw [List.length_map]; exact hw.row)
        refine ints_else hI (fun i q hi hq => ?_)
        obtain ⟨rw', cs', hc'⟩ := RowAt.id hw.row hi
        have := hsz i cs' rw' hc'
        exact hkeep i q this.1 this.2 hq
      · intro i hi
        rcases hid4 _ hi with h | h
        · exact .inl h
        · right; simp at h; omega
end Go.Proofs.Ytnblhjpbpobglaa

/- norm.tree and Expand without names; lang.plain. -/
set_option maxRecDepth 100000
set_option linter.unusedSimpArgs false
namespace Go.Proofs.Ytnblhjpbpobglaa
open Go.Am

theorem name0_spec (H : AHeap) (bx d : Nat) (o outv : AV) (s : List UInt8) (hbx : getB H bx = some (.cells 3 true [.map d, o, outv])) (hd : getB H d = some (.map [])) (K : AV → AHeap → Prop)
    (hK : K (.tup [.int .i64 0, .int .i64 60]) H) : WF P0 69 [.ptr bx 0, .str s] H K := by
  have l0 : loadA H bx 0 1 = some [.map d] := load_one hbx rfl
  refine zWF rfl rfl rfl ?_
  simp only [a69, l0, hd, keyOk, findI, zz, env0, aPure, aRead, aNew, aEff, aval, avals, aparts, aopt, wantedA, binA, isShift, binI, fillA, single, aRes, splice, mkv, unA, binS, sameAt, reduceCtorEq, reduceIte, Int.reduceEq, Int.reduceLT, Int.reduceLE, Int.reduceNe, Nat.reduceEqDiff, Nat.reduceLT, Nat.reduceAdd, Nat.reduceMul, Nat.reduceSub, Nat.reduceLeDiff, Int.reduceBEq, Int.reduceBNe, Nat.reduceBEq, Nat.reduceBNe, Int.reduceToNat]
  exact hK

def upto (i n : Nat) : List Int := (List.range i).map Int.ofNat ++ List.replicate (n - i) 0
theorem upto_len {i n : Nat} (h : i ≤ n) : (upto i n).length = n := by simp [upto]; omega
theorem upto_ren {i n : Nat} {k : Int} (h0 : 0 ≤ k) (h1 : k < i) : ren (upto i n) k = k := by
  simp only [ren, upto, List.getD_eq_getElem?_getD]
  rw [List.getElem?_append_left (by simp; omega), List.getElem?_map, List.getElem?_range (by omega)]
  simp; omega
theorem upto_set {i n : Nat} (h : i < n) : (upto i n).set i i = upto (i + 1) n := by
  simp only [upto]
  rw [List.set_append_right _ _ (by simp), List.length_map, List.length_range, Nat.sub_self]
  have : n - i = (n - (i + 1)) + 1 := by omega
  rw [this, List.replicate_succ, List.set_cons_zero, List.range_succ, List.map_append, List.append_assoc]
  rfl

theorem stk_kids {l : List Nd} {a : List Int} (h : Stk l a) {k : Nat} {n : Nd} (hn : l[k]? = some n) : Shaped n ∧ n.kids.length ≤ k ∧ ∀ x, x ∈ n.kids → 0 ≤ x ∧ x < k := by
  have hk : k < l.length := by
    rcases Nat.lt_or_ge k l.length with h | h
    · exact h
    · rw [List.getElem?_eq_none h] at hn; simp at hn
  obtain ⟨s, hs⟩ := stk_take h (k + 1) hk
  have e : l.take (k + 1) = l.take k ++ [n] := by
    rw [List.take_succ_eq_append_getElem hk]; congr 2
    rw [List.getElem?_eq_getElem hk] at hn; simpa using hn
  rw [e] at hs
  obtain ⟨st, _, h1, h2⟩ := stk_inv hs
  obtain ⟨h3, h4⟩ := stk_len h1
  have hl : (l.take k).length = k := by rw [List.length_take]; omega
  rw [hl] at h3 h4
  rw [List.length_append] at h3
  exact ⟨h2, by omega, fun x hx => h4 x (by simp [hx])⟩

theorem tree0_spec (H : AHeap) (bx d : Nat) (o v : AV) (l : List Nd) (hbx : getB H bx = some (.cells 3 true [.map d, o, .nilsl])) (hd : getB H d = some (.map [])) (hN : Nds H v l) (hR : RightT l) (K : AV → AHeap → Prop)
    (hK1 : (∃ n, n ∈ l ∧ n.op = 6) → ∀ H' e, Else H H' (some bx) → e ≠ 0 → K (.tup [.int .i64 0, .int .i64 e]) H')
    (hK2 : (∀ n, n ∈ l → n.op ≠ 6) → ∀ H' outv r, Else H H' (some bx) → getB H' bx = some (.cells 3 true [.map d, o, outv]) → Nds H' outv l → K (.tup [.int .i64 r, .int .i64 0]) H') :
    WF P0 58 [.ptr bx 0, v] H K := by
  obtain ⟨hl1, hl2, root, hstk⟩ := hR
  have hla := hN.lenOf
  have hne : d ≠ bx := fun e => by subst e; rw [hbx] at hd; simp at hd
  refine zWF rfl rfl rfl ?_
  have hmk1 : (0 : Int) ≤ l.length := by omega
  have hmk2 : (l.length : Int) * 8 ≤ ((maxRoom : Nat) : Int) := by simp only [maxRoom]; omega
  have hmk3 : (l.length : Int) ≤ 1152921504606846976 := by omega
  simp only [a58, hla, hmk1, hmk2, hmk3, zz, env0, aPure, aRead, aNew, aEff, aval, avals, aparts, aopt, wantedA, binA, isShift, binI, fillA, single, aRes, splice, mkv, unA, binS, sameAt, reduceCtorEq, reduceIte, Int.reduceEq, Int.reduceLT, Int.reduceLE, Int.reduceNe, Nat.reduceEqDiff, Nat.reduceLT, Nat.reduceAdd, Nat.reduceMul, Nat.reduceSub, Nat.reduceLeDiff, Int.reduceBEq, Int.reduceBNe, Nat.reduceBEq, Nat.reduceBNe, Int.reduceToNat]
  have hbl := gb_lt hbx
  have hrows : rows l.length [.int .i64 0] = (List.replicate l.length (0 : Int)).map (AV.int .i64) := by
    simp only [rows]
    generalize l.length = q
    induction q with
    | zero => rfl
    | succ q ih => simp [List.replicate_succ, ih]
  have hat0 := WR.new H 1 l.length (rows l.length [.int .i64 0]) (by rw [hrows]; simp) (Nat.le_refl _)
  refine WCL (fun r env H' => Else H H' (some bx) ∧ ∃ (i : Nat) (outv a5 a6 a7 a11 a12 a13 : AV) (rs : List (List AV)), i ≤ l.length ∧ r = l.length - i ∧ (∀ k n, k < i → l[k]? = some n → n.op ≠ 6) ∧
      getB H' bx = some (.cells 3 true [.map d, o, outv]) ∧ WR H' (H.length + 1) 9 outv i rs.flatten ∧ rs.length = i ∧ (∀ k n, k < i → l[k]? = some n → ∃ kv, rs[k]? = some (ndRow n kv) ∧ Ints H' kv n.kids ∧ avId kv ≠ some H.length) ∧
      WR H' H.length 1 (.sl H.length 0 l.length) l.length ((upto i l.length).map (AV.int .i64)) ∧
      env = [.ptr bx 0, v, .int .i64 0, .int .i64 0, .sl H.length 0 l.length, a5, a6, a7, v, .int .i64 l.length, .int .i64 i, a11, a12, a13]) (n := l.length)
    ⟨⟨by simp, fun i c _ hc => gb_push _ hc⟩, 0, .nilsl, _, _, _, _, _, _, [], Nat.zero_le _, rfl, fun k n h => by omega, gb_push _ hbx, .nil, rfl, fun k n h => by omega, (by rw [show (upto 0 l.length).map (AV.int .i64) = rows l.length [.int .i64 0] from hrows.symm]; exact hat0), rfl⟩ ?_
  rintro r env H' ⟨he, i, outv, a5, a6, a7, a11, a12, a13, rs, hil, rfl, hno, hbx', hout, hrl, hrs, hat, rfl⟩
  simp only [zz, env0, aPure, aRead, aNew, aEff, aval, avals, aparts, aopt, wantedA, binA, isShift, binI, fillA, single, aRes, splice, mkv, unA, binS, sameAt, reduceCtorEq, reduceIte, Int.reduceEq, Int.reduceLT, Int.reduceLE, Int.reduceNe, Nat.reduceEqDiff, Nat.reduceLT, Nat.reduceAdd, Nat.reduceMul, Nat.reduceSub, Nat.reduceLeDiff, Int.reduceBEq, Int.reduceBNe, Nat.reduceBEq, Nat.reduceBNe, Int.reduceToNat]
  refine onB_of (fun hlt => ?_) (fun hlt => ?_)
  · have hlt : i < l.length := by simpa using hlt
    obtain ⟨n, hn⟩ : ∃ n, l[i]? = some n := ⟨l[i], List.getElem?_eq_getElem (by omega)⟩
    have hN' : Nds H' v l := nds_sz (fun j rw cs hc => he.2 j _ (fun e => by simp only [Option.some.injEq] at e; subst e; rw [hbx] at hc; simp at hc) hc)
      (fun j rw cs hc => he.2 j _ (fun e => by simp only [Option.some.injEq] at e; subst e; rw [hbx] at hc; simp at hc) hc) hN
    have hd' : getB H' d = some (.map []) := he.2 d _ (fun e => by simp only [Option.some.injEq] at e; exact hne e.symm) hd
    obtain ⟨b, o9, kv, rfl, hok, hkv, hld⟩ := hN'.nd hn
    obtain ⟨hsh, hkl, hkr⟩ := stk_kids hstk hn
    have p1 : (0 : Int) ≤ i := by omega
    have p2 : (i : Int) < l.length := by omega
    have h9 := hld 0 9 (by omega)
    simp only [Nat.add_zero, List.drop_zero, ndRow, List.take_succ_cons, List.take_zero] at h9
    obtain ⟨f1, f2, f3, f4⟩ := hkv.flat
    simp only [p1, p2, h9, f1, zz, env0, aPure, aRead, aNew, aEff, aval, avals, aparts, aopt, wantedA, binA, isShift, binI, fillA, single, aRes, splice, mkv, unA, binS, sameAt, reduceCtorEq, reduceIte, Int.reduceEq, Int.reduceLT, Int.reduceLE, Int.reduceNe, Nat.reduceEqDiff, Nat.reduceLT, Nat.reduceAdd, Nat.reduceMul, Nat.reduceSub, Nat.reduceLeDiff, Int.reduceBEq, Int.reduceBNe, Nat.reduceBEq, Nat.reduceBNe, Int.reduceToNat]
    refine onB_of (fun h6 => ?_) (fun h6 => ?_)
    · have h6' : n.op = 6 := by simpa using h6
      simp only [h6, zz, env0, aPure, aRead, aNew, aEff, aval, avals, aparts, aopt, wantedA, binA, isShift, binI, fillA, single, aRes, splice, mkv, unA, binS, sameAt, reduceCtorEq, reduceIte, Int.reduceEq, Int.reduceLT, Int.reduceLE, Int.reduceNe, Nat.reduceEqDiff, Nat.reduceLT, Nat.reduceAdd, Nat.reduceMul, Nat.reduceSub, Nat.reduceLeDiff, Int.reduceBEq, Int.reduceBNe, Nat.reduceBEq, Nat.reduceBNe, Int.reduceToNat]
      refine name0_spec _ bx d o outv _ (gb_push _ hbx') (gb_push _ hd') _ ?_
      obtain ⟨i4, q4, e4, H4, hs4, hw4, he4, _⟩ := (hat.keeps (Keeps.p1 H' (some (.cells 9 true (ndRow n kv))))).store (k := i) (vs := [.int .i64 0]) (by simp; omega) (by omega) rfl
      simp only [AV.sl.injEq] at e4
      obtain ⟨rfl, rfl, _⟩ := e4
      simp only [Nat.zero_add, ndRow] at hs4
      simp only [p1, p2, Nat.mul_one, hs4, zz, env0, aPure, aRead, aNew, aEff, aval, avals, aparts, aopt, wantedA, binA, isShift, binI, fillA, single, aRes, splice, mkv, unA, binS, sameAt, reduceCtorEq, reduceIte, Int.reduceEq, Int.reduceLT, Int.reduceLE, Int.reduceNe, Nat.reduceEqDiff, Nat.reduceLT, Nat.reduceAdd, Nat.reduceMul, Nat.reduceSub, Nat.reduceLeDiff, Int.reduceBEq, Int.reduceBNe, Nat.reduceBEq, Nat.reduceBNe, Int.reduceToNat]
      exact hK1 ⟨n, List.mem_of_getElem? hn, h6'⟩ _ 60 ⟨by have h1 := he.1; have h2 := he4.1; simp at h2; omega, fun j c hj hc => he4.2 j c (fun e => by simp only [Option.some.injEq] at e; subst e; have := gb_lt hc; omega) (gb_push _ (he.2 j c hj hc))⟩ (by decide)
    · have h6' : n.op ≠ 6 := by simpa using h6
      simp only [h6, zz, env0, aPure, aRead, aNew, aEff, aval, avals, aparts, aopt, wantedA, binA, isShift, binI, fillA, single, aRes, splice, mkv, unA, binS, sameAt, reduceCtorEq, reduceIte, Int.reduceEq, Int.reduceLT, Int.reduceLE, Int.reduceNe, Nat.reduceEqDiff, Nat.reduceLT, Nat.reduceAdd, Nat.reduceMul, Nat.reduceSub, Nat.reduceLeDiff, Int.reduceBEq, Int.reduceBNe, Nat.reduceBEq, Nat.reduceBNe, Int.reduceToNat]
      have hlen := upto_len (i := i) (n := l.length) (by omega)
      refine put_spec _ (H.length + 1) bx (.map d) o outv _ kv n (upto i l.length) i rs.flatten (gb_push _ hbx') (hout.keeps (.p1 _ _)) (by have := he.1; simp; omega) hok (Rows.keeps IntP.mono (.p1 _ _) hkv)
        (ints_of (by rw [hlen]; exact (hat.keeps (.p1 _ _)).row)) (fun k hk => by have := hkr k hk; rw [hlen]; omega) (by omega) _ (fun h => absurd h (by omega)) ?_
      intro _ H2 outv' kv' he2 hbx2 hout2 hkv2 hid2 hidk
      have hkids : n.kids.map (ren (upto i l.length)) = n.kids := by
        conv => rhs; rw [← List.map_id n.kids]
        apply List.map_congr_left
        intro k hk
        have := hkr k hk
        exact upto_ren this.1 (by omega)
      rw [hkids] at hkv2
      have hidat : avId outv ≠ some H.length := fun e => by have := (hout.id e).1; omega
      have hat2 : WR H2 H.length 1 (.sl H.length 0 l.length) l.length ((upto i l.length).map (AV.int .i64)) := (hat.keeps (Keeps.p1 H' _)).keep (fun j q hj hq => by
        simp [avId] at hj; subst hj
        exact he2.2 _ _ (by omega) hidat hq)
      obtain ⟨i4, q4, e4, H4, hs4, hw4, he4, hl4⟩ := hat2.store (k := i) (vs := [.int .i64 i]) (by simp; omega) (by omega) rfl
      simp only [AV.sl.injEq] at e4
      obtain ⟨rfl, rfl, _⟩ := e4
      simp only [Nat.zero_add] at hs4
      have v2 : IntKind.i64.wrap ((i : Int) + 1) = ((i + 1 : Nat) : Int) := by rw [wrap_i64 (by omega) (by omega)]; rfl
      simp only [p1, p2, Nat.mul_one, hs4, v2, zz, env0, aPure, aRead, aNew, aEff, aval, avals, aparts, aopt, wantedA, binA, isShift, binI, fillA, single, aRes, splice, mkv, unA, binS, sameAt, reduceCtorEq, reduceIte, Int.reduceEq, Int.reduceLT, Int.reduceLE, Int.reduceNe, Nat.reduceEqDiff, Nat.reduceLT, Nat.reduceAdd, Nat.reduceMul, Nat.reduceSub, Nat.reduceLeDiff, Int.reduceBEq, Int.reduceBNe, Nat.reduceBEq, Nat.reduceBNe, Int.reduceToNat]
      have hkeep1 : ∀ j rw cs, getB H' j = some (.cells 1 rw cs) → j ≠ H.length → getB H4 j = some (.cells 1 rw cs) := fun j rw cs hc hj => he4.2 j _ (fun e => hj (by simpa using e.symm)) (he2.2 j _ (fun e => by subst e; rw [hbx'] at hc; simp at hc)
        (fun e => by obtain ⟨rw', cs', hc'⟩ := RowAt.id hout.row e; rw [hc'] at hc; simp at hc) (gb_push _ hc))
      refine ⟨l.length - (i + 1), by omega, ?_, i + 1, outv', _, _, _, _, _, _, rs ++ [ndRow n kv'], by omega, rfl, ?_, ?_, ?_, by simp [hrl], ?_, ?_, rfl⟩
      · refine ⟨by have h1 := he.1; have h2 := he2.1; simp at h2; omega, fun j c hj hc => he4.2 j c (fun e => by simp only [Option.some.injEq] at e; subst e; have := gb_lt hc; omega) (he2.2 j c (fun e => hj (by rw [e])) (fun e => by have h1 := (hout.id e).1; have h2 := gb_lt hc; omega) (gb_push _ (he.2 j c hj hc)))⟩
      · intro k m hk hm
        rcases Nat.lt_or_ge k i with h | h
        · exact hno k m h hm
        · have : k = i := by omega
          subst this; rw [hn] at hm; simp only [Option.some.injEq] at hm; subst hm; exact h6'
      · exact he4.2 bx _ (fun e => by simp only [Option.some.injEq] at e; omega) hbx2
      · rw [List.flatten_append]
        refine WR.keep ?_ (fun j q hj hq => he4.2 j q (fun e => ?_) hq)
        · simpa using hout2
        · simp only [Option.some.injEq] at e
          subst e
          have := (hout2.id hj).1; omega
      · intro k m hk hm
        rcases Nat.lt_or_ge k i with h | h
        · obtain ⟨kv1, g1, g2, g3⟩ := hrs k m h hm
          refine ⟨kv1, by rw [List.getElem?_append_left (by omega)]; exact g1, ?_, g3⟩
          refine ints_else g2 (fun j b hj hb => ?_)
          obtain ⟨rw', cs', hc'⟩ := RowAt.id g2.ints hj
          rw [hc'] at hb; simp only [Option.some.injEq] at hb; subst hb
          exact hkeep1 j rw' cs' hc' (fun e => g3 (by rw [hj, e]))
        · have : k = i := by omega
          subst this; rw [hn] at hm; simp only [Option.some.injEq] at hm; subst hm
          have hkn : avId kv' ≠ some H.length := fun e => by have h1 := hidk _ e; have h2 := he.1; simp at h1; omega
          refine ⟨kv', by rw [List.getElem?_append_right (by omega), hrl]; simp, ?_, hkn⟩
          exact ints_else hkv2 (fun j b hj hb => he4.2 j b (fun e => hkn (by rw [hj]; exact e.symm)) hb)
      · rw [splice_ints _ _ _ (by rw [hlen]; omega), upto_set hlt] at hw4
        exact hw4
  · have hie : i = l.length := by simp at hlt; omega
    subst hie
    have hlen := upto_len (Nat.le_refl l.length)
    have hI : Ints H' (.sl H.length 0 l.length) (upto l.length l.length) := ints_of (by rw [hlen]; exact hat.row)
    obtain ⟨x, hx⟩ : ∃ x, (upto l.length l.length)[l.length - 1]? = some x := ⟨_, List.getElem?_eq_getElem (by omega)⟩
    obtain ⟨j, q, e, g⟩ := hI.int hx
    rw [hlen] at e
    simp only [AV.sl.injEq] at e
    obtain ⟨rfl, rfl, _⟩ := e
    have v1 : IntKind.i64.wrap ((l.length : Int) - 1) = ((l.length - 1 : Nat) : Int) := by rw [wrap_i64 (by omega) (by omega)]; omega
    have p1 : (0 : Int) ≤ ((l.length - 1 : Nat) : Int) := by omega
    have p2 : ((l.length - 1 : Nat) : Int) < l.length := by omega
    rw [Nat.zero_add] at g
    simp only [hla, v1, p1, p2, Nat.mul_one, g, zz, env0, aPure, aRead, aNew, aEff, aval, avals, aparts, aopt, wantedA, binA, isShift, binI, fillA, single, aRes, splice, mkv, unA, binS, sameAt, reduceCtorEq, reduceIte, Int.reduceEq, Int.reduceLT, Int.reduceLE, Int.reduceNe, Nat.reduceEqDiff, Nat.reduceLT, Nat.reduceAdd, Nat.reduceMul, Nat.reduceSub, Nat.reduceLeDiff, Int.reduceBEq, Int.reduceBNe, Nat.reduceBEq, Nat.reduceBNe, Int.reduceToNat]
    refine hK2 (fun n hn => by obtain ⟨k, hk⟩ := List.mem_iff_getElem?.1 hn; exact hno k n (by
      rcases Nat.lt_or_ge k l.length with h | h
      · exact h
      · rw [List.getElem?_eq_none h] at hk; simp at hk) hk) _ _ _ he hbx' ?_
    refine ⟨rs, hout.row, hrl, fun k m hm => ?_⟩
    have hkl : k < l.length := by
      rcases Nat.lt_or_ge k l.length with h | h
      · exact h
      · rw [List.getElem?_eq_none h] at hm; simp at hm
    obtain ⟨kv1, g1, g2, _⟩ := hrs k m hkl hm
    obtain ⟨_, _, _, _, hok, _⟩ := hN.nd hm
    exact ⟨_, g1, rfl, hok, kv1, rfl, g2⟩

def NoRef (l : List Nd) : Prop := ∀ n, n ∈ l → n.op ≠ 6

theorem expand0_spec (H : AHeap) (v : AV) (l : List Nd) (hN : Nds H v l) (hbig : l.length < 9223372036854775808) (K : AV → AHeap → Prop)
    (hK1 : ¬ (RightT l ∧ NoRef l) → ∀ H' e, Keeps H H' → e ≠ 0 → K (.tup [.nilsl, .int .i64 e]) H')
    (hK2 : RightT l ∧ NoRef l → ∀ H' v', Keeps H H' → Nds H' v' l → K (.tup [v', .int .i64 0]) H') :
    WF P0 41 [v, .nilsl] H K := by
  refine zWF rfl rfl rfl ?_
  simp only [a41, zz, env0, aPure, aRead, aNew, aEff, aval, avals, aparts, aopt, wantedA, binA, isShift, binI, fillA, single, aRes, splice, mkv, unA, binS, sameAt, reduceCtorEq, reduceIte, Int.reduceEq, Int.reduceLT, Int.reduceLE, Int.reduceNe, Nat.reduceEqDiff, Nat.reduceLT, Nat.reduceAdd, Nat.reduceMul, Nat.reduceSub, Nat.reduceLeDiff, Int.reduceBEq, Int.reduceBNe, Nat.reduceBEq, Nat.reduceBNe, Int.reduceToNat]
  refine right_spec _ _ l hN hbig _ ?_
  intro b H1 hk1 hb
  cases b with
  | false =>
    simp only [zz, env0, aPure, aRead, aNew, aEff, aval, avals, aparts, aopt, wantedA, binA, isShift, binI, fillA, single, aRes, splice, mkv, unA, binS, sameAt, reduceCtorEq, reduceIte, Int.reduceEq, Int.reduceLT, Int.reduceLE, Int.reduceNe, Nat.reduceEqDiff, Nat.reduceLT, Nat.reduceAdd, Nat.reduceMul, Nat.reduceSub, Nat.reduceLeDiff, Int.reduceBEq, Int.reduceBNe, Nat.reduceBEq, Nat.reduceBNe, Int.reduceToNat]
    exact hK1 (fun h => by have := hb.2 h.1; simp at this) _ 1 hk1 (by decide)
  | true =>
    have hR := hb.1 rfl
    simp only [zz, env0, aPure, aRead, aNew, aEff, aval, avals, aparts, aopt, wantedA, binA, isShift, binI, fillA, single, aRes, splice, mkv, unA, binS, sameAt, reduceCtorEq, reduceIte, Int.reduceEq, Int.reduceLT, Int.reduceLE, Int.reduceNe, Nat.reduceEqDiff, Nat.reduceLT, Nat.reduceAdd, Nat.reduceMul, Nat.reduceSub, Nat.reduceLeDiff, Int.reduceBEq, Int.reduceBNe, Nat.reduceBEq, Nat.reduceBNe, Int.reduceToNat]
    refine normRight0_spec _ _ ?_
    intro H2 hk2
    simp only [zz, env0, aPure, aRead, aNew, aEff, aval, avals, aparts, aopt, wantedA, binA, isShift, binI, fillA, single, aRes, splice, mkv, unA, binS, sameAt, reduceCtorEq, reduceIte, Int.reduceEq, Int.reduceLT, Int.reduceLE, Int.reduceNe, Nat.reduceEqDiff, Nat.reduceLT, Nat.reduceAdd, Nat.reduceMul, Nat.reduceSub, Nat.reduceLeDiff, Int.reduceBEq, Int.reduceBNe, Nat.reduceBEq, Nat.reduceBNe, Int.reduceToNat]
    refine WC_unroll ?_
    simp only [zz, env0, aPure, aRead, aNew, aEff, aval, avals, aparts, aopt, wantedA, binA, isShift, binI, fillA, single, aRes, splice, mkv, unA, binS, sameAt, reduceCtorEq, reduceIte, Int.reduceEq, Int.reduceLT, Int.reduceLE, Int.reduceNe, Nat.reduceEqDiff, Nat.reduceLT, Nat.reduceAdd, Nat.reduceMul, Nat.reduceSub, Nat.reduceLeDiff, Int.reduceBEq, Int.reduceBNe, Nat.reduceBEq, Nat.reduceBNe, Int.reduceToNat]
    have hH : Keeps H (H2 ++ [some (Blk.map [])] ++ [some (Blk.map [])]) := (hk1.trans hk2).trans (.p2 _ _ _)
    refine tree0_spec _ _ H2.length (.map (H2 ++ [some (Blk.map [])]).length) v l (gb_new _ _) (gb_push _ (gb_push _ (gb_new _ _))) (Rows.keeps NdP.mono (hH.trans (.p1 _ _)) hN) hR _ ?_ ?_
    · intro hex H3 e he3 hne
      have hne' : (e != 0) = true := by simpa [bne_iff_ne] using hne
      simp only [hne', zz, env0, aPure, aRead, aNew, aEff, aval, avals, aparts, aopt, wantedA, binA, isShift, binI, fillA, single, aRes, splice, mkv, unA, binS, sameAt, reduceCtorEq, reduceIte, Int.reduceEq, Int.reduceLT, Int.reduceLE, Int.reduceNe, Nat.reduceEqDiff, Nat.reduceLT, Nat.reduceAdd, Nat.reduceMul, Nat.reduceSub, Nat.reduceLeDiff, Int.reduceBEq, Int.reduceBNe, Nat.reduceBEq, Nat.reduceBNe, Int.reduceToNat]
      refine hK1 (fun h => by obtain ⟨n, h1, h2⟩ := hex; exact h.2 n h1 h2) _ e ?_ hne
      exact Else.keeps (hH.trans (.p1 _ _)) he3 (fun i hi => by simp only [Option.some.injEq] at hi; have := hH.1; omega)
    · intro hno H3 outv r he3 hbx hout
      have l2 : loadA H3 (H2 ++ [some (Blk.map [])] ++ [some (Blk.map [])]).length 2 1 = some [outv] := load_one hbx rfl
      simp only [l2, zz, env0, aPure, aRead, aNew, aEff, aval, avals, aparts, aopt, wantedA, binA, isShift, binI, fillA, single, aRes, splice, mkv, unA, binS, sameAt, reduceCtorEq, reduceIte, Int.reduceEq, Int.reduceLT, Int.reduceLE, Int.reduceNe, Nat.reduceEqDiff, Nat.reduceLT, Nat.reduceAdd, Nat.reduceMul, Nat.reduceSub, Nat.reduceLeDiff, Int.reduceBEq, Int.reduceBNe, Nat.reduceBEq, Nat.reduceBNe, Int.reduceToNat]
      refine hK2 ⟨hR, hno⟩ _ _ ?_ hout
      exact Else.keeps (hH.trans (.p1 _ _)) he3 (fun i hi => by simp only [Option.some.injEq] at hi; have := hH.1; omega)

theorem plain_spec (H : AHeap) (v : AV) (l : List Nd) (hN : Nds H v l) (hbig : l.length < 9223372036854775808) (K : AV → AHeap → Prop)
    (hK : ∀ b H', Keeps H H' → (b = true ↔ RightT l ∧ NoRef l) → K (.bool b) H') : WF P0 29 [v] H K := by
  refine zWF rfl rfl rfl ?_
  simp only [a29, zz, env0, aPure, aRead, aNew, aEff, aval, avals, aparts, aopt, wantedA, binA, isShift, binI, fillA, single, aRes, splice, mkv, unA, binS, sameAt, reduceCtorEq, reduceIte, Int.reduceEq, Int.reduceLT, Int.reduceLE, Int.reduceNe, Nat.reduceEqDiff, Nat.reduceLT, Nat.reduceAdd, Nat.reduceMul, Nat.reduceSub, Nat.reduceLeDiff, Int.reduceBEq, Int.reduceBNe, Nat.reduceBEq, Nat.reduceBNe, Int.reduceToNat]
  refine expand0_spec _ _ l hN hbig _ ?_ ?_
  · intro h H1 e hk he
    have he' : (e == 0) = false := by simpa using he
    simp only [he', zz, env0, aPure, aRead, aNew, aEff, aval, avals, aparts, aopt, wantedA, binA, isShift, binI, fillA, single, aRes, splice, mkv, unA, binS, sameAt, reduceCtorEq, reduceIte, Int.reduceEq, Int.reduceLT, Int.reduceLE, Int.reduceNe, Nat.reduceEqDiff, Nat.reduceLT, Nat.reduceAdd, Nat.reduceMul, Nat.reduceSub, Nat.reduceLeDiff, Int.reduceBEq, Int.reduceBNe, Nat.reduceBEq, Nat.reduceBNe, Int.reduceToNat]
    exact hK _ _ hk (by simp [h])
  · intro h H1 v' hk _
    simp only [zz, env0, aPure, aRead, aNew, aEff, aval, avals, aparts, aopt, wantedA, binA, isShift, binI, fillA, single, aRes, splice, mkv, unA, binS, sameAt, reduceCtorEq, reduceIte, Int.reduceEq, Int.reduceLT, Int.reduceLE, Int.reduceNe, Nat.reduceEqDiff, Nat.reduceLT, Nat.reduceAdd, Nat.reduceMul, Nat.reduceSub, Nat.reduceLeDiff, Int.reduceBEq, Int.reduceBNe, Nat.reduceBEq, Nat.reduceBNe, Int.reduceToNat]
    exact hK _ _ hk (by simp [h])
end Go.Proofs.Ytnblhjpbpobglaa

/- What trees mean: where a node may end. -/
set_option maxRecDepth 100000
set_option linter.unusedSimpArgs false
namespace Go.Proofs.Ytnblhjpbpobglaa
open Go.Am

def setW (s0 s1 s2 s3 : Int) (c : Nat) : Int := if c < 64 then s0 else if c < 128 then s1 else if c < 192 then s2 else s3
/-- Is a byte in a set? -/
def SetHas (s0 s1 s2 s3 : Int) (c : Nat) : Prop := (setW s0 s1 s2 s3 c / 2 ^ (c % 64)) % 2 = 1
def ndHas (n : Nd) (c : UInt8) : Prop := SetHas n.s0 n.s1 n.s2 n.s3 c.toNat

def chain : List (Nat → Nat → Prop) → Nat → Nat → Prop
  | [], i, j => i = j
  | r :: rs, i, j => ∃ m, r i m ∧ chain rs m j
def iterN (r : Nat → Nat → Prop) : Nat → Nat → Nat → Prop
  | 0, i, j => i = j
  | n + 1, i, j => ∃ m, r i m ∧ iterN r n m j

theorem chain_snoc (rs : List (Nat → Nat → Prop)) (r : Nat → Nat → Prop) : ∀ i j, chain (rs ++ [r]) i j ↔ ∃ m, chain rs i m ∧ r m j := by
  induction rs with
  | nil => intro i j; simp [chain]
  | cons q rs ih =>
    intro i j
    simp only [List.cons_append, chain, ih]
    constructor
    · rintro ⟨m, h1, k, h2, h3⟩; exact ⟨k, ⟨m, h1, h2⟩, h3⟩
    · rintro ⟨k, ⟨m, h1, h2⟩, h3⟩; exact ⟨m, h1, k, h2, h3⟩
theorem iterN_snoc (r : Nat → Nat → Prop) : ∀ n i j, iterN r (n + 1) i j ↔ ∃ m, iterN r n i m ∧ r m j := by
  intro n
  induction n with
  | zero => intro i j; simp [iterN]
  | succ n ih =>
    intro i j
    constructor
    · rintro ⟨m, h1, h2⟩
      obtain ⟨k, h3, h4⟩ := (ih m j).1 h2
      exact ⟨k, ⟨m, h1, h3⟩, h4⟩
    · rintro ⟨k, ⟨m, h1, h3⟩, h4⟩
      exact ⟨m, h1, (ih m j).2 ⟨k, h3, h4⟩⟩
theorem iterN_add (r : Nat → Nat → Prop) : ∀ n m i j, iterN r (n + m) i j ↔ ∃ k, iterN r n i k ∧ iterN r m k j := by
  intro n
  induction n with
  | zero => intro m i j; simp [iterN]
  | succ n ih =>
    intro m i j
    have e : n + 1 + m = (n + m) + 1 := by omega
    rw [e]
    simp only [iterN, ih]
    constructor
    · rintro ⟨a, h1, b, h2, h3⟩; exact ⟨b, ⟨a, h1, h2⟩, h3⟩
    · rintro ⟨b, ⟨a, h1, h2⟩, h3⟩; exact ⟨a, h1, b, h2, h3⟩

/-- May the tree of a node go from i to j in a text? -/
def den (l : List Nd) (w : List UInt8) (a : Nat) (i j : Nat) : Prop :=
  match l[a]? with
  | none => False
  | some n =>
    let kid : Int → Nat → Nat → Prop := fun k => if _h : k.toNat < a then den l w k.toNat else fun _ _ => False
    if n.op = 2 then (∃ c, w[i]? = some c ∧ ndHas n c) ∧ j = i + 1
    else if n.op = 3 then chain (n.kids.map kid) i j
    else if n.op = 4 then ∃ k, k ∈ n.kids ∧ kid k i j
    else if n.op = 5 then ∃ c : Nat, n.lo ≤ c ∧ (n.hi = -1 ∨ (c : Int) ≤ n.hi) ∧ iterN (kid (n.kids.headD 0)) c i j
    else i = j
termination_by a

/-- .. of a kid. -/
def kidDen (l : List Nd) (w : List UInt8) (a : Nat) (k : Int) : Nat → Nat → Prop := if k.toNat < a then den l w k.toNat else fun _ _ => False

theorem den_eq (l : List Nd) (w : List UInt8) (a : Nat) (n : Nd) (hn : l[a]? = some n) (i j : Nat) : den l w a i j ↔
    if n.op = 2 then (∃ c, w[i]? = some c ∧ ndHas n c) ∧ j = i + 1
    else if n.op = 3 then chain (n.kids.map (kidDen l w a)) i j
    else if n.op = 4 then ∃ k, k ∈ n.kids ∧ kidDen l w a k i j
    else if n.op = 5 then ∃ c : Nat, n.lo ≤ c ∧ (n.hi = -1 ∨ (c : Int) ≤ n.hi) ∧ iterN (kidDen l w a (n.kids.headD 0)) c i j
    else i = j := by
  rw [den, hn]
  rfl

theorem chain_le {rs : List (Nat → Nat → Prop)} {m : Nat} (h : ∀ r, r ∈ rs → ∀ i j, r i j → i ≤ j ∧ (i ≤ m → j ≤ m)) : ∀ i j, chain rs i j → i ≤ j ∧ (i ≤ m → j ≤ m) := by
  induction rs with
  | nil => intro i j h; simp only [chain] at h; subst h; exact ⟨Nat.le_refl _, id⟩
  | cons r rs ih =>
    rintro i j ⟨k, h1, h2⟩
    have a := h r (by simp) i k h1
    have b := ih (fun r hr => h r (by simp [hr])) k j h2
    exact ⟨by omega, fun hi => b.2 (a.2 hi)⟩
theorem iterN_le {r : Nat → Nat → Prop} {m : Nat} (h : ∀ i j, r i j → i ≤ j ∧ (i ≤ m → j ≤ m)) : ∀ n i j, iterN r n i j → i ≤ j ∧ (i ≤ m → j ≤ m) := by
  intro n
  induction n with
  | zero => intro i j h; simp only [iterN] at h; subst h; exact ⟨Nat.le_refl _, id⟩
  | succ n ih =>
    rintro i j ⟨k, h1, h2⟩
    have a := h i k h1
    have b := ih k j h2
    exact ⟨by omega, fun hi => b.2 (a.2 hi)⟩

theorem den_le (l : List Nd) (w : List UInt8) : ∀ a i j, den l w a i j → i ≤ j ∧ (i ≤ w.length → j ≤ w.length) := by
  intro a
  induction a using Nat.strongRecOn with
  | _ a ih =>
    intro i j h
    have hk : ∀ k i j, kidDen l w a k i j → i ≤ j ∧ (i ≤ w.length → j ≤ w.length) := fun k i j h => by
      unfold kidDen at h
      split at h
      · rename_i hlt; exact ih _ hlt i j h
      · exact h.elim
    cases hn : l[a]? with
    | none => rw [den, hn] at h; exact h.elim
    | some n =>
      rw [den_eq l w a n hn] at h
      split at h
      · obtain ⟨⟨c, hc, _⟩, rfl⟩ := h
        have : i < w.length := by
          rcases Nat.lt_or_ge i w.length with h | h
          · exact h
          · rw [List.getElem?_eq_none h] at hc; simp at hc
        exact ⟨by omega, fun _ => by omega⟩
      split at h
      · exact chain_le (fun r hr i j hij => by
          obtain ⟨k, _, rfl⟩ := List.mem_map.1 hr
          exact hk k i j hij) i j h
      split at h
      · obtain ⟨k, _, h⟩ := h; exact hk k i j h
      split at h
      · obtain ⟨c, _, _, h⟩ := h; exact iterN_le (hk _) c i j h
      · subst h; exact ⟨Nat.le_refl _, id⟩

-- ---------------------------------------------------------------- lists of places that rise
def Pls (ns : List Nat) (m : Nat) : Prop := ns.Pairwise (· < ·) ∧ ∀ n, n ∈ ns → n ≤ m
theorem Pls.len {ns : List Nat} {m : Nat} (h : Pls ns m) : ns.length ≤ m + 1 := by
  obtain ⟨h1, h2⟩ := h
  have : ∀ (ns : List Nat) (lo m : Nat), ns.Pairwise (· < ·) → (∀ n, n ∈ ns → lo ≤ n ∧ n < m) → ns.length ≤ m - lo := by
    intro ns
    induction ns with
    | nil => intro _ _ _ _; simp
    | cons x l ih =>
      intro lo m h1 h2
      rw [List.pairwise_cons] at h1
      have hx := h2 x (by simp)
      have := ih (x + 1) m h1.2 (fun n hn => ⟨h1.1 n hn, (h2 n (by simp [hn])).2⟩)
      simp only [List.length_cons]; omega
  exact this ns 0 (m + 1) h1 (fun n hn => ⟨Nat.zero_le _, by have := h2 n hn; omega⟩)

theorem sorted_ext {a b : List Nat} (ha : a.Pairwise (· < ·)) (hb : b.Pairwise (· < ·)) (h : ∀ x, x ∈ a ↔ x ∈ b) : a = b := by
  induction a generalizing b with
  | nil => cases b with
    | nil => rfl
    | cons y b => exact absurd ((h y).2 (by simp)) (by simp)
  | cons x a ih => cases b with
    | nil => exact absurd ((h x).1 (by simp)) (by simp)
    | cons y b =>
      rw [List.pairwise_cons] at ha hb
      have hxy : x = y := by
        have h1 := (h x).1 (by simp)
        have h2 := (h y).2 (by simp)
        simp only [List.mem_cons] at h1 h2
        rcases h1 with h1 | h1
        · exact h1
        · rcases h2 with h2 | h2
          · exact h2.symm
          · have := ha.1 y h2; have := hb.1 x h1; omega
      subst hxy
      congr 1
      refine ih ha.2 hb.2 (fun z => ?_)
      have := h z
      simp only [List.mem_cons] at this
      constructor
      · intro hz
        rcases this.1 (.inr hz) with e | e
        · subst e; have := ha.1 z hz; omega
        · exact e
      · intro hz
        rcases this.2 (.inr hz) with e | e
        · subst e; have := hb.1 z hz; omega
        · exact e

theorem sub_len {a b : List Nat} (ha : a.Pairwise (· < ·)) (hb : b.Pairwise (· < ·)) (h : ∀ x, x ∈ a → x ∈ b) (hl : b.length ≤ a.length) : a = b := by
  have : ∀ (a b : List Nat), a.Pairwise (· < ·) → b.Pairwise (· < ·) → (∀ x, x ∈ a → x ∈ b) → a.Sublist b := by
    intro a b
    induction b generalizing a with
    | nil => intro _ _ h; cases a with
      | nil => exact .slnil
      | cons x a => exact absurd (h x (by simp)) (by simp)
    | cons y b ih =>
      intro ha hb h
      cases a with
      | nil => simp
      | cons x a =>
        rw [List.pairwise_cons] at ha hb
        have hx := h x (by simp)
        simp only [List.mem_cons] at hx
        rcases hx with rfl | hx
        · refine .cons_cons _ (ih a ha.2 hb.2 (fun z hz => ?_))
          have := h z (by simp [hz])
          simp only [List.mem_cons] at this
          rcases this with rfl | h'
          · have := ha.1 z hz; omega
          · exact h'
        · refine .cons _ (ih (x :: a) (List.pairwise_cons.2 ha) hb.2 (fun z hz => ?_))
          have h1 := h z hz
          simp only [List.mem_cons] at h1 hz
          have hyx := hb.1 x hx
          rcases h1 with rfl | h'
          · rcases hz with rfl | hz
            · omega
            · have := ha.1 z hz; omega
          · exact h'
  exact (this a b ha hb h).eq_of_length_le hl

def nts (ns : List Nat) : List Int := ns.map Int.ofNat
theorem nts_len (ns : List Nat) : (nts ns).length = ns.length := by simp [nts]
theorem nts_get {ns : List Nat} {k n : Nat} (h : ns[k]? = some n) : (nts ns)[k]? = some (n : Int) := by simp [nts, h]
theorem nts_inj {a b : List Nat} (h : nts a = nts b) : a = b := by
  have := congrArg (List.map Int.toNat) h
  simpa [nts, Function.comp_def] using this
theorem nts_mem {ns : List Nat} {x : Int} : x ∈ nts ns ↔ ∃ n, n ∈ ns ∧ x = n := by
  simp only [nts, List.mem_map]
  constructor
  · rintro ⟨a, h, rfl⟩; exact ⟨a, h, rfl⟩
  · rintro ⟨a, h, rfl⟩; exact ⟨a, h, rfl⟩
theorem nts_sorted {ns : List Nat} (h : ns.Pairwise (· < ·)) : (nts ns).Pairwise (· < ·) := by
  rw [nts, List.pairwise_map]
  exact h.imp (fun {a b} hab => by show (a : Int) < b; omega)

/-- Two lists of places, as one. -/
def mergeN (a b : List Nat) : List Nat := (mergeL (nts a) (nts b)).map Int.toNat
theorem mergeN_nts (a b : List Nat) : nts (mergeN a b) = mergeL (nts a) (nts b) := by
  have : ∀ x, x ∈ mergeL (nts a) (nts b) → 0 ≤ x := fun x hx => by
    rw [mergeL_mem, nts_mem, nts_mem] at hx
    rcases hx with ⟨n, _, rfl⟩ | ⟨n, _, rfl⟩ <;> omega
  simp only [nts, mergeN, List.map_map] at *
  conv => rhs; rw [← List.map_id (mergeL (List.map Int.ofNat a) (List.map Int.ofNat b))]
  apply List.map_congr_left
  intro x hx
  have := this x hx
  simp; omega
theorem mergeN_mem (a b : List Nat) (x : Nat) : x ∈ mergeN a b ↔ x ∈ a ∨ x ∈ b := by
  have : (x : Int) ∈ nts (mergeN a b) ↔ x ∈ a ∨ x ∈ b := by
    rw [mergeN_nts, mergeL_mem, nts_mem, nts_mem]
    constructor
    · rintro (⟨n, h, e⟩ | ⟨n, h, e⟩)
      · left; have : x = n := by omega
        rw [this]; exact h
      · right; have : x = n := by omega
        rw [this]; exact h
    · rintro (h | h)
      · exact .inl ⟨x, h, rfl⟩
      · exact .inr ⟨x, h, rfl⟩
  rw [← this, nts_mem]
  constructor
  · intro h; exact ⟨x, h, rfl⟩
  · rintro ⟨n, h, e⟩
    have : x = n := by omega
    rw [this]; exact h
theorem mergeN_sorted (a b : List Nat) : (mergeN a b).Pairwise (· < ·) := by
  have h := mergeL_sorted (nts a) (nts b)
  rw [← mergeN_nts, nts, List.pairwise_map] at h
  exact h.imp (fun {a b} hab => by
    have : (a : Int) < b := hab
    omega)
end Go.Proofs.Ytnblhjpbpobglaa

/- bset.Has. -/
set_option maxRecDepth 100000
set_option linter.unusedSimpArgs false
namespace Go.Proofs.Ytnblhjpbpobglaa
open Go.Am

theorem and1 (x : Int) (h : 0 ≤ x) (h2 : x < 18446744073709551616) : bitsA .and .u64 x 1 = some (x % 2) := by
  have e : (BitVec.ofInt 64 x &&& BitVec.ofInt 64 1).toNat = x.toNat % 2 := by
    rw [BitVec.toNat_and, BitVec.toNat_ofInt, BitVec.toNat_ofInt]
    have e1 : (x % ((2 ^ 64 : Nat) : Int)).toNat = x.toNat := by
      have : x % ((2 ^ 64 : Nat) : Int) = x := Int.emod_eq_of_lt h (by simpa using h2)
      rw [this]
    have e2 : ((1 : Int) % ((2 ^ 64 : Nat) : Int)).toNat = 1 := by decide
    rw [e1, e2, Nat.and_one_is_mod]
  show some (IntKind.u64.wrap (((BitVec.ofInt 64 x &&& BitVec.ofInt 64 1).toNat : Nat) : Int)) = _
  rw [e, wrap_u64 (by omega) (by omega)]
  congr 1; omega

theorem shr_nat (s : Int) (k : Nat) (hk : k ≤ 64) : shiftI .shr .u64 s k = some (.int .u64 (s / 2 ^ k)) := by
  simp only [shiftI, IntKind.bits]
  rw [if_neg (by omega)]
  congr 2
  have : min (k : Int).toNat 64 = k := by simp; omega
  rw [this, Int.fdiv_eq_ediv_of_nonneg _ (by exact Int.le_of_lt (Int.pow_pos (by decide)))]

theorem has_spec (H : AHeap) (s0 s1 s2 s3 : Int) (c : UInt8) (h0 : u64In s0) (h1 : u64In s1) (h2 : u64In s2) (h3 : u64In s3) (K : AV → AHeap → Prop)
    (hK : ∀ b H', Keeps H H' → (b = true ↔ SetHas s0 s1 s2 s3 c.toNat) → K (.bool b) H') :
    WF P0 42 [.agg [.int .u64 s0, .int .u64 s1, .int .u64 s2, .int .u64 s3], .int .u8 c.toNat] H K := by
  have hc : c.toNat < 256 := c.toNat_lt
  have hq : IntKind.u8.wrap ((c.toNat : Int).tdiv 64) = ((c.toNat / 64 : Nat) : Int) := by
    have : (c.toNat : Int).tdiv 64 = ((c.toNat / 64 : Nat) : Int) := rfl
    rw [this, wrap_u8 (by omega) (by omega)]
  have hr : (c.toNat : Int).tmod 64 = ((c.toNat % 64 : Nat) : Int) := rfl
  have hb : ∀ s, u64In s → 0 ≤ s / 2 ^ (c.toNat % 64) ∧ s / 2 ^ (c.toNat % 64) < 18446744073709551616 := fun s hs => by
    have hp : (0 : Int) < 2 ^ (c.toNat % 64) := Int.pow_pos (by decide)
    refine ⟨Int.ediv_nonneg hs.1 (Int.le_of_lt hp), ?_⟩
    have := Int.ediv_le_self (2 ^ (c.toNat % 64)) hs.1
    have := hs.2; omega
  have hfin : ∀ s, u64In s → setW s0 s1 s2 s3 c.toNat = s → ((s / 2 ^ (c.toNat % 64) % 2 == 1) = true ↔ SetHas s0 s1 s2 s3 c.toNat) := fun s _ e => by
    simp only [SetHas, e, beq_iff_eq]
  refine zWF rfl rfl rfl ?_
  have hsh : ∀ s, shiftI .shr .u64 s ((c.toNat % 64 : Nat) : Int) = some (.int .u64 (s / 2 ^ (c.toNat % 64))) := fun s => shr_nat s _ (by omega)
  have hcase : c.toNat / 64 = 0 ∨ c.toNat / 64 = 1 ∨ c.toNat / 64 = 2 ∨ c.toNat / 64 = 3 := by omega
  rcases hcase with h | h | h | h
  · rw [h] at hq
    have ha := and1 _ (hb s0 h0).1 (hb s0 h0).2
    simp only [a42, hq, hr, hsh, ha, zz, env0, aPure, aRead, aNew, aEff, aval, avals, aparts, aopt, wantedA, binA, isShift, binI, fillA, single, aRes, splice, mkv, unA, binS, sameAt, reduceCtorEq, reduceIte, Int.reduceEq, Int.reduceLT, Int.reduceLE, Int.reduceNe, Nat.reduceEqDiff, Nat.reduceLT, Nat.reduceAdd, Nat.reduceMul, Nat.reduceSub, Nat.reduceLeDiff, Int.reduceBEq, Int.reduceBNe, Nat.reduceBEq, Nat.reduceBNe, Int.reduceToNat]
    exact hK _ _ (.p1 _ _) (hfin s0 h0 (by unfold setW; rw [if_pos (by omega)]))
  · rw [h] at hq
    have ha := and1 _ (hb s1 h1).1 (hb s1 h1).2
    simp only [a42, hq, hr, hsh, ha, zz, env0, aPure, aRead, aNew, aEff, aval, avals, aparts, aopt, wantedA, binA, isShift, binI, fillA, single, aRes, splice, mkv, unA, binS, sameAt, reduceCtorEq, reduceIte, Int.reduceEq, Int.reduceLT, Int.reduceLE, Int.reduceNe, Nat.reduceEqDiff, Nat.reduceLT, Nat.reduceAdd, Nat.reduceMul, Nat.reduceSub, Nat.reduceLeDiff, Int.reduceBEq, Int.reduceBNe, Nat.reduceBEq, Nat.reduceBNe, Int.reduceToNat]
    exact hK _ _ (.p1 _ _) (hfin s1 h1 (by unfold setW; rw [if_neg (by omega), if_pos (by omega)]))
  · rw [h] at hq
    have ha := and1 _ (hb s2 h2).1 (hb s2 h2).2
    simp only [a42, hq, hr, hsh, ha, zz, env0, aPure, aRead, aNew, aEff, aval, avals, aparts, aopt, wantedA, binA, isShift, binI, fillA, single, aRes, splice, mkv, unA, binS, sameAt, reduceCtorEq, reduceIte, Int.reduceEq, Int.reduceLT, Int.reduceLE, Int.reduceNe, Nat.reduceEqDiff, Nat.reduceLT, Nat.reduceAdd, Nat.reduceMul, Nat.reduceSub, Nat.reduceLeDiff, Int.reduceBEq, Int.reduceBNe, Nat.reduceBEq, Nat.reduceBNe, Int.reduceToNat]
    exact hK _ _ (.p1 _ _) (hfin s2 h2 (by unfold setW; rw [if_neg (by omega), if_neg (by omega), if_pos (by omega)]))
  · rw [h] at hq
    have ha := and1 _ (hb s3 h3).1 (hb s3 h3).2
    simp only [a42, hq, hr, hsh, ha, zz, env0, aPure, aRead, aNew, aEff, aval, avals, aparts, aopt, wantedA, binA, isShift, binI, fillA, single, aRes, splice, mkv, unA, binS, sameAt, reduceCtorEq, reduceIte, Int.reduceEq, Int.reduceLT, Int.reduceLE, Int.reduceNe, Nat.reduceEqDiff, Nat.reduceLT, Nat.reduceAdd, Nat.reduceMul, Nat.reduceSub, Nat.reduceLeDiff, Int.reduceBEq, Int.reduceBNe, Nat.reduceBEq, Nat.reduceBNe, Int.reduceToNat]
    exact hK _ _ (.p1 _ _) (hfin s3 h3 (by unfold setW; rw [if_neg (by omega), if_neg (by omega), if_neg (by omega)]))
end Go.Proofs.Ytnblhjpbpobglaa

/- lang: times. -/
set_option maxRecDepth 100000
set_option linter.unusedSimpArgs false
namespace Go.Proofs.Ytnblhjpbpobglaa
open Go.Am

/-- The walk of a node is right. -/
def EndsAt (l : List Nd) (w : List UInt8) (v : AV) (a : Nat) : Prop := ∀ (H : AHeap) (vf : AV) (ns : List Nat) (K : AV → AHeap → Prop), Nds H v l → Ints H vf (nts ns) → Pls ns w.length →
  (∀ v' H' ms, Keeps H H' → Ints H' v' (nts ms) → Pls ms w.length → (∀ j, j ∈ ms ↔ ∃ i, i ∈ ns ∧ den l w a i j) → K v' H') → WF P0 31 [.agg [v, .str w], .int .i64 a, vf] H K

theorem times_spec {l : List Nd} {w : List UInt8} {v : AV} {k0 : Nat} (ih : EndsAt l w v k0) (hw : w.length ≤ 1000000) (H : AHeap) (kv vf : AV) (n : Nd) (ns : List Nat) (hN : Nds H v l) (_hvn : v.one = true ∧ v.cells = [v] ∧ v.isJunk = false)
    (hkv : Ints H kv n.kids) (hk0 : n.kids = [(k0 : Int)]) (hlo : 0 ≤ n.lo ∧ n.lo ≤ 4096) (hhi : n.hi = -1 ∨ 1 ≤ n.hi ∧ n.lo ≤ n.hi ∧ n.hi ≤ 4096) (hf : Ints H vf (nts ns)) (hp : Pls ns w.length) (K : AV → AHeap → Prop)
    (hK : ∀ v' H' ms, Keeps H H' → Ints H' v' (nts ms) → Pls ms w.length → (∀ j, j ∈ ms ↔ ∃ i, i ∈ ns ∧ ∃ c : Nat, n.lo ≤ c ∧ (n.hi = -1 ∨ (c : Int) ≤ n.hi) ∧ iterN (den l w k0) c i j) → K v' H') :
    WF P0 44 [.agg [v, .str w], .agg (ndRow n kv), vf] H K := by
  obtain ⟨lo, hlo'⟩ : ∃ lo : Nat, n.lo = lo := ⟨n.lo.toNat, by omega⟩
  have hS : ∀ c j, (∃ i, i ∈ ns ∧ iterN (den l w k0) c i j) → j ≤ w.length := fun c j ⟨i, h1, h2⟩ => (iterN_le (den_le l w k0) c i j h2).2 (hp.2 i h1)
  refine zWF rfl rfl rfl ?_
  simp only [a44, ndRow, hlo', zz, env0, aPure, aRead, aNew, aEff, aval, avals, aparts, aopt, wantedA, binA, isShift, binI, fillA, single, aRes, splice, mkv, unA, binS, sameAt, reduceCtorEq, reduceIte, Int.reduceEq, Int.reduceLT, Int.reduceLE, Int.reduceNe, Nat.reduceEqDiff, Nat.reduceLT, Nat.reduceAdd, Nat.reduceMul, Nat.reduceSub, Nat.reduceLeDiff, Int.reduceBEq, Int.reduceBNe, Nat.reduceBEq, Nat.reduceBNe, Int.reduceToNat]
  generalize hH2 : H ++ [some (Blk.cells 2 true [v, AV.str w])] ++ [some (Blk.cells 9 true [AV.int IntKind.u8 n.op, AV.int IntKind.u64 n.s0, AV.int IntKind.u64 n.s1, AV.int IntKind.u64 n.s2, AV.int IntKind.u64 n.s3, kv, AV.int IntKind.i64 lo, AV.int IntKind.i64 n.hi, AV.str n.name])] = H2
  have hk2 : Keeps H H2 := by rw [← hH2]; exact .p2 _ _ _
  generalize hnb : (H ++ [some (Blk.cells 2 true [v, AV.str w])]).length = nb
  have hbm : getB H2 H.length = some (Blk.cells 2 true [v, AV.str w]) := by rw [← hH2]; exact gb_push _ (gb_new _ _)
  have hbn : getB H2 nb = some (Blk.cells 9 true [AV.int IntKind.u8 n.op, AV.int IntKind.u64 n.s0, AV.int IntKind.u64 n.s1, AV.int IntKind.u64 n.s2, AV.int IntKind.u64 n.s3, kv, AV.int IntKind.i64 lo, AV.int IntKind.i64 n.hi, AV.str n.name]) := by
    rw [← hH2, ← hnb]; exact gb_new _ _
  have hkx : n.kids[0]? = some (k0 : Int) := by rw [hk0]; rfl
  obtain ⟨ik, ok, rfl, hld⟩ := hkv.int hkx
  have hkl : n.kids.length = 1 := by rw [hk0]; rfl
  rw [hkl]
  rw [Nat.add_zero] at hld
  -- facts at any later heap
  have fm : ∀ H', Keeps H2 H' → loadA H' H.length 0 2 = some [v, .str w] := fun H' hk => load_at (hk.get hbm) (by simp)
  have f5 : ∀ H', Keeps H2 H' → loadA H' nb 5 1 = some [.sl ik ok n.kids.length] := fun H' hk => load_one (hk.get hbn) rfl
  have f7 : ∀ H', Keeps H2 H' → loadA H' nb 7 1 = some [.int .i64 n.hi] := fun H' hk => load_one (hk.get hbn) rfl
  have f6 : ∀ H', Keeps H2 H' → loadA H' nb 6 1 = some [.int .i64 lo] := fun H' hk => load_one (hk.get hbn) rfl
  have fk : ∀ H', Keeps H2 H' → loadA H' ik ok 1 = some [.int .i64 k0] := fun H' hk => (hk2.trans hk).load hld
  rw [hkl] at f5
  refine WC.mono (K := fun e env H' => e = .exit 0 ∧ ∃ vf' ms a6 a11 a12 a13, Keeps H2 H' ∧ Ints H' vf' (nts ms) ∧ Pls ms w.length ∧ (∀ j, j ∈ ms ↔ ∃ i, i ∈ ns ∧ iterN (den l w k0) lo i j) ∧
      env = [.agg [v, .str w], .agg (ndRow n (.sl ik ok 1)), vf', .ptr H.length 0, .ptr nb 0, .nilsl, a6, .junk, .junk, .junk, .int .i64 lo, a11, a12, a13, .junk, .junk]) ?_ ?_
  · refine WCL (fun r env H' => ∃ (c : Nat) (vf' : AV) (ms : List Nat) (a6 a12 a13 : AV), c ≤ lo ∧ r = lo - c ∧ Keeps H2 H' ∧ Ints H' vf' (nts ms) ∧ Pls ms w.length ∧ (∀ j, j ∈ ms ↔ ∃ i, i ∈ ns ∧ iterN (den l w k0) c i j) ∧
        env = [.agg [v, .str w], .agg (ndRow n (.sl ik ok 1)), vf', .ptr H.length 0, .ptr nb 0, .nilsl, a6, .junk, .junk, .junk, .int .i64 lo, .int .i64 c, a12, a13, .junk, .junk]) (n := lo)
      ⟨0, vf, ns, _, _, _, Nat.zero_le _, rfl, .refl _, Rows.keeps IntP.mono hk2 hf, hp, fun j => by simp [iterN], by rw [ndRow, hlo']; rfl⟩ ?_
    rintro r env H' ⟨c, vf', ms, a6, a12, a13, hc, rfl, hk, hi, hpm, hden, rfl⟩
    simp only [zz, env0, aPure, aRead, aNew, aEff, aval, avals, aparts, aopt, wantedA, binA, isShift, binI, fillA, single, aRes, splice, mkv, unA, binS, sameAt, reduceCtorEq, reduceIte, Int.reduceEq, Int.reduceLT, Int.reduceLE, Int.reduceNe, Nat.reduceEqDiff, Nat.reduceLT, Nat.reduceAdd, Nat.reduceMul, Nat.reduceSub, Nat.reduceLeDiff, Int.reduceBEq, Int.reduceBNe, Nat.reduceBEq, Nat.reduceBNe, Int.reduceToNat]
    refine onB_of (fun hlt => ?_) (fun hlt => ?_)
    · have hlt : c < lo := by simpa using hlt
      have g1 := fm _ hk
      have g2 := f5 _ hk
      have g3 := fk _ hk
      simp only [g1, g2, g3, zz, env0, aPure, aRead, aNew, aEff, aval, avals, aparts, aopt, wantedA, binA, isShift, binI, fillA, single, aRes, splice, mkv, unA, binS, sameAt, reduceCtorEq, reduceIte, Int.reduceEq, Int.reduceLT, Int.reduceLE, Int.reduceNe, Nat.reduceEqDiff, Nat.reduceLT, Nat.reduceAdd, Nat.reduceMul, Nat.reduceSub, Nat.reduceLeDiff, Int.reduceBEq, Int.reduceBNe, Nat.reduceBEq, Nat.reduceBNe, Int.reduceToNat]
      refine ih _ _ ms _ (Rows.keeps NdP.mono (hk2.trans hk) hN) hi hpm ?_
      intro v2 H3 ms2 hk3 hi2 hp2 hd2
      simp only [zz, env0, aPure, aRead, aNew, aEff, aval, avals, aparts, aopt, wantedA, binA, isShift, binI, fillA, single, aRes, splice, mkv, unA, binS, sameAt, reduceCtorEq, reduceIte, Int.reduceEq, Int.reduceLT, Int.reduceLE, Int.reduceNe, Nat.reduceEqDiff, Nat.reduceLT, Nat.reduceAdd, Nat.reduceMul, Nat.reduceSub, Nat.reduceLeDiff, Int.reduceBEq, Int.reduceBNe, Nat.reduceBEq, Nat.reduceBNe, Int.reduceToNat]
      have hms2 := hp2.len
      refine equal_spec _ _ _ (nts ms2) (nts ms) (by rw [nts_len]; omega) hi2 (Rows.keeps IntP.mono hk3 hi) _ ?_
      intro b hb
      have hd2' : ∀ j, j ∈ ms2 ↔ ∃ i, i ∈ ns ∧ iterN (den l w k0) (c + 1) i j := fun j => by
        rw [hd2 j]
        constructor
        · rintro ⟨m, h1, h2⟩
          obtain ⟨i, h3, h4⟩ := (hden m).1 h1
          exact ⟨i, h3, (iterN_snoc _ _ _ _).2 ⟨m, h4, h2⟩⟩
        · rintro ⟨i, h3, h4⟩
          obtain ⟨m, h5, h6⟩ := (iterN_snoc _ _ _ _).1 h4
          exact ⟨m, (hden m).2 ⟨i, h3, h5⟩, h6⟩
      cases b with
      | true =>
        simp only [zz, env0, aPure, aRead, aNew, aEff, aval, avals, aparts, aopt, wantedA, binA, isShift, binI, fillA, single, aRes, splice, mkv, unA, binS, sameAt, reduceCtorEq, reduceIte, Int.reduceEq, Int.reduceLT, Int.reduceLE, Int.reduceNe, Nat.reduceEqDiff, Nat.reduceLT, Nat.reduceAdd, Nat.reduceMul, Nat.reduceSub, Nat.reduceLeDiff, Int.reduceBEq, Int.reduceBNe, Nat.reduceBEq, Nat.reduceBNe, Int.reduceToNat]
        have e := nts_inj (hb.1 rfl)
        subst e
        refine ⟨vf', ms2, _, _, _, _, hk.trans hk3, Rows.keeps IntP.mono hk3 hi, hpm, fun j => ?_, rfl⟩
        have hfix : ∀ d j, (∃ i, i ∈ ns ∧ iterN (den l w k0) (c + d) i j) ↔ j ∈ ms2 := by
          intro d
          induction d with
          | zero => intro j; exact (hden j).symm
          | succ d ihd =>
            intro j
            rw [hd2 j]
            constructor
            · rintro ⟨i, h3, h4⟩
              obtain ⟨m, h5, h6⟩ := (iterN_snoc _ _ _ _).1 h4
              exact ⟨m, (ihd m).1 ⟨i, h3, h5⟩, h6⟩
            · rintro ⟨m, h1, h2⟩
              obtain ⟨i, h3, h4⟩ := (ihd m).2 h1
              exact ⟨i, h3, (iterN_snoc _ _ _ _).2 ⟨m, h4, h2⟩⟩
        have := hfix (lo - c) j
        rw [Nat.add_sub_cancel' (by omega)] at this
        exact this.symm
      | false =>
        have v2' : IntKind.i64.wrap ((c : Int) + 1) = ((c + 1 : Nat) : Int) := by rw [wrap_i64 (by omega) (by omega)]; rfl
        simp only [v2', zz, env0, aPure, aRead, aNew, aEff, aval, avals, aparts, aopt, wantedA, binA, isShift, binI, fillA, single, aRes, splice, mkv, unA, binS, sameAt, reduceCtorEq, reduceIte, Int.reduceEq, Int.reduceLT, Int.reduceLE, Int.reduceNe, Nat.reduceEqDiff, Nat.reduceLT, Nat.reduceAdd, Nat.reduceMul, Nat.reduceSub, Nat.reduceLeDiff, Int.reduceBEq, Int.reduceBNe, Nat.reduceBEq, Nat.reduceBNe, Int.reduceToNat]
        exact ⟨lo - (c + 1), by omega, c + 1, v2, ms2, _, _, _, by omega, rfl, hk.trans hk3, hi2, hp2, hd2', rfl⟩
    · have hce : c = lo := by simp at hlt; omega
      subst hce
      simp only [zz, env0, aPure, aRead, aNew, aEff, aval, avals, aparts, aopt, wantedA, binA, isShift, binI, fillA, single, aRes, splice, mkv, unA, binS, sameAt, reduceCtorEq, reduceIte, Int.reduceEq, Int.reduceLT, Int.reduceLE, Int.reduceNe, Nat.reduceEqDiff, Nat.reduceLT, Nat.reduceAdd, Nat.reduceMul, Nat.reduceSub, Nat.reduceLeDiff, Int.reduceBEq, Int.reduceBNe, Nat.reduceBEq, Nat.reduceBNe, Int.reduceToNat]
      exact ⟨vf', ms, _, _, _, _, hk, hi, hpm, hden, rfl⟩
  · rintro e env H' ⟨rfl, vf', ms, a6, a11, a12, a13, hk, hi, hpm, hden, rfl⟩
    have g6 := f6 _ hk
    simp only [g6, zz, env0, aPure, aRead, aNew, aEff, aval, avals, aparts, aopt, wantedA, binA, isShift, binI, fillA, single, aRes, splice, mkv, unA, binS, sameAt, reduceCtorEq, reduceIte, Int.reduceEq, Int.reduceLT, Int.reduceLE, Int.reduceNe, Nat.reduceEqDiff, Nat.reduceLT, Nat.reduceAdd, Nat.reduceMul, Nat.reduceSub, Nat.reduceLeDiff, Int.reduceBEq, Int.reduceBNe, Nat.reduceBEq, Nat.reduceBNe, Int.reduceToNat]
    refine WC.mono (K := fun e env H' => e = .exit 2 ∧ ∃ vf' vo os a8 a9 a6 a11 a12 a13 a14 a15, Keeps H2 H' ∧ Ints H' vo (nts os) ∧ Pls os w.length ∧ (∀ j, j ∈ os ↔ ∃ i, i ∈ ns ∧ ∃ c : Nat, n.lo ≤ c ∧ (n.hi = -1 ∨ (c : Int) ≤ n.hi) ∧ iterN (den l w k0) c i j) ∧
      env = [.agg [v, .str w], .agg (ndRow n (.sl ik ok 1)), vf', .ptr H.length 0, .ptr nb 0, .nilsl, a6, vo, a8, a9, .int .i64 lo, a11, a12, a13, a14, a15]) ?_ ?_
    · refine WCL (fun r env H' => ∃ (d : Nat) (vf' vo : AV) (fs os : List Nat) (a6 a9 a11 a12 a13 a14 a15 : AV), r = w.length + 2 - os.length ∧ (n.hi = -1 ∨ ((lo + d : Nat) : Int) ≤ n.hi) ∧ d + 1 ≤ os.length + 1 ∧ Keeps H2 H' ∧ Ints H' vf' (nts fs) ∧ Pls fs w.length ∧ Ints H' vo (nts os) ∧ Pls os w.length ∧
          (∀ j, j ∈ fs ↔ ∃ i, i ∈ ns ∧ iterN (den l w k0) (lo + d) i j) ∧ (∀ j, j ∈ os ↔ ∃ e, e ≤ d ∧ ∃ i, i ∈ ns ∧ iterN (den l w k0) (lo + e) i j) ∧
          env = [.agg [v, .str w], .agg (ndRow n (.sl ik ok 1)), vf', .ptr H.length 0, .ptr nb 0, .nilsl, a6, vo, .int .i64 ((lo + d : Nat) : Int), a9, .int .i64 lo, a11, a12, a13, a14, a15]) (n := w.length + 2 - ms.length)
        ⟨0, vf', vf', ms, ms, _, _, _, _, _, _, _, rfl, by omega, by omega, hk, hi, hpm, hi, hpm, hden, fun j => by rw [hden j]; simp, rfl⟩ ?_
      rintro r env H3 ⟨d, vf1, vo, fs, os, b6, b9, b11, b12, b13, b14, b15, rfl, hdh, hdl, hk3, hif, hpf, hio, hpo, hdf, hdo, rfl⟩
      have g7 := f7 _ hk3
      simp only [g7, zz, env0, aPure, aRead, aNew, aEff, aval, avals, aparts, aopt, wantedA, binA, isShift, binI, fillA, single, aRes, splice, mkv, unA, binS, sameAt, reduceCtorEq, reduceIte, Int.reduceEq, Int.reduceLT, Int.reduceLE, Int.reduceNe, Nat.reduceEqDiff, Nat.reduceLT, Nat.reduceAdd, Nat.reduceMul, Nat.reduceSub, Nat.reduceLeDiff, Int.reduceBEq, Int.reduceBNe, Nat.reduceBEq, Nat.reduceBNe, Int.reduceToNat]
      refine onB_of (fun hne => ?_) (fun heq => ?_)
      · have g1 := fm _ hk3
        have g2 := f5 _ hk3
        have g3 := fk _ hk3
        simp only [hne, g1, g2, g3, zz, env0, aPure, aRead, aNew, aEff, aval, avals, aparts, aopt, wantedA, binA, isShift, binI, fillA, single, aRes, splice, mkv, unA, binS, sameAt, reduceCtorEq, reduceIte, Int.reduceEq, Int.reduceLT, Int.reduceLE, Int.reduceNe, Nat.reduceEqDiff, Nat.reduceLT, Nat.reduceAdd, Nat.reduceMul, Nat.reduceSub, Nat.reduceLeDiff, Int.reduceBEq, Int.reduceBNe, Nat.reduceBEq, Nat.reduceBNe, Int.reduceToNat]
        refine ih _ _ fs _ (Rows.keeps NdP.mono (hk2.trans hk3) hN) hif hpf ?_
        intro v2 H4 fs2 hk4 hi2 hp2 hd2
        have hl1 := hp2.len
        have hl2 := hpo.len
        simp only [zz, env0, aPure, aRead, aNew, aEff, aval, avals, aparts, aopt, wantedA, binA, isShift, binI, fillA, single, aRes, splice, mkv, unA, binS, sameAt, reduceCtorEq, reduceIte, Int.reduceEq, Int.reduceLT, Int.reduceLE, Int.reduceNe, Nat.reduceEqDiff, Nat.reduceLT, Nat.reduceAdd, Nat.reduceMul, Nat.reduceSub, Nat.reduceLeDiff, Int.reduceBEq, Int.reduceBNe, Nat.reduceBEq, Nat.reduceBNe, Int.reduceToNat]
        refine merge_spec _ _ _ (nts os) (nts fs2) (Rows.keeps IntP.mono hk4 hio) hi2 (by rw [nts_len]; omega) (by rw [nts_len]; omega) _ ?_
        intro v3 H5 hk5 hw5
        rw [← mergeN_nts, nts_len] at hw5
        have hi5 : Ints H5 v3 (nts (mergeN os fs2)) := ints_of (by rw [nts_len]; exact hw5.row)
        have hlm := hi5.lenOf
        have hlo5 := hio.lenOf
        rw [nts_len] at hlm hlo5
        have hp5 : Pls (mergeN os fs2) w.length := ⟨mergeN_sorted _ _, fun x hx => by
          rcases (mergeN_mem _ _ _).1 hx with h | h
          · exact hpo.2 x h
          · exact hp2.2 x h⟩
        have hd2' : ∀ j, j ∈ fs2 ↔ ∃ i, i ∈ ns ∧ iterN (den l w k0) (lo + (d + 1)) i j := fun j => by
          rw [hd2 j]
          constructor
          · rintro ⟨m, h1, h2⟩
            obtain ⟨i, h3, h4⟩ := (hdf m).1 h1
            exact ⟨i, h3, (iterN_snoc _ _ _ _).2 ⟨m, h4, h2⟩⟩
          · rintro ⟨i, h3, h4⟩
            obtain ⟨m, h5, h6⟩ := (iterN_snoc _ _ _ _).1 h4
            exact ⟨m, (hdf m).2 ⟨i, h3, h5⟩, h6⟩
        have hdm : ∀ j, j ∈ mergeN os fs2 ↔ ∃ e, e ≤ d + 1 ∧ ∃ i, i ∈ ns ∧ iterN (den l w k0) (lo + e) i j := fun j => by
          rw [mergeN_mem, hdo j, hd2' j]
          constructor
          · rintro (⟨e, h1, h2⟩ | h2)
            · exact ⟨e, by omega, h2⟩
            · exact ⟨d + 1, Nat.le_refl _, h2⟩
          · rintro ⟨e, h1, h2⟩
            rcases Nat.lt_or_ge e (d + 1) with h | h
            · exact .inl ⟨e, by omega, h2⟩
            · have : e = d + 1 := by omega
              subst this; exact .inr h2
        simp only [hlm, hlo5, zz, env0, aPure, aRead, aNew, aEff, aval, avals, aparts, aopt, wantedA, binA, isShift, binI, fillA, single, aRes, splice, mkv, unA, binS, sameAt, reduceCtorEq, reduceIte, Int.reduceEq, Int.reduceLT, Int.reduceLE, Int.reduceNe, Nat.reduceEqDiff, Nat.reduceLT, Nat.reduceAdd, Nat.reduceMul, Nat.reduceSub, Nat.reduceLeDiff, Int.reduceBEq, Int.reduceBNe, Nat.reduceBEq, Nat.reduceBNe, Int.reduceToNat]
        refine onB_of (fun hsame => ?_) (fun hdiff => ?_)
        · have hll : (mergeN os fs2).length = os.length := by simp at hsame; omega
          simp only [zz, env0, aPure, aRead, aNew, aEff, aval, avals, aparts, aopt, wantedA, binA, isShift, binI, fillA, single, aRes, splice, mkv, unA, binS, sameAt, reduceCtorEq, reduceIte, Int.reduceEq, Int.reduceLT, Int.reduceLE, Int.reduceNe, Nat.reduceEqDiff, Nat.reduceLT, Nat.reduceAdd, Nat.reduceMul, Nat.reduceSub, Nat.reduceLeDiff, Int.reduceBEq, Int.reduceBNe, Nat.reduceBEq, Nat.reduceBNe, Int.reduceToNat]
          have hsub : os = mergeN os fs2 := sub_len hpo.1 (mergeN_sorted _ _) (fun x hx => (mergeN_mem _ _ _).2 (.inl hx)) (by omega)
          have hcl : ∀ e j, (∃ i, i ∈ ns ∧ iterN (den l w k0) (lo + e) i j) → j ∈ os := by
            intro e
            induction e with
            | zero => intro j h; exact (hdo j).2 ⟨0, by omega, h⟩
            | succ e ihe =>
              rintro j ⟨i, h3, h4⟩
              obtain ⟨m, h5, h6⟩ := (iterN_snoc _ _ _ _).1 h4
              obtain ⟨e', h7, i', h8, h9⟩ := (hdo m).1 (ihe m ⟨i, h3, h5⟩)
              rw [hsub]
              exact (hdm j).2 ⟨e' + 1, by omega, i', h8, (iterN_snoc _ _ _ _).2 ⟨m, h9, h6⟩⟩
          refine ⟨v2, vo, os, _, _, _, _, _, _, _, _, hk3.trans (hk4.trans hk5), Rows.keeps IntP.mono (hk4.trans hk5) hio, hpo, fun j => ?_, rfl⟩
          constructor
          · intro hj
            obtain ⟨e, h1, i, h2, h3⟩ := (hdo j).1 hj
            exact ⟨i, h2, lo + e, by omega, by rcases hdh with h | h <;> omega, h3⟩
          · rintro ⟨i, h1, c, h2, h3, h4⟩
            have : c = lo + (c - lo) := by omega
            rw [this] at h4
            exact hcl (c - lo) j ⟨i, h1, h4⟩
        · have hll : (mergeN os fs2).length ≠ os.length := by simp at hdiff; omega
          have hlen5 := hp5.len
          have hge : os.length ≤ (mergeN os fs2).length := by
            rcases Nat.lt_or_ge (mergeN os fs2).length os.length with h | h
            · exact absurd (congrArg List.length (sub_len hpo.1 (mergeN_sorted os fs2) (fun x hx => (mergeN_mem _ _ _).2 (.inl hx)) (by omega))) (by omega)
            · exact h
          have v2' : IntKind.i64.wrap (((lo + d : Nat) : Int) + 1) = ((lo + (d + 1) : Nat) : Int) := by rw [wrap_i64 (by omega) (by omega)]; omega
          simp only [v2', zz, env0, aPure, aRead, aNew, aEff, aval, avals, aparts, aopt, wantedA, binA, isShift, binI, fillA, single, aRes, splice, mkv, unA, binS, sameAt, reduceCtorEq, reduceIte, Int.reduceEq, Int.reduceLT, Int.reduceLE, Int.reduceNe, Nat.reduceEqDiff, Nat.reduceLT, Nat.reduceAdd, Nat.reduceMul, Nat.reduceSub, Nat.reduceLeDiff, Int.reduceBEq, Int.reduceBNe, Nat.reduceBEq, Nat.reduceBNe, Int.reduceToNat]
          have hne' : ((lo + d : Nat) : Int) ≠ n.hi := by simpa [bne_iff_ne] using hne
          exact ⟨w.length + 2 - (mergeN os fs2).length, by omega, d + 1, v2, v3, fs2, mergeN os fs2, _, _, _, _, _, _, _, rfl, by rcases hdh with h | h <;> omega, by omega, hk3.trans (hk4.trans hk5), Rows.keeps IntP.mono hk5 hi2, hp2, hi5, hp5, hd2', hdm, rfl⟩
      · have heq' : ((lo + d : Nat) : Int) = n.hi := by simpa [bne_iff_ne] using heq
        simp only [heq, zz, env0, aPure, aRead, aNew, aEff, aval, avals, aparts, aopt, wantedA, binA, isShift, binI, fillA, single, aRes, splice, mkv, unA, binS, sameAt, reduceCtorEq, reduceIte, Int.reduceEq, Int.reduceLT, Int.reduceLE, Int.reduceNe, Nat.reduceEqDiff, Nat.reduceLT, Nat.reduceAdd, Nat.reduceMul, Nat.reduceSub, Nat.reduceLeDiff, Int.reduceBEq, Int.reduceBNe, Nat.reduceBEq, Nat.reduceBNe, Int.reduceToNat]
        refine ⟨vf1, vo, os, _, _, _, _, _, _, _, _, hk3, hio, hpo, fun j => ?_, rfl⟩
        rw [hdo j]
        constructor
        · rintro ⟨e, h1, i, h2, h3⟩
          exact ⟨i, h2, lo + e, by omega, by omega, h3⟩
        · rintro ⟨i, h1, c, h2, h3, h4⟩
          have : c = lo + (c - lo) := by omega
          rw [this] at h4
          exact ⟨c - lo, by omega, i, h1, h4⟩
    · rintro e env H3 ⟨rfl, vf1, vo, os, a8, a9, b6, b11, b12, b13, b14, b15, hk3, hio, hpo, hdo, rfl⟩
      simp only [zz, env0, aPure, aRead, aNew, aEff, aval, avals, aparts, aopt, wantedA, binA, isShift, binI, fillA, single, aRes, splice, mkv, unA, binS, sameAt, reduceCtorEq, reduceIte, Int.reduceEq, Int.reduceLT, Int.reduceLE, Int.reduceNe, Nat.reduceEqDiff, Nat.reduceLT, Nat.reduceAdd, Nat.reduceMul, Nat.reduceSub, Nat.reduceLeDiff, Int.reduceBEq, Int.reduceBNe, Nat.reduceBEq, Nat.reduceBNe, Int.reduceToNat]
      exact hK _ _ os (hk2.trans hk3) hio hpo hdo
end Go.Proofs.Ytnblhjpbpobglaa

/- lang: ends. -/
set_option maxRecDepth 100000
set_option linter.unusedSimpArgs false
namespace Go.Proofs.Ytnblhjpbpobglaa
open Go.Am

theorem wr_ints {H : AHeap} {b : Nat} {v : AV} {xs : List Int} (h : WR H b 1 v xs.length (xs.map (AV.int .i64))) : Ints H v xs := ints_of h.row

theorem ends_spec {l : List Nd} {w : List UInt8} {v : AV} (hR : RightT l) (hw : w.length ≤ 1000000) : ∀ a, a < l.length → EndsAt l w v a := by
  intro a
  induction a using Nat.strongRecOn with
  | _ a ih =>
  intro ha H vf ns K hN hf hp hK
  obtain ⟨hl1, hl2, root, hstk⟩ := hR
  obtain ⟨n, hn⟩ : ∃ n, l[a]? = some n := ⟨l[a], List.getElem?_eq_getElem ha⟩
  obtain ⟨hsh, hkl, hkr⟩ := stk_kids hstk hn
  have hlf := hf.lenOf
  rw [nts_len] at hlf
  obtain ⟨q1, q2, q3, q4⟩ := hN.flat
  obtain ⟨b9, o9, kv, rfl, hok, hkv, hld⟩ := hN.nd hn
  have p1 : (0 : Int) ≤ a := by omega
  have p2 : (a : Int) < l.length := by omega
  have h9 := hld 0 9 (by omega)
  simp only [Nat.add_zero, List.drop_zero, ndRow, List.take_succ_cons, List.take_zero] at h9
  obtain ⟨f1, f2, f3, f4⟩ := hkv.flat
  have hlt9 : b9 < H.length := by
    rcases Nat.lt_or_ge b9 H.length with h | h
    · exact h
    · have : getB H b9 = none := by unfold getB; rw [List.getElem?_eq_none h]; rfl
      simp [loadA, this] at h9
  have hden := den_eq l w a n hn
  refine zWF rfl rfl rfl ?_
  simp only [a31, p1, p2, hlt9, h9, f1, zz, env0, aPure, aRead, aNew, aEff, aval, avals, aparts, aopt, wantedA, binA, isShift, binI, fillA, single, aRes, splice, mkv, unA, binS, sameAt, reduceCtorEq, reduceIte, Int.reduceEq, Int.reduceLT, Int.reduceLE, Int.reduceNe, Nat.reduceEqDiff, Nat.reduceLT, Nat.reduceAdd, Nat.reduceMul, Nat.reduceSub, Nat.reduceLeDiff, Int.reduceBEq, Int.reduceBNe, Nat.reduceBEq, Nat.reduceBNe, Int.reduceToNat]
  generalize hH2 : H ++ [some (Blk.cells 2 true [.sl b9 o9 l.length, AV.str w])] ++ [some (Blk.cells 9 true [AV.int IntKind.u8 n.op, AV.int IntKind.u64 n.s0, AV.int IntKind.u64 n.s1, AV.int IntKind.u64 n.s2, AV.int IntKind.u64 n.s3, kv, AV.int IntKind.i64 n.lo, AV.int IntKind.i64 n.hi, AV.str n.name])] = H2
  have hk2 : Keeps H H2 := by rw [← hH2]; exact .p2 _ _ _
  generalize hnb : (H ++ [some (Blk.cells 2 true [.sl b9 o9 l.length, AV.str w])]).length = nb
  have hbm : getB H2 H.length = some (Blk.cells 2 true [.sl b9 o9 l.length, AV.str w]) := by rw [← hH2]; exact gb_push _ (gb_new _ _)
  have hbn : getB H2 nb = some (Blk.cells 9 true [AV.int IntKind.u8 n.op, AV.int IntKind.u64 n.s0, AV.int IntKind.u64 n.s1, AV.int IntKind.u64 n.s2, AV.int IntKind.u64 n.s3, kv, AV.int IntKind.i64 n.lo, AV.int IntKind.i64 n.hi, AV.str n.name]) := by
    rw [← hH2, ← hnb]; exact gb_new _ _
  have fm : ∀ H', Keeps H2 H' → loadA H' H.length 0 2 = some [.sl b9 o9 l.length, .str w] := fun H' hk => load_at (hk.get hbm) (by simp)
  have fm1 : ∀ H', Keeps H2 H' → loadA H' H.length 1 1 = some [.str w] := fun H' hk => load_one (hk.get hbm) rfl
  have f5 : ∀ H', Keeps H2 H' → loadA H' nb 5 1 = some [kv] := fun H' hk => load_one (hk.get hbn) rfl
  have fs : ∀ H', Keeps H2 H' → loadA H' nb 1 4 = some [AV.int IntKind.u64 n.s0, AV.int IntKind.u64 n.s1, AV.int IntKind.u64 n.s2, AV.int IntKind.u64 n.s3] := fun H' hk => load_at (hk.get hbn) (by simp)
  have fn : ∀ H', Keeps H2 H' → loadA H' nb 0 9 = some (ndRow n kv) := fun H' hk => load_at (hk.get hbn) (by simp)
  have hlk := hkv.lenOf
  have hnl := hp.len
  have hcase : n.op = 2 ∨ n.op = 3 ∨ n.op = 4 ∨ n.op = 5 ∨ (n.op ≠ 2 ∧ n.op ≠ 3 ∧ n.op ≠ 4 ∧ n.op ≠ 5) := by omega
  have hkid : ∀ k, k ∈ n.kids → ∃ m : Nat, k = m ∧ m < a ∧ kidDen l w a k = den l w m := fun k hk => by
    have := hkr k hk
    refine ⟨k.toNat, by omega, by omega, ?_⟩
    unfold kidDen; rw [if_pos (by omega)]
  rcases hcase with ho | ho | ho | ho | ⟨o2, o3, o4, o5⟩
  · -- Bytes
    have ho' : (n.op == 2) = true := by simp [ho]
    simp only [ho', hlf, zz, env0, aPure, aRead, aNew, aEff, aval, avals, aparts, aopt, wantedA, binA, isShift, binI, fillA, single, aRes, splice, mkv, unA, binS, sameAt, reduceCtorEq, reduceIte, Int.reduceEq, Int.reduceLT, Int.reduceLE, Int.reduceNe, Nat.reduceEqDiff, Nat.reduceLT, Nat.reduceAdd, Nat.reduceMul, Nat.reduceSub, Nat.reduceLeDiff, Int.reduceBEq, Int.reduceBNe, Nat.reduceBEq, Nat.reduceBNe, Int.reduceToNat]
    refine WC.mono (K := fun e env H' => e = .exit 1 ∧ ∃ vo bl a7 a15 a16 a17, Keeps H2 H' ∧ Ints H' vo (nts bl) ∧ Pls bl w.length ∧ (∀ j, j ∈ bl ↔ ∃ i, i ∈ ns ∧ den l w a i j) ∧
      env = [.agg [.sl b9 o9 l.length, .str w], .int .i64 a, vf, .ptr H.length 0, .nilsl, .ptr nb 0, vo, a7, .junk, .junk, .junk, .int .u8 n.op, .bool true, vf, .int .i64 ns.length, a15, a16, a17, .junk, .junk, .junk, .junk, .junk, .junk, .junk, .junk, .junk, .junk, .junk]) ?_ ?_
    · refine WCL (fun r env H' => ∃ (t : Nat) (vo a7 a16 a17 : AV) (bl : List Nat), t ≤ ns.length ∧ r = ns.length - t ∧ Keeps H2 H' ∧ WR H' H2.length 1 vo bl.length ((nts bl).map (AV.int .i64)) ∧ Pls bl w.length ∧
          (∀ j, j ∈ bl ↔ ∃ i, i ∈ ns.take t ∧ den l w a i j) ∧
          env = [.agg [.sl b9 o9 l.length, .str w], .int .i64 a, vf, .ptr H.length 0, .nilsl, .ptr nb 0, vo, a7, .junk, .junk, .junk, .int .u8 n.op, .bool true, vf, .int .i64 ns.length, .int .i64 t, a16, a17, .junk, .junk, .junk, .junk, .junk, .junk, .junk, .junk, .junk, .junk, .junk]) (n := ns.length)
        ⟨0, .nilsl, _, _, _, [], Nat.zero_le _, rfl, .refl _, .nil, ⟨.nil, by simp⟩, by simp, rfl⟩ ?_
      rintro r env H' ⟨t, vo, a7, a16, a17, bl, ht, rfl, hk, hwo, hpb, hdb, rfl⟩
      simp only [zz, env0, aPure, aRead, aNew, aEff, aval, avals, aparts, aopt, wantedA, binA, isShift, binI, fillA, single, aRes, splice, mkv, unA, binS, sameAt, reduceCtorEq, reduceIte, Int.reduceEq, Int.reduceLT, Int.reduceLE, Int.reduceNe, Nat.reduceEqDiff, Nat.reduceLT, Nat.reduceAdd, Nat.reduceMul, Nat.reduceSub, Nat.reduceLeDiff, Int.reduceBEq, Int.reduceBNe, Nat.reduceBEq, Nat.reduceBNe, Int.reduceToNat]
      refine onB_of (fun hlt => ?_) (fun hlt => ?_)
      · have hlt : t < ns.length := by simpa using hlt
        obtain ⟨x, hx⟩ : ∃ x, ns[t]? = some x := ⟨ns[t], List.getElem?_eq_getElem hlt⟩
        have hf' : Ints H' vf (nts ns) := Rows.keeps IntP.mono (hk2.trans hk) hf
        obtain ⟨ix, ox, rfl, g1⟩ := hf'.int (nts_get hx)
        rw [nts_len] at *
        have r1 : (0 : Int) ≤ t := by omega
        have r2 : (t : Int) < ns.length := by omega
        have m1 := fm1 _ hk
        have m2 := fs _ hk
        have htk : ns.take (t + 1) = ns.take t ++ [x] := by
          rw [List.take_succ_eq_append_getElem hlt]; congr 2
          rw [List.getElem?_eq_getElem hlt] at hx; simpa using hx
        have hxw : x ≤ w.length := hp.2 x (List.mem_of_getElem? hx)
        have vt : IntKind.i64.wrap ((t : Int) + 1) = ((t + 1 : Nat) : Int) := by rw [wrap_i64 (by omega) (by omega)]; rfl
        have vx : IntKind.i64.wrap ((x : Int) + 1) = ((x + 1 : Nat) : Int) := by rw [wrap_i64 (by omega) (by omega)]; rfl
        have skip : (¬ ∃ c, w[x]? = some c ∧ ndHas n c) → ∀ H4, Keeps H' H4 → (Keeps H2 H4 ∧ WR H4 H2.length 1 vo bl.length ((nts bl).map (AV.int .i64)) ∧ (∀ j, j ∈ bl ↔ ∃ i, i ∈ ns.take (t + 1) ∧ den l w a i j)) := fun hno H4 hk4 => by
          refine ⟨hk.trans hk4, hwo.keeps hk4, fun j => ?_⟩
          rw [hdb j, htk]
          constructor
          · rintro ⟨i, h1, h2⟩; exact ⟨i, by simp [h1], h2⟩
          · rintro ⟨i, h1, h2⟩
            simp only [List.mem_append, List.mem_cons, List.not_mem_nil, or_false] at h1
            rcases h1 with h1 | rfl
            · exact ⟨i, h1, h2⟩
            · rw [hden, if_pos ho] at h2; exact absurd h2.1 hno
        simp only [r1, r2, Nat.mul_one, g1, m1, m2, zz, env0, aPure, aRead, aNew, aEff, aval, avals, aparts, aopt, wantedA, binA, isShift, binI, fillA, single, aRes, splice, mkv, unA, binS, sameAt, reduceCtorEq, reduceIte, Int.reduceEq, Int.reduceLT, Int.reduceLE, Int.reduceNe, Nat.reduceEqDiff, Nat.reduceLT, Nat.reduceAdd, Nat.reduceMul, Nat.reduceSub, Nat.reduceLeDiff, Int.reduceBEq, Int.reduceBNe, Nat.reduceBEq, Nat.reduceBNe, Int.reduceToNat]
        refine onG_t (fun hlx => ?_) (fun hlx => ?_)
        · have hlx' : x < w.length := by simpa using hlx
          obtain ⟨c, hc⟩ : ∃ c, w[x]? = some c := ⟨w[x], List.getElem?_eq_getElem hlx'⟩
          have r3 : (0 : Int) ≤ x := by omega
          simp only [hlx, m1, m2, r3, hc, zz, env0, aPure, aRead, aNew, aEff, aval, avals, aparts, aopt, wantedA, binA, isShift, binI, fillA, single, aRes, splice, mkv, unA, binS, sameAt, reduceCtorEq, reduceIte, Int.reduceEq, Int.reduceLT, Int.reduceLE, Int.reduceNe, Nat.reduceEqDiff, Nat.reduceLT, Nat.reduceAdd, Nat.reduceMul, Nat.reduceSub, Nat.reduceLeDiff, Int.reduceBEq, Int.reduceBNe, Nat.reduceBEq, Nat.reduceBNe, Int.reduceToNat]
          refine has_spec _ _ _ _ _ c hok.s0 hok.s1 hok.s2 hok.s3 _ ?_
          intro b H4 hk4 hb
          cases b with
          | false =>
            obtain ⟨s1, s2, s3⟩ := skip (fun ⟨c', h1, h2⟩ => by rw [hc] at h1; simp only [Option.some.injEq] at h1; subst h1; have := hb.2 h2; simp at this) H4 hk4
            simp only [hlx, vt, zz, env0, aPure, aRead, aNew, aEff, aval, avals, aparts, aopt, wantedA, binA, isShift, binI, fillA, single, aRes, splice, mkv, unA, binS, sameAt, reduceCtorEq, reduceIte, Int.reduceEq, Int.reduceLT, Int.reduceLE, Int.reduceNe, Nat.reduceEqDiff, Nat.reduceLT, Nat.reduceAdd, Nat.reduceMul, Nat.reduceSub, Nat.reduceLeDiff, Int.reduceBEq, Int.reduceBNe, Nat.reduceBEq, Nat.reduceBNe, Int.reduceToNat]
            exact ⟨ns.length - (t + 1), by omega, t + 1, vo, _, _, _, bl, by omega, rfl, s1, s2, hpb, s3, rfl⟩
          | true =>
            have hbl := hpb.len
            obtain ⟨v', H5, hap, hw5, he5, hid5⟩ := ((hwo.keeps hk4).keeps (Keeps.p1 H4 (some (.cells 1 true [.int .i64 ((x + 1 : Nat) : Int)])))).append (bytes := 8) (by have := hk.1; have := hk4.1; simp; omega) (src_new H4 1 1 [.int .i64 ((x + 1 : Nat) : Int)] rfl) rfl rfl (by simp only [maxRoom]; omega)
            simp only [hlx, vt, vx, hap, zz, env0, aPure, aRead, aNew, aEff, aval, avals, aparts, aopt, wantedA, binA, isShift, binI, fillA, single, aRes, splice, mkv, unA, binS, sameAt, reduceCtorEq, reduceIte, Int.reduceEq, Int.reduceLT, Int.reduceLE, Int.reduceNe, Nat.reduceEqDiff, Nat.reduceLT, Nat.reduceAdd, Nat.reduceMul, Nat.reduceSub, Nat.reduceLeDiff, Int.reduceBEq, Int.reduceBNe, Nat.reduceBEq, Nat.reduceBNe, Int.reduceToNat]
            have hk5 : Keeps H2 H5 := Else.keeps ((hk.trans hk4).trans (.p1 _ _)) he5 (fun i hi => (hwo.id hi).1)
            have hdx : ∀ j, den l w a x j ↔ j = x + 1 := fun j => by
              rw [hden, if_pos ho]
              exact ⟨fun h => h.2, fun h => ⟨⟨c, hc, hb.1 rfl⟩, h⟩⟩
            have hltx : ∀ y, y ∈ bl → y < x + 1 := fun y hy => by
              obtain ⟨i, h1, h2⟩ := (hdb y).1 hy
              rw [hden, if_pos ho] at h2
              have hix : i < x := by
                obtain ⟨s, hs⟩ := List.mem_iff_getElem?.1 h1
                have hst : s < t := by
                  rcases Nat.lt_or_ge s t with h | h
                  · exact h
                  · rw [List.getElem?_eq_none (by rw [List.length_take]; omega)] at hs; simp at hs
                rw [List.getElem?_take_of_lt hst] at hs
                have := List.pairwise_iff_getElem.1 hp.1 s t (by omega) hlt hst
                rw [List.getElem?_eq_getElem (by omega)] at hs
                rw [List.getElem?_eq_getElem hlt] at hx
                simp only [Option.some.injEq] at hs hx
                omega
              omega
            refine ⟨ns.length - (t + 1), by omega, t + 1, v', _, _, _, bl ++ [x + 1], by omega, rfl, hk5, ?_, ⟨?_, ?_⟩, ?_, rfl⟩
            · have e : (bl ++ [x + 1]).length = bl.length + 1 := by simp
              rw [e]
              simpa [nts] using hw5
            · rw [List.pairwise_append]
              refine ⟨hpb.1, by simp, fun y hy z hz => ?_⟩
              simp only [List.mem_cons, List.not_mem_nil, or_false] at hz
              subst hz; exact hltx y hy
            · intro y hy
              simp only [List.mem_append, List.mem_cons, List.not_mem_nil, or_false] at hy
              rcases hy with hy | rfl
              · exact hpb.2 y hy
              · omega
            · intro j
              rw [htk, List.mem_append, hdb j]
              constructor
              · rintro (⟨i, h1, h2⟩ | h)
                · exact ⟨i, by simp [h1], h2⟩
                · simp only [List.mem_cons, List.not_mem_nil, or_false] at h
                  exact ⟨x, by simp, (hdx j).2 h⟩
              · rintro ⟨i, h1, h2⟩
                simp only [List.mem_append, List.mem_cons, List.not_mem_nil, or_false] at h1
                rcases h1 with h1 | rfl
                · exact .inl ⟨i, h1, h2⟩
                · right; simp [(hdx j).1 h2]
        · have hno : ¬ ∃ c, w[x]? = some c ∧ ndHas n c := fun ⟨c, h1, _⟩ => by
            have : ¬ x < w.length := by simpa using hlx
            rw [List.getElem?_eq_none (by omega)] at h1; simp at h1
          obtain ⟨s1, s2, s3⟩ := skip hno H' (.refl _)
          simp only [hlx, vt, zz, env0, aPure, aRead, aNew, aEff, aval, avals, aparts, aopt, wantedA, binA, isShift, binI, fillA, single, aRes, splice, mkv, unA, binS, sameAt, reduceCtorEq, reduceIte, Int.reduceEq, Int.reduceLT, Int.reduceLE, Int.reduceNe, Nat.reduceEqDiff, Nat.reduceLT, Nat.reduceAdd, Nat.reduceMul, Nat.reduceSub, Nat.reduceLeDiff, Int.reduceBEq, Int.reduceBNe, Nat.reduceBEq, Nat.reduceBNe, Int.reduceToNat]
          exact ⟨ns.length - (t + 1), by omega, t + 1, vo, _, _, _, bl, by omega, rfl, s1, s2, hpb, s3, rfl⟩
      · have hte : t = ns.length := by simp at hlt; omega
        subst hte
        rw [List.take_length] at hdb
        simp only [zz, env0, aPure, aRead, aNew, aEff, aval, avals, aparts, aopt, wantedA, binA, isShift, binI, fillA, single, aRes, splice, mkv, unA, binS, sameAt, reduceCtorEq, reduceIte, Int.reduceEq, Int.reduceLT, Int.reduceLE, Int.reduceNe, Nat.reduceEqDiff, Nat.reduceLT, Nat.reduceAdd, Nat.reduceMul, Nat.reduceSub, Nat.reduceLeDiff, Int.reduceBEq, Int.reduceBNe, Nat.reduceBEq, Nat.reduceBNe, Int.reduceToNat]
        exact ⟨vo, bl, _, _, _, _, hk, wr_ints (by rw [nts_len]; exact hwo), hpb, hdb, rfl⟩
    · rintro e env H' ⟨rfl, vo, bl, a7, a15, a16, a17, hk, hio, hpb, hdb, rfl⟩
      simp only [zz, env0, aPure, aRead, aNew, aEff, aval, avals, aparts, aopt, wantedA, binA, isShift, binI, fillA, single, aRes, splice, mkv, unA, binS, sameAt, reduceCtorEq, reduceIte, Int.reduceEq, Int.reduceLT, Int.reduceLE, Int.reduceNe, Nat.reduceEqDiff, Nat.reduceLT, Nat.reduceAdd, Nat.reduceMul, Nat.reduceSub, Nat.reduceLeDiff, Int.reduceBEq, Int.reduceBNe, Nat.reduceBEq, Nat.reduceBNe, Int.reduceToNat]
      exact hK _ _ bl (hk2.trans hk) hio hpb hdb
  · -- Cat
    have ho' : (n.op == 3) = true := by simp [ho]
    have e2 : (n.op == 2) = false := by simp [ho]
    simp only [e2, ho', f5 H2 (.refl _), hlk, zz, env0, aPure, aRead, aNew, aEff, aval, avals, aparts, aopt, wantedA, binA, isShift, binI, fillA, single, aRes, splice, mkv, unA, binS, sameAt, reduceCtorEq, reduceIte, Int.reduceEq, Int.reduceLT, Int.reduceLE, Int.reduceNe, Nat.reduceEqDiff, Nat.reduceLT, Nat.reduceAdd, Nat.reduceMul, Nat.reduceSub, Nat.reduceLeDiff, Int.reduceBEq, Int.reduceBNe, Nat.reduceBEq, Nat.reduceBNe, Int.reduceToNat]
    refine WC.mono (K := fun e env H' => e = .exit 3 ∧ ∃ vf' ms a8 a21 a22, Keeps H2 H' ∧ Ints H' vf' (nts ms) ∧ Pls ms w.length ∧ (∀ j, j ∈ ms ↔ ∃ i, i ∈ ns ∧ den l w a i j) ∧
      env = [.agg [.sl b9 o9 l.length, .str w], .int .i64 a, vf', .ptr H.length 0, .nilsl, .ptr nb 0, .junk, .junk, a8, .junk, .junk, .int .u8 n.op, .bool false, .junk, .junk, .junk, .junk, .junk, .bool true, kv, .int .i64 n.kids.length, a21, a22, .junk, .junk, .junk, .junk, .junk, .junk]) ?_ ?_
    · refine WCL (fun r env H' => ∃ (t : Nat) (vf' a8 a22 : AV) (ms : List Nat), t ≤ n.kids.length ∧ r = n.kids.length - t ∧ Keeps H2 H' ∧ Ints H' vf' (nts ms) ∧ Pls ms w.length ∧
          (∀ j, j ∈ ms ↔ ∃ i, i ∈ ns ∧ chain ((n.kids.take t).map (kidDen l w a)) i j) ∧
          env = [.agg [.sl b9 o9 l.length, .str w], .int .i64 a, vf', .ptr H.length 0, .nilsl, .ptr nb 0, .junk, .junk, a8, .junk, .junk, .int .u8 n.op, .bool false, .junk, .junk, .junk, .junk, .junk, .bool true, kv, .int .i64 n.kids.length, .int .i64 t, a22, .junk, .junk, .junk, .junk, .junk, .junk]) (n := n.kids.length)
        ⟨0, vf, _, _, ns, Nat.zero_le _, rfl, .refl _, Rows.keeps IntP.mono hk2 hf, hp, fun j => by simp [chain], rfl⟩ ?_
      rintro r env H' ⟨t, vf', a8, a22, ms, ht, rfl, hk, hi, hpm, hdm, rfl⟩
      simp only [zz, env0, aPure, aRead, aNew, aEff, aval, avals, aparts, aopt, wantedA, binA, isShift, binI, fillA, single, aRes, splice, mkv, unA, binS, sameAt, reduceCtorEq, reduceIte, Int.reduceEq, Int.reduceLT, Int.reduceLE, Int.reduceNe, Nat.reduceEqDiff, Nat.reduceLT, Nat.reduceAdd, Nat.reduceMul, Nat.reduceSub, Nat.reduceLeDiff, Int.reduceBEq, Int.reduceBNe, Nat.reduceBEq, Nat.reduceBNe, Int.reduceToNat]
      refine onB_of (fun hlt => ?_) (fun hlt => ?_)
      · have hlt : t < n.kids.length := by simpa using hlt
        obtain ⟨x, hx⟩ : ∃ x, n.kids[t]? = some x := ⟨n.kids[t], List.getElem?_eq_getElem hlt⟩
        obtain ⟨m, rfl, hma, hkd⟩ := hkid x (List.mem_of_getElem? hx)
        obtain ⟨ik, ok, rfl, g1⟩ := (Rows.keeps IntP.mono (hk2.trans hk) hkv).int hx
        have r1 : (0 : Int) ≤ t := by omega
        have r2 : (t : Int) < n.kids.length := by omega
        have m1 := fm _ hk
        have htk : n.kids.take (t + 1) = n.kids.take t ++ [(m : Int)] := by
          rw [List.take_succ_eq_append_getElem hlt]; congr 2
          rw [List.getElem?_eq_getElem hlt] at hx; simpa using hx
        have vt : IntKind.i64.wrap ((t : Int) + 1) = ((t + 1 : Nat) : Int) := by rw [wrap_i64 (by omega) (by omega)]; rfl
        simp only [r1, r2, Nat.mul_one, g1, m1, zz, env0, aPure, aRead, aNew, aEff, aval, avals, aparts, aopt, wantedA, binA, isShift, binI, fillA, single, aRes, splice, mkv, unA, binS, sameAt, reduceCtorEq, reduceIte, Int.reduceEq, Int.reduceLT, Int.reduceLE, Int.reduceNe, Nat.reduceEqDiff, Nat.reduceLT, Nat.reduceAdd, Nat.reduceMul, Nat.reduceSub, Nat.reduceLeDiff, Int.reduceBEq, Int.reduceBNe, Nat.reduceBEq, Nat.reduceBNe, Int.reduceToNat]
        refine ih m hma (by omega) _ _ ms _ (Rows.keeps NdP.mono (hk2.trans hk) hN) hi hpm ?_
        intro v2 H4 ms2 hk4 hi2 hp2 hd2
        simp only [vt, zz, env0, aPure, aRead, aNew, aEff, aval, avals, aparts, aopt, wantedA, binA, isShift, binI, fillA, single, aRes, splice, mkv, unA, binS, sameAt, reduceCtorEq, reduceIte, Int.reduceEq, Int.reduceLT, Int.reduceLE, Int.reduceNe, Nat.reduceEqDiff, Nat.reduceLT, Nat.reduceAdd, Nat.reduceMul, Nat.reduceSub, Nat.reduceLeDiff, Int.reduceBEq, Int.reduceBNe, Nat.reduceBEq, Nat.reduceBNe, Int.reduceToNat]
        refine ⟨n.kids.length - (t + 1), by omega, t + 1, v2, _, _, ms2, by omega, rfl, hk.trans hk4, hi2, hp2, fun j => ?_, rfl⟩
        rw [hd2 j, htk, List.map_append, List.map_cons, List.map_nil]
        constructor
        · rintro ⟨i, h1, h2⟩
          obtain ⟨i0, h3, h4⟩ := (hdm i).1 h1
          exact ⟨i0, h3, (chain_snoc _ _ _ _).2 ⟨i, h4, by rw [hkd]; exact h2⟩⟩
        · rintro ⟨i0, h3, h4⟩
          obtain ⟨i, h5, h6⟩ := (chain_snoc _ _ _ _).1 h4
          exact ⟨i, (hdm i).2 ⟨i0, h3, h5⟩, by rw [hkd] at h6; exact h6⟩
      · have hte : t = n.kids.length := by simp at hlt; omega
        subst hte
        rw [List.take_length] at hdm
        simp only [zz, env0, aPure, aRead, aNew, aEff, aval, avals, aparts, aopt, wantedA, binA, isShift, binI, fillA, single, aRes, splice, mkv, unA, binS, sameAt, reduceCtorEq, reduceIte, Int.reduceEq, Int.reduceLT, Int.reduceLE, Int.reduceNe, Nat.reduceEqDiff, Nat.reduceLT, Nat.reduceAdd, Nat.reduceMul, Nat.reduceSub, Nat.reduceLeDiff, Int.reduceBEq, Int.reduceBNe, Nat.reduceBEq, Nat.reduceBNe, Int.reduceToNat]
        refine ⟨vf', ms, _, _, _, hk, hi, hpm, fun j => ?_, rfl⟩
        rw [hdm j]
        simp only [hden, ho]
        simp
    · rintro e env H' ⟨rfl, vf', ms, a8, a21, a22, hk, hi, hpm, hdm, rfl⟩
      simp only [zz, env0, aPure, aRead, aNew, aEff, aval, avals, aparts, aopt, wantedA, binA, isShift, binI, fillA, single, aRes, splice, mkv, unA, binS, sameAt, reduceCtorEq, reduceIte, Int.reduceEq, Int.reduceLT, Int.reduceLE, Int.reduceNe, Nat.reduceEqDiff, Nat.reduceLT, Nat.reduceAdd, Nat.reduceMul, Nat.reduceSub, Nat.reduceLeDiff, Int.reduceBEq, Int.reduceBNe, Nat.reduceBEq, Nat.reduceBNe, Int.reduceToNat]
      exact hK _ _ ms (hk2.trans hk) hi hpm hdm
  · -- Alt
    have ho' : (n.op == 4) = true := by simp [ho]
    have e2 : (n.op == 2) = false := by simp [ho]
    have e3 : (n.op == 3) = false := by simp [ho]
    simp only [e2, e3, ho', f5 H2 (.refl _), hlk, zz, env0, aPure, aRead, aNew, aEff, aval, avals, aparts, aopt, wantedA, binA, isShift, binI, fillA, single, aRes, splice, mkv, unA, binS, sameAt, reduceCtorEq, reduceIte, Int.reduceEq, Int.reduceLT, Int.reduceLE, Int.reduceNe, Nat.reduceEqDiff, Nat.reduceLT, Nat.reduceAdd, Nat.reduceMul, Nat.reduceSub, Nat.reduceLeDiff, Int.reduceBEq, Int.reduceBNe, Nat.reduceBEq, Nat.reduceBNe, Int.reduceToNat]
    refine WC.mono (K := fun e env H' => e = .exit 5 ∧ ∃ vo ms a10 a26 a27, Keeps H2 H' ∧ Ints H' vo (nts ms) ∧ Pls ms w.length ∧ (∀ j, j ∈ ms ↔ ∃ i, i ∈ ns ∧ den l w a i j) ∧
      env = [.agg [.sl b9 o9 l.length, .str w], .int .i64 a, vf, .ptr H.length 0, .nilsl, .ptr nb 0, .junk, .junk, .junk, vo, a10, .int .u8 n.op, .bool false, .junk, .junk, .junk, .junk, .junk, .bool false, .junk, .junk, .junk, .junk, .bool true, kv, .int .i64 n.kids.length, a26, a27, .junk]) ?_ ?_
    · refine WCL (fun r env H' => ∃ (t : Nat) (vo a10 a27 : AV) (ms : List Nat), t ≤ n.kids.length ∧ r = n.kids.length - t ∧ Keeps H2 H' ∧ Ints H' vo (nts ms) ∧ Pls ms w.length ∧
          (∀ j, j ∈ ms ↔ ∃ i, i ∈ ns ∧ ∃ k, k ∈ n.kids.take t ∧ kidDen l w a k i j) ∧
          env = [.agg [.sl b9 o9 l.length, .str w], .int .i64 a, vf, .ptr H.length 0, .nilsl, .ptr nb 0, .junk, .junk, .junk, vo, a10, .int .u8 n.op, .bool false, .junk, .junk, .junk, .junk, .junk, .bool false, .junk, .junk, .junk, .junk, .bool true, kv, .int .i64 n.kids.length, .int .i64 t, a27, .junk]) (n := n.kids.length)
        ⟨0, .nilsl, _, _, [], Nat.zero_le _, rfl, .refl _, Rows.nil, ⟨.nil, by simp⟩, fun j => by simp, rfl⟩ ?_
      rintro r env H' ⟨t, vo, a10, a27, ms, ht, rfl, hk, hi, hpm, hdm, rfl⟩
      simp only [zz, env0, aPure, aRead, aNew, aEff, aval, avals, aparts, aopt, wantedA, binA, isShift, binI, fillA, single, aRes, splice, mkv, unA, binS, sameAt, reduceCtorEq, reduceIte, Int.reduceEq, Int.reduceLT, Int.reduceLE, Int.reduceNe, Nat.reduceEqDiff, Nat.reduceLT, Nat.reduceAdd, Nat.reduceMul, Nat.reduceSub, Nat.reduceLeDiff, Int.reduceBEq, Int.reduceBNe, Nat.reduceBEq, Nat.reduceBNe, Int.reduceToNat]
      refine onB_of (fun hlt => ?_) (fun hlt => ?_)
      · have hlt : t < n.kids.length := by simpa using hlt
        obtain ⟨x, hx⟩ : ∃ x, n.kids[t]? = some x := ⟨n.kids[t], List.getElem?_eq_getElem hlt⟩
        obtain ⟨m, rfl, hma, hkd⟩ := hkid x (List.mem_of_getElem? hx)
        obtain ⟨ik, ok, rfl, g1⟩ := (Rows.keeps IntP.mono (hk2.trans hk) hkv).int hx
        have r1 : (0 : Int) ≤ t := by omega
        have r2 : (t : Int) < n.kids.length := by omega
        have m1 := fm _ hk
        have htk : n.kids.take (t + 1) = n.kids.take t ++ [(m : Int)] := by
          rw [List.take_succ_eq_append_getElem hlt]; congr 2
          rw [List.getElem?_eq_getElem hlt] at hx; simpa using hx
        have vt : IntKind.i64.wrap ((t : Int) + 1) = ((t + 1 : Nat) : Int) := by rw [wrap_i64 (by omega) (by omega)]; rfl
        simp only [r1, r2, Nat.mul_one, g1, m1, zz, env0, aPure, aRead, aNew, aEff, aval, avals, aparts, aopt, wantedA, binA, isShift, binI, fillA, single, aRes, splice, mkv, unA, binS, sameAt, reduceCtorEq, reduceIte, Int.reduceEq, Int.reduceLT, Int.reduceLE, Int.reduceNe, Nat.reduceEqDiff, Nat.reduceLT, Nat.reduceAdd, Nat.reduceMul, Nat.reduceSub, Nat.reduceLeDiff, Int.reduceBEq, Int.reduceBNe, Nat.reduceBEq, Nat.reduceBNe, Int.reduceToNat]
        refine ih m hma (by omega) _ _ ns _ (Rows.keeps NdP.mono (hk2.trans hk) hN) (Rows.keeps IntP.mono (hk2.trans hk) hf) hp ?_
        intro v2 H4 ms2 hk4 hi2 hp2 hd2
        have hl1 := hp2.len
        have hl2 := hpm.len
        simp only [zz, env0, aPure, aRead, aNew, aEff, aval, avals, aparts, aopt, wantedA, binA, isShift, binI, fillA, single, aRes, splice, mkv, unA, binS, sameAt, reduceCtorEq, reduceIte, Int.reduceEq, Int.reduceLT, Int.reduceLE, Int.reduceNe, Nat.reduceEqDiff, Nat.reduceLT, Nat.reduceAdd, Nat.reduceMul, Nat.reduceSub, Nat.reduceLeDiff, Int.reduceBEq, Int.reduceBNe, Nat.reduceBEq, Nat.reduceBNe, Int.reduceToNat]
        refine merge_spec _ _ _ (nts ms) (nts ms2) (Rows.keeps IntP.mono hk4 hi) hi2 (by rw [nts_len]; omega) (by rw [nts_len]; omega) _ ?_
        intro v3 H5 hk5 hw5
        rw [← mergeN_nts, nts_len] at hw5
        simp only [vt, zz, env0, aPure, aRead, aNew, aEff, aval, avals, aparts, aopt, wantedA, binA, isShift, binI, fillA, single, aRes, splice, mkv, unA, binS, sameAt, reduceCtorEq, reduceIte, Int.reduceEq, Int.reduceLT, Int.reduceLE, Int.reduceNe, Nat.reduceEqDiff, Nat.reduceLT, Nat.reduceAdd, Nat.reduceMul, Nat.reduceSub, Nat.reduceLeDiff, Int.reduceBEq, Int.reduceBNe, Nat.reduceBEq, Nat.reduceBNe, Int.reduceToNat]
        refine ⟨n.kids.length - (t + 1), by omega, t + 1, v3, _, _, mergeN ms ms2, by omega, rfl, hk.trans (hk4.trans hk5), ints_of (by rw [nts_len]; exact hw5.row), ⟨mergeN_sorted _ _, fun x hx => ?_⟩, fun j => ?_, rfl⟩
        · rcases (mergeN_mem _ _ _).1 hx with h | h
          · exact hpm.2 x h
          · exact hp2.2 x h
        rw [mergeN_mem, hdm j, hd2 j, htk]
        constructor
        · rintro (⟨i, h1, k, h2, h3⟩ | ⟨i, h1, h2⟩)
          · exact ⟨i, h1, k, by simp [h2], h3⟩
          · exact ⟨i, h1, m, by simp, by rw [hkd]; exact h2⟩
        · rintro ⟨i, h1, k, h2, h3⟩
          simp only [List.mem_append, List.mem_cons, List.not_mem_nil, or_false] at h2
          rcases h2 with h2 | rfl
          · exact .inl ⟨i, h1, k, h2, h3⟩
          · exact .inr ⟨i, h1, by rw [hkd] at h3; exact h3⟩
      · have hte : t = n.kids.length := by simp at hlt; omega
        subst hte
        rw [List.take_length] at hdm
        simp only [zz, env0, aPure, aRead, aNew, aEff, aval, avals, aparts, aopt, wantedA, binA, isShift, binI, fillA, single, aRes, splice, mkv, unA, binS, sameAt, reduceCtorEq, reduceIte, Int.reduceEq, Int.reduceLT, Int.reduceLE, Int.reduceNe, Nat.reduceEqDiff, Nat.reduceLT, Nat.reduceAdd, Nat.reduceMul, Nat.reduceSub, Nat.reduceLeDiff, Int.reduceBEq, Int.reduceBNe, Nat.reduceBEq, Nat.reduceBNe, Int.reduceToNat]
        refine ⟨vo, ms, _, _, _, hk, hi, hpm, fun j => ?_, rfl⟩
        rw [hdm j]
        simp only [hden, ho]
        simp
    · rintro e env H' ⟨rfl, vo, ms, a10, a26, a27, hk, hi, hpm, hdm, rfl⟩
      simp only [zz, env0, aPure, aRead, aNew, aEff, aval, avals, aparts, aopt, wantedA, binA, isShift, binI, fillA, single, aRes, splice, mkv, unA, binS, sameAt, reduceCtorEq, reduceIte, Int.reduceEq, Int.reduceLT, Int.reduceLE, Int.reduceNe, Nat.reduceEqDiff, Nat.reduceLT, Nat.reduceAdd, Nat.reduceMul, Nat.reduceSub, Nat.reduceLeDiff, Int.reduceBEq, Int.reduceBNe, Nat.reduceBEq, Nat.reduceBNe, Int.reduceToNat]
      exact hK _ _ ms (hk2.trans hk) hi hpm hdm
  · -- Rep
    have ho' : (n.op == 5) = true := by simp [ho]
    have e2 : (n.op == 2) = false := by simp [ho]
    have e3 : (n.op == 3) = false := by simp [ho]
    have e4 : (n.op == 4) = false := by simp [ho]
    have m1 := fm _ (.refl _)
    have m2 := fn _ (.refl _)
    rw [ndRow] at m2
    simp only [e2, e3, e4, ho', m1, m2, zz, env0, aPure, aRead, aNew, aEff, aval, avals, aparts, aopt, wantedA, binA, isShift, binI, fillA, single, aRes, splice, mkv, unA, binS, sameAt, reduceCtorEq, reduceIte, Int.reduceEq, Int.reduceLT, Int.reduceLE, Int.reduceNe, Nat.reduceEqDiff, Nat.reduceLT, Nat.reduceAdd, Nat.reduceMul, Nat.reduceSub, Nat.reduceLeDiff, Int.reduceBEq, Int.reduceBNe, Nat.reduceBEq, Nat.reduceBNe, Int.reduceToNat]
    have hs5 : n.kids.length = 1 ∧ 0 ≤ n.lo ∧ n.lo ≤ 4096 ∧ (n.hi = -1 ∨ 1 ≤ n.hi ∧ n.lo ≤ n.hi ∧ n.hi ≤ 4096) := by
      rcases hsh with h | h | h | h | h
      · omega
      · omega
      · omega
      · exact ⟨h.2.2.1, h.2.2.2.1, h.2.2.2.2.1, h.2.2.2.2.2.1⟩
      · omega
    obtain ⟨x, hx⟩ : ∃ x, n.kids = [x] := by
      match hh : n.kids, hs5.1 with
      | [x], _ => exact ⟨x, rfl⟩
    obtain ⟨m, rfl, hma, hkd⟩ := hkid x (by rw [hx]; simp)
    refine times_spec (ih m hma (by omega)) hw _ kv vf n ns (Rows.keeps NdP.mono hk2 hN) ⟨q1, q2, q3⟩ (Rows.keeps IntP.mono hk2 hkv) hx ⟨hs5.2.1, hs5.2.2.1⟩ hs5.2.2.2 (Rows.keeps IntP.mono hk2 hf) hp _ ?_
    intro v2 H4 ms2 hk4 hi2 hp2 hd2
    simp only [zz, env0, aPure, aRead, aNew, aEff, aval, avals, aparts, aopt, wantedA, binA, isShift, binI, fillA, single, aRes, splice, mkv, unA, binS, sameAt, reduceCtorEq, reduceIte, Int.reduceEq, Int.reduceLT, Int.reduceLE, Int.reduceNe, Nat.reduceEqDiff, Nat.reduceLT, Nat.reduceAdd, Nat.reduceMul, Nat.reduceSub, Nat.reduceLeDiff, Int.reduceBEq, Int.reduceBNe, Nat.reduceBEq, Nat.reduceBNe, Int.reduceToNat]
    refine hK _ _ ms2 (hk2.trans hk4) hi2 hp2 (fun j => ?_)
    rw [hd2 j]
    simp only [hden, ho, hx]
    simp [hkd]
  · have e2 : (n.op == 2) = false := by simp [o2]
    have e3 : (n.op == 3) = false := by simp [o3]
    have e4 : (n.op == 4) = false := by simp [o4]
    have e5 : (n.op == 5) = false := by simp [o5]
    simp only [e2, e3, e4, e5, zz, env0, aPure, aRead, aNew, aEff, aval, avals, aparts, aopt, wantedA, binA, isShift, binI, fillA, single, aRes, splice, mkv, unA, binS, sameAt, reduceCtorEq, reduceIte, Int.reduceEq, Int.reduceLT, Int.reduceLE, Int.reduceNe, Nat.reduceEqDiff, Nat.reduceLT, Nat.reduceAdd, Nat.reduceMul, Nat.reduceSub, Nat.reduceLeDiff, Int.reduceBEq, Int.reduceBNe, Nat.reduceBEq, Nat.reduceBNe, Int.reduceToNat]
    refine hK _ _ ns hk2 (Rows.keeps IntP.mono hk2 hf) hp (fun j => ?_)
    simp only [hden, o2, o3, o4, o5, if_false]
    simp
end Go.Proofs.Ytnblhjpbpobglaa

/- lang.Ends, Is, Longest; text, ints. -/
set_option maxRecDepth 100000
set_option linter.unusedSimpArgs false
namespace Go.Proofs.Ytnblhjpbpobglaa
open Go.Am

/-- Where a tree may end. -/
def EndsL (l : List Nd) (w : List UInt8) (f : Int) (ms : List Nat) : Prop :=
  Pls ms w.length ∧ ∀ j, j ∈ ms ↔ RightT l ∧ NoRef l ∧ 0 ≤ f ∧ f ≤ w.length ∧ den l w (l.length - 1) f.toNat j

theorem Ends_fresh (H : AHeap) (v : AV) (l : List Nd) (w : List UInt8) (f : Int) (hN : Nds H v l) (hbig : l.length < 9223372036854775808) (hw : w.length ≤ 1000000) (K : AV → AHeap → Prop)
    (hK : ∀ v' H' ms, Keeps H H' → Ints H' v' (nts ms) → EndsL l w f ms → (∀ i, avId v' = some i → H.length ≤ i) → K v' H') : WF P0 13 [v, .str w, .int .i64 f] H K := by
  have hnil : ∀ H', Keeps H H' → ¬ (RightT l ∧ NoRef l ∧ 0 ≤ f ∧ f ≤ w.length) → K .nilsl H' := fun H' hk hno =>
    hK _ _ [] hk Rows.nil ⟨⟨.nil, by simp⟩, fun j => by
      simp only [List.not_mem_nil, false_iff]
      rintro ⟨a, b, c, d, _⟩; exact hno ⟨a, b, c, d⟩⟩ (by simp [avId])
  have hla := hN.lenOf
  refine zWF rfl rfl rfl ?_
  simp only [a13, zz, env0, aPure, aRead, aNew, aEff, aval, avals, aparts, aopt, wantedA, binA, isShift, binI, fillA, single, aRes, splice, mkv, unA, binS, sameAt, reduceCtorEq, reduceIte, Int.reduceEq, Int.reduceLT, Int.reduceLE, Int.reduceNe, Nat.reduceEqDiff, Nat.reduceLT, Nat.reduceAdd, Nat.reduceMul, Nat.reduceSub, Nat.reduceLeDiff, Int.reduceBEq, Int.reduceBNe, Nat.reduceBEq, Nat.reduceBNe, Int.reduceToNat]
  refine onG_f (fun h1 => ?_) (fun h1 => ?_)
  · simp only [h1, zz, env0, aPure, aRead, aNew, aEff, aval, avals, aparts, aopt, wantedA, binA, isShift, binI, fillA, single, aRes, splice, mkv, unA, binS, sameAt, reduceCtorEq, reduceIte, Int.reduceEq, Int.reduceLT, Int.reduceLE, Int.reduceNe, Nat.reduceEqDiff, Nat.reduceLT, Nat.reduceAdd, Nat.reduceMul, Nat.reduceSub, Nat.reduceLeDiff, Int.reduceBEq, Int.reduceBNe, Nat.reduceBEq, Nat.reduceBNe, Int.reduceToNat]
    refine onG_f (fun h2 => ?_) (fun h2 => ?_)
    · simp only [h1, h2, zz, env0, aPure, aRead, aNew, aEff, aval, avals, aparts, aopt, wantedA, binA, isShift, binI, fillA, single, aRes, splice, mkv, unA, binS, sameAt, reduceCtorEq, reduceIte, Int.reduceEq, Int.reduceLT, Int.reduceLE, Int.reduceNe, Nat.reduceEqDiff, Nat.reduceLT, Nat.reduceAdd, Nat.reduceMul, Nat.reduceSub, Nat.reduceLeDiff, Int.reduceBEq, Int.reduceBNe, Nat.reduceBEq, Nat.reduceBNe, Int.reduceToNat]
      refine plain_spec _ _ l hN hbig _ ?_
      intro b H1 hk1 hb
      have hf1 : 0 ≤ f := by simpa using h1
      have hf2 : f ≤ w.length := by simpa using h2
      cases b with
      | false =>
        simp only [h1, h2, zz, env0, aPure, aRead, aNew, aEff, aval, avals, aparts, aopt, wantedA, binA, isShift, binI, fillA, single, aRes, splice, mkv, unA, binS, sameAt, reduceCtorEq, reduceIte, Int.reduceEq, Int.reduceLT, Int.reduceLE, Int.reduceNe, Nat.reduceEqDiff, Nat.reduceLT, Nat.reduceAdd, Nat.reduceMul, Nat.reduceSub, Nat.reduceLeDiff, Int.reduceBEq, Int.reduceBNe, Nat.reduceBEq, Nat.reduceBNe, Int.reduceToNat]
        exact hnil _ hk1 (fun h => by have := hb.2 ⟨h.1, h.2.1⟩; simp at this)
      | true =>
        obtain ⟨hR, hNo⟩ := hb.1 rfl
        obtain ⟨q1, q2, q3, q4⟩ := hN.flat
        have hl1 := hR.1
        have hl2 := hR.2.1
        have v1 : IntKind.i64.wrap ((l.length : Int) - 1) = ((l.length - 1 : Nat) : Int) := by rw [wrap_i64 (by omega) (by omega)]; omega
        simp only [h1, h2, hla, q2, q3, v1, zz, env0, aPure, aRead, aNew, aEff, aval, avals, aparts, aopt, wantedA, binA, isShift, binI, fillA, single, aRes, splice, mkv, unA, binS, sameAt, reduceCtorEq, reduceIte, Int.reduceEq, Int.reduceLT, Int.reduceLE, Int.reduceNe, Nat.reduceEqDiff, Nat.reduceLT, Nat.reduceAdd, Nat.reduceMul, Nat.reduceSub, Nat.reduceLeDiff, Int.reduceBEq, Int.reduceBNe, Nat.reduceBEq, Nat.reduceBNe, Int.reduceToNat]
        refine ends_spec hR hw (l.length - 1) (by omega) _ _ [f.toNat] _ (Rows.keeps NdP.mono (hk1.trans (.p1 _ _)) hN) ?_ ⟨by simp, by simp; omega⟩ ?_
        · refine ints_of ?_
          have e : nts [f.toNat] = [f] := by simp [nts]; omega
          rw [e]
          exact (WR.new H1 1 1 [.int .i64 f] rfl (b := 0) (Nat.zero_le _)).row
        intro v2 H2 ms hk2 hi2 hp2 hd2
        have hl := hp2.len
        simp only [zz, env0, aPure, aRead, aNew, aEff, aval, avals, aparts, aopt, wantedA, binA, isShift, binI, fillA, single, aRes, splice, mkv, unA, binS, sameAt, reduceCtorEq, reduceIte, Int.reduceEq, Int.reduceLT, Int.reduceLE, Int.reduceNe, Nat.reduceEqDiff, Nat.reduceLT, Nat.reduceAdd, Nat.reduceMul, Nat.reduceSub, Nat.reduceLeDiff, Int.reduceBEq, Int.reduceBNe, Nat.reduceBEq, Nat.reduceBNe, Int.reduceToNat]
        refine clone_spec _ _ _ hi2 (by rw [nts_len]; omega) _ ?_
        intro v3 H3 hk3 hw3
        simp only [zz, env0, aPure, aRead, aNew, aEff, aval, avals, aparts, aopt, wantedA, binA, isShift, binI, fillA, single, aRes, splice, mkv, unA, binS, sameAt, reduceCtorEq, reduceIte, Int.reduceEq, Int.reduceLT, Int.reduceLE, Int.reduceNe, Nat.reduceEqDiff, Nat.reduceLT, Nat.reduceAdd, Nat.reduceMul, Nat.reduceSub, Nat.reduceLeDiff, Int.reduceBEq, Int.reduceBNe, Nat.reduceBEq, Nat.reduceBNe, Int.reduceToNat]
        refine hK _ _ ms (hk1.trans ((Keeps.p1 _ _).trans (hk2.trans hk3))) (ints_of hw3.row) ⟨hp2, fun j => ?_⟩ (fun i hi => by have h1 := (hw3.id hi).1; have h2 := hk1.1; have h3 := hk2.1; simp at h3; omega)
        rw [hd2 j]
        simp [hR, hNo, hf1, hf2]
    · simp only [h1, h2, zz, env0, aPure, aRead, aNew, aEff, aval, avals, aparts, aopt, wantedA, binA, isShift, binI, fillA, single, aRes, splice, mkv, unA, binS, sameAt, reduceCtorEq, reduceIte, Int.reduceEq, Int.reduceLT, Int.reduceLE, Int.reduceNe, Nat.reduceEqDiff, Nat.reduceLT, Nat.reduceAdd, Nat.reduceMul, Nat.reduceSub, Nat.reduceLeDiff, Int.reduceBEq, Int.reduceBNe, Nat.reduceBEq, Nat.reduceBNe, Int.reduceToNat]
      refine hnil _ (.refl _) (fun h => ?_)
      simp at h2; omega
  · simp only [h1, zz, env0, aPure, aRead, aNew, aEff, aval, avals, aparts, aopt, wantedA, binA, isShift, binI, fillA, single, aRes, splice, mkv, unA, binS, sameAt, reduceCtorEq, reduceIte, Int.reduceEq, Int.reduceLT, Int.reduceLE, Int.reduceNe, Nat.reduceEqDiff, Nat.reduceLT, Nat.reduceAdd, Nat.reduceMul, Nat.reduceSub, Nat.reduceLeDiff, Int.reduceBEq, Int.reduceBNe, Nat.reduceBEq, Nat.reduceBNe, Int.reduceToNat]
    refine hnil _ (.refl _) (fun h => ?_)
    simp at h1; omega

theorem Ends_spec (H : AHeap) (v : AV) (l : List Nd) (w : List UInt8) (f : Int) (hN : Nds H v l) (hbig : l.length < 9223372036854775808) (hw : w.length ≤ 1000000) (K : AV → AHeap → Prop)
    (hK : ∀ v' H' ms, Keeps H H' → Ints H' v' (nts ms) → EndsL l w f ms → K v' H') : WF P0 13 [v, .str w, .int .i64 f] H K :=
  Ends_fresh H v l w f hN hbig hw K (fun v' H' ms h1 h2 h3 _ => hK v' H' ms h1 h2 h3)

/-- Is a text one of a tree? -/
def IsT (l : List Nd) (w : List UInt8) : Prop := RightT l ∧ NoRef l ∧ den l w (l.length - 1) 0 w.length

theorem Is_spec (H : AHeap) (v : AV) (l : List Nd) (w : List UInt8) (hN : Nds H v l) (hbig : l.length < 9223372036854775808) (hw : w.length ≤ 1000000) (K : AV → AHeap → Prop)
    (hK : ∀ b H', Keeps H H' → (b = true ↔ IsT l w) → K (.bool b) H') : WF P0 23 [v, .str w] H K := by
  refine zWF rfl rfl rfl ?_
  simp only [a23, zz, env0, aPure, aRead, aNew, aEff, aval, avals, aparts, aopt, wantedA, binA, isShift, binI, fillA, single, aRes, splice, mkv, unA, binS, sameAt, reduceCtorEq, reduceIte, Int.reduceEq, Int.reduceLT, Int.reduceLE, Int.reduceNe, Nat.reduceEqDiff, Nat.reduceLT, Nat.reduceAdd, Nat.reduceMul, Nat.reduceSub, Nat.reduceLeDiff, Int.reduceBEq, Int.reduceBNe, Nat.reduceBEq, Nat.reduceBNe, Int.reduceToNat]
  refine Ends_spec _ _ l w 0 hN hbig hw _ ?_
  intro v1 H1 ms hk1 hi1 hE
  have hl := hE.1.len
  simp only [zz, env0, aPure, aRead, aNew, aEff, aval, avals, aparts, aopt, wantedA, binA, isShift, binI, fillA, single, aRes, splice, mkv, unA, binS, sameAt, reduceCtorEq, reduceIte, Int.reduceEq, Int.reduceLT, Int.reduceLE, Int.reduceNe, Nat.reduceEqDiff, Nat.reduceLT, Nat.reduceAdd, Nat.reduceMul, Nat.reduceSub, Nat.reduceLeDiff, Int.reduceBEq, Int.reduceBNe, Nat.reduceBEq, Nat.reduceBNe, Int.reduceToNat]
  refine search_spec _ _ _ _ hi1 (by rw [nts_len]; omega) (nts_sorted hE.1.1) _ ?_
  intro k b hb
  simp only [zz, env0, aPure, aRead, aNew, aEff, aval, avals, aparts, aopt, wantedA, binA, isShift, binI, fillA, single, aRes, splice, mkv, unA, binS, sameAt, reduceCtorEq, reduceIte, Int.reduceEq, Int.reduceLT, Int.reduceLE, Int.reduceNe, Nat.reduceEqDiff, Nat.reduceLT, Nat.reduceAdd, Nat.reduceMul, Nat.reduceSub, Nat.reduceLeDiff, Int.reduceBEq, Int.reduceBNe, Nat.reduceBEq, Nat.reduceBNe, Int.reduceToNat]
  refine hK _ _ hk1 ?_
  rw [hb, nts_mem]
  constructor
  · rintro ⟨n, h1, h2⟩
    have : n = w.length := by omega
    subst this
    obtain ⟨a, b, c, d, e⟩ := (hE.2 _).1 h1
    exact ⟨a, b, e⟩
  · rintro ⟨a, b, c⟩
    exact ⟨w.length, (hE.2 _).2 ⟨a, b, by omega, by omega, c⟩, rfl⟩

theorem last_max {ms : List Nat} (h : ms.Pairwise (· < ·)) {x : Nat} (hx : ms[ms.length - 1]? = some x) : x ∈ ms ∧ ∀ j, j ∈ ms → j ≤ x := by
  refine ⟨List.mem_of_getElem? hx, fun j hj => ?_⟩
  obtain ⟨k, hk⟩ := List.mem_iff_getElem?.1 hj
  have hkl : k < ms.length := by
    rcases Nat.lt_or_ge k ms.length with h | h
    · exact h
    · rw [List.getElem?_eq_none h] at hk; simp at hk
  rcases Nat.lt_or_ge k (ms.length - 1) with h' | h'
  · have := List.pairwise_iff_getElem.1 h k (ms.length - 1) hkl (by omega) h'
    rw [List.getElem?_eq_getElem hkl] at hk
    rw [List.getElem?_eq_getElem (by omega)] at hx
    simp only [Option.some.injEq] at hk hx
    omega
  · have : k = ms.length - 1 := by omega
    subst this; rw [hk] at hx; simp only [Option.some.injEq] at hx; omega

/-- How far a tree goes at most, by one byte at least. -/
def LongT (f : Int) (ms : List Nat) (n : Int) (ok : Bool) : Prop :=
  (ok = true → ∃ m, m ∈ ms ∧ n = (m : Int) ∧ n ≠ f ∧ ∀ j, j ∈ ms → j ≤ m) ∧ (ok = false → n = 0 ∧ ∀ m : Nat, m ∈ ms → (m : Int) ≤ f)

theorem Longest_spec (H : AHeap) (v : AV) (l : List Nd) (w : List UInt8) (f : Int) (hN : Nds H v l) (hbig : l.length < 9223372036854775808) (hw : w.length ≤ 1000000) (K : AV → AHeap → Prop)
    (hK : ∀ n ok H' ms, Keeps H H' → EndsL l w f ms → LongT f ms n ok → K (.tup [.int .i64 n, .bool ok]) H') : WF P0 20 [v, .str w, .int .i64 f] H K := by
  refine zWF rfl rfl rfl ?_
  simp only [a20, zz, env0, aPure, aRead, aNew, aEff, aval, avals, aparts, aopt, wantedA, binA, isShift, binI, fillA, single, aRes, splice, mkv, unA, binS, sameAt, reduceCtorEq, reduceIte, Int.reduceEq, Int.reduceLT, Int.reduceLE, Int.reduceNe, Nat.reduceEqDiff, Nat.reduceLT, Nat.reduceAdd, Nat.reduceMul, Nat.reduceSub, Nat.reduceLeDiff, Int.reduceBEq, Int.reduceBNe, Nat.reduceBEq, Nat.reduceBNe, Int.reduceToNat]
  refine Ends_spec _ _ l w f hN hbig hw _ ?_
  intro v1 H1 ms hk1 hi1 hE
  have hl := hE.1.len
  have hlo := hi1.lenOf
  rw [nts_len] at hlo
  simp only [hlo, zz, env0, aPure, aRead, aNew, aEff, aval, avals, aparts, aopt, wantedA, binA, isShift, binI, fillA, single, aRes, splice, mkv, unA, binS, sameAt, reduceCtorEq, reduceIte, Int.reduceEq, Int.reduceLT, Int.reduceLE, Int.reduceNe, Nat.reduceEqDiff, Nat.reduceLT, Nat.reduceAdd, Nat.reduceMul, Nat.reduceSub, Nat.reduceLeDiff, Int.reduceBEq, Int.reduceBNe, Nat.reduceBEq, Nat.reduceBNe, Int.reduceToNat]
  refine onG_f (fun h1 => ?_) (fun h1 => ?_)
  · have hpos : 0 < ms.length := by simp at h1; cases ms with
      | nil => simp at h1
      | cons a b => simp
    obtain ⟨x, hx⟩ : ∃ x, ms[ms.length - 1]? = some x := ⟨ms[ms.length - 1], List.getElem?_eq_getElem (by omega)⟩
    obtain ⟨i, o, rfl, g1⟩ := hi1.int (nts_get hx)
    rw [nts_len] at *
    have e1 : IntKind.i64.wrap ((ms.length : Int) - 1) = ((ms.length - 1 : Nat) : Int) := by rw [wrap_i64 (by omega) (by omega)]; omega
    have p1 : (0 : Int) ≤ ((ms.length - 1 : Nat) : Int) := by omega
    have p2 : ((ms.length - 1 : Nat) : Int) < ms.length := by omega
    obtain ⟨m1, m2⟩ := last_max hE.1.1 hx
    simp only [h1, hlo, e1, p1, p2, Nat.mul_one, g1, zz, env0, aPure, aRead, aNew, aEff, aval, avals, aparts, aopt, wantedA, binA, isShift, binI, fillA, single, aRes, splice, mkv, unA, binS, sameAt, reduceCtorEq, reduceIte, Int.reduceEq, Int.reduceLT, Int.reduceLE, Int.reduceNe, Nat.reduceEqDiff, Nat.reduceLT, Nat.reduceAdd, Nat.reduceMul, Nat.reduceSub, Nat.reduceLeDiff, Int.reduceBEq, Int.reduceBNe, Nat.reduceBEq, Nat.reduceBNe, Int.reduceToNat]
    refine onB_of (fun h2 => ?_) (fun h2 => ?_)
    · simp only [zz, env0, aPure, aRead, aNew, aEff, aval, avals, aparts, aopt, wantedA, binA, isShift, binI, fillA, single, aRes, splice, mkv, unA, binS, sameAt, reduceCtorEq, reduceIte, Int.reduceEq, Int.reduceLT, Int.reduceLE, Int.reduceNe, Nat.reduceEqDiff, Nat.reduceLT, Nat.reduceAdd, Nat.reduceMul, Nat.reduceSub, Nat.reduceLeDiff, Int.reduceBEq, Int.reduceBNe, Nat.reduceBEq, Nat.reduceBNe, Int.reduceToNat]
      refine hK _ _ _ ms hk1 hE ⟨fun h => by simp at h, fun _ => ⟨rfl, fun m hm => ?_⟩⟩
      have : (x : Int) = f := by simpa using h2
      have := m2 m hm; omega
    · simp only [hlo, e1, p1, p2, Nat.mul_one, g1, zz, env0, aPure, aRead, aNew, aEff, aval, avals, aparts, aopt, wantedA, binA, isShift, binI, fillA, single, aRes, splice, mkv, unA, binS, sameAt, reduceCtorEq, reduceIte, Int.reduceEq, Int.reduceLT, Int.reduceLE, Int.reduceNe, Nat.reduceEqDiff, Nat.reduceLT, Nat.reduceAdd, Nat.reduceMul, Nat.reduceSub, Nat.reduceLeDiff, Int.reduceBEq, Int.reduceBNe, Nat.reduceBEq, Nat.reduceBNe, Int.reduceToNat]
      refine hK _ _ _ ms hk1 hE ⟨fun _ => ⟨x, m1, rfl, by simpa using h2, m2⟩, fun h => by simp at h⟩
  · simp only [h1, zz, env0, aPure, aRead, aNew, aEff, aval, avals, aparts, aopt, wantedA, binA, isShift, binI, fillA, single, aRes, splice, mkv, unA, binS, sameAt, reduceCtorEq, reduceIte, Int.reduceEq, Int.reduceLT, Int.reduceLE, Int.reduceNe, Nat.reduceEqDiff, Nat.reduceLT, Nat.reduceAdd, Nat.reduceMul, Nat.reduceSub, Nat.reduceLeDiff, Int.reduceBEq, Int.reduceBNe, Nat.reduceBEq, Nat.reduceBNe, Int.reduceToNat]
    have : ms = [] := by simp at h1; exact h1
    subst this
    exact hK _ _ _ [] hk1 hE ⟨fun h => by simp at h, fun _ => ⟨rfl, by simp⟩⟩

theorem slice_to (s : List UInt8) (k : Nat) (h : k ≤ s.length) : sliceS s none (some (.int .i64 k)) = some (.str (s.take k)) := by
  have h1 : (0 : Int) ≤ k ∧ (k : Int) ≤ s.length := ⟨by omega, by omega⟩
  simp [sliceS, bound, h]
theorem slice_from (s : List UInt8) (k : Nat) (h : k ≤ s.length) : sliceS s (some (.int .i64 k)) none = some (.str (s.drop k)) := by
  simp [sliceS, bound, h]
theorem slice_mid (s : List UInt8) (j k : Nat) (h1 : j ≤ k) (h : k ≤ s.length) : sliceS s (some (.int .i64 j)) (some (.int .i64 k)) = some (.str ((s.take k).drop j)) := by
  simp [sliceS, bound, h, h1]

theorem text_spec (H : AHeap) (s : List UInt8) (K : AV → AHeap → Prop) (hs : s.length < 9223372036854775808) (hK : K (.str (s.take 20)) H) : WF P0 11 [.str s] H K := by
  refine zWF rfl rfl rfl ?_
  by_cases h : 20 < s.length
  · have e : (20 : Int) < s.length := by omega
    simp only [a11, e, zz, env0, aPure, aRead, aNew, aEff, aval, avals, aparts, aopt, wantedA, binA, isShift, binI, fillA, single, aRes, splice, mkv, unA, binS, sameAt, reduceCtorEq, reduceIte, Int.reduceEq, Int.reduceLT, Int.reduceLE, Int.reduceNe, Nat.reduceEqDiff, Nat.reduceLT, Nat.reduceAdd, Nat.reduceMul, Nat.reduceSub, Nat.reduceLeDiff, Int.reduceBEq, Int.reduceBNe, Nat.reduceBEq, Nat.reduceBNe, Int.reduceToNat]
    have e2 : sliceS s none (some (.int .i64 20)) = some (.str (s.take 20)) := by
      exact slice_to s 20 (by omega)
    simp only [e2, zz, env0, aPure, aRead, aNew, aEff, aval, avals, aparts, aopt, wantedA, binA, isShift, binI, fillA, single, aRes, splice, mkv, unA, binS, sameAt, reduceCtorEq, reduceIte, Int.reduceEq, Int.reduceLT, Int.reduceLE, Int.reduceNe, Nat.reduceEqDiff, Nat.reduceLT, Nat.reduceAdd, Nat.reduceMul, Nat.reduceSub, Nat.reduceLeDiff, Int.reduceBEq, Int.reduceBNe, Nat.reduceBEq, Nat.reduceBNe, Int.reduceToNat]
    exact hK
  · have e : ¬ (20 : Int) < s.length := by omega
    simp only [a11, e, zz, env0, aPure, aRead, aNew, aEff, aval, avals, aparts, aopt, wantedA, binA, isShift, binI, fillA, single, aRes, splice, mkv, unA, binS, sameAt, reduceCtorEq, reduceIte, Int.reduceEq, Int.reduceLT, Int.reduceLE, Int.reduceNe, Nat.reduceEqDiff, Nat.reduceLT, Nat.reduceAdd, Nat.reduceMul, Nat.reduceSub, Nat.reduceLeDiff, Int.reduceBEq, Int.reduceBNe, Nat.reduceBEq, Nat.reduceBNe, Int.reduceToNat]
    have e2 : sliceS s none (some (.int .i64 s.length)) = some (.str (s.take 20)) := by
      rw [slice_to s s.length (Nat.le_refl _), List.take_of_length_le (Nat.le_refl _), List.take_of_length_le (by omega)]
    simp only [e2, zz, env0, aPure, aRead, aNew, aEff, aval, avals, aparts, aopt, wantedA, binA, isShift, binI, fillA, single, aRes, splice, mkv, unA, binS, sameAt, reduceCtorEq, reduceIte, Int.reduceEq, Int.reduceLT, Int.reduceLE, Int.reduceNe, Nat.reduceEqDiff, Nat.reduceLT, Nat.reduceAdd, Nat.reduceMul, Nat.reduceSub, Nat.reduceLeDiff, Int.reduceBEq, Int.reduceBNe, Nat.reduceBEq, Nat.reduceBNe, Int.reduceToNat]
    exact hK
end Go.Proofs.Ytnblhjpbpobglaa

/- Arguments, as lists. -/
set_option maxRecDepth 100000
namespace Go.Am

theorem choose_list {α : Type} {n : Nat} {P : Nat → α → Prop} (h : ∀ j, j < n → ∃ x, P j x) : ∃ xs : List α, xs.length = n ∧ ∀ (j : Nat) (x : α), xs[j]? = some x → P j x := by
  induction n with
  | zero => exact ⟨[], rfl, fun j x hx => by simp at hx⟩
  | succ n ih =>
    obtain ⟨xs, h1, h2⟩ := ih (fun j hj => h j (by omega))
    obtain ⟨x, hx⟩ := h n (by omega)
    refine ⟨xs ++ [x], by simp [h1], fun j y hy => ?_⟩
    rcases Nat.lt_or_ge j n with hj | hj
    · rw [List.getElem?_append_left (by omega)] at hy; exact h2 j y hy
    · rw [List.getElem?_append_right (by omega), h1] at hy
      have : j - n = 0 := by
        rcases Nat.eq_zero_or_pos (j - n) with e | e
        · exact e
        · rw [List.getElem?_eq_none (by simp; omega)] at hy; simp at hy
      rw [this] at hy
      simp at hy; subst hy
      have : j = n := by omega
      rw [this]; exact hx

theorem chunks_flat (sz : Nat) : ∀ (n : Nat) (bs : List AV), bs.length = n * sz → ((List.range n).map fun j => (bs.drop (j * sz)).take sz).flatten = bs := by
  intro n
  induction n with
  | zero => intro bs h; simp at h; subst h; rfl
  | succ n ih =>
    intro bs h
    rw [Nat.add_mul, Nat.one_mul] at h
    rw [List.range_succ, List.map_append, List.flatten_append]
    have e : ((List.range n).map fun j => (bs.drop (j * sz)).take sz) = (List.range n).map fun j => ((bs.take (n * sz)).drop (j * sz)).take sz := by
      apply List.map_congr_left
      intro j hj
      have hj := List.mem_range.1 hj
      have : (j + 1) * sz ≤ n * sz := Nat.mul_le_mul_right sz hj
      rw [Nat.add_mul, Nat.one_mul] at this
      rw [List.drop_take, List.take_take, Nat.min_eq_left (by omega)]
    rw [e, ih _ (by rw [List.length_take]; omega)]
    simp only [List.map_cons, List.map_nil, List.flatten_cons, List.flatten_nil, List.append_nil]
    rw [List.take_of_length_le (l := bs.drop (n * sz)) (by rw [List.length_drop]; omega), List.take_append_drop]

theorem fits_rows {α : Type} {P : AHeap → α → List AV → Prop} {H : AHeap} {sz : Nat} {e : Shp} {a : AV} (h : Fits H (.slice sz e) [a]) (hP : ∀ cs, cs.length = sz → Fits H e cs → ∃ x, P H x cs) :
    ∃ xs, Rows sz P H a xs ∧ xs.length ≤ maxLen := by
  simp only [Fits, List.cons.injEq, and_true] at h
  rcases h with rfl | rfl | ⟨i, n, bs, rfl, h1, h2, h3, h4⟩
  · exact ⟨[], Rows.nil, Nat.zero_le _⟩
  · exact ⟨[], Rows.esl, Nat.zero_le _⟩
  · have hc : ∀ j, j < n → ((bs.drop (j * sz)).take sz).length = sz := fun j hj => by
      have : (j + 1) * sz ≤ n * sz := Nat.mul_le_mul_right sz hj
      rw [Nat.add_mul, Nat.one_mul] at this
      rw [List.length_take, List.length_drop]; omega
    obtain ⟨xs, h5, h6⟩ := choose_list (n := n) (P := fun j x => P H x ((bs.drop (j * sz)).take sz)) (fun j hj => hP _ (hc j hj) (h4 j hj))
    refine ⟨xs, ⟨(List.range n).map fun j => (bs.drop (j * sz)).take sz, ?_, by simp [h5], fun k x hx => ?_⟩, by omega⟩
    · rw [chunks_flat sz n bs h2, h5]
      exact .inr ⟨i, 0, false, bs, rfl, h1, by omega, by rw [List.drop_zero, List.take_of_length_le (by omega)]⟩
    · have hk : k < n := by
        rcases Nat.lt_or_ge k n with h | h
        · exact h
        · rw [List.getElem?_eq_none (by omega)] at hx; simp at hx
      exact ⟨_, by rw [List.getElem?_map, List.getElem?_range hk]; rfl, hc k hk, h6 k x hx⟩

def I64P (_ : AHeap) (x : Int) (r : List AV) : Prop := r = [.int .i64 x] ∧ i64In x
def ByteP (_ : AHeap) (x : UInt8) (r : List AV) : Prop := r = [.int .u8 x.toNat]
theorem ByteP.mono : Mono ByteP := fun _ _ _ _ _ h => h

theorem fits_i64 {H : AHeap} {cs : List AV} (h : Fits H (.int .i64) cs) : ∃ x, I64P H x cs := by
  simp only [Fits] at h
  obtain ⟨n, rfl, h1, h2⟩ := h
  exact ⟨n, rfl, h1, by
    have : n ≤ 9223372036854775807 := h2
    omega⟩
theorem fits_ints {H : AHeap} {a : AV} (h : Fits H (.slice 1 (.int .i64)) [a]) : ∃ xs, Ints H a xs ∧ (∀ x, x ∈ xs → i64In x) ∧ xs.length ≤ maxLen := by
  obtain ⟨xs, ⟨rs, h1, h2, h3⟩, h4⟩ := fits_rows (P := I64P) h (fun cs _ hf => fits_i64 hf)
  refine ⟨xs, ⟨rs, h1, h2, fun k x hx => by obtain ⟨r, a, b, c⟩ := h3 k x hx; exact ⟨r, a, b, c.1⟩⟩, fun x hx => ?_, h4⟩
  obtain ⟨k, hk⟩ := List.mem_iff_getElem?.1 hx
  obtain ⟨r, a, b, c⟩ := h3 k x hk
  exact c.2
theorem fits_u8 {H : AHeap} {cs : List AV} (h : Fits H (.int .u8) cs) : ∃ x, ByteP H x cs := by
  simp only [Fits] at h
  obtain ⟨n, rfl, h1, h2⟩ := h
  have h1 : (0 : Int) ≤ n := h1
  have h2 : n ≤ 255 := h2
  refine ⟨UInt8.ofNat n.toNat, ?_⟩
  simp only [ByteP, List.cons.injEq, AV.int.injEq, true_and, and_true]
  rw [UInt8.toNat_ofNat']
  omega
theorem fits_bytes {H : AHeap} {a : AV} (h : Fits H (.slice 1 (.int .u8)) [a]) : ∃ xs, Rows 1 ByteP H a xs ∧ xs.length ≤ maxLen := fits_rows h (fun _ _ hf => fits_u8 hf)
theorem fits_u64 {H : AHeap} {cs : List AV} (h : Fits H (.int .u64) cs) : ∃ x, cs = [.int .u64 x] ∧ u64In x := by
  simp only [Fits] at h
  obtain ⟨n, rfl, h1, h2⟩ := h
  have h1 : (0 : Int) ≤ n := h1
  have h2 : n ≤ 18446744073709551615 := h2
  exact ⟨n, rfl, h1, by omega⟩
theorem fits_str {H : AHeap} {cs : List AV} (h : Fits H .str cs) : ∃ s, cs = [.str s] ∧ s.length ≤ maxLen := by
  simp only [Fits] at h; exact h

abbrev setShp : Shp := .array 4 1 (.int .u64)
abbrev ndShp : Shp := .struct [(1, .int .u8), (4, setShp), (1, .slice 1 (.int .i64)), (1, .int .i64), (1, .int .i64), (1, .str)]
theorem fits_set {H : AHeap} {cs : List AV} (h : Fits H setShp cs) : ∃ s0 s1 s2 s3, cs = [.int .u64 s0, .int .u64 s1, .int .u64 s2, .int .u64 s3] ∧ u64In s0 ∧ u64In s1 ∧ u64In s2 ∧ u64In s3 := by
  simp only [Fits] at h
  obtain ⟨h1, h2⟩ := h
  match cs, h1 with
  | [a, b, c, d], _ =>
    obtain ⟨s0, e0, g0⟩ := fits_u64 (H := H) (by simpa only [Fits] using h2 0 (by omega))
    obtain ⟨s1, e1, g1⟩ := fits_u64 (H := H) (by simpa only [Fits] using h2 1 (by omega))
    obtain ⟨s2, e2, g2⟩ := fits_u64 (H := H) (by simpa only [Fits] using h2 2 (by omega))
    obtain ⟨s3, e3, g3⟩ := fits_u64 (H := H) (by simpa only [Fits] using h2 3 (by omega))
    simp at e0 e1 e2 e3
    subst e0 e1 e2 e3
    exact ⟨s0, s1, s2, s3, rfl, g0, g1, g2, g3⟩
theorem maxLen_lt : maxLen < 9223372036854775808 := by decide
theorem fits_nd {H : AHeap} {cs : List AV} (hl : cs.length = 9) (h : Fits H ndShp cs) : ∃ n, NdP H n cs := by
  match cs, hl with
  | [a0, a1, a2, a3, a4, a5, a6, a7, a8], _ =>
    simp only [Fits, FitsAll, List.drop_succ_cons, List.drop_zero, List.take_succ_cons, List.take_zero] at h
    obtain ⟨_, h1, _, h2, _, h3, _, h4, _, h5, _, h6, _⟩ := h
    obtain ⟨o, e1, o1, o2⟩ := h1
    obtain ⟨s0, s1, s2, s3, e2, g0, g1, g2, g3⟩ := fits_set (H := H) (by simpa only [setShp, Fits] using h2)
    obtain ⟨xs, i1, i2, i3⟩ := fits_ints (H := H) (a := a5) (by simpa only [Fits] using h3)
    obtain ⟨lo, e4, l1⟩ := fits_i64 (H := H) (by simpa only [Fits] using h4)
    obtain ⟨hi, e5, l2⟩ := fits_i64 (H := H) (by simpa only [Fits] using h5)
    obtain ⟨s, e6, l3⟩ := h6
    have ml := maxLen_lt
    have o1 : (0 : Int) ≤ o := o1
    have o2 : o ≤ 255 := o2
    simp at e1 e2 e4 e5 e6
    obtain ⟨rfl, rfl, rfl, rfl⟩ := e2
    subst e1 e4 e5 e6
    exact ⟨{ op := o, s0 := s0, s1 := s1, s2 := s2, s3 := s3, kids := xs, lo := lo, hi := hi, name := s }, ⟨⟨o1, by show o < 256; omega⟩, g0, g1, g2, g3, i2, l1, l2, by show xs.length < _; omega, by show s.length < _; omega⟩, a5, rfl, i1⟩
theorem fits_nds {H : AHeap} {a : AV} (h : Fits H (.slice 9 ndShp) [a]) : ∃ l, Nds H a l ∧ l.length ≤ maxLen := fits_rows h (fun _ hl hf => fits_nd hl hf)

end Go.Am
