/- bset.Has. -/
import Derived.Test.YtnblhjpbpobglaaSK
set_option maxRecDepth 100000
set_option linter.unusedSimpArgs false
namespace Go.Proofs.Ytnblhjpbpobglaa
open Go.Am

theorem and1 (x : Int) (h : 0 ≤ x) (h2 : x < 18446744073709551616) : bitsA .and .u64 x 1 = some (x % 2) := by
  have e : (BitVec.ofInt 64 x &&& BitVec.ofInt 64 1).toNat = x.toNat % 2 := by
    rw [BitVec.toNat_and, BitVec.toNat_ofInt, BitVec.toNat_ofInt]
    have e1 : (x % ((2 ^ 64 : Nat) : Int)).toNat = x.toNat := by
      have : x % ((2 ^ 64 : Nat) : Int) = x := Int.emod_eq_of_lt h (by simpa using h2)
      rw [this]
    have e2 : ((1 : Int) % ((2 ^ 64 : Nat) : Int)).toNat = 1 := by decide
    rw [e1, e2, Nat.and_one_is_mod]
  show some (IntKind.u64.wrap (((BitVec.ofInt 64 x &&& BitVec.ofInt 64 1).toNat : Nat) : Int)) = _
  rw [e, wrap_u64 (by omega) (by omega)]
  congr 1; omega

theorem shr_nat (s : Int) (k : Nat) (hk : k ≤ 64) : shiftI .shr .u64 s k = some (.int .u64 (s / 2 ^ k)) := by
  simp only [shiftI, IntKind.bits]
  rw [if_neg (by omega)]
  congr 2
  have : min (k : Int).toNat 64 = k := by simp; omega
  rw [this, Int.fdiv_eq_ediv_of_nonneg _ (by exact Int.le_of_lt (Int.pow_pos (by decide)))]

theorem has_spec (H : AHeap) (s0 s1 s2 s3 : Int) (c : UInt8) (h0 : u64In s0) (h1 : u64In s1) (h2 : u64In s2) (h3 : u64In s3) (K : AV → AHeap → Prop)
    (hK : ∀ b H', Keeps H H' → (b = true ↔ SetHas s0 s1 s2 s3 c.toNat) → K (.bool b) H') :
    WF P0 42 [.agg [.int .u64 s0, .int .u64 s1, .int .u64 s2, .int .u64 s3], .int .u8 c.toNat] H K := by
  have hc : c.toNat < 256 := c.toNat_lt
  have hq : IntKind.u8.wrap ((c.toNat : Int).tdiv 64) = ((c.toNat / 64 : Nat) : Int) := by
    have : (c.toNat : Int).tdiv 64 = ((c.toNat / 64 : Nat) : Int) := rfl
    rw [this, wrap_u8 (by omega) (by omega)]
  have hr : (c.toNat : Int).tmod 64 = ((c.toNat % 64 : Nat) : Int) := rfl
  have hb : ∀ s, u64In s → 0 ≤ s / 2 ^ (c.toNat % 64) ∧ s / 2 ^ (c.toNat % 64) < 18446744073709551616 := fun s hs => by
    have hp : (0 : Int) < 2 ^ (c.toNat % 64) := Int.pow_pos (by decide)
    refine ⟨Int.ediv_nonneg hs.1 (Int.le_of_lt hp), ?_⟩
    have := Int.ediv_le_self (2 ^ (c.toNat % 64)) hs.1
    have := hs.2; omega
  have hfin : ∀ s, u64In s → setW s0 s1 s2 s3 c.toNat = s → ((s / 2 ^ (c.toNat % 64) % 2 == 1) = true ↔ SetHas s0 s1 s2 s3 c.toNat) := fun s _ e => by
    simp only [SetHas, e, beq_iff_eq]
  refine zWF rfl rfl rfl ?_
  have hsh : ∀ s, shiftI .shr .u64 s ((c.toNat % 64 : Nat) : Int) = some (.int .u64 (s / 2 ^ (c.toNat % 64))) := fun s => shr_nat s _ (by omega)
  have hcase : c.toNat / 64 = 0 ∨ c.toNat / 64 = 1 ∨ c.toNat / 64 = 2 ∨ c.toNat / 64 = 3 := by omega
  rcases hcase with h | h | h | h
  · rw [h] at hq
    have ha := and1 _ (hb s0 h0).1 (hb s0 h0).2
    simp only [a42, hq, hr, hsh, ha, zz, env0, aPure, aRead, aNew, aEff, aval, avals, aparts, aopt, wantedA, binA, isShift, binI, fillA, single, aRes, splice, mkv, unA, binS, sameAt, reduceCtorEq, reduceIte, Int.reduceEq, Int.reduceLT, Int.reduceLE, Int.reduceNe, Nat.reduceEqDiff, Nat.reduceLT, Nat.reduceAdd, Nat.reduceMul, Nat.reduceSub, Nat.reduceLeDiff, Int.reduceBEq, Int.reduceBNe, Nat.reduceBEq, Nat.reduceBNe, Int.reduceToNat]
    exact hK _ _ (.p1 _ _) (hfin s0 h0 (by unfold setW; rw [if_pos (by omega)]))
  · rw [h] at hq
    have ha := and1 _ (hb s1 h1).1 (hb s1 h1).2
    simp only [a42, hq, hr, hsh, ha, zz, env0, aPure, aRead, aNew, aEff, aval, avals, aparts, aopt, wantedA, binA, isShift, binI, fillA, single, aRes, splice, mkv, unA, binS, sameAt, reduceCtorEq, reduceIte, Int.reduceEq, Int.reduceLT, Int.reduceLE, Int.reduceNe, Nat.reduceEqDiff, Nat.reduceLT, Nat.reduceAdd, Nat.reduceMul, Nat.reduceSub, Nat.reduceLeDiff, Int.reduceBEq, Int.reduceBNe, Nat.reduceBEq, Nat.reduceBNe, Int.reduceToNat]
    exact hK _ _ (.p1 _ _) (hfin s1 h1 (by unfold setW; rw [if_neg (by omega), if_pos (by omega)]))
  · rw [h] at hq
    have ha := and1 _ (hb s2 h2).1 (hb s2 h2).2
    simp only [a42, hq, hr, hsh, ha, zz, env0, aPure, aRead, aNew, aEff, aval, avals, aparts, aopt, wantedA, binA, isShift, binI, fillA, single, aRes, splice, mkv, unA, binS, sameAt, reduceCtorEq, reduceIte, Int.reduceEq, Int.reduceLT, Int.reduceLE, Int.reduceNe, Nat.reduceEqDiff, Nat.reduceLT, Nat.reduceAdd, Nat.reduceMul, Nat.reduceSub, Nat.reduceLeDiff, Int.reduceBEq, Int.reduceBNe, Nat.reduceBEq, Nat.reduceBNe, Int.reduceToNat]
    exact hK _ _ (.p1 _ _) (hfin s2 h2 (by unfold setW; rw [if_neg (by omega), if_neg (by omega), if_pos (by omega)]))
  · rw [h] at hq
    have ha := and1 _ (hb s3 h3).1 (hb s3 h3).2
    simp only [a42, hq, hr, hsh, ha, zz, env0, aPure, aRead, aNew, aEff, aval, avals, aparts, aopt, wantedA, binA, isShift, binI, fillA, single, aRes, splice, mkv, unA, binS, sameAt, reduceCtorEq, reduceIte, Int.reduceEq, Int.reduceLT, Int.reduceLE, Int.reduceNe, Nat.reduceEqDiff, Nat.reduceLT, Nat.reduceAdd, Nat.reduceMul, Nat.reduceSub, Nat.reduceLeDiff, Int.reduceBEq, Int.reduceBNe, Nat.reduceBEq, Nat.reduceBNe, Int.reduceToNat]
    exact hK _ _ (.p1 _ _) (hfin s3 h3 (by unfold setW; rw [if_neg (by omega), if_neg (by omega), if_neg (by omega)]))
end Go.Proofs.Ytnblhjpbpobglaa
