/- lang.Ends, Is, Longest; text, ints. -/
import Derived.Test.YtnblhjpbpobglaaSN
set_option maxRecDepth 100000
set_option linter.unusedSimpArgs false
namespace Go.Proofs.Ytnblhjpbpobglaa
open Go.Am

/-- Where a tree may end. -/
def EndsL (l : List Nd) (w : List UInt8) (f : Int) (ms : List Nat) : Prop :=
  Pls ms w.length ∧ ∀ j, j ∈ ms ↔ RightT l ∧ NoRef l ∧ 0 ≤ f ∧ f ≤ w.length ∧ den l w (l.length - 1) f.toNat j

theorem Ends_spec (H : AHeap) (v : AV) (l : List Nd) (w : List UInt8) (f : Int) (hN : Nds H v l) (hbig : l.length < 9223372036854775808) (hw : w.length ≤ 1000000) (K : AV → AHeap → Prop)
    (hK : ∀ v' H' ms, Keeps H H' → Ints H' v' (nts ms) → EndsL l w f ms → K v' H') : WF P0 13 [v, .str w, .int .i64 f] H K := by
  have hnil : ∀ H', Keeps H H' → ¬ (RightT l ∧ NoRef l ∧ 0 ≤ f ∧ f ≤ w.length) → K .nilsl H' := fun H' hk hno =>
    hK _ _ [] hk Rows.nil ⟨⟨.nil, by simp⟩, fun j => by
      simp only [List.not_mem_nil, false_iff]
      rintro ⟨a, b, c, d, _⟩; exact hno ⟨a, b, c, d⟩⟩
  have hla := hN.lenOf
  refine zWF rfl rfl rfl ?_
  simp only [a13, zz, env0, aPure, aRead, aNew, aEff, aval, avals, aparts, aopt, wantedA, binA, isShift, binI, fillA, single, aRes, splice, mkv, unA, binS, sameAt, reduceCtorEq, reduceIte, Int.reduceEq, Int.reduceLT, Int.reduceLE, Int.reduceNe, Nat.reduceEqDiff, Nat.reduceLT, Nat.reduceAdd, Nat.reduceMul, Nat.reduceSub, Nat.reduceLeDiff, Int.reduceBEq, Int.reduceBNe, Nat.reduceBEq, Nat.reduceBNe, Int.reduceToNat]
  refine onG_f (fun h1 => ?_) (fun h1 => ?_)
  · simp only [h1, zz, env0, aPure, aRead, aNew, aEff, aval, avals, aparts, aopt, wantedA, binA, isShift, binI, fillA, single, aRes, splice, mkv, unA, binS, sameAt, reduceCtorEq, reduceIte, Int.reduceEq, Int.reduceLT, Int.reduceLE, Int.reduceNe, Nat.reduceEqDiff, Nat.reduceLT, Nat.reduceAdd, Nat.reduceMul, Nat.reduceSub, Nat.reduceLeDiff, Int.reduceBEq, Int.reduceBNe, Nat.reduceBEq, Nat.reduceBNe, Int.reduceToNat]
    refine onG_f (fun h2 => ?_) (fun h2 => ?_)
    · simp only [h1, h2, zz, env0, aPure, aRead, aNew, aEff, aval, avals, aparts, aopt, wantedA, binA, isShift, binI, fillA, single, aRes, splice, mkv, unA, binS, sameAt, reduceCtorEq, reduceIte, Int.reduceEq, Int.reduceLT, Int.reduceLE, Int.reduceNe, Nat.reduceEqDiff, Nat.reduceLT, Nat.reduceAdd, Nat.reduceMul, Nat.reduceSub, Nat.reduceLeDiff, Int.reduceBEq, Int.reduceBNe, Nat.reduceBEq, Nat.reduceBNe, Int.reduceToNat]
      refine plain_spec _ _ l hN hbig _ ?_
      intro b H1 hk1 hb
      have hf1 : 0 ≤ f := by simpa using h1
      have hf2 : f ≤ w.length := by simpa using h2
      cases b with
      | false =>
        simp only [h1, h2, zz, env0, aPure, aRead, aNew, aEff, aval, avals, aparts, aopt, wantedA, binA, isShift, binI, fillA, single, aRes, splice, mkv, unA, binS, sameAt, reduceCtorEq, reduceIte, Int.reduceEq, Int.reduceLT, Int.reduceLE, Int.reduceNe, Nat.reduceEqDiff, Nat.reduceLT, Nat.reduceAdd, Nat.reduceMul, Nat.reduceSub, Nat.reduceLeDiff, Int.reduceBEq, Int.reduceBNe, Nat.reduceBEq, Nat.reduceBNe, Int.reduceToNat]
        exact hnil _ hk1 (fun h => by have := hb.2 ⟨h.1, h.2.1⟩; simp at this)
      | true =>
        obtain ⟨hR, hNo⟩ := hb.1 rfl
        obtain ⟨q1, q2, q3, q4⟩ := hN.flat
        have hl1 := hR.1
        have hl2 := hR.2.1
        have v1 : IntKind.i64.wrap ((l.length : Int) - 1) = ((l.length - 1 : Nat) : Int) := by rw [wrap_i64 (by omega) (by omega)]; omega
        simp only [h1, h2, hla, q2, q3, v1, zz, env0, aPure, aRead, aNew, aEff, aval, avals, aparts, aopt, wantedA, binA, isShift, binI, fillA, single, aRes, splice, mkv, unA, binS, sameAt, reduceCtorEq, reduceIte, Int.reduceEq, Int.reduceLT, Int.reduceLE, Int.reduceNe, Nat.reduceEqDiff, Nat.reduceLT, Nat.reduceAdd, Nat.reduceMul, Nat.reduceSub, Nat.reduceLeDiff, Int.reduceBEq, Int.reduceBNe, Nat.reduceBEq, Nat.reduceBNe, Int.reduceToNat]
        refine ends_spec hR hw (l.length - 1) (by omega) _ _ [f.toNat] _ (Rows.keeps NdP.mono (hk1.trans (.p1 _ _)) hN) ?_ ⟨by simp, by simp; omega⟩ ?_
        · refine ints_of ?_
          have e : nts [f.toNat] = [f] := by simp [nts]; omega
          rw [e]
          exact (WR.new H1 1 1 [.int .i64 f] rfl (b := 0) (Nat.zero_le _)).row
        intro v2 H2 ms hk2 hi2 hp2 hd2
        have hl := hp2.len
        simp only [zz, env0, aPure, aRead, aNew, aEff, aval, avals, aparts, aopt, wantedA, binA, isShift, binI, fillA, single, aRes, splice, mkv, unA, binS, sameAt, reduceCtorEq, reduceIte, Int.reduceEq, Int.reduceLT, Int.reduceLE, Int.reduceNe, Nat.reduceEqDiff, Nat.reduceLT, Nat.reduceAdd, Nat.reduceMul, Nat.reduceSub, Nat.reduceLeDiff, Int.reduceBEq, Int.reduceBNe, Nat.reduceBEq, Nat.reduceBNe, Int.reduceToNat]
        refine clone_spec _ _ _ hi2 (by rw [nts_len]; omega) _ ?_
        intro v3 H3 hk3 hw3
        simp only [zz, env0, aPure, aRead, aNew, aEff, aval, avals, aparts, aopt, wantedA, binA, isShift, binI, fillA, single, aRes, splice, mkv, unA, binS, sameAt, reduceCtorEq, reduceIte, Int.reduceEq, Int.reduceLT, Int.reduceLE, Int.reduceNe, Nat.reduceEqDiff, Nat.reduceLT, Nat.reduceAdd, Nat.reduceMul, Nat.reduceSub, Nat.reduceLeDiff, Int.reduceBEq, Int.reduceBNe, Nat.reduceBEq, Nat.reduceBNe, Int.reduceToNat]
        refine hK _ _ ms (hk1.trans ((Keeps.p1 _ _).trans (hk2.trans hk3))) (ints_of hw3.row) ⟨hp2, fun j => ?_⟩
        rw [hd2 j]
        simp [hR, hNo, hf1, hf2]
    · simp only [h1, h2, zz, env0, aPure, aRead, aNew, aEff, aval, avals, aparts, aopt, wantedA, binA, isShift, binI, fillA, single, aRes, splice, mkv, unA, binS, sameAt, reduceCtorEq, reduceIte, Int.reduceEq, Int.reduceLT, Int.reduceLE, Int.reduceNe, Nat.reduceEqDiff, Nat.reduceLT, Nat.reduceAdd, Nat.reduceMul, Nat.reduceSub, Nat.reduceLeDiff, Int.reduceBEq, Int.reduceBNe, Nat.reduceBEq, Nat.reduceBNe, Int.reduceToNat]
      refine hnil _ (.refl _) (fun h => ?_)
      simp at h2; omega
  · simp only [h1, zz, env0, aPure, aRead, aNew, aEff, aval, avals, aparts, aopt, wantedA, binA, isShift, binI, fillA, single, aRes, splice, mkv, unA, binS, sameAt, reduceCtorEq, reduceIte, Int.reduceEq, Int.reduceLT, Int.reduceLE, Int.reduceNe, Nat.reduceEqDiff, Nat.reduceLT, Nat.reduceAdd, Nat.reduceMul, Nat.reduceSub, Nat.reduceLeDiff, Int.reduceBEq, Int.reduceBNe, Nat.reduceBEq, Nat.reduceBNe, Int.reduceToNat]
    refine hnil _ (.refl _) (fun h => ?_)
    simp at h1; omega

/-- Is a text one of a tree? -/
def IsT (l : List Nd) (w : List UInt8) : Prop := RightT l ∧ NoRef l ∧ den l w (l.length - 1) 0 w.length

theorem Is_spec (H : AHeap) (v : AV) (l : List Nd) (w : List UInt8) (hN : Nds H v l) (hbig : l.length < 9223372036854775808) (hw : w.length ≤ 1000000) (K : AV → AHeap → Prop)
    (hK : ∀ b H', Keeps H H' → (b = true ↔ IsT l w) → K (.bool b) H') : WF P0 23 [v, .str w] H K := by
  refine zWF rfl rfl rfl ?_
  simp only [a23, zz, env0, aPure, aRead, aNew, aEff, aval, avals, aparts, aopt, wantedA, binA, isShift, binI, fillA, single, aRes, splice, mkv, unA, binS, sameAt, reduceCtorEq, reduceIte, Int.reduceEq, Int.reduceLT, Int.reduceLE, Int.reduceNe, Nat.reduceEqDiff, Nat.reduceLT, Nat.reduceAdd, Nat.reduceMul, Nat.reduceSub, Nat.reduceLeDiff, Int.reduceBEq, Int.reduceBNe, Nat.reduceBEq, Nat.reduceBNe, Int.reduceToNat]
  refine Ends_spec _ _ l w 0 hN hbig hw _ ?_
  intro v1 H1 ms hk1 hi1 hE
  have hl := hE.1.len
  simp only [zz, env0, aPure, aRead, aNew, aEff, aval, avals, aparts, aopt, wantedA, binA, isShift, binI, fillA, single, aRes, splice, mkv, unA, binS, sameAt, reduceCtorEq, reduceIte, Int.reduceEq, Int.reduceLT, Int.reduceLE, Int.reduceNe, Nat.reduceEqDiff, Nat.reduceLT, Nat.reduceAdd, Nat.reduceMul, Nat.reduceSub, Nat.reduceLeDiff, Int.reduceBEq, Int.reduceBNe, Nat.reduceBEq, Nat.reduceBNe, Int.reduceToNat]
  refine search_spec _ _ _ _ hi1 (by rw [nts_len]; omega) (nts_sorted hE.1.1) _ ?_
  intro k b hb
  simp only [zz, env0, aPure, aRead, aNew, aEff, aval, avals, aparts, aopt, wantedA, binA, isShift, binI, fillA, single, aRes, splice, mkv, unA, binS, sameAt, reduceCtorEq, reduceIte, Int.reduceEq, Int.reduceLT, Int.reduceLE, Int.reduceNe, Nat.reduceEqDiff, Nat.reduceLT, Nat.reduceAdd, Nat.reduceMul, Nat.reduceSub, Nat.reduceLeDiff, Int.reduceBEq, Int.reduceBNe, Nat.reduceBEq, Nat.reduceBNe, Int.reduceToNat]
  refine hK _ _ hk1 ?_
  rw [hb, nts_mem]
  constructor
  · rintro ⟨n, h1, h2⟩
    have : n = w.length := by omega
    subst this
    obtain ⟨a, b, c, d, e⟩ := (hE.2 _).1 h1
    exact ⟨a, b, e⟩
  · rintro ⟨a, b, c⟩
    exact ⟨w.length, (hE.2 _).2 ⟨a, b, by omega, by omega, c⟩, rfl⟩

theorem last_max {ms : List Nat} (h : ms.Pairwise (· < ·)) {x : Nat} (hx : ms[ms.length - 1]? = some x) : x ∈ ms ∧ ∀ j, j ∈ ms → j ≤ x := by
  refine ⟨List.mem_of_getElem? hx, fun j hj => ?_⟩
  obtain ⟨k, hk⟩ := List.mem_iff_getElem?.1 hj
  have hkl : k < ms.length := by
    rcases Nat.lt_or_ge k ms.length with h | h
    · exact h
    · rw [List.getElem?_eq_none h] at hk; simp at hk
  rcases Nat.lt_or_ge k (ms.length - 1) with h' | h'
  · have := List.pairwise_iff_getElem.1 h k (ms.length - 1) hkl (by omega) h'
    rw [List.getElem?_eq_getElem hkl] at hk
    rw [List.getElem?_eq_getElem (by omega)] at hx
    simp only [Option.some.injEq] at hk hx
    omega
  · have : k = ms.length - 1 := by omega
    subst this; rw [hk] at hx; simp only [Option.some.injEq] at hx; omega

/-- How far a tree goes at most, by one byte at least. -/
def LongT (f : Int) (ms : List Nat) (n : Int) (ok : Bool) : Prop :=
  (ok = true → ∃ m, m ∈ ms ∧ n = (m : Int) ∧ n ≠ f ∧ ∀ j, j ∈ ms → j ≤ m) ∧ (ok = false → n = 0 ∧ ∀ m : Nat, m ∈ ms → (m : Int) ≤ f)

theorem Longest_spec (H : AHeap) (v : AV) (l : List Nd) (w : List UInt8) (f : Int) (hN : Nds H v l) (hbig : l.length < 9223372036854775808) (hw : w.length ≤ 1000000) (K : AV → AHeap → Prop)
    (hK : ∀ n ok H' ms, Keeps H H' → EndsL l w f ms → LongT f ms n ok → K (.tup [.int .i64 n, .bool ok]) H') : WF P0 20 [v, .str w, .int .i64 f] H K := by
  refine zWF rfl rfl rfl ?_
  simp only [a20, zz, env0, aPure, aRead, aNew, aEff, aval, avals, aparts, aopt, wantedA, binA, isShift, binI, fillA, single, aRes, splice, mkv, unA, binS, sameAt, reduceCtorEq, reduceIte, Int.reduceEq, Int.reduceLT, Int.reduceLE, Int.reduceNe, Nat.reduceEqDiff, Nat.reduceLT, Nat.reduceAdd, Nat.reduceMul, Nat.reduceSub, Nat.reduceLeDiff, Int.reduceBEq, Int.reduceBNe, Nat.reduceBEq, Nat.reduceBNe, Int.reduceToNat]
  refine Ends_spec _ _ l w f hN hbig hw _ ?_
  intro v1 H1 ms hk1 hi1 hE
  have hl := hE.1.len
  have hlo := hi1.lenOf
  rw [nts_len] at hlo
  simp only [hlo, zz, env0, aPure, aRead, aNew, aEff, aval, avals, aparts, aopt, wantedA, binA, isShift, binI, fillA, single, aRes, splice, mkv, unA, binS, sameAt, reduceCtorEq, reduceIte, Int.reduceEq, Int.reduceLT, Int.reduceLE, Int.reduceNe, Nat.reduceEqDiff, Nat.reduceLT, Nat.reduceAdd, Nat.reduceMul, Nat.reduceSub, Nat.reduceLeDiff, Int.reduceBEq, Int.reduceBNe, Nat.reduceBEq, Nat.reduceBNe, Int.reduceToNat]
  refine onG_f (fun h1 => ?_) (fun h1 => ?_)
  · have hpos : 0 < ms.length := by simp at h1; cases ms with
      | nil => simp at h1
      | cons a b => simp
    obtain ⟨x, hx⟩ : ∃ x, ms[ms.length - 1]? = some x := ⟨ms[ms.length - 1], List.getElem?_eq_getElem (by omega)⟩
    obtain ⟨i, o, rfl, g1⟩ := hi1.int (nts_get hx)
    rw [nts_len] at *
    have e1 : IntKind.i64.wrap ((ms.length : Int) - 1) = ((ms.length - 1 : Nat) : Int) := by rw [wrap_i64 (by omega) (by omega)]; omega
    have p1 : (0 : Int) ≤ ((ms.length - 1 : Nat) : Int) := by omega
    have p2 : ((ms.length - 1 : Nat) : Int) < ms.length := by omega
    obtain ⟨m1, m2⟩ := last_max hE.1.1 hx
    simp only [h1, hlo, e1, p1, p2, Nat.mul_one, g1, zz, env0, aPure, aRead, aNew, aEff, aval, avals, aparts, aopt, wantedA, binA, isShift, binI, fillA, single, aRes, splice, mkv, unA, binS, sameAt, reduceCtorEq, reduceIte, Int.reduceEq, Int.reduceLT, Int.reduceLE, Int.reduceNe, Nat.reduceEqDiff, Nat.reduceLT, Nat.reduceAdd, Nat.reduceMul, Nat.reduceSub, Nat.reduceLeDiff, Int.reduceBEq, Int.reduceBNe, Nat.reduceBEq, Nat.reduceBNe, Int.reduceToNat]
    refine onB_of (fun h2 => ?_) (fun h2 => ?_)
    · simp only [zz, env0, aPure, aRead, aNew, aEff, aval, avals, aparts, aopt, wantedA, binA, isShift, binI, fillA, single, aRes, splice, mkv, unA, binS, sameAt, reduceCtorEq, reduceIte, Int.reduceEq, Int.reduceLT, Int.reduceLE, Int.reduceNe, Nat.reduceEqDiff, Nat.reduceLT, Nat.reduceAdd, Nat.reduceMul, Nat.reduceSub, Nat.reduceLeDiff, Int.reduceBEq, Int.reduceBNe, Nat.reduceBEq, Nat.reduceBNe, Int.reduceToNat]
      refine hK _ _ _ ms hk1 hE ⟨fun h => by simp at h, fun _ => ⟨rfl, fun m hm => ?_⟩⟩
      have : (x : Int) = f := by simpa using h2
      have := m2 m hm; omega
    · simp only [hlo, e1, p1, p2, Nat.mul_one, g1, zz, env0, aPure, aRead, aNew, aEff, aval, avals, aparts, aopt, wantedA, binA, isShift, binI, fillA, single, aRes, splice, mkv, unA, binS, sameAt, reduceCtorEq, reduceIte, Int.reduceEq, Int.reduceLT, Int.reduceLE, Int.reduceNe, Nat.reduceEqDiff, Nat.reduceLT, Nat.reduceAdd, Nat.reduceMul, Nat.reduceSub, Nat.reduceLeDiff, Int.reduceBEq, Int.reduceBNe, Nat.reduceBEq, Nat.reduceBNe, Int.reduceToNat]
      refine hK _ _ _ ms hk1 hE ⟨fun _ => ⟨x, m1, rfl, by simpa using h2, m2⟩, fun h => by simp at h⟩
  · simp only [h1, zz, env0, aPure, aRead, aNew, aEff, aval, avals, aparts, aopt, wantedA, binA, isShift, binI, fillA, single, aRes, splice, mkv, unA, binS, sameAt, reduceCtorEq, reduceIte, Int.reduceEq, Int.reduceLT, Int.reduceLE, Int.reduceNe, Nat.reduceEqDiff, Nat.reduceLT, Nat.reduceAdd, Nat.reduceMul, Nat.reduceSub, Nat.reduceLeDiff, Int.reduceBEq, Int.reduceBNe, Nat.reduceBEq, Nat.reduceBNe, Int.reduceToNat]
    have : ms = [] := by simp at h1; exact h1
    subst this
    exact hK _ _ _ [] hk1 hE ⟨fun h => by simp at h, fun _ => ⟨rfl, by simp⟩⟩

theorem slice_to (s : List UInt8) (k : Nat) (h : k ≤ s.length) : sliceS s none (some (.int .i64 k)) = some (.str (s.take k)) := by
  have h1 : (0 : Int) ≤ k ∧ (k : Int) ≤ s.length := ⟨by omega, by omega⟩
  simp [sliceS, bound, h]
theorem slice_from (s : List UInt8) (k : Nat) (h : k ≤ s.length) : sliceS s (some (.int .i64 k)) none = some (.str (s.drop k)) := by
  simp [sliceS, bound, h]
theorem slice_mid (s : List UInt8) (j k : Nat) (h1 : j ≤ k) (h : k ≤ s.length) : sliceS s (some (.int .i64 j)) (some (.int .i64 k)) = some (.str ((s.take k).drop j)) := by
  simp [sliceS, bound, h, h1]

theorem text_spec (H : AHeap) (s : List UInt8) (K : AV → AHeap → Prop) (hs : s.length < 9223372036854775808) (hK : K (.str (s.take 20)) H) : WF P0 11 [.str s] H K := by
  refine zWF rfl rfl rfl ?_
  by_cases h : 20 < s.length
  · have e : (20 : Int) < s.length := by omega
    simp only [a11, e, zz, env0, aPure, aRead, aNew, aEff, aval, avals, aparts, aopt, wantedA, binA, isShift, binI, fillA, single, aRes, splice, mkv, unA, binS, sameAt, reduceCtorEq, reduceIte, Int.reduceEq, Int.reduceLT, Int.reduceLE, Int.reduceNe, Nat.reduceEqDiff, Nat.reduceLT, Nat.reduceAdd, Nat.reduceMul, Nat.reduceSub, Nat.reduceLeDiff, Int.reduceBEq, Int.reduceBNe, Nat.reduceBEq, Nat.reduceBNe, Int.reduceToNat]
    have e2 : sliceS s none (some (.int .i64 20)) = some (.str (s.take 20)) := by
      exact slice_to s 20 (by omega)
    simp only [e2, zz, env0, aPure, aRead, aNew, aEff, aval, avals, aparts, aopt, wantedA, binA, isShift, binI, fillA, single, aRes, splice, mkv, unA, binS, sameAt, reduceCtorEq, reduceIte, Int.reduceEq, Int.reduceLT, Int.reduceLE, Int.reduceNe, Nat.reduceEqDiff, Nat.reduceLT, Nat.reduceAdd, Nat.reduceMul, Nat.reduceSub, Nat.reduceLeDiff, Int.reduceBEq, Int.reduceBNe, Nat.reduceBEq, Nat.reduceBNe, Int.reduceToNat]
    exact hK
  · have e : ¬ (20 : Int) < s.length := by omega
    simp only [a11, e, zz, env0, aPure, aRead, aNew, aEff, aval, avals, aparts, aopt, wantedA, binA, isShift, binI, fillA, single, aRes, splice, mkv, unA, binS, sameAt, reduceCtorEq, reduceIte, Int.reduceEq, Int.reduceLT, Int.reduceLE, Int.reduceNe, Nat.reduceEqDiff, Nat.reduceLT, Nat.reduceAdd, Nat.reduceMul, Nat.reduceSub, Nat.reduceLeDiff, Int.reduceBEq, Int.reduceBNe, Nat.reduceBEq, Nat.reduceBNe, Int.reduceToNat]
    have e2 : sliceS s none (some (.int .i64 s.length)) = some (.str (s.take 20)) := by
      rw [slice_to s s.length (Nat.le_refl _), List.take_of_length_le (Nat.le_refl _), List.take_of_length_le (by omega)]
    simp only [e2, zz, env0, aPure, aRead, aNew, aEff, aval, avals, aparts, aopt, wantedA, binA, isShift, binI, fillA, single, aRes, splice, mkv, unA, binS, sameAt, reduceCtorEq, reduceIte, Int.reduceEq, Int.reduceLT, Int.reduceLE, Int.reduceNe, Nat.reduceEqDiff, Nat.reduceLT, Nat.reduceAdd, Nat.reduceMul, Nat.reduceSub, Nat.reduceLeDiff, Int.reduceBEq, Int.reduceBNe, Nat.reduceBEq, Nat.reduceBNe, Int.reduceToNat]
    exact hK
end Go.Proofs.Ytnblhjpbpobglaa
