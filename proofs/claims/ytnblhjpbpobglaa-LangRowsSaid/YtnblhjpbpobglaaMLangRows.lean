/- The law's run, and the statement. -/
import Derived.Test.YtnblhjpbpobglaaM5
import Derived.Test.YtnblhjpbpobglaaRows
import Derived.Test.YtnblhjpbpobglaaM2

/- LangRows: the law's run. -/
set_option maxRecDepth 100000
set_option linter.unusedSimpArgs false
namespace Go.Proofs.Ytnblhjpbpobglaa
open Go.Am

theorem bls_set {H : AHeap} {b i N : Nat} {C : List Bool} (h : WR H b 1 (.sl i 0 N) N (bls C)) (hC : C.length = N) {k : Nat} (hk : k < N) (x : Bool) :
    ∃ H', storeA H i k [.bool x] = some H' ∧ WR H' b 1 (.sl i 0 N) N (bls (C.set k x)) ∧ Else H H' (some i) := by
  obtain ⟨i4, q4, e4, H4, hs4, hw4, he4, _⟩ := h.store (k := k) (vs := [.bool x]) (by simp; omega) (by omega) rfl
  simp only [AV.sl.injEq] at e4
  obtain ⟨rfl, rfl, _⟩ := e4
  rw [Nat.zero_add] at hs4
  rw [splice_bls _ _ _ (by omega)] at hw4
  exact ⟨H4, hs4, hw4, he4⟩
theorem set_true {C : List Bool} {k : Nat} (hk : k < C.length) (j : Nat) : (C.set k true)[j]? = some true ↔ C[j]? = some true ∨ j = k := by
  rw [List.getElem?_set]
  by_cases e : k = j
  · rw [if_pos e, if_pos hk]; simp [e]
  · rw [if_neg e]
    constructor
    · exact Or.inl
    · rintro (h | h)
      · exact h
      · exact absurd h.symm e
theorem mem_take_succ {ms : List Nat} {t x : Nat} (hx : ms[t]? = some x) (i : Nat) : i ∈ ms.take (t + 1) ↔ i ∈ ms.take t ∨ i = x := by
  have ht : t < ms.length := by
    rcases Nat.lt_or_ge t ms.length with h | h
    · exact h
    · rw [List.getElem?_eq_none h] at hx; simp at hx
  rw [List.take_succ_eq_append_getElem ht, List.mem_append]
  rw [List.getElem?_eq_getElem ht] at hx
  simp only [Option.some.injEq] at hx
  simp [hx]
theorem ends_trues {l : List Nd} {w : List UInt8} {f : Int} {p : List Nat} {C : List Bool} (hp : EndsL l w f p) (h : ∀ j, C[j]? = some true ↔ RightT l ∧ NoRef l ∧ 0 ≤ f ∧ f ≤ w.length ∧ den l w (l.length - 1) f.toNat j) : p = trues C :=
  sorted_ext hp.1.1 (trues_sorted C) (fun x => by rw [hp.2 x, trues_mem, h x])

/-- All blocks but two. -/
def KX (ic ia : Nat) (H H' : AHeap) : Prop := H.length ≤ H'.length ∧ ∀ k b, k ≠ ic → k ≠ ia → getB H k = some b → getB H' k = some b
theorem KX.refl (ic ia : Nat) (H : AHeap) : KX ic ia H H := ⟨Nat.le_refl _, fun _ _ _ _ h => h⟩
theorem KX.kp {ic ia : Nat} {H H1 H2 : AHeap} (h : KX ic ia H H1) (k : Keeps H1 H2) : KX ic ia H H2 := ⟨Nat.le_trans h.1 k.1, fun i b h1 h2 h3 => k.2 i b (h.2 i b h1 h2 h3)⟩
theorem KX.e1 {ic ia : Nat} {H H1 H2 : AHeap} (h : KX ic ia H H1) (k : Else H1 H2 (some ic)) : KX ic ia H H2 :=
  ⟨Nat.le_trans h.1 k.1, fun i b h1 h2 h3 => k.2 i b (fun e => h1 (by simpa using e.symm)) (h.2 i b h1 h2 h3)⟩
theorem KX.e2 {ic ia : Nat} {H H1 H2 : AHeap} (h : KX ic ia H H1) (k : Else H1 H2 (some ia)) : KX ic ia H H2 :=
  ⟨Nat.le_trans h.1 k.1, fun i b h1 h2 h3 => k.2 i b (fun e => h2 (by simpa using e.symm)) (h.2 i b h1 h2 h3)⟩
theorem KX.base {ic ia : Nat} {H0 H H1 : AHeap} (k : Keeps H0 H) (h : KX ic ia H H1) (h1 : H0.length ≤ ic) (h2 : H0.length ≤ ia) : Keeps H0 H1 :=
  ⟨Nat.le_trans k.1 h.1, fun i b hb => h.2 i b (by have := gb_lt hb; omega) (by have := gb_lt hb; omega) (k.2 i b hb)⟩
/-- Another block is written: numbers stay. -/
theorem ints_e {H H' : AHeap} {v : AV} {xs : List Int} {i : Nat} (h : Ints H v xs) (hk : Else H H' (some i)) (hi : ∀ j, avId v = some j → j ≠ i) : Ints H' v xs :=
  ints_else h (fun j b hj hb => hk.2 j b (fun e => hi j hj (by simpa using e.symm)) hb)
theorem wr_e {H H' : AHeap} {b sz n i : Nat} {v : AV} {cs : List AV} (h : WR H b sz v n cs) (hk : Else H H' (some i)) (hi : ∀ j, avId v = some j → j ≠ i) : WR H' b sz v n cs :=
  h.keep (fun j q hj hq => hk.2 j q (fun e => hi j hj (by simpa using e.symm)) hq)

theorem rows_run (H : AHeap) (va vb : AV) (l m : List Nd) (w : List UInt8) (at' : Int) (hl : Nds H va l) (hm : Nds H vb m) (hll : l.length ≤ maxLen) (hml : m.length ≤ maxLen) (hwl : w.length ≤ maxLen) (ha : 0 ≤ at' ∧ at' ≤ 255) :
    WF P0 3 [va, vb, .str w, .int .u8 at'] H (fun r _ => r = .bool true) := by
  have hmx : maxLen = 9223372036854775807 := rfl
  refine zWF rfl rfl rfl ?_
  simp only [a3, zz, env0, aPure, aRead, aNew, aEff, aval, avals, aparts, aopt, wantedA, binA, isShift, binI, fillA, single, aRes, splice, mkv, unA, binS, sameAt, reduceCtorEq, reduceIte, Int.reduceEq, Int.reduceLT, Int.reduceLE, Int.reduceNe, Nat.reduceEqDiff, Nat.reduceLT, Nat.reduceAdd, Nat.reduceMul, Nat.reduceSub, Nat.reduceLeDiff, Int.reduceBEq, Int.reduceBNe, Nat.reduceBEq, Nat.reduceBNe, Int.reduceToNat]
  refine shown_sp _ _ ?_
  simp only [zz, env0, aPure, aRead, aNew, aEff, aval, avals, aparts, aopt, wantedA, binA, isShift, binI, fillA, single, aRes, splice, mkv, unA, binS, sameAt, reduceCtorEq, reduceIte, Int.reduceEq, Int.reduceLT, Int.reduceLE, Int.reduceNe, Nat.reduceEqDiff, Nat.reduceLT, Nat.reduceAdd, Nat.reduceMul, Nat.reduceSub, Nat.reduceLeDiff, Int.reduceBEq, Int.reduceBNe, Nat.reduceBEq, Nat.reduceBNe, Int.reduceToNat]
  refine text_spec _ _ _ (by omega) ?_
  generalize hy : w.take 20 = y
  have hyl : y.length ≤ 20 := by rw [← hy, List.length_take]; omega
  obtain ⟨f, hf⟩ : ∃ f : Nat, f = at'.toNat % (y.length + 1) := ⟨_, rfl⟩
  have hfy : f ≤ y.length := by rw [hf]; have := Nat.mod_lt at'.toNat (show 0 < y.length + 1 by omega); omega
  have c1 : IntKind.i64.wrap at' = at' := wrap_i64 (by omega) (by omega)
  have c2 : IntKind.i64.wrap ((y.length : Int) + 1) = ((y.length + 1 : Nat) : Int) := by rw [wrap_i64 (by omega) (by omega)]; rfl
  have c3 : at'.tmod ((y.length + 1 : Nat) : Int) = (f : Int) := by
    rw [hf]
    have : at' = (at'.toNat : Int) := by omega
    rw [this]; rfl
  have c4 : ((((y.length + 1 : Nat) : Int)) = 0) = False := by simp; omega
  simp only [c1, c2, c3, c4, zz, env0, aPure, aRead, aNew, aEff, aval, avals, aparts, aopt, wantedA, binA, isShift, binI, fillA, single, aRes, splice, mkv, unA, binS, sameAt, reduceCtorEq, reduceIte, Int.reduceEq, Int.reduceLT, Int.reduceLE, Int.reduceNe, Nat.reduceEqDiff, Nat.reduceLT, Nat.reduceAdd, Nat.reduceMul, Nat.reduceSub, Nat.reduceLeDiff, Int.reduceBEq, Int.reduceBNe, Nat.reduceBEq, Nat.reduceBNe, Int.reduceToNat]
  refine good_spec _ _ l hl (by omega) _ ?_
  intro b1 H1 hk1 hb1
  cases b1 with
  | false => simp only [zz, env0, aPure, aRead, aNew, aEff, aval, avals, aparts, aopt, wantedA, binA, isShift, binI, fillA, single, aRes, splice, mkv, unA, binS, sameAt, reduceCtorEq, reduceIte, Int.reduceEq, Int.reduceLT, Int.reduceLE, Int.reduceNe, Nat.reduceEqDiff, Nat.reduceLT, Nat.reduceAdd, Nat.reduceMul, Nat.reduceSub, Nat.reduceLeDiff, Int.reduceBEq, Int.reduceBNe, Nat.reduceBEq, Nat.reduceBNe, Int.reduceToNat]
  | true =>
  obtain ⟨hl30, hRl, hNl⟩ := hb1 rfl
  simp only [zz, env0, aPure, aRead, aNew, aEff, aval, avals, aparts, aopt, wantedA, binA, isShift, binI, fillA, single, aRes, splice, mkv, unA, binS, sameAt, reduceCtorEq, reduceIte, Int.reduceEq, Int.reduceLT, Int.reduceLE, Int.reduceNe, Nat.reduceEqDiff, Nat.reduceLT, Nat.reduceAdd, Nat.reduceMul, Nat.reduceSub, Nat.reduceLeDiff, Int.reduceBEq, Int.reduceBNe, Nat.reduceBEq, Nat.reduceBNe, Int.reduceToNat]
  refine good_spec _ _ m (Rows.keeps NdP.mono hk1 hm) (by omega) _ ?_
  intro b2 H2 hk2 hb2
  cases b2 with
  | false => simp only [zz, env0, aPure, aRead, aNew, aEff, aval, avals, aparts, aopt, wantedA, binA, isShift, binI, fillA, single, aRes, splice, mkv, unA, binS, sameAt, reduceCtorEq, reduceIte, Int.reduceEq, Int.reduceLT, Int.reduceLE, Int.reduceNe, Nat.reduceEqDiff, Nat.reduceLT, Nat.reduceAdd, Nat.reduceMul, Nat.reduceSub, Nat.reduceLeDiff, Int.reduceBEq, Int.reduceBNe, Nat.reduceBEq, Nat.reduceBNe, Int.reduceToNat]
  | true =>
  obtain ⟨hm30, hRm, hNm⟩ := hb2 rfl
  have hk12 := hk1.trans hk2
  have hmk1 : (0 : Int) ≤ ((y.length + 1 : Nat) : Int) := by omega
  have hmk3 : ((y.length + 1 : Nat) : Int) ≤ 1152921504606846976 := by omega
  have hmk4 : ((y.length + 1 : Nat) : Int) ≤ ((maxRoom : Nat) : Int) := by simp only [maxRoom]; omega
  simp only [c2, hmk1, hmk3, Int.natCast_one, Int.mul_one, hmk4, zz, env0, aPure, aRead, aNew, aEff, aval, avals, aparts, aopt, wantedA, binA, isShift, binI, fillA, single, aRes, splice, mkv, unA, binS, sameAt, reduceCtorEq, reduceIte, Int.reduceEq, Int.reduceLT, Int.reduceLE, Int.reduceNe, Nat.reduceEqDiff, Nat.reduceLT, Nat.reduceAdd, Nat.reduceMul, Nat.reduceSub, Nat.reduceLeDiff, Int.reduceBEq, Int.reduceBNe, Nat.reduceBEq, Nat.reduceBNe, Int.reduceToNat]
  generalize hia : (H2 ++ [some (Blk.cells 1 true (rows (y.length + 1) [.bool false]))]).length = ia
  generalize hH3 : H2 ++ [some (Blk.cells 1 true (rows (y.length + 1) [.bool false]))] ++ [some (Blk.cells 1 true (rows (y.length + 1) [.bool false]))] = H3
  have hiv : ia = H2.length + 1 := by rw [← hia]; simp
  have hk3 : Keeps H2 H3 := by rw [← hH3]; exact .p2 _ _ _
  have hwc : WR H3 H2.length 1 (.sl H2.length 0 (y.length + 1)) (y.length + 1) (bls (List.replicate (y.length + 1) false)) := by
    rw [← rows_bls, ← hH3]
    exact (WR.new H2 1 (y.length + 1) _ (by rw [rows_bls]; simp) (Nat.le_refl _)).keeps (.p1 _ _)
  have hwa : WR H3 H2.length 1 (.sl ia 0 (y.length + 1)) (y.length + 1) (bls (List.replicate (y.length + 1) false)) := by
    rw [← rows_bls, ← hH3, ← hia]
    exact WR.new _ 1 (y.length + 1) _ (by rw [rows_bls]; simp) (by simp)
  have hk23 := hk12.trans hk3
  generalize hic : H2.length = ic at hwc
  rw [hic] at hwa hiv
  have hH3l : H3.length = ic + 2 := by rw [← hH3]; simp [hic]
  have hN1 : 1 ≤ y.length + 1 := by omega
  refine Ends_fresh _ _ l y f (Rows.keeps NdP.mono hk23 hl) (by omega) (by omega) _ ?_
  intro v4 H4 ms hk4 hi4 hE4 hfr4
  have hlo4 := hi4.lenOf
  rw [nts_len] at hlo4
  have hlms := hE4.1.len
  simp only [hlo4, zz, env0, aPure, aRead, aNew, aEff, aval, avals, aparts, aopt, wantedA, binA, isShift, binI, fillA, single, aRes, splice, mkv, unA, binS, sameAt, reduceCtorEq, reduceIte, Int.reduceEq, Int.reduceLT, Int.reduceLE, Int.reduceNe, Nat.reduceEqDiff, Nat.reduceLT, Nat.reduceAdd, Nat.reduceMul, Nat.reduceSub, Nat.reduceLeDiff, Int.reduceBEq, Int.reduceBNe, Nat.reduceBEq, Nat.reduceBNe, Int.reduceToNat]
  -- the first list
  refine WC.mono (K := fun e env H' => e = .exit 0 ∧ ∃ (A C : List Bool) (a10 a11 a16 a17 a18 a19 a20 a21 a22 a23 : AV), KX ic ia H3 H' ∧ A.length = y.length + 1 ∧ C.length = y.length + 1 ∧
      WR H' ic 1 (.sl ic 0 (y.length + 1)) (y.length + 1) (bls C) ∧ WR H' ic 1 (.sl ia 0 (y.length + 1)) (y.length + 1) (bls A) ∧
      (∀ j, A[j]? = some true ↔ j ∈ ms) ∧ (∀ j, C[j]? = some true ↔ ∃ i, i ∈ ms ∧ den m y (m.length - 1) i j) ∧
      env = [va, vb, .str w, .int .u8 at', .bool false, .bool true, .str y, .int .i64 f, .sl ic 0 (y.length + 1), .sl ia 0 (y.length + 1), a10, a11, .junk, .bool false, v4, .int .i64 ms.length, a16, a17, a18, a19, a20, a21, a22, a23, .junk, .junk, .junk, .junk, .junk]) ?_ ?_
  · refine WCL (fun r env H' => ∃ (t : Nat) (A C : List Bool) (a10 a11 a17 a18 a19 a20 a21 a22 a23 : AV), t ≤ ms.length ∧ r = ms.length - t ∧ KX ic ia H3 H' ∧ Ints H' v4 (nts ms) ∧ A.length = y.length + 1 ∧ C.length = y.length + 1 ∧
        WR H' ic 1 (.sl ic 0 (y.length + 1)) (y.length + 1) (bls C) ∧ WR H' ic 1 (.sl ia 0 (y.length + 1)) (y.length + 1) (bls A) ∧
        (∀ j, A[j]? = some true ↔ j ∈ ms.take t) ∧ (∀ j, C[j]? = some true ↔ ∃ i, i ∈ ms.take t ∧ den m y (m.length - 1) i j) ∧
        env = [va, vb, .str w, .int .u8 at', .bool false, .bool true, .str y, .int .i64 f, .sl ic 0 (y.length + 1), .sl ia 0 (y.length + 1), a10, a11, .junk, .bool false, v4, .int .i64 ms.length, .int .i64 t, a17, a18, a19, a20, a21, a22, a23, .junk, .junk, .junk, .junk, .junk]) (n := ms.length)
      ⟨0, List.replicate (y.length + 1) false, List.replicate (y.length + 1) false, _, _, _, _, _, _, _, _, _, Nat.zero_le _, rfl, (KX.refl _ _ _).kp hk4, hi4, by simp, by simp, hwc.keeps hk4, hwa.keeps hk4, fun j => by
        simp only [List.take_zero, List.not_mem_nil, iff_false]
        intro h; rw [List.getElem?_replicate] at h; split at h <;> simp at h, fun j => by
        constructor
        · intro h; rw [List.getElem?_replicate] at h; split at h <;> simp at h
        · rintro ⟨i, h, _⟩; simp at h, rfl⟩ ?_
    rintro r env H' ⟨t, A, C, a10, a11, a17, a18, a19, a20, a21, a22, a23, htl, rfl, hkx, hi', hAl, hCl, hwc', hwa', hA, hC, rfl⟩
    simp only [zz, env0, aPure, aRead, aNew, aEff, aval, avals, aparts, aopt, wantedA, binA, isShift, binI, fillA, single, aRes, splice, mkv, unA, binS, sameAt, reduceCtorEq, reduceIte, Int.reduceEq, Int.reduceLT, Int.reduceLE, Int.reduceNe, Nat.reduceEqDiff, Nat.reduceLT, Nat.reduceAdd, Nat.reduceMul, Nat.reduceSub, Nat.reduceLeDiff, Int.reduceBEq, Int.reduceBNe, Nat.reduceBEq, Nat.reduceBNe, Int.reduceToNat]
    refine onB_of (fun hlt => ?_) (fun hlt => ?_)
    · have hlt : t < ms.length := by simpa using hlt
      obtain ⟨x, hx⟩ : ∃ x, ms[t]? = some x := ⟨ms[t], List.getElem?_eq_getElem hlt⟩
      have hxy : x ≤ y.length := hE4.1.2 x (List.mem_of_getElem? hx)
      obtain ⟨ix, ox, rfl, g1⟩ := hi'.int (nts_get hx)
      rw [nts_len] at *
      have r1 : (0 : Int) ≤ t := by omega
      have r2 : (t : Int) < ms.length := by omega
      have q1 : decide ((x : Int) < 0) = false := by simp
      have q2 : decide ((y.length : Int) < x) = false := by simp; omega
      have x1 : (0 : Int) ≤ x := by omega
      have x2 : (x : Int) < ((y.length + 1 : Nat) : Int) := by omega
      have hixf := hfr4 ix rfl
      obtain ⟨H5, hs5, hw5, he5⟩ := bls_set hwa' hAl (k := x) (by omega) true
      have hkx5 := hkx.e2 he5
      have hi5 := ints_e hi' he5 (fun j hj => by simp [avId] at hj; omega)
      have hwc5 := wr_e hwc' he5 (fun j hj => by simp [avId] at hj; omega)
      simp only [r1, r2, Nat.mul_one, g1, q1, q2, x1, x2, hs5, zz, env0, aPure, aRead, aNew, aEff, aval, avals, aparts, aopt, wantedA, binA, isShift, binI, fillA, single, aRes, splice, mkv, unA, binS, sameAt, reduceCtorEq, reduceIte, Int.reduceEq, Int.reduceLT, Int.reduceLE, Int.reduceNe, Nat.reduceEqDiff, Nat.reduceLT, Nat.reduceAdd, Nat.reduceMul, Nat.reduceSub, Nat.reduceLeDiff, Int.reduceBEq, Int.reduceBNe, Nat.reduceBEq, Nat.reduceBNe, Int.reduceToNat]
      have hkH : Keeps H H5 := hk12.trans (KX.base hk3 hkx5 (by omega) (by omega))
      refine Ends_fresh _ _ m y x (Rows.keeps NdP.mono hkH hm) (by omega) (by omega) _ ?_
      intro v6 H6 ms2 hk6 hi6 hE6 hfr6
      have hlo6 := hi6.lenOf
      rw [nts_len] at hlo6
      have hl6 := hE6.1.len
      have hdm : ∀ j, j ∈ ms2 ↔ den m y (m.length - 1) x j := fun j => by
        rw [hE6.2]
        constructor
        · rintro ⟨_, _, _, _, h⟩; exact h
        · intro h; exact ⟨hRm, hNm, by omega, by omega, h⟩
      have h56 := hkx5.1
      simp only [hlo6, zz, env0, aPure, aRead, aNew, aEff, aval, avals, aparts, aopt, wantedA, binA, isShift, binI, fillA, single, aRes, splice, mkv, unA, binS, sameAt, reduceCtorEq, reduceIte, Int.reduceEq, Int.reduceLT, Int.reduceLE, Int.reduceNe, Nat.reduceEqDiff, Nat.reduceLT, Nat.reduceAdd, Nat.reduceMul, Nat.reduceSub, Nat.reduceLeDiff, Int.reduceBEq, Int.reduceBNe, Nat.reduceBEq, Nat.reduceBNe, Int.reduceToNat]
      refine WC.mono (K := fun e env H' => e = .exit 2 ∧ ∃ (C : List Bool) (b11 b21 b22 b23 : AV), KX ic ia H3 H' ∧ Ints H' (.sl ix ox ms.length) (nts ms) ∧ C.length = y.length + 1 ∧
          WR H' ic 1 (.sl ic 0 (y.length + 1)) (y.length + 1) (bls C) ∧ WR H' ic 1 (.sl ia 0 (y.length + 1)) (y.length + 1) (bls (A.set x true)) ∧
          (∀ j, C[j]? = some true ↔ ∃ i, i ∈ ms.take (t + 1) ∧ den m y (m.length - 1) i j) ∧
          env = [va, vb, .str w, .int .u8 at', .bool false, .bool true, .str y, .int .i64 f, .sl ic 0 (y.length + 1), .sl ia 0 (y.length + 1), .int .i64 x, b11, .junk, .bool false, .sl ix ox ms.length, .int .i64 ms.length, .int .i64 t, .bool true, .bool false, v6, .int .i64 ms2.length, b21, b22, b23, .junk, .junk, .junk, .junk, .junk]) ?_ ?_
      · refine WCL (fun r env H' => ∃ (u : Nat) (C : List Bool) (b11 b22 b23 : AV), u ≤ ms2.length ∧ r = ms2.length - u ∧ KX ic ia H3 H' ∧ Ints H' (.sl ix ox ms.length) (nts ms) ∧ Ints H' v6 (nts ms2) ∧ C.length = y.length + 1 ∧
            WR H' ic 1 (.sl ic 0 (y.length + 1)) (y.length + 1) (bls C) ∧ WR H' ic 1 (.sl ia 0 (y.length + 1)) (y.length + 1) (bls (A.set x true)) ∧
            (∀ j, C[j]? = some true ↔ (∃ i, i ∈ ms.take t ∧ den m y (m.length - 1) i j) ∨ j ∈ ms2.take u) ∧
            env = [va, vb, .str w, .int .u8 at', .bool false, .bool true, .str y, .int .i64 f, .sl ic 0 (y.length + 1), .sl ia 0 (y.length + 1), .int .i64 x, b11, .junk, .bool false, .sl ix ox ms.length, .int .i64 ms.length, .int .i64 t, .bool true, .bool false, v6, .int .i64 ms2.length, .int .i64 u, b22, b23, .junk, .junk, .junk, .junk, .junk]) (n := ms2.length)
          ⟨0, C, _, _, _, Nat.zero_le _, rfl, hkx5.kp hk6, Rows.keeps IntP.mono hk6 hi5, hi6, hCl, hwc5.keeps hk6, hw5.keeps hk6, fun j => by rw [hC j]; simp, rfl⟩ ?_
        rintro r env H7 ⟨u, C7, b11, b22, b23, hul, rfl, hkx7, hi7, hi67, hCl7, hwc7, hwa7, hC7, rfl⟩
        simp only [zz, env0, aPure, aRead, aNew, aEff, aval, avals, aparts, aopt, wantedA, binA, isShift, binI, fillA, single, aRes, splice, mkv, unA, binS, sameAt, reduceCtorEq, reduceIte, Int.reduceEq, Int.reduceLT, Int.reduceLE, Int.reduceNe, Nat.reduceEqDiff, Nat.reduceLT, Nat.reduceAdd, Nat.reduceMul, Nat.reduceSub, Nat.reduceLeDiff, Int.reduceBEq, Int.reduceBNe, Nat.reduceBEq, Nat.reduceBNe, Int.reduceToNat]
        refine onB_of (fun hlt2 => ?_) (fun hlt2 => ?_)
        · have hlt2 : u < ms2.length := by simpa using hlt2
          obtain ⟨z, hz⟩ : ∃ z, ms2[u]? = some z := ⟨ms2[u], List.getElem?_eq_getElem hlt2⟩
          have hzy : z ≤ y.length := hE6.1.2 z (List.mem_of_getElem? hz)
          have hxz : x ≤ z := (den_le m y _ _ _ ((hdm z).1 (List.mem_of_getElem? hz))).1
          obtain ⟨iz, oz, rfl, g2⟩ := hi67.int (nts_get hz)
          rw [nts_len] at *
          have s1 : (0 : Int) ≤ u := by omega
          have s2 : (u : Int) < ms2.length := by omega
          have q3 : decide ((z : Int) < x) = false := by simp; omega
          have q4 : decide ((y.length : Int) < z) = false := by simp; omega
          have z1 : (0 : Int) ≤ z := by omega
          have z2 : (z : Int) < ((y.length + 1 : Nat) : Int) := by omega
          have hizf := hfr6 iz rfl
          obtain ⟨H8, hs8, hw8, he8⟩ := bls_set hwc7 hCl7 (k := z) (by omega) true
          have vu : IntKind.i64.wrap ((u : Int) + 1) = ((u + 1 : Nat) : Int) := by rw [wrap_i64 (by omega) (by omega)]; rfl
          simp only [s1, s2, Nat.mul_one, g2, q3, q4, z1, z2, hs8, vu, zz, env0, aPure, aRead, aNew, aEff, aval, avals, aparts, aopt, wantedA, binA, isShift, binI, fillA, single, aRes, splice, mkv, unA, binS, sameAt, reduceCtorEq, reduceIte, Int.reduceEq, Int.reduceLT, Int.reduceLE, Int.reduceNe, Nat.reduceEqDiff, Nat.reduceLT, Nat.reduceAdd, Nat.reduceMul, Nat.reduceSub, Nat.reduceLeDiff, Int.reduceBEq, Int.reduceBNe, Nat.reduceBEq, Nat.reduceBNe, Int.reduceToNat]
          refine ⟨ms2.length - (u + 1), by omega, u + 1, C7.set z true, _, _, _, hlt2, rfl, hkx7.e1 he8, ints_e hi7 he8 (fun j hj => by simp [avId] at hj; omega), ints_e hi67 he8 (fun j hj => by simp [avId] at hj; omega), by simpa using hCl7, hw8,
            wr_e hwa7 he8 (fun j hj => by simp [avId] at hj; omega), fun j => ?_, rfl⟩
          rw [set_true (by omega), hC7 j, mem_take_succ hz]
          constructor
          · rintro ((h | h) | h)
            · exact .inl h
            · exact .inr (.inl h)
            · exact .inr (.inr h)
          · rintro (h | h | h)
            · exact .inl (.inl h)
            · exact .inl (.inr h)
            · exact .inr h
        · have hue : u = ms2.length := by simp at hlt2; omega
          subst hue
          rw [List.take_length] at hC7
          simp only [zz, env0, aPure, aRead, aNew, aEff, aval, avals, aparts, aopt, wantedA, binA, isShift, binI, fillA, single, aRes, splice, mkv, unA, binS, sameAt, reduceCtorEq, reduceIte, Int.reduceEq, Int.reduceLT, Int.reduceLE, Int.reduceNe, Nat.reduceEqDiff, Nat.reduceLT, Nat.reduceAdd, Nat.reduceMul, Nat.reduceSub, Nat.reduceLeDiff, Int.reduceBEq, Int.reduceBNe, Nat.reduceBEq, Nat.reduceBNe, Int.reduceToNat]
          refine ⟨C7, _, _, _, _, hkx7, hi7, hCl7, hwc7, hwa7, fun j => ?_, rfl⟩
          rw [hC7 j]
          constructor
          · rintro (⟨i, h1, h2⟩ | h)
            · exact ⟨i, (mem_take_succ hx i).2 (.inl h1), h2⟩
            · exact ⟨x, (mem_take_succ hx x).2 (.inr rfl), (hdm j).1 h⟩
          · rintro ⟨i, h1, h2⟩
            rcases (mem_take_succ hx i).1 h1 with h | rfl
            · exact .inl ⟨i, h, h2⟩
            · exact .inr ((hdm j).2 h2)
      · rintro e env H7 ⟨rfl, C7, b11, b21, b22, b23, hkx7, hi7, hCl7, hwc7, hwa7, hC7, rfl⟩
        have vt : IntKind.i64.wrap ((t : Int) + 1) = ((t + 1 : Nat) : Int) := by rw [wrap_i64 (by omega) (by omega)]; rfl
        simp only [vt, zz, env0, aPure, aRead, aNew, aEff, aval, avals, aparts, aopt, wantedA, binA, isShift, binI, fillA, single, aRes, splice, mkv, unA, binS, sameAt, reduceCtorEq, reduceIte, Int.reduceEq, Int.reduceLT, Int.reduceLE, Int.reduceNe, Nat.reduceEqDiff, Nat.reduceLT, Nat.reduceAdd, Nat.reduceMul, Nat.reduceSub, Nat.reduceLeDiff, Int.reduceBEq, Int.reduceBNe, Nat.reduceBEq, Nat.reduceBNe, Int.reduceToNat]
        refine ⟨ms.length - (t + 1), by omega, t + 1, A.set x true, C7, _, _, _, _, _, _, _, _, _, hlt, rfl, hkx7, hi7, by simpa using hAl, hCl7, hwc7, hwa7, fun j => ?_, hC7, rfl⟩
        rw [set_true (by omega), hA j, mem_take_succ hx]
    · have hte : t = ms.length := by simp at hlt; omega
      subst hte
      rw [List.take_length] at hA hC
      simp only [zz, env0, aPure, aRead, aNew, aEff, aval, avals, aparts, aopt, wantedA, binA, isShift, binI, fillA, single, aRes, splice, mkv, unA, binS, sameAt, reduceCtorEq, reduceIte, Int.reduceEq, Int.reduceLT, Int.reduceLE, Int.reduceNe, Nat.reduceEqDiff, Nat.reduceLT, Nat.reduceAdd, Nat.reduceMul, Nat.reduceSub, Nat.reduceLeDiff, Int.reduceBEq, Int.reduceBNe, Nat.reduceBEq, Nat.reduceBNe, Int.reduceToNat]
      exact ⟨A, C, _, _, _, _, _, _, _, _, _, _, hkx, hAl, hCl, hwc', hwa', hA, hC, rfl⟩
  rintro e env H' ⟨rfl, A, C, a10, a11, a16, a17, a18, a19, a20, a21, a22, a23, hkx, hAl, hCl, hwc', hwa', hA, hC, rfl⟩
  have hkH : Keeps H H' := hk12.trans (KX.base hk3 hkx (by omega) (by omega))
  simp only [zz, env0, aPure, aRead, aNew, aEff, aval, avals, aparts, aopt, wantedA, binA, isShift, binI, fillA, single, aRes, splice, mkv, unA, binS, sameAt, reduceCtorEq, reduceIte, Int.reduceEq, Int.reduceLT, Int.reduceLE, Int.reduceNe, Nat.reduceEqDiff, Nat.reduceLT, Nat.reduceAdd, Nat.reduceMul, Nat.reduceSub, Nat.reduceLeDiff, Int.reduceBEq, Int.reduceBNe, Nat.reduceBEq, Nat.reduceBNe, Int.reduceToNat]
  refine Ends_fresh _ _ m y f (Rows.keeps NdP.mono hkH hm) (by omega) (by omega) _ ?_
  intro v9 H9 ns hk9 hi9 hE9 hfr9
  have hlo9 := hi9.lenOf
  rw [nts_len] at hlo9
  have hl9 := hE9.1.len
  have hxx := hkx.1
  simp only [hlo9, zz, env0, aPure, aRead, aNew, aEff, aval, avals, aparts, aopt, wantedA, binA, isShift, binI, fillA, single, aRes, splice, mkv, unA, binS, sameAt, reduceCtorEq, reduceIte, Int.reduceEq, Int.reduceLT, Int.reduceLE, Int.reduceNe, Nat.reduceEqDiff, Nat.reduceLT, Nat.reduceAdd, Nat.reduceMul, Nat.reduceSub, Nat.reduceLeDiff, Int.reduceBEq, Int.reduceBNe, Nat.reduceBEq, Nat.reduceBNe, Int.reduceToNat]
  -- the second list
  refine WC.mono (K := fun e env H' => e = .exit 4 ∧ ∃ (A : List Bool) (a12 a26 a27 a28 : AV), KX ic ia H3 H' ∧ A.length = y.length + 1 ∧
      WR H' ic 1 (.sl ic 0 (y.length + 1)) (y.length + 1) (bls C) ∧ WR H' ic 1 (.sl ia 0 (y.length + 1)) (y.length + 1) (bls A) ∧
      (∀ j, A[j]? = some true ↔ j ∈ ms ∨ j ∈ ns) ∧
      env = [va, vb, .str w, .int .u8 at', .bool false, .bool true, .str y, .int .i64 f, .sl ic 0 (y.length + 1), .sl ia 0 (y.length + 1), a10, a11, a12, .bool false, v4, .int .i64 ms.length, a16, a17, a18, a19, a20, a21, a22, a23, v9, .int .i64 ns.length, a26, a27, a28]) ?_ ?_
  · refine WCL (fun r env H' => ∃ (t : Nat) (A : List Bool) (a12 a27 a28 : AV), t ≤ ns.length ∧ r = ns.length - t ∧ KX ic ia H3 H' ∧ Ints H' v9 (nts ns) ∧ A.length = y.length + 1 ∧
        WR H' ic 1 (.sl ic 0 (y.length + 1)) (y.length + 1) (bls C) ∧ WR H' ic 1 (.sl ia 0 (y.length + 1)) (y.length + 1) (bls A) ∧
        (∀ j, A[j]? = some true ↔ j ∈ ms ∨ j ∈ ns.take t) ∧
        env = [va, vb, .str w, .int .u8 at', .bool false, .bool true, .str y, .int .i64 f, .sl ic 0 (y.length + 1), .sl ia 0 (y.length + 1), a10, a11, a12, .bool false, v4, .int .i64 ms.length, a16, a17, a18, a19, a20, a21, a22, a23, v9, .int .i64 ns.length, .int .i64 t, a27, a28]) (n := ns.length)
      ⟨0, A, _, _, _, Nat.zero_le _, rfl, hkx.kp hk9, hi9, hAl, hwc'.keeps hk9, hwa'.keeps hk9, fun j => by rw [hA j]; simp, rfl⟩ ?_
    rintro r env H7 ⟨t, A7, b12, b27, b28, htl, rfl, hkx7, hi7, hAl7, hwc7, hwa7, hA7, rfl⟩
    simp only [zz, env0, aPure, aRead, aNew, aEff, aval, avals, aparts, aopt, wantedA, binA, isShift, binI, fillA, single, aRes, splice, mkv, unA, binS, sameAt, reduceCtorEq, reduceIte, Int.reduceEq, Int.reduceLT, Int.reduceLE, Int.reduceNe, Nat.reduceEqDiff, Nat.reduceLT, Nat.reduceAdd, Nat.reduceMul, Nat.reduceSub, Nat.reduceLeDiff, Int.reduceBEq, Int.reduceBNe, Nat.reduceBEq, Nat.reduceBNe, Int.reduceToNat]
    refine onB_of (fun hlt => ?_) (fun hlt => ?_)
    · have hlt : t < ns.length := by simpa using hlt
      obtain ⟨z, hz⟩ : ∃ z, ns[t]? = some z := ⟨ns[t], List.getElem?_eq_getElem hlt⟩
      have hzy : z ≤ y.length := hE9.1.2 z (List.mem_of_getElem? hz)
      obtain ⟨iz, oz, rfl, g2⟩ := hi7.int (nts_get hz)
      rw [nts_len] at *
      have s1 : (0 : Int) ≤ t := by omega
      have s2 : (t : Int) < ns.length := by omega
      have q3 : decide ((z : Int) < 0) = false := by simp
      have q4 : decide ((y.length : Int) < z) = false := by simp; omega
      have z1 : (0 : Int) ≤ z := by omega
      have z2 : (z : Int) < ((y.length + 1 : Nat) : Int) := by omega
      have hizf := hfr9 iz rfl
      obtain ⟨H8, hs8, hw8, he8⟩ := bls_set hwa7 hAl7 (k := z) (by omega) true
      have vt : IntKind.i64.wrap ((t : Int) + 1) = ((t + 1 : Nat) : Int) := by rw [wrap_i64 (by omega) (by omega)]; rfl
      simp only [s1, s2, Nat.mul_one, g2, q3, q4, z1, z2, hs8, vt, zz, env0, aPure, aRead, aNew, aEff, aval, avals, aparts, aopt, wantedA, binA, isShift, binI, fillA, single, aRes, splice, mkv, unA, binS, sameAt, reduceCtorEq, reduceIte, Int.reduceEq, Int.reduceLT, Int.reduceLE, Int.reduceNe, Nat.reduceEqDiff, Nat.reduceLT, Nat.reduceAdd, Nat.reduceMul, Nat.reduceSub, Nat.reduceLeDiff, Int.reduceBEq, Int.reduceBNe, Nat.reduceBEq, Nat.reduceBNe, Int.reduceToNat]
      refine ⟨ns.length - (t + 1), by omega, t + 1, A7.set z true, _, _, _, hlt, rfl, hkx7.e2 he8, ints_e hi7 he8 (fun j hj => by simp [avId] at hj; omega), by simpa using hAl7,
        wr_e hwc7 he8 (fun j hj => by simp [avId] at hj; omega), hw8, fun j => ?_, rfl⟩
      rw [set_true (by omega), hA7 j, mem_take_succ hz, or_assoc]
    · have hte : t = ns.length := by simp at hlt; omega
      subst hte
      rw [List.take_length] at hA7
      simp only [zz, env0, aPure, aRead, aNew, aEff, aval, avals, aparts, aopt, wantedA, binA, isShift, binI, fillA, single, aRes, splice, mkv, unA, binS, sameAt, reduceCtorEq, reduceIte, Int.reduceEq, Int.reduceLT, Int.reduceLE, Int.reduceNe, Nat.reduceEqDiff, Nat.reduceLT, Nat.reduceAdd, Nat.reduceMul, Nat.reduceSub, Nat.reduceLeDiff, Int.reduceBEq, Int.reduceBNe, Nat.reduceBEq, Nat.reduceBNe, Int.reduceToNat]
      exact ⟨A7, _, _, _, _, hkx7, hAl7, hwc7, hwa7, hA7, rfl⟩
  rintro e env H7 ⟨rfl, A7, a12, a26, a27, a28, hkx7, hAl7, hwc7, hwa7, hA7, rfl⟩
  have hkH7 : Keeps H H7 := hk12.trans (KX.base hk3 hkx7 (by omega) (by omega))
  have hkm : ∀ n, n ∈ m → n.kids.length ≤ 1000 ∧ ∀ x, x ∈ n.kids → 0 ≤ x ∧ x ≤ 1000 := fun n hn => by
    obtain ⟨k, hk⟩ := List.mem_iff_getElem?.1 hn
    obtain ⟨_, _, r, hr⟩ := hRm
    obtain ⟨_, h2, h3⟩ := stk_kids hr hk
    have hkl : k < m.length := by
      rcases Nat.lt_or_ge k m.length with h | h
      · exact h
      · rw [List.getElem?_eq_none h] at hk; simp at hk
    exact ⟨by omega, fun x hx => by have := h3 x hx; omega⟩
  simp only [zz, env0, aPure, aRead, aNew, aEff, aval, avals, aparts, aopt, wantedA, binA, isShift, binI, fillA, single, aRes, splice, mkv, unA, binS, sameAt, reduceCtorEq, reduceIte, Int.reduceEq, Int.reduceLT, Int.reduceLE, Int.reduceNe, Nat.reduceEqDiff, Nat.reduceLT, Nat.reduceAdd, Nat.reduceMul, Nat.reduceSub, Nat.reduceLeDiff, Int.reduceBEq, Int.reduceBNe, Nat.reduceBEq, Nat.reduceBNe, Int.reduceToNat]
  refine pair_spec 3 ⟨by decide, by decide⟩ _ _ _ l m (Rows.keeps NdP.mono hkH7 hl) (Rows.keeps NdP.mono hkH7 hm) (by omega) (by omega) hkm _ ?_
  intro vp Hp hkp hNp
  have hpl : (pairT 3 l m).length < 9223372036854775808 := by simp [pairT]; omega
  simp only [zz, env0, aPure, aRead, aNew, aEff, aval, avals, aparts, aopt, wantedA, binA, isShift, binI, fillA, single, aRes, splice, mkv, unA, binS, sameAt, reduceCtorEq, reduceIte, Int.reduceEq, Int.reduceLT, Int.reduceLE, Int.reduceNe, Nat.reduceEqDiff, Nat.reduceLT, Nat.reduceAdd, Nat.reduceMul, Nat.reduceSub, Nat.reduceLeDiff, Int.reduceBEq, Int.reduceBNe, Nat.reduceBEq, Nat.reduceBNe, Int.reduceToNat]
  refine Ends_spec _ _ _ y f hNp hpl (by omega) _ ?_
  intro vq Hq qs hkq hiq hEq
  simp only [zz, env0, aPure, aRead, aNew, aEff, aval, avals, aparts, aopt, wantedA, binA, isShift, binI, fillA, single, aRes, splice, mkv, unA, binS, sameAt, reduceCtorEq, reduceIte, Int.reduceEq, Int.reduceLT, Int.reduceLE, Int.reduceNe, Nat.reduceEqDiff, Nat.reduceLT, Nat.reduceAdd, Nat.reduceMul, Nat.reduceSub, Nat.reduceLeDiff, Int.reduceBEq, Int.reduceBNe, Nat.reduceBEq, Nat.reduceBNe, Int.reduceToNat]
  have hkpq := hkp.trans hkq
  have hC' : Bls Hq (.sl ic 0 (y.length + 1)) C := by unfold Bls; rw [hCl]; exact (hwc7.keeps hkpq).row
  refine list_spec _ _ C hC' (by omega) _ ?_
  intro vr Hr hkr hir
  have hRp := pair_right (op := 3) (.inl rfl) hRl hRm (by omega)
  have hNp' := pair_noref (op := 3) (by decide) hNl hNm
  have heq1 : qs = trues C := ends_trues hEq (fun j => by
    rw [hC j, cat_den y hRl hRm]
    constructor
    · rintro ⟨i, h1, h2⟩
      obtain ⟨_, _, _, _, h3⟩ := (hE4.2 i).1 h1
      exact ⟨hRp, hNp', by omega, by omega, i, h3, h2⟩
    · rintro ⟨_, _, _, _, i, h1, h2⟩
      exact ⟨i, (hE4.2 i).2 ⟨hRl, hNl, by omega, by omega, h1⟩, h2⟩)
  have hql := hEq.1.len
  simp only [zz, env0, aPure, aRead, aNew, aEff, aval, avals, aparts, aopt, wantedA, binA, isShift, binI, fillA, single, aRes, splice, mkv, unA, binS, sameAt, reduceCtorEq, reduceIte, Int.reduceEq, Int.reduceLT, Int.reduceLE, Int.reduceNe, Nat.reduceEqDiff, Nat.reduceLT, Nat.reduceAdd, Nat.reduceMul, Nat.reduceSub, Nat.reduceLeDiff, Int.reduceBEq, Int.reduceBNe, Nat.reduceBEq, Nat.reduceBNe, Int.reduceToNat]
  refine ints_spec _ _ _ _ _ (by rw [nts_len]; omega) (Rows.keeps IntP.mono hkr hiq) hir _ ?_
  intro b3 hb3
  have hb3' : b3 = true := hb3.2 (by rw [heq1])
  subst hb3'
  have hkH8 : Keeps H Hr := hkH7.trans (hkpq.trans hkr)
  simp only [zz, env0, aPure, aRead, aNew, aEff, aval, avals, aparts, aopt, wantedA, binA, isShift, binI, fillA, single, aRes, splice, mkv, unA, binS, sameAt, reduceCtorEq, reduceIte, Int.reduceEq, Int.reduceLT, Int.reduceLE, Int.reduceNe, Nat.reduceEqDiff, Nat.reduceLT, Nat.reduceAdd, Nat.reduceMul, Nat.reduceSub, Nat.reduceLeDiff, Int.reduceBEq, Int.reduceBNe, Nat.reduceBEq, Nat.reduceBNe, Int.reduceToNat]
  refine pair_spec 4 ⟨by decide, by decide⟩ _ _ _ l m (Rows.keeps NdP.mono hkH8 hl) (Rows.keeps NdP.mono hkH8 hm) (by omega) (by omega) hkm _ ?_
  intro vp2 Hp2 hkp2 hNp2
  have hpl2 : (pairT 4 l m).length < 9223372036854775808 := by simp [pairT]; omega
  simp only [zz, env0, aPure, aRead, aNew, aEff, aval, avals, aparts, aopt, wantedA, binA, isShift, binI, fillA, single, aRes, splice, mkv, unA, binS, sameAt, reduceCtorEq, reduceIte, Int.reduceEq, Int.reduceLT, Int.reduceLE, Int.reduceNe, Nat.reduceEqDiff, Nat.reduceLT, Nat.reduceAdd, Nat.reduceMul, Nat.reduceSub, Nat.reduceLeDiff, Int.reduceBEq, Int.reduceBNe, Nat.reduceBEq, Nat.reduceBNe, Int.reduceToNat]
  refine Ends_spec _ _ _ y f hNp2 hpl2 (by omega) _ ?_
  intro vq2 Hq2 qs2 hkq2 hiq2 hEq2
  simp only [zz, env0, aPure, aRead, aNew, aEff, aval, avals, aparts, aopt, wantedA, binA, isShift, binI, fillA, single, aRes, splice, mkv, unA, binS, sameAt, reduceCtorEq, reduceIte, Int.reduceEq, Int.reduceLT, Int.reduceLE, Int.reduceNe, Nat.reduceEqDiff, Nat.reduceLT, Nat.reduceAdd, Nat.reduceMul, Nat.reduceSub, Nat.reduceLeDiff, Int.reduceBEq, Int.reduceBNe, Nat.reduceBEq, Nat.reduceBNe, Int.reduceToNat]
  have hA' : Bls Hq2 (.sl ia 0 (y.length + 1)) A7 := by unfold Bls; rw [hAl7]; exact (hwa7.keeps (hkpq.trans (hkr.trans (hkp2.trans hkq2)))).row
  refine list_spec _ _ A7 hA' (by omega) _ ?_
  intro vr2 Hr2 hkr2 hir2
  have hRp2 := pair_right (op := 4) (.inr rfl) hRl hRm (by omega)
  have hNp2' := pair_noref (op := 4) (by decide) hNl hNm
  have heq2 : qs2 = trues A7 := ends_trues hEq2 (fun j => by
    rw [hA7 j, alt_den y hRl hRm]
    constructor
    · rintro (h | h)
      · obtain ⟨_, _, _, _, h3⟩ := (hE4.2 j).1 h
        exact ⟨hRp2, hNp2', by omega, by omega, .inl h3⟩
      · obtain ⟨_, _, _, _, h3⟩ := (hE9.2 j).1 h
        exact ⟨hRp2, hNp2', by omega, by omega, .inr h3⟩
    · rintro ⟨_, _, _, _, h | h⟩
      · exact .inl ((hE4.2 j).2 ⟨hRl, hNl, by omega, by omega, h⟩)
      · exact .inr ((hE9.2 j).2 ⟨hRm, hNm, by omega, by omega, h⟩))
  have hql2 := hEq2.1.len
  simp only [zz, env0, aPure, aRead, aNew, aEff, aval, avals, aparts, aopt, wantedA, binA, isShift, binI, fillA, single, aRes, splice, mkv, unA, binS, sameAt, reduceCtorEq, reduceIte, Int.reduceEq, Int.reduceLT, Int.reduceLE, Int.reduceNe, Nat.reduceEqDiff, Nat.reduceLT, Nat.reduceAdd, Nat.reduceMul, Nat.reduceSub, Nat.reduceLeDiff, Int.reduceBEq, Int.reduceBNe, Nat.reduceBEq, Nat.reduceBNe, Int.reduceToNat]
  refine ints_spec _ _ _ _ _ (by rw [nts_len]; omega) (Rows.keeps IntP.mono hkr2 hiq2) hir2 _ ?_
  intro b4 hb4
  have hb4' : b4 = true := hb4.2 (by rw [heq2])
  subst hb4'
  simp only [zz, env0, aPure, aRead, aNew, aEff, aval, avals, aparts, aopt, wantedA, binA, isShift, binI, fillA, single, aRes, splice, mkv, unA, binS, sameAt, reduceCtorEq, reduceIte, Int.reduceEq, Int.reduceLT, Int.reduceLE, Int.reduceNe, Nat.reduceEqDiff, Nat.reduceLT, Nat.reduceAdd, Nat.reduceMul, Nat.reduceSub, Nat.reduceLeDiff, Int.reduceBEq, Int.reduceBNe, Nat.reduceBEq, Nat.reduceBNe, Int.reduceToNat]
end Go.Proofs.Ytnblhjpbpobglaa

/- LangRows: the statement, from the law's run. -/
set_option maxRecDepth 100000
set_option linter.unusedVariables false
namespace Go.Proofs.Ytnblhjpbpobglaa
open Go.Am Go.ChangeShapes Go.WideShapes Go.ChangeAt Go.RowKit

theorem own : ownKnob Try.prog.godebug = none := by kernel_rfl
theorem laidOut : laidOutB Try.prog = true := by kernel_rfl

theorem law_shapes : shapesArgs Try.prog 20 Try.f3.params.toList = some [.slice 9 ndShp, .slice 9 ndShp, .str, .int .u8] := by kernel_rfl

theorem law_all (H : AHeap) (avs : List AV) (h : FitsArgs H [.slice 9 ndShp, .slice 9 ndShp, .str, .int .u8] avs) : ∃ n H', aCall prog orc1 n 3 avs H = some (.bool true, H') := by
  simp only [FitsArgs] at h
  obtain ⟨a0, _, rfl, h0, a1, _, rfl, h1, a2, _, rfl, h2, a3, _, rfl, h3, rfl⟩ := h
  obtain ⟨l0, g0, k0⟩ := fits_nds h0
  obtain ⟨l1, g1, k1⟩ := fits_nds h1
  obtain ⟨s2, e2, k2⟩ := fits_str h2
  simp only [List.cons.injEq, and_true] at e2
  subst e2
  simp only [Fits] at h3
  obtain ⟨n3, e3, u3, v3⟩ := h3
  simp only [List.cons.injEq, and_true] at e3
  subst e3
  have u3 : (0 : Int) ≤ n3 := u3
  have v3 : n3 ≤ 255 := v3
  obtain ⟨m, r, HF, h, rfl⟩ := rows_run H a0 a1 l0 l1 s2 n3 g0 g1 k0 k1 k2 ⟨u3, v3⟩
  exact ⟨m, HF, h⟩

theorem law_lifted (os : Os) (started : os.Started) (H : Type) (enc : TypeId × Value → H) :
    ReturnsInHanded {} Try.checked os 3 .any (Rows.langRowsSpec.pre6 enc Try.prog Try.f3 Rows.langRowsRow.domain false) (Rows.langRowsSpec.post enc Try.prog Try.f3 false Rows.langRowsRow.fresh Rows.langRowsRow.handsOn Rows.langRowsRow.again) := by
  refine returnsInHanded_of_change (C := Try.checked) own started (by kernel_rfl) Try.func3
    (ChangeSpec.witness6 (enc := enc) (C := Try.checked) false ⟨#[], #[.slice none 0 0, .slice none 0 0, .string ⟨#[]⟩, .int .u8 0], []⟩ 8 (by kernel_rfl) (by kernel_rfl) (by kernel_rfl) (by kernel_rfl)) ?_
  intro W base args ds gs before hval hW _ _
  exact law_calls laidOut sound law_shapes (by
      have : Try.f3.params.toList.all (fun t => Try.prog.readableRec t && decide (t < Try.prog.types.size)) = true := by kernel_rfl
      intro t ht
      have := List.all_eq_true.1 this t ht
      simpa using this) rfl (tb := 4) (by kernel_rfl) (by kernel_rfl) (fun ds hds => by
      match ds, hds with
      | [d0, d1, d2, d3], _ => rfl) hval hW (fun H avs hF => law_all H avs hF)

theorem law_row : Rows.LangRowsSaid :=
  OpenClaim.holds_of_wide 3 Try.f3 rfl rfl rfl rfl rfl rfl rfl ⟨rfl, rfl, rfl, rfl, rfl⟩ rfl rfl rfl rfl rfl (by kernel_rfl) Try.func3 (by kernel_rfl)
    (of_decide_eq_true (by kernel_rfl)) (by unfold Func.isWrapper; first | (rw [if_pos (by decide +kernel)]; kernel_rfl) | (rw [if_neg (by decide +kernel)]; exact ⟨rfl, rfl⟩))
    (fun os started H enc _ => law_lifted os started H enc)
end Go.Proofs.Ytnblhjpbpobglaa
