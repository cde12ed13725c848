/- lang: times. -/
import Derived.Test.YtnblhjpbpobglaaSL
set_option maxRecDepth 100000
set_option linter.unusedSimpArgs false
namespace Go.Proofs.Ytnblhjpbpobglaa
open Go.Am

/-- The walk of a node is right. -/
def EndsAt (l : List Nd) (w : List UInt8) (v : AV) (a : Nat) : Prop := ∀ (H : AHeap) (vf : AV) (ns : List Nat) (K : AV → AHeap → Prop), Nds H v l → Ints H vf (nts ns) → Pls ns w.length →
  (∀ v' H' ms, Keeps H H' → Ints H' v' (nts ms) → Pls ms w.length → (∀ j, j ∈ ms ↔ ∃ i, i ∈ ns ∧ den l w a i j) → K v' H') → WF P0 31 [.agg [v, .str w], .int .i64 a, vf] H K

theorem times_spec {l : List Nd} {w : List UInt8} {v : AV} {k0 : Nat} (ih : EndsAt l w v k0) (hw : w.length ≤ 1000000) (H : AHeap) (kv vf : AV) (n : Nd) (ns : List Nat) (hN : Nds H v l) (_hvn : v.one = true ∧ v.cells = [v] ∧ v.isJunk = false)
    (hkv : Ints H kv n.kids) (hk0 : n.kids = [(k0 : Int)]) (hlo : 0 ≤ n.lo ∧ n.lo ≤ 4096) (hhi : n.hi = -1 ∨ 1 ≤ n.hi ∧ n.lo ≤ n.hi ∧ n.hi ≤ 4096) (hf : Ints H vf (nts ns)) (hp : Pls ns w.length) (K : AV → AHeap → Prop)
    (hK : ∀ v' H' ms, Keeps H H' → Ints H' v' (nts ms) → Pls ms w.length → (∀ j, j ∈ ms ↔ ∃ i, i ∈ ns ∧ ∃ c : Nat, n.lo ≤ c ∧ (n.hi = -1 ∨ (c : Int) ≤ n.hi) ∧ iterN (den l w k0) c i j) → K v' H') :
    WF P0 44 [.agg [v, .str w], .agg (ndRow n kv), vf] H K := by
  obtain ⟨lo, hlo'⟩ : ∃ lo : Nat, n.lo = lo := ⟨n.lo.toNat, by omega⟩
  have hS : ∀ c j, (∃ i, i ∈ ns ∧ iterN (den l w k0) c i j) → j ≤ w.length := fun c j ⟨i, h1, h2⟩ => (iterN_le (den_le l w k0) c i j h2).2 (hp.2 i h1)
  refine zWF rfl rfl rfl ?_
  simp only [a44, ndRow, hlo', zz, env0, aPure, aRead, aNew, aEff, aval, avals, aparts, aopt, wantedA, binA, isShift, binI, fillA, single, aRes, splice, mkv, unA, binS, sameAt, reduceCtorEq, reduceIte, Int.reduceEq, Int.reduceLT, Int.reduceLE, Int.reduceNe, Nat.reduceEqDiff, Nat.reduceLT, Nat.reduceAdd, Nat.reduceMul, Nat.reduceSub, Nat.reduceLeDiff, Int.reduceBEq, Int.reduceBNe, Nat.reduceBEq, Nat.reduceBNe, Int.reduceToNat]
  generalize hH2 : H ++ [some (Blk.cells 2 true [v, AV.str w])] ++ [some (Blk.cells 9 true [AV.int IntKind.u8 n.op, AV.int IntKind.u64 n.s0, AV.int IntKind.u64 n.s1, AV.int IntKind.u64 n.s2, AV.int IntKind.u64 n.s3, kv, AV.int IntKind.i64 lo, AV.int IntKind.i64 n.hi, AV.str n.name])] = H2
  have hk2 : Keeps H H2 := by rw [← hH2]; exact .p2 _ _ _
  generalize hnb : (H ++ [some (Blk.cells 2 true [v, AV.str w])]).length = nb
  have hbm : getB H2 H.length = some (Blk.cells 2 true [v, AV.str w]) := by rw [← hH2]; exact gb_push _ (gb_new _ _)
  have hbn : getB H2 nb = some (Blk.cells 9 true [AV.int IntKind.u8 n.op, AV.int IntKind.u64 n.s0, AV.int IntKind.u64 n.s1, AV.int IntKind.u64 n.s2, AV.int IntKind.u64 n.s3, kv, AV.int IntKind.i64 lo, AV.int IntKind.i64 n.hi, AV.str n.name]) := by
    rw [← hH2, ← hnb]; exact gb_new _ _
  have hkx : n.kids[0]? = some (k0 : Int) := by rw [hk0]; rfl
  obtain ⟨ik, ok, rfl, hld⟩ := hkv.int hkx
  have hkl : n.kids.length = 1 := by rw [hk0]; rfl
  rw [hkl]
  rw [Nat.add_zero] at hld
  -- facts at any later heap
  have fm : ∀ H', Keeps H2 H' → loadA H' H.length 0 2 = some [v, .str w] := fun H' hk => load_at (hk.get hbm) (by simp)
  have f5 : ∀ H', Keeps H2 H' → loadA H' nb 5 1 = some [.sl ik ok n.kids.length] := fun H' hk => load_one (hk.get hbn) rfl
  have f7 : ∀ H', Keeps H2 H' → loadA H' nb 7 1 = some [.int .i64 n.hi] := fun H' hk => load_one (hk.get hbn) rfl
  have f6 : ∀ H', Keeps H2 H' → loadA H' nb 6 1 = some [.int .i64 lo] := fun H' hk => load_one (hk.get hbn) rfl
  have fk : ∀ H', Keeps H2 H' → loadA H' ik ok 1 = some [.int .i64 k0] := fun H' hk => (hk2.trans hk).load hld
  rw [hkl] at f5
  refine WC.mono (K := fun e env H' => e = .exit 0 ∧ ∃ vf' ms a6 a11 a12 a13, Keeps H2 H' ∧ Ints H' vf' (nts ms) ∧ Pls ms w.length ∧ (∀ j, j ∈ ms ↔ ∃ i, i ∈ ns ∧ iterN (den l w k0) lo i j) ∧
      env = [.agg [v, .str w], .agg (ndRow n (.sl ik ok 1)), vf', .ptr H.length 0, .ptr nb 0, .nilsl, a6, .junk, .junk, .junk, .int .i64 lo, a11, a12, a13, .junk, .junk]) ?_ ?_
  · refine WCL (fun r env H' => ∃ (c : Nat) (vf' : AV) (ms : List Nat) (a6 a12 a13 : AV), c ≤ lo ∧ r = lo - c ∧ Keeps H2 H' ∧ Ints H' vf' (nts ms) ∧ Pls ms w.length ∧ (∀ j, j ∈ ms ↔ ∃ i, i ∈ ns ∧ iterN (den l w k0) c i j) ∧
        env = [.agg [v, .str w], .agg (ndRow n (.sl ik ok 1)), vf', .ptr H.length 0, .ptr nb 0, .nilsl, a6, .junk, .junk, .junk, .int .i64 lo, .int .i64 c, a12, a13, .junk, .junk]) (n := lo)
      ⟨0, vf, ns, _, _, _, Nat.zero_le _, rfl, .refl _, Rows.keeps IntP.mono hk2 hf, hp, fun j => by simp [iterN], by rw [ndRow, hlo']; rfl⟩ ?_
    rintro r env H' ⟨c, vf', ms, a6, a12, a13, hc, rfl, hk, hi, hpm, hden, rfl⟩
    simp only [zz, env0, aPure, aRead, aNew, aEff, aval, avals, aparts, aopt, wantedA, binA, isShift, binI, fillA, single, aRes, splice, mkv, unA, binS, sameAt, reduceCtorEq, reduceIte, Int.reduceEq, Int.reduceLT, Int.reduceLE, Int.reduceNe, Nat.reduceEqDiff, Nat.reduceLT, Nat.reduceAdd, Nat.reduceMul, Nat.reduceSub, Nat.reduceLeDiff, Int.reduceBEq, Int.reduceBNe, Nat.reduceBEq, Nat.reduceBNe, Int.reduceToNat]
    refine onB_of (fun hlt => ?_) (fun hlt => ?_)
    · have hlt : c < lo := by simpa using hlt
      have g1 := fm _ hk
      have g2 := f5 _ hk
      have g3 := fk _ hk
      simp only [g1, g2, g3, zz, env0, aPure, aRead, aNew, aEff, aval, avals, aparts, aopt, wantedA, binA, isShift, binI, fillA, single, aRes, splice, mkv, unA, binS, sameAt, reduceCtorEq, reduceIte, Int.reduceEq, Int.reduceLT, Int.reduceLE, Int.reduceNe, Nat.reduceEqDiff, Nat.reduceLT, Nat.reduceAdd, Nat.reduceMul, Nat.reduceSub, Nat.reduceLeDiff, Int.reduceBEq, Int.reduceBNe, Nat.reduceBEq, Nat.reduceBNe, Int.reduceToNat]
      refine ih _ _ ms _ (Rows.keeps NdP.mono (hk2.trans hk) hN) hi hpm ?_
      intro v2 H3 ms2 hk3 hi2 hp2 hd2
      simp only [zz, env0, aPure, aRead, aNew, aEff, aval, avals, aparts, aopt, wantedA, binA, isShift, binI, fillA, single, aRes, splice, mkv, unA, binS, sameAt, reduceCtorEq, reduceIte, Int.reduceEq, Int.reduceLT, Int.reduceLE, Int.reduceNe, Nat.reduceEqDiff, Nat.reduceLT, Nat.reduceAdd, Nat.reduceMul, Nat.reduceSub, Nat.reduceLeDiff, Int.reduceBEq, Int.reduceBNe, Nat.reduceBEq, Nat.reduceBNe, Int.reduceToNat]
      have hms2 := hp2.len
      refine equal_spec _ _ _ (nts ms2) (nts ms) (by rw [nts_len]; omega) hi2 (Rows.keeps IntP.mono hk3 hi) _ ?_
      intro b hb
      have hd2' : ∀ j, j ∈ ms2 ↔ ∃ i, i ∈ ns ∧ iterN (den l w k0) (c + 1) i j := fun j => by
        rw [hd2 j]
        constructor
        · rintro ⟨m, h1, h2⟩
          obtain ⟨i, h3, h4⟩ := (hden m).1 h1
          exact ⟨i, h3, (iterN_snoc _ _ _ _).2 ⟨m, h4, h2⟩⟩
        · rintro ⟨i, h3, h4⟩
          obtain ⟨m, h5, h6⟩ := (iterN_snoc _ _ _ _).1 h4
          exact ⟨m, (hden m).2 ⟨i, h3, h5⟩, h6⟩
      cases b with
      | true =>
        simp only [zz, env0, aPure, aRead, aNew, aEff, aval, avals, aparts, aopt, wantedA, binA, isShift, binI, fillA, single, aRes, splice, mkv, unA, binS, sameAt, reduceCtorEq, reduceIte, Int.reduceEq, Int.reduceLT, Int.reduceLE, Int.reduceNe, Nat.reduceEqDiff, Nat.reduceLT, Nat.reduceAdd, Nat.reduceMul, Nat.reduceSub, Nat.reduceLeDiff, Int.reduceBEq, Int.reduceBNe, Nat.reduceBEq, Nat.reduceBNe, Int.reduceToNat]
        have e := nts_inj (hb.1 rfl)
        subst e
        refine ⟨vf', ms2, _, _, _, _, hk.trans hk3, Rows.keeps IntP.mono hk3 hi, hpm, fun j => ?_, rfl⟩
        have hfix : ∀ d j, (∃ i, i ∈ ns ∧ iterN (den l w k0) (c + d) i j) ↔ j ∈ ms2 := by
          intro d
          induction d with
          | zero => intro j; exact (hden j).symm
          | succ d ihd =>
            intro j
            rw [hd2 j]
            constructor
            · rintro ⟨i, h3, h4⟩
              obtain ⟨m, h5, h6⟩ := (iterN_snoc _ _ _ _).1 h4
              exact ⟨m, (ihd m).1 ⟨i, h3, h5⟩, h6⟩
            · rintro ⟨m, h1, h2⟩
              obtain ⟨i, h3, h4⟩ := (ihd m).2 h1
              exact ⟨i, h3, (iterN_snoc _ _ _ _).2 ⟨m, h4, h2⟩⟩
        have := hfix (lo - c) j
        rw [Nat.add_sub_cancel' (by omega)] at this
        exact this.symm
      | false =>
        have v2' : IntKind.i64.wrap ((c : Int) + 1) = ((c + 1 : Nat) : Int) := by rw [wrap_i64 (by omega) (by omega)]; rfl
        simp only [v2', zz, env0, aPure, aRead, aNew, aEff, aval, avals, aparts, aopt, wantedA, binA, isShift, binI, fillA, single, aRes, splice, mkv, unA, binS, sameAt, reduceCtorEq, reduceIte, Int.reduceEq, Int.reduceLT, Int.reduceLE, Int.reduceNe, Nat.reduceEqDiff, Nat.reduceLT, Nat.reduceAdd, Nat.reduceMul, Nat.reduceSub, Nat.reduceLeDiff, Int.reduceBEq, Int.reduceBNe, Nat.reduceBEq, Nat.reduceBNe, Int.reduceToNat]
        exact ⟨lo - (c + 1), by omega, c + 1, v2, ms2, _, _, _, by omega, rfl, hk.trans hk3, hi2, hp2, hd2', rfl⟩
    · have hce : c = lo := by simp at hlt; omega
      subst hce
      simp only [zz, env0, aPure, aRead, aNew, aEff, aval, avals, aparts, aopt, wantedA, binA, isShift, binI, fillA, single, aRes, splice, mkv, unA, binS, sameAt, reduceCtorEq, reduceIte, Int.reduceEq, Int.reduceLT, Int.reduceLE, Int.reduceNe, Nat.reduceEqDiff, Nat.reduceLT, Nat.reduceAdd, Nat.reduceMul, Nat.reduceSub, Nat.reduceLeDiff, Int.reduceBEq, Int.reduceBNe, Nat.reduceBEq, Nat.reduceBNe, Int.reduceToNat]
      exact ⟨vf', ms, _, _, _, _, hk, hi, hpm, hden, rfl⟩
  · rintro e env H' ⟨rfl, vf', ms, a6, a11, a12, a13, hk, hi, hpm, hden, rfl⟩
    have g6 := f6 _ hk
    simp only [g6, zz, env0, aPure, aRead, aNew, aEff, aval, avals, aparts, aopt, wantedA, binA, isShift, binI, fillA, single, aRes, splice, mkv, unA, binS, sameAt, reduceCtorEq, reduceIte, Int.reduceEq, Int.reduceLT, Int.reduceLE, Int.reduceNe, Nat.reduceEqDiff, Nat.reduceLT, Nat.reduceAdd, Nat.reduceMul, Nat.reduceSub, Nat.reduceLeDiff, Int.reduceBEq, Int.reduceBNe, Nat.reduceBEq, Nat.reduceBNe, Int.reduceToNat]
    refine WC.mono (K := fun e env H' => e = .exit 2 ∧ ∃ vf' vo os a8 a9 a6 a11 a12 a13 a14 a15, Keeps H2 H' ∧ Ints H' vo (nts os) ∧ Pls os w.length ∧ (∀ j, j ∈ os ↔ ∃ i, i ∈ ns ∧ ∃ c : Nat, n.lo ≤ c ∧ (n.hi = -1 ∨ (c : Int) ≤ n.hi) ∧ iterN (den l w k0) c i j) ∧
      env = [.agg [v, .str w], .agg (ndRow n (.sl ik ok 1)), vf', .ptr H.length 0, .ptr nb 0, .nilsl, a6, vo, a8, a9, .int .i64 lo, a11, a12, a13, a14, a15]) ?_ ?_
    · refine WCL (fun r env H' => ∃ (d : Nat) (vf' vo : AV) (fs os : List Nat) (a6 a9 a11 a12 a13 a14 a15 : AV), r = w.length + 2 - os.length ∧ (n.hi = -1 ∨ ((lo + d : Nat) : Int) ≤ n.hi) ∧ d + 1 ≤ os.length + 1 ∧ Keeps H2 H' ∧ Ints H' vf' (nts fs) ∧ Pls fs w.length ∧ Ints H' vo (nts os) ∧ Pls os w.length ∧
          (∀ j, j ∈ fs ↔ ∃ i, i ∈ ns ∧ iterN (den l w k0) (lo + d) i j) ∧ (∀ j, j ∈ os ↔ ∃ e, e ≤ d ∧ ∃ i, i ∈ ns ∧ iterN (den l w k0) (lo + e) i j) ∧
          env = [.agg [v, .str w], .agg (ndRow n (.sl ik ok 1)), vf', .ptr H.length 0, .ptr nb 0, .nilsl, a6, vo, .int .i64 ((lo + d : Nat) : Int), a9, .int .i64 lo, a11, a12, a13, a14, a15]) (n := w.length + 2 - ms.length)
        ⟨0, vf', vf', ms, ms, _, _, _, _, _, _, _, rfl, by omega, by omega, hk, hi, hpm, hi, hpm, hden, fun j => by rw [hden j]; simp, rfl⟩ ?_
      rintro r env H3 ⟨d, vf1, vo, fs, os, b6, b9, b11, b12, b13, b14, b15, rfl, hdh, hdl, hk3, hif, hpf, hio, hpo, hdf, hdo, rfl⟩
      have g7 := f7 _ hk3
      simp only [g7, zz, env0, aPure, aRead, aNew, aEff, aval, avals, aparts, aopt, wantedA, binA, isShift, binI, fillA, single, aRes, splice, mkv, unA, binS, sameAt, reduceCtorEq, reduceIte, Int.reduceEq, Int.reduceLT, Int.reduceLE, Int.reduceNe, Nat.reduceEqDiff, Nat.reduceLT, Nat.reduceAdd, Nat.reduceMul, Nat.reduceSub, Nat.reduceLeDiff, Int.reduceBEq, Int.reduceBNe, Nat.reduceBEq, Nat.reduceBNe, Int.reduceToNat]
      refine onB_of (fun hne => ?_) (fun heq => ?_)
      · have g1 := fm _ hk3
        have g2 := f5 _ hk3
        have g3 := fk _ hk3
        simp only [hne, g1, g2, g3, zz, env0, aPure, aRead, aNew, aEff, aval, avals, aparts, aopt, wantedA, binA, isShift, binI, fillA, single, aRes, splice, mkv, unA, binS, sameAt, reduceCtorEq, reduceIte, Int.reduceEq, Int.reduceLT, Int.reduceLE, Int.reduceNe, Nat.reduceEqDiff, Nat.reduceLT, Nat.reduceAdd, Nat.reduceMul, Nat.reduceSub, Nat.reduceLeDiff, Int.reduceBEq, Int.reduceBNe, Nat.reduceBEq, Nat.reduceBNe, Int.reduceToNat]
        refine ih _ _ fs _ (Rows.keeps NdP.mono (hk2.trans hk3) hN) hif hpf ?_
        intro v2 H4 fs2 hk4 hi2 hp2 hd2
        have hl1 := hp2.len
        have hl2 := hpo.len
        simp only [zz, env0, aPure, aRead, aNew, aEff, aval, avals, aparts, aopt, wantedA, binA, isShift, binI, fillA, single, aRes, splice, mkv, unA, binS, sameAt, reduceCtorEq, reduceIte, Int.reduceEq, Int.reduceLT, Int.reduceLE, Int.reduceNe, Nat.reduceEqDiff, Nat.reduceLT, Nat.reduceAdd, Nat.reduceMul, Nat.reduceSub, Nat.reduceLeDiff, Int.reduceBEq, Int.reduceBNe, Nat.reduceBEq, Nat.reduceBNe, Int.reduceToNat]
        refine merge_spec _ _ _ (nts os) (nts fs2) (Rows.keeps IntP.mono hk4 hio) hi2 (by rw [nts_len]; omega) (by rw [nts_len]; omega) _ ?_
        intro v3 H5 hk5 hw5
        rw [← mergeN_nts, nts_len] at hw5
        have hi5 : Ints H5 v3 (nts (mergeN os fs2)) := ints_of (by rw [nts_len]; exact hw5.row)
        have hlm := hi5.lenOf
        have hlo5 := hio.lenOf
        rw [nts_len] at hlm hlo5
        have hp5 : Pls (mergeN os fs2) w.length := ⟨mergeN_sorted _ _, fun x hx => by
          rcases (mergeN_mem _ _ _).1 hx with h | h
          · exact hpo.2 x h
          · exact hp2.2 x h⟩
        have hd2' : ∀ j, j ∈ fs2 ↔ ∃ i, i ∈ ns ∧ iterN (den l w k0) (lo + (d + 1)) i j := fun j => by
          rw [hd2 j]
          constructor
          · rintro ⟨m, h1, h2⟩
            obtain ⟨i, h3, h4⟩ := (hdf m).1 h1
            exact ⟨i, h3, (iterN_snoc _ _ _ _).2 ⟨m, h4, h2⟩⟩
          · rintro ⟨i, h3, h4⟩
            obtain ⟨m, h5, h6⟩ := (iterN_snoc _ _ _ _).1 h4
            exact ⟨m, (hdf m).2 ⟨i, h3, h5⟩, h6⟩
        have hdm : ∀ j, j ∈ mergeN os fs2 ↔ ∃ e, e ≤ d + 1 ∧ ∃ i, i ∈ ns ∧ iterN (den l w k0) (lo + e) i j := fun j => by
          rw [mergeN_mem, hdo j, hd2' j]
          constructor
          · rintro (⟨e, h1, h2⟩ | h2)
            · exact ⟨e, by omega, h2⟩
            · exact ⟨d + 1, Nat.le_refl _, h2⟩
          · rintro ⟨e, h1, h2⟩
            rcases Nat.lt_or_ge e (d + 1) with h | h
            · exact .inl ⟨e, by omega, h2⟩
            · have : e = d + 1 := by omega
              subst this; exact .inr h2
        simp only [hlm, hlo5, zz, env0, aPure, aRead, aNew, aEff, aval, avals, aparts, aopt, wantedA, binA, isShift, binI, fillA, single, aRes, splice, mkv, unA, binS, sameAt, reduceCtorEq, reduceIte, Int.reduceEq, Int.reduceLT, Int.reduceLE, Int.reduceNe, Nat.reduceEqDiff, Nat.reduceLT, Nat.reduceAdd, Nat.reduceMul, Nat.reduceSub, Nat.reduceLeDiff, Int.reduceBEq, Int.reduceBNe, Nat.reduceBEq, Nat.reduceBNe, Int.reduceToNat]
        refine onB_of (fun hsame => ?_) (fun hdiff => ?_)
        · have hll : (mergeN os fs2).length = os.length := by simp at hsame; omega
          simp only [zz, env0, aPure, aRead, aNew, aEff, aval, avals, aparts, aopt, wantedA, binA, isShift, binI, fillA, single, aRes, splice, mkv, unA, binS, sameAt, reduceCtorEq, reduceIte, Int.reduceEq, Int.reduceLT, Int.reduceLE, Int.reduceNe, Nat.reduceEqDiff, Nat.reduceLT, Nat.reduceAdd, Nat.reduceMul, Nat.reduceSub, Nat.reduceLeDiff, Int.reduceBEq, Int.reduceBNe, Nat.reduceBEq, Nat.reduceBNe, Int.reduceToNat]
          have hsub : os = mergeN os fs2 := sub_len hpo.1 (mergeN_sorted _ _) (fun x hx => (mergeN_mem _ _ _).2 (.inl hx)) (by omega)
          have hcl : ∀ e j, (∃ i, i ∈ ns ∧ iterN (den l w k0) (lo + e) i j) → j ∈ os := by
            intro e
            induction e with
            | zero => intro j h; exact (hdo j).2 ⟨0, by omega, h⟩
            | succ e ihe =>
              rintro j ⟨i, h3, h4⟩
              obtain ⟨m, h5, h6⟩ := (iterN_snoc _ _ _ _).1 h4
              obtain ⟨e', h7, i', h8, h9⟩ := (hdo m).1 (ihe m ⟨i, h3, h5⟩)
              rw [hsub]
              exact (hdm j).2 ⟨e' + 1, by omega, i', h8, (iterN_snoc _ _ _ _).2 ⟨m, h9, h6⟩⟩
          refine ⟨v2, vo, os, _, _, _, _, _, _, _, _, hk3.trans (hk4.trans hk5), Rows.keeps IntP.mono (hk4.trans hk5) hio, hpo, fun j => ?_, rfl⟩
          constructor
          · intro hj
            obtain ⟨e, h1, i, h2, h3⟩ := (hdo j).1 hj
            exact ⟨i, h2, lo + e, by omega, by rcases hdh with h | h <;> omega, h3⟩
          · rintro ⟨i, h1, c, h2, h3, h4⟩
            have : c = lo + (c - lo) := by omega
            rw [this] at h4
            exact hcl (c - lo) j ⟨i, h1, h4⟩
        · have hll : (mergeN os fs2).length ≠ os.length := by simp at hdiff; omega
          have hlen5 := hp5.len
          have hge : os.length ≤ (mergeN os fs2).length := by
            rcases Nat.lt_or_ge (mergeN os fs2).length os.length with h | h
            · exact absurd (congrArg List.length (sub_len hpo.1 (mergeN_sorted os fs2) (fun x hx => (mergeN_mem _ _ _).2 (.inl hx)) (by omega))) (by omega)
            · exact h
          have v2' : IntKind.i64.wrap (((lo + d : Nat) : Int) + 1) = ((lo + (d + 1) : Nat) : Int) := by rw [wrap_i64 (by omega) (by omega)]; omega
          simp only [v2', zz, env0, aPure, aRead, aNew, aEff, aval, avals, aparts, aopt, wantedA, binA, isShift, binI, fillA, single, aRes, splice, mkv, unA, binS, sameAt, reduceCtorEq, reduceIte, Int.reduceEq, Int.reduceLT, Int.reduceLE, Int.reduceNe, Nat.reduceEqDiff, Nat.reduceLT, Nat.reduceAdd, Nat.reduceMul, Nat.reduceSub, Nat.reduceLeDiff, Int.reduceBEq, Int.reduceBNe, Nat.reduceBEq, Nat.reduceBNe, Int.reduceToNat]
          have hne' : ((lo + d : Nat) : Int) ≠ n.hi := by simpa [bne_iff_ne] using hne
          exact ⟨w.length + 2 - (mergeN os fs2).length, by omega, d + 1, v2, v3, fs2, mergeN os fs2, _, _, _, _, _, _, _, rfl, by rcases hdh with h | h <;> omega, by omega, hk3.trans (hk4.trans hk5), Rows.keeps IntP.mono hk5 hi2, hp2, hi5, hp5, hd2', hdm, rfl⟩
      · have heq' : ((lo + d : Nat) : Int) = n.hi := by simpa [bne_iff_ne] using heq
        simp only [heq, zz, env0, aPure, aRead, aNew, aEff, aval, avals, aparts, aopt, wantedA, binA, isShift, binI, fillA, single, aRes, splice, mkv, unA, binS, sameAt, reduceCtorEq, reduceIte, Int.reduceEq, Int.reduceLT, Int.reduceLE, Int.reduceNe, Nat.reduceEqDiff, Nat.reduceLT, Nat.reduceAdd, Nat.reduceMul, Nat.reduceSub, Nat.reduceLeDiff, Int.reduceBEq, Int.reduceBNe, Nat.reduceBEq, Nat.reduceBNe, Int.reduceToNat]
        refine ⟨vf1, vo, os, _, _, _, _, _, _, _, _, hk3, hio, hpo, fun j => ?_, rfl⟩
        rw [hdo j]
        constructor
        · rintro ⟨e, h1, i, h2, h3⟩
          exact ⟨i, h2, lo + e, by omega, by omega, h3⟩
        · rintro ⟨i, h1, c, h2, h3, h4⟩
          have : c = lo + (c - lo) := by omega
          rw [this] at h4
          exact ⟨c - lo, by omega, i, h1, h4⟩
    · rintro e env H3 ⟨rfl, vf1, vo, os, a8, a9, b6, b11, b12, b13, b14, b15, hk3, hio, hpo, hdo, rfl⟩
      simp only [zz, env0, aPure, aRead, aNew, aEff, aval, avals, aparts, aopt, wantedA, binA, isShift, binI, fillA, single, aRes, splice, mkv, unA, binS, sameAt, reduceCtorEq, reduceIte, Int.reduceEq, Int.reduceLT, Int.reduceLE, Int.reduceNe, Nat.reduceEqDiff, Nat.reduceLT, Nat.reduceAdd, Nat.reduceMul, Nat.reduceSub, Nat.reduceLeDiff, Int.reduceBEq, Int.reduceBNe, Nat.reduceBEq, Nat.reduceBNe, Int.reduceToNat]
      exact hK _ _ os (hk2.trans hk3) hio hpo hdo
end Go.Proofs.Ytnblhjpbpobglaa
