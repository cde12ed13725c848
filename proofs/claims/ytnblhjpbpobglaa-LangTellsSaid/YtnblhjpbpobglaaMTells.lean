/- The law's run, and the statement. -/
import Derived.Test.YtnblhjpbpobglaaM5
import Derived.Test.YtnblhjpbpobglaaRows
import Derived.Test.YtnblhjpbpobglaaM2

/- LangTells: the law's run. -/
set_option maxRecDepth 100000
set_option linter.unusedSimpArgs false
namespace Go.Proofs.Ytnblhjpbpobglaa
open Go.Am

theorem tells_run (H : AHeap) (v : AV) (l : List Nd) (w : List UInt8) (f : Int) (hN : Nds H v l) (hwl : w.length ≤ maxLen) :
    WF P0 5 [v, .str w, .int .i64 f] H (fun r _ => r = .bool true) := by
  have hml : maxLen = 9223372036854775807 := rfl
  refine zWF rfl rfl rfl ?_
  simp only [a5, zz, env0, aPure, aRead, aNew, aEff, aval, avals, aparts, aopt, wantedA, binA, isShift, binI, fillA, single, aRes, splice, mkv, unA, binS, sameAt, reduceCtorEq, reduceIte, Int.reduceEq, Int.reduceLT, Int.reduceLE, Int.reduceNe, Nat.reduceEqDiff, Nat.reduceLT, Nat.reduceAdd, Nat.reduceMul, Nat.reduceSub, Nat.reduceLeDiff, Int.reduceBEq, Int.reduceBNe, Nat.reduceBEq, Nat.reduceBNe, Int.reduceToNat]
  refine shown_sp _ _ ?_
  simp only [zz, env0, aPure, aRead, aNew, aEff, aval, avals, aparts, aopt, wantedA, binA, isShift, binI, fillA, single, aRes, splice, mkv, unA, binS, sameAt, reduceCtorEq, reduceIte, Int.reduceEq, Int.reduceLT, Int.reduceLE, Int.reduceNe, Nat.reduceEqDiff, Nat.reduceLT, Nat.reduceAdd, Nat.reduceMul, Nat.reduceSub, Nat.reduceLeDiff, Int.reduceBEq, Int.reduceBNe, Nat.reduceBEq, Nat.reduceBNe, Int.reduceToNat]
  refine few_spec _ _ l hN _ ?_
  intro vx hx
  simp only [zz, env0, aPure, aRead, aNew, aEff, aval, avals, aparts, aopt, wantedA, binA, isShift, binI, fillA, single, aRes, splice, mkv, unA, binS, sameAt, reduceCtorEq, reduceIte, Int.reduceEq, Int.reduceLT, Int.reduceLE, Int.reduceNe, Nat.reduceEqDiff, Nat.reduceLT, Nat.reduceAdd, Nat.reduceMul, Nat.reduceSub, Nat.reduceLeDiff, Int.reduceBEq, Int.reduceBNe, Nat.reduceBEq, Nat.reduceBNe, Int.reduceToNat]
  refine text_spec _ _ _ (by omega) ?_
  generalize hy : w.take 20 = y
  have hyl : y.length ≤ 1000000 := by rw [← hy, List.length_take]; omega
  generalize hlx : l.take 60 = x at hx
  have hxl : x.length ≤ 60 := by rw [← hlx, List.length_take]; omega
  simp only [zz, env0, aPure, aRead, aNew, aEff, aval, avals, aparts, aopt, wantedA, binA, isShift, binI, fillA, single, aRes, splice, mkv, unA, binS, sameAt, reduceCtorEq, reduceIte, Int.reduceEq, Int.reduceLT, Int.reduceLE, Int.reduceNe, Nat.reduceEqDiff, Nat.reduceLT, Nat.reduceAdd, Nat.reduceMul, Nat.reduceSub, Nat.reduceLeDiff, Int.reduceBEq, Int.reduceBNe, Nat.reduceBEq, Nat.reduceBNe, Int.reduceToNat]
  refine light_spec _ _ x hx hxl _ ?_
  intro b H1 hk1
  cases b with
  | false => simp only [zz, env0, aPure, aRead, aNew, aEff, aval, avals, aparts, aopt, wantedA, binA, isShift, binI, fillA, single, aRes, splice, mkv, unA, binS, sameAt, reduceCtorEq, reduceIte, Int.reduceEq, Int.reduceLT, Int.reduceLE, Int.reduceNe, Nat.reduceEqDiff, Nat.reduceLT, Nat.reduceAdd, Nat.reduceMul, Nat.reduceSub, Nat.reduceLeDiff, Int.reduceBEq, Int.reduceBNe, Nat.reduceBEq, Nat.reduceBNe, Int.reduceToNat]
  | true =>
  simp only [zz, env0, aPure, aRead, aNew, aEff, aval, avals, aparts, aopt, wantedA, binA, isShift, binI, fillA, single, aRes, splice, mkv, unA, binS, sameAt, reduceCtorEq, reduceIte, Int.reduceEq, Int.reduceLT, Int.reduceLE, Int.reduceNe, Nat.reduceEqDiff, Nat.reduceLT, Nat.reduceAdd, Nat.reduceMul, Nat.reduceSub, Nat.reduceLeDiff, Int.reduceBEq, Int.reduceBNe, Nat.reduceBEq, Nat.reduceBNe, Int.reduceToNat]
  refine Longest_spec _ _ x y f (Rows.keeps NdP.mono hk1 hx) (by omega) hyl _ ?_
  intro n ok H2 ms2 hk2 hE2 hL2
  have hk12 := hk1.trans hk2
  simp only [zz, env0, aPure, aRead, aNew, aEff, aval, avals, aparts, aopt, wantedA, binA, isShift, binI, fillA, single, aRes, splice, mkv, unA, binS, sameAt, reduceCtorEq, reduceIte, Int.reduceEq, Int.reduceLT, Int.reduceLE, Int.reduceNe, Nat.reduceEqDiff, Nat.reduceLT, Nat.reduceAdd, Nat.reduceMul, Nat.reduceSub, Nat.reduceLeDiff, Int.reduceBEq, Int.reduceBNe, Nat.reduceBEq, Nat.reduceBNe, Int.reduceToNat]
  refine rLongest_spec _ _ x y f (Rows.keeps NdP.mono hk12 hx) (by omega) hyl _ ?_
  intro m is H3 ms3 hk3 hE3 hL3
  have hk13 := hk12.trans hk3
  have hms := ends_uniq hE2 hE3
  subst hms
  obtain ⟨rfl, rfl⟩ := long_uniq hE2 hL2 hL3
  simp only [zz, env0, aPure, aRead, aNew, aEff, aval, avals, aparts, aopt, wantedA, binA, isShift, binI, fillA, single, aRes, splice, mkv, unA, binS, sameAt, reduceCtorEq, reduceIte, Int.reduceEq, Int.reduceLT, Int.reduceLE, Int.reduceNe, Nat.reduceEqDiff, Nat.reduceLT, Nat.reduceAdd, Nat.reduceMul, Nat.reduceSub, Nat.reduceLeDiff, Int.reduceBEq, Int.reduceBNe, Nat.reduceBEq, Nat.reduceBNe, Int.reduceToNat]
  refine Ends_spec _ _ x y f (Rows.keeps NdP.mono hk13 hx) (by omega) hyl _ ?_
  intro v4 H4 ms4 hk4 hi4 hE4
  have hk14 := hk13.trans hk4
  simp only [zz, env0, aPure, aRead, aNew, aEff, aval, avals, aparts, aopt, wantedA, binA, isShift, binI, fillA, single, aRes, splice, mkv, unA, binS, sameAt, reduceCtorEq, reduceIte, Int.reduceEq, Int.reduceLT, Int.reduceLE, Int.reduceNe, Nat.reduceEqDiff, Nat.reduceLT, Nat.reduceAdd, Nat.reduceMul, Nat.reduceSub, Nat.reduceLeDiff, Int.reduceBEq, Int.reduceBNe, Nat.reduceBEq, Nat.reduceBNe, Int.reduceToNat]
  refine rEnds_spec _ _ x y f (Rows.keeps NdP.mono hk14 hx) (by omega) hyl _ ?_
  intro v5 H5 ms5 hk5 hi5 hE5
  have hk15 := hk14.trans hk5
  have hms := ends_uniq hE4 hE5
  subst hms
  have hlen := hE4.1.len
  simp only [zz, env0, aPure, aRead, aNew, aEff, aval, avals, aparts, aopt, wantedA, binA, isShift, binI, fillA, single, aRes, splice, mkv, unA, binS, sameAt, reduceCtorEq, reduceIte, Int.reduceEq, Int.reduceLT, Int.reduceLE, Int.reduceNe, Nat.reduceEqDiff, Nat.reduceLT, Nat.reduceAdd, Nat.reduceMul, Nat.reduceSub, Nat.reduceLeDiff, Int.reduceBEq, Int.reduceBNe, Nat.reduceBEq, Nat.reduceBNe, Int.reduceToNat]
  refine ints_spec _ _ _ _ _ (by rw [nts_len]; omega) (Rows.keeps IntP.mono hk5 hi4) hi5 _ ?_
  intro b6 hb6
  have hb6' : b6 = true := hb6.2 rfl
  subst hb6'
  simp only [zz, env0, aPure, aRead, aNew, aEff, aval, avals, aparts, aopt, wantedA, binA, isShift, binI, fillA, single, aRes, splice, mkv, unA, binS, sameAt, reduceCtorEq, reduceIte, Int.reduceEq, Int.reduceLT, Int.reduceLE, Int.reduceNe, Nat.reduceEqDiff, Nat.reduceLT, Nat.reduceAdd, Nat.reduceMul, Nat.reduceSub, Nat.reduceLeDiff, Int.reduceBEq, Int.reduceBNe, Nat.reduceBEq, Nat.reduceBNe, Int.reduceToNat]
  refine Is_spec _ _ x y (Rows.keeps NdP.mono hk15 hx) (by omega) hyl _ ?_
  intro b7 H7 hk7 hb7
  simp only [zz, env0, aPure, aRead, aNew, aEff, aval, avals, aparts, aopt, wantedA, binA, isShift, binI, fillA, single, aRes, splice, mkv, unA, binS, sameAt, reduceCtorEq, reduceIte, Int.reduceEq, Int.reduceLT, Int.reduceLE, Int.reduceNe, Nat.reduceEqDiff, Nat.reduceLT, Nat.reduceAdd, Nat.reduceMul, Nat.reduceSub, Nat.reduceLeDiff, Int.reduceBEq, Int.reduceBNe, Nat.reduceBEq, Nat.reduceBNe, Int.reduceToNat]
  refine rIs_spec _ _ x y (Rows.keeps NdP.mono (hk15.trans hk7) hx) (by omega) hyl _ ?_
  intro b8 H8 hk8 hb8
  have : b7 = b8 := by cases b7 <;> cases b8 <;> simp_all
  subst this
  have e1 : (b7 == b7) = true := by simp
  have e2 : (n == n) = true := by simp
  have e3 : (ok == ok) = true := by simp
  simp only [e1, e2, e3, zz, env0, aPure, aRead, aNew, aEff, aval, avals, aparts, aopt, wantedA, binA, isShift, binI, fillA, single, aRes, splice, mkv, unA, binS, sameAt, reduceCtorEq, reduceIte, Int.reduceEq, Int.reduceLT, Int.reduceLE, Int.reduceNe, Nat.reduceEqDiff, Nat.reduceLT, Nat.reduceAdd, Nat.reduceMul, Nat.reduceSub, Nat.reduceLeDiff, Int.reduceBEq, Int.reduceBNe, Nat.reduceBEq, Nat.reduceBNe, Int.reduceToNat]
end Go.Proofs.Ytnblhjpbpobglaa

/- LangTells: the statement, from the law's run. -/
set_option maxRecDepth 100000
namespace Go.Proofs.Ytnblhjpbpobglaa
open Go.Am Go.ChangeShapes Go.WideShapes Go.ChangeAt Go.RowKit

theorem own : ownKnob Try.prog.godebug = none := by kernel_rfl
theorem laidOut : laidOutB Try.prog = true := by kernel_rfl

theorem tells_shapes : shapesArgs Try.prog 20 Try.f5.params.toList = some [.slice 9 ndShp, .str, .int .i64] := by kernel_rfl

theorem tells_all (H : AHeap) (avs : List AV) (h : FitsArgs H [.slice 9 ndShp, .str, .int .i64] avs) : ∃ n H', aCall prog orc1 n 5 avs H = some (.bool true, H') := by
  simp only [FitsArgs] at h
  obtain ⟨a, _, rfl, h1, a2, _, rfl, h2, a3, _, rfl, h3, rfl⟩ := h
  obtain ⟨l, hl, _⟩ := fits_nds h1
  obtain ⟨s, e, hs⟩ := fits_str h2
  simp only [List.cons.injEq, and_true] at e
  subst e
  obtain ⟨n, e, _⟩ := fits_i64 h3
  simp only [List.cons.injEq, and_true] at e
  subst e
  obtain ⟨m, r, HF, h, rfl⟩ := tells_run H a l s n hl hs
  exact ⟨m, HF, h⟩

theorem tells_lifted (os : Os) (started : os.Started) (H : Type) (enc : TypeId × Value → H) :
    ReturnsInHanded {} Try.checked os 5 .any (Rows.langTellsSpec.pre6 enc Try.prog Try.f5 Rows.langTellsRow.domain false) (Rows.langTellsSpec.post enc Try.prog Try.f5 false Rows.langTellsRow.fresh Rows.langTellsRow.handsOn Rows.langTellsRow.again) := by
  refine returnsInHanded_of_change (C := Try.checked) own started (by kernel_rfl) Try.func5
    (ChangeSpec.witness6 (enc := enc) (C := Try.checked) false ⟨#[], #[.slice none 0 0, .string ⟨#[]⟩, .int .i64 0], []⟩ 8 (by kernel_rfl) (by kernel_rfl) (by kernel_rfl) (by kernel_rfl)) ?_
  intro W base args ds gs before hval hW _ _
  exact law_calls laidOut sound tells_shapes (by
      have : Try.f5.params.toList.all (fun t => Try.prog.readableRec t && decide (t < Try.prog.types.size)) = true := by kernel_rfl
      intro t ht
      have := List.all_eq_true.1 this t ht
      simpa using this) rfl (tb := 4) (by kernel_rfl) (by kernel_rfl) (fun ds hds => by
      match ds, hds with
      | [d1, d2, d3], _ => rfl) hval hW (fun H avs hF => tells_all H avs hF)

theorem tells_row : Rows.LangTellsSaid :=
  OpenClaim.holds_of_wide 5 Try.f5 rfl rfl rfl rfl rfl rfl rfl ⟨rfl, rfl, rfl, rfl, rfl⟩ rfl rfl rfl rfl rfl (by kernel_rfl) Try.func5 (by kernel_rfl)
    (of_decide_eq_true (by kernel_rfl)) (by unfold Func.isWrapper; first | (rw [if_pos (by decide +kernel)]; kernel_rfl) | (rw [if_neg (by decide +kernel)]; exact ⟨rfl, rfl⟩))
    (fun os started H enc _ => tells_lifted os started H enc)
end Go.Proofs.Ytnblhjpbpobglaa
