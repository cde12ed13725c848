/- The law's run, and the statement. -/
import Derived.Test.YthpccdggbechmaaM4
import Derived.Test.YthpccdggbechmaaM2
import Derived.Test.YthpccdggbechmaaRows

/- GlushRights: the law's run. -/
set_option maxRecDepth 100000
set_option linter.unusedSimpArgs false
namespace Go.Am
abbrev pzShp : Shp := .struct [(4, setShp), (1, .int .i64), (1, .int .i64), (1, .int .i64), (1, .bool), (1, .slice 1 (.int .i64))]
abbrev glShp : Shp := .struct [(1, .slice 1 (.int .i64)), (1, .slice 9 pzShp)]
theorem fits_pz {H : AHeap} {cs : List AV} (hl : cs.length = 9) (h : Fits H pzShp cs) : ∃ p, PzP H p cs := by
  match cs, hl with
  | [a0, a1, a2, a3, a4, a5, a6, a7, a8], _ =>
    simp only [Fits, FitsAll, List.drop_succ_cons, List.drop_zero, List.take_succ_cons, List.take_zero] at h
    obtain ⟨_, h2, _, h3, _, h4, _, h5, _, h6, _, h7, _⟩ := h
    obtain ⟨s0, s1, s2, s3, e2, g0, g1, g2, g3⟩ := fits_set (H := H) (by simpa only [setShp, Fits] using h2)
    obtain ⟨lo, e4, l1⟩ := fits_i64 (H := H) (by simpa only [Fits] using h3)
    obtain ⟨hi, e5, l2⟩ := fits_i64 (H := H) (by simpa only [Fits] using h4)
    obtain ⟨ru, e6, l3⟩ := fits_i64 (H := H) (by simpa only [Fits] using h5)
    obtain ⟨b, e7⟩ := h6
    obtain ⟨xs, i1, i2, i3⟩ := fits_ints (H := H) (a := a8) (by simpa only [Fits] using h7)
    have ml := maxLen_lt
    simp at e2 e4 e5 e6 e7
    obtain ⟨rfl, rfl, rfl, rfl⟩ := e2
    subst e4 e5 e6 e7
    exact ⟨⟨s0, s1, s2, s3, lo, hi, ru, b, xs⟩, by show xs.length < _; omega, a8, rfl, i1⟩
theorem fits_gl {H : AHeap} {a : AV} (h : FitsArg H glShp a) : ∃ fv pv first ps, a = .agg [fv, pv] ∧ Ints H fv first ∧ Pzs H pv ps ∧ first.length < 9223372036854775808 ∧ ps.length < 9223372036854775808 := by
  obtain ⟨cs, rfl, h⟩ := h
  rw [Fits, FitsAll, FitsAll, FitsAll] at h
  obtain ⟨h0, h1, h2, h3, h4⟩ := h
  have ml := maxLen_lt
  match cs with
  | [] => simp at h0
  | [_] => simp at h2
  | fv :: pv :: r =>
    simp at h4
    subst h4
    simp only [List.drop_succ_cons, List.drop_zero, List.take_succ_cons, List.take_zero] at h1 h3
    obtain ⟨xs, i1, i2, i3⟩ := fits_ints (H := H) (a := fv) h1
    obtain ⟨ps, p1, p2⟩ := fits_rows (P := PzP) (sz := 9) (e := pzShp) (a := pv) (H := H) h3 (fun cs hl hf => fits_pz hl hf)
    exact ⟨fv, pv, xs, ps, rfl, i1, p1, by omega, by omega⟩
theorem rows_hi {α : Type} {sz : Nat} {P : AHeap → α → List AV → Prop} {H : AHeap} {v : AV} {xs : List α} (h : Rows sz P H v xs) {l : Nat} (hl : l ≤ xs.length) :
    ∃ v', sliceA sz v none (some (.int .i64 l)) none = some v' ∧ Rows sz P H v' (xs.take l) := by
  obtain ⟨rs, h1, h2, h3⟩ := h
  obtain ⟨v', e, hr, _⟩ := sliceA_hi h1 hl
  refine ⟨v', e, rs.take l, ?_, by simp [h2], fun k x hx => ?_⟩
  · have e2 : (rs.take l).flatten = rs.flatten.take (l * sz) := by
      have hrl : ∀ r, r ∈ rs → r.length = sz := fun r hr => by
        obtain ⟨k, hk⟩ := List.mem_iff_getElem?.1 hr
        have hkl : k < xs.length := by
          rcases Nat.lt_or_ge k rs.length with h | h
          · omega
          · rw [List.getElem?_eq_none h] at hk; simp at hk
        obtain ⟨r', h4, h5, _⟩ := h3 k _ (List.getElem?_eq_getElem hkl)
        rw [hk] at h4; simp only [Option.some.injEq] at h4; subst h4; exact h5
      clear h1 h2 h3 e hr hl
      induction rs generalizing l with
      | nil => simp
      | cons r rs ih =>
        cases l with
        | zero => simp
        | succ l =>
          have hr := hrl r (by simp)
          rw [List.take_succ_cons, List.flatten_cons, List.flatten_cons, ih (fun r h => hrl r (by simp [h])), Nat.add_mul, Nat.one_mul, Nat.add_comm, ← hr, List.take_length_add_append]
    rw [e2]
    simpa [Nat.min_eq_left hl] using hr
  · rw [List.getElem?_take] at hx
    split at hx
    · rename_i hk
      obtain ⟨r, a, b, c⟩ := h3 k x hx
      exact ⟨r, by rw [List.getElem?_take_of_lt hk]; exact a, b, c⟩
    · simp at hx
end Go.Am
namespace Go.Proofs.Ythpccdggbechmaa
open Go.Am

theorem shown9 (H : AHeap) (K : AV → AHeap → Prop) (hK : K (.bool true) H) : WF P0 8 [] H K := WF_orc rfl rfl hK

theorem rights_run (H : AHeap) (fv pv : AV) (first : List Int) (ps : List Pz) (hf : Ints H fv first) (hp : Pzs H pv ps) (h1 : first.length < 9223372036854775808) (h2 : ps.length < 9223372036854775808) :
    WF P0 7 [.agg [fv, pv]] H (fun r _ => r = .bool true) := by
  have hla := hp.lenOf
  refine zWF rfl rfl rfl ?_
  have hm : (if (600 : Int) < (ps.length : Int) then (600 : Int) else (ps.length : Int)) = ((min ps.length 600 : Nat) : Int) := by split <;> omega
  simp only [a7, hla, zz, env0, aPure, aRead, aNew, aEff, aval, avals, aparts, aopt, wantedA, binA, isShift, binI, fillA, single, aRes, splice, mkv, unA, binS, sameAt, reduceCtorEq, reduceIte, Int.reduceEq, Int.reduceLT, Int.reduceLE, Int.reduceNe, Nat.reduceEqDiff, Nat.reduceLT, Nat.reduceAdd, Nat.reduceMul, Nat.reduceSub, Nat.reduceLeDiff, Int.reduceBEq, Int.reduceBNe, Nat.reduceBEq, Nat.reduceBNe, Int.reduceToNat]
  obtain ⟨v', hs, hp'⟩ := rows_hi (Rows.keeps PzP.mono (.p1 _ (some (.cells 2 true [fv, pv]))) hp) (l := min ps.length 600) (Nat.min_le_left _ _)
  have hz2 : szOk (H ++ [some (Blk.cells 2 true [fv, pv])]) 9 pv = true := ((Rows.keeps PzP.mono (.p1 H (some (.cells 2 true [fv, pv]))) hp).choose_spec.1).szOk
  have hv1 := hp'.flat
  simp only [hm, hz2, hs, hv1.1, hv1.2.1, hv1.2.2.1, hf.flat.1, hf.flat.2.1, hf.flat.2.2.1, zz, env0, aPure, aRead, aNew, aEff, aval, avals, aparts, aopt, wantedA, binA, isShift, binI, fillA, single, aRes, splice, mkv, unA, binS, sameAt, reduceCtorEq, reduceIte, Int.reduceEq, Int.reduceLT, Int.reduceLE, Int.reduceNe, Nat.reduceEqDiff, Nat.reduceLT, Nat.reduceAdd, Nat.reduceMul, Nat.reduceSub, Nat.reduceLeDiff, Int.reduceBEq, Int.reduceBNe, Nat.reduceBEq, Nat.reduceBNe, Int.reduceToNat]
  generalize hH2 : H ++ [some (Blk.cells 2 true [fv, pv])] ++ [some (Blk.cells 2 true [fv, v'])] = H2
  have lb : loadA H2 (H ++ [some (Blk.cells 2 true [fv, pv])]).length 0 2 = some [fv, v'] := by rw [← hH2]; exact load_at (gb_new _ _) (by simp)
  generalize (H ++ [some (Blk.cells 2 true [fv, pv])]).length = bx at lb ⊢
  have hk2 : Keeps H H2 := by rw [← hH2]; exact .p2 _ _ _
  have hf2 := Rows.keeps IntP.mono hk2 hf
  have hp2 : Pzs H2 v' (ps.take (min ps.length 600)) := by rw [← hH2]; exact Rows.keeps PzP.mono (.p1 _ _) hp'
  have hl2 : (ps.take (min ps.length 600)).length < 9223372036854775808 := by rw [List.length_take]; omega
  refine WC_regionH ?_
  refine XH_call (ys := []) rfl rfl ?_
  refine shown9 _ _ ?_
  refine XH_step (v := .bool true) (H1 := H2) (fun m => by simp [aOp, AOp.cls, aPure, aval, snoc]) rfl rfl ?_
  refine XH_stepG (v := .agg [fv, v']) (H1 := H2) rfl (fun m => by simp [aOp, AOp.cls, aRead, aval, lb, mkv]) rfl rfl ?_
  refine XH_call (ys := [.agg [fv, v']]) rfl (by simp [avals, aval, snoc]) ?_
  refine gright_spec _ _ _ _ _ hf2 hp2 h1 hl2 _ ?_
  intro H3 hk3
  have lb3 := hk3.load lb
  refine XH_stepG (v := .agg [fv, v']) (H1 := H3) rfl (fun m => by simp [aOp, AOp.cls, aRead, aval, lb3, mkv]) rfl (by simp [aRead, aval, snoc, lb, mkv, AV.same_refl]) ?_
  refine XH_XO ?_
  simp only [zz, env0, aPure, aRead, aNew, aEff, aval, avals, aparts, aopt, wantedA, binA, isShift, binI, fillA, single, aRes, splice, mkv, unA, binS, sameAt, reduceCtorEq, reduceIte, Int.reduceEq, Int.reduceLT, Int.reduceLE, Int.reduceNe, Nat.reduceEqDiff, Nat.reduceLT, Nat.reduceAdd, Nat.reduceMul, Nat.reduceSub, Nat.reduceLeDiff, Int.reduceBEq, Int.reduceBNe, Nat.reduceBEq, Nat.reduceBNe, Int.reduceToNat]
  refine rright_spec _ _ _ _ _ (Rows.keeps IntP.mono hk3 hf2) (Rows.keeps PzP.mono hk3 hp2) h1 hl2 _ ?_
  intro H4 hk4
  have e : eqA [EqK.bool] false (.bool (rightB first (ps.take (min ps.length 600)))) (.bool (rightB first (ps.take (min ps.length 600)))) = some true := by rw [eqA_b]; simp
  simp only [e, zz, env0, aPure, aRead, aNew, aEff, aval, avals, aparts, aopt, wantedA, binA, isShift, binI, fillA, single, aRes, splice, mkv, unA, binS, sameAt, reduceCtorEq, reduceIte, Int.reduceEq, Int.reduceLT, Int.reduceLE, Int.reduceNe, Nat.reduceEqDiff, Nat.reduceLT, Nat.reduceAdd, Nat.reduceMul, Nat.reduceSub, Nat.reduceLeDiff, Int.reduceBEq, Int.reduceBNe, Nat.reduceBEq, Nat.reduceBNe, Int.reduceToNat]
end Go.Proofs.Ythpccdggbechmaa

/- GlushRights: the statement, from the law's run. -/
set_option maxRecDepth 100000
set_option linter.unusedVariables false
namespace Go.Proofs.Ythpccdggbechmaa
open Go.Am Go.ChangeShapes Go.WideShapes Go.ChangeAt Go.RowKit

theorem own : ownKnob Try.prog.godebug = none := by kernel_rfl
theorem laidOut : laidOutB Try.prog = true := by kernel_rfl

theorem law_shapes : shapesArgs Try.prog 20 Try.f7.params.toList = some [glShp] := by kernel_rfl

theorem law_all (H : AHeap) (avs : List AV) (h : FitsArgs H [glShp] avs) : ∃ n H', aCall prog orc1 n 7 avs H = some (.bool true, H') := by
  simp only [FitsArgs] at h
  obtain ⟨a0, _, rfl, h0, rfl⟩ := h
  obtain ⟨fv0, pv0, l0, m0, rfl, g0, g0a, k0, k0a⟩ := fits_gl h0
  obtain ⟨m, r, HF, h, rfl⟩ := rights_run H fv0 pv0 l0 m0 g0 g0a k0 k0a 
  exact ⟨m, HF, h⟩

theorem law_lifted (os : Os) (started : os.Started) (H : Type) (enc : TypeId × Value → H) :
    ReturnsInHanded {} Try.checked os 7 .any (Rows.glushRightsSpec.pre6 enc Try.prog Try.f7 Rows.glushRightsRow.domain false) (Rows.glushRightsSpec.post enc Try.prog Try.f7 false Rows.glushRightsRow.fresh Rows.glushRightsRow.handsOn Rows.glushRightsRow.again) := by
  refine returnsInHanded_of_change (C := Try.checked) own started (by kernel_rfl) Try.func7
    (ChangeSpec.witness6 (enc := enc) (C := Try.checked) false ⟨#[], #[.agg #[.slice none 0 0, .slice none 0 0]], []⟩ 8 (by kernel_rfl) (by kernel_rfl) (by kernel_rfl) (by kernel_rfl)) ?_
  intro W base args ds gs before hval hW _ _
  exact law_calls laidOut sound law_shapes (by
      have : Try.f7.params.toList.all (fun t => Try.prog.readableRec t && decide (t < Try.prog.types.size)) = true := by kernel_rfl
      intro t ht
      have := List.all_eq_true.1 this t ht
      simpa using this) rfl (tb := 4) (by kernel_rfl) (by kernel_rfl) (fun ds hds => by
      match ds, hds with
      | [d0], _ => rfl) hval hW (fun H avs hF => law_all H avs hF)

theorem law_row : Rows.GlushRightsSaid :=
  OpenClaim.holds_of_wide 7 Try.f7 rfl rfl rfl rfl rfl rfl rfl ⟨rfl, rfl, rfl, rfl, rfl⟩ rfl rfl rfl rfl rfl (by kernel_rfl) Try.func7 (by kernel_rfl)
    (of_decide_eq_true (by kernel_rfl)) (by unfold Func.isWrapper; first | (rw [if_pos (by decide +kernel)]; kernel_rfl) | (rw [if_neg (by decide +kernel)]; exact ⟨rfl, rfl⟩))
    (fun os started H enc _ => law_lifted os started H enc)
end Go.Proofs.Ythpccdggbechmaa
