/- The law's run, and the statement. -/
import Derived.Test.YtnblhjpbpobglaaM5
import Derived.Test.YtnblhjpbpobglaaRows
import Derived.Test.YtnblhjpbpobglaaM2

/- LangJoin: the law's run. -/
set_option maxRecDepth 100000
set_option linter.unusedSimpArgs false
namespace Go.Proofs.Ytnblhjpbpobglaa
open Go.Am

/-- Parts of a text in a row. -/
def hdC : ACode → ACode
  | .seq a _ => a
  | c => c
def tlC : ACode → ACode
  | .seq _ b => b
  | c => c
def tls : Nat → ACode → ACode
  | 0, c => c
  | n + 1, c => tls n (tlC c)

def J5 : ACode := tls 5 a8.body
def J6 : ACode := tls 6 a8.body
def J7 : ACode := tls 7 a8.body
def J8 : ACode := tls 8 a8.body
theorem join_cut : a8.body = .seq (hdC a8.body) (.seq (hdC (tls 1 a8.body)) (.seq (hdC (tls 2 a8.body)) (.seq (hdC (tls 3 a8.body)) (.seq (hdC (tls 4 a8.body)) J5)))) := rfl

theorem kids_small {m : List Nd} (hR : RightT m) (hl : m.length ≤ 30) : ∀ n, n ∈ m → n.kids.length ≤ 1000 ∧ ∀ x, x ∈ n.kids → 0 ≤ x ∧ x ≤ 1000 := fun n hn => by
  obtain ⟨k, hk⟩ := List.mem_iff_getElem?.1 hn
  obtain ⟨_, _, r, hr⟩ := hR
  obtain ⟨_, h2, h3⟩ := stk_kids hr hk
  have hkl : k < m.length := by
    rcases Nat.lt_or_ge k m.length with h | h
    · exact h
    · rw [List.getElem?_eq_none h] at hk; simp at hk
  exact ⟨by omega, fun x hx => by have := h3 x hx; omega⟩

def repN (lo hi : Int) : Nd := ⟨5, 0, 0, 0, 0, [], lo, hi, []⟩
theorem repN_ok {lo hi : Int} (h1 : i64In lo) (h2 : i64In hi) : (repN lo hi).Ok :=
  ⟨⟨by simp [repN], by simp [repN]⟩, zero_u64, zero_u64, zero_u64, zero_u64, fun x hx => by simp [repN] at hx, h1, h2, by simp [repN], by simp [repN]⟩
theorem repN_shaped {lo hi : Int} (d : Int) (h1 : 0 ≤ lo ∧ lo ≤ 4096) (h2 : hi = -1 ∨ 1 ≤ hi ∧ lo ≤ hi ∧ hi ≤ 4096) : Shaped { repN lo hi with kids := [d] } :=
  .inr (.inr (.inr (.inl ⟨rfl, ⟨rfl, rfl, rfl, rfl⟩, rfl, h1.1, h1.2, h2, rfl⟩)))

theorem is_bool {p q : Prop} {a b : Bool} (h1 : a = true ↔ p) (h2 : b = true ↔ q) (h : p ↔ q) : (a == b) = true := by
  have : a = b := by
    cases a <;> cases b <;> simp_all
  simp [this]

theorem join_run (H : AHeap) (va vb : AV) (l m : List Nd) (w : List UInt8) (at' : Int) (hl : Nds H va l) (hm : Nds H vb m) (hll : l.length ≤ maxLen) (hml : m.length ≤ maxLen) (hwl : w.length ≤ maxLen) (ha : 0 ≤ at' ∧ at' ≤ 255) :
    WF P0 8 [va, vb, .str w, .int .u8 at'] H (fun r _ => r = .bool true) := by
  have hmx : maxLen = 9223372036854775807 := rfl
  refine zWF rfl rfl rfl ?_
  rw [join_cut]
  simp only [a8, hdC, tls, tlC, zz, env0, aPure, aRead, aNew, aEff, aval, avals, aparts, aopt, wantedA, binA, isShift, binI, fillA, single, aRes, splice, mkv, unA, binS, sameAt, reduceCtorEq, reduceIte, Int.reduceEq, Int.reduceLT, Int.reduceLE, Int.reduceNe, Nat.reduceEqDiff, Nat.reduceLT, Nat.reduceAdd, Nat.reduceMul, Nat.reduceSub, Nat.reduceLeDiff, Int.reduceBEq, Int.reduceBNe, Nat.reduceBEq, Nat.reduceBNe, Int.reduceToNat]
  refine shown_sp _ _ ?_
  simp only [zz, env0, aPure, aRead, aNew, aEff, aval, avals, aparts, aopt, wantedA, binA, isShift, binI, fillA, single, aRes, splice, mkv, unA, binS, sameAt, reduceCtorEq, reduceIte, Int.reduceEq, Int.reduceLT, Int.reduceLE, Int.reduceNe, Nat.reduceEqDiff, Nat.reduceLT, Nat.reduceAdd, Nat.reduceMul, Nat.reduceSub, Nat.reduceLeDiff, Int.reduceBEq, Int.reduceBNe, Nat.reduceBEq, Nat.reduceBNe, Int.reduceToNat]
  refine text_spec _ _ _ (by omega) ?_
  generalize hy : w.take 20 = y
  have hyl : y.length ≤ 20 := by rw [← hy, List.length_take]; omega
  obtain ⟨f, hf⟩ : ∃ f : Nat, f = at'.toNat % (y.length + 1) := ⟨_, rfl⟩
  have hfy : f ≤ y.length := by rw [hf]; have := Nat.mod_lt at'.toNat (show 0 < y.length + 1 by omega); omega
  have c1 : IntKind.i64.wrap at' = at' := wrap_i64 (by omega) (by omega)
  have c2 : IntKind.i64.wrap ((y.length : Int) + 1) = ((y.length + 1 : Nat) : Int) := by rw [wrap_i64 (by omega) (by omega)]; rfl
  have c3 : at'.tmod ((y.length + 1 : Nat) : Int) = (f : Int) := by
    rw [hf]
    have : at' = (at'.toNat : Int) := by omega
    rw [this]; rfl
  have c4 : ((((y.length + 1 : Nat) : Int)) = 0) = False := by simp; omega
  simp only [c1, c2, c3, c4, zz, env0, aPure, aRead, aNew, aEff, aval, avals, aparts, aopt, wantedA, binA, isShift, binI, fillA, single, aRes, splice, mkv, unA, binS, sameAt, reduceCtorEq, reduceIte, Int.reduceEq, Int.reduceLT, Int.reduceLE, Int.reduceNe, Nat.reduceEqDiff, Nat.reduceLT, Nat.reduceAdd, Nat.reduceMul, Nat.reduceSub, Nat.reduceLeDiff, Int.reduceBEq, Int.reduceBNe, Nat.reduceBEq, Nat.reduceBNe, Int.reduceToNat]
  refine good_spec _ _ l hl (by omega) _ ?_
  intro b1 H1 hk1 hb1
  cases b1 with
  | false => simp only [zz, env0, aPure, aRead, aNew, aEff, aval, avals, aparts, aopt, wantedA, binA, isShift, binI, fillA, single, aRes, splice, mkv, unA, binS, sameAt, reduceCtorEq, reduceIte, Int.reduceEq, Int.reduceLT, Int.reduceLE, Int.reduceNe, Nat.reduceEqDiff, Nat.reduceLT, Nat.reduceAdd, Nat.reduceMul, Nat.reduceSub, Nat.reduceLeDiff, Int.reduceBEq, Int.reduceBNe, Nat.reduceBEq, Nat.reduceBNe, Int.reduceToNat]
  | true =>
  obtain ⟨hl30, hRl, hNl⟩ := hb1 rfl
  simp only [zz, env0, aPure, aRead, aNew, aEff, aval, avals, aparts, aopt, wantedA, binA, isShift, binI, fillA, single, aRes, splice, mkv, unA, binS, sameAt, reduceCtorEq, reduceIte, Int.reduceEq, Int.reduceLT, Int.reduceLE, Int.reduceNe, Nat.reduceEqDiff, Nat.reduceLT, Nat.reduceAdd, Nat.reduceMul, Nat.reduceSub, Nat.reduceLeDiff, Int.reduceBEq, Int.reduceBNe, Nat.reduceBEq, Nat.reduceBNe, Int.reduceToNat]
  refine good_spec _ _ m (Rows.keeps NdP.mono hk1 hm) (by omega) _ ?_
  intro b2 H2 hk2 hb2
  cases b2 with
  | false => simp only [zz, env0, aPure, aRead, aNew, aEff, aval, avals, aparts, aopt, wantedA, binA, isShift, binI, fillA, single, aRes, splice, mkv, unA, binS, sameAt, reduceCtorEq, reduceIte, Int.reduceEq, Int.reduceLT, Int.reduceLE, Int.reduceNe, Nat.reduceEqDiff, Nat.reduceLT, Nat.reduceAdd, Nat.reduceMul, Nat.reduceSub, Nat.reduceLeDiff, Int.reduceBEq, Int.reduceBNe, Nat.reduceBEq, Nat.reduceBNe, Int.reduceToNat]
  | true =>
  obtain ⟨hm30, hRm, hNm⟩ := hb2 rfl
  have hk12 := hk1.trans hk2
  have s1 := slice_to y f hfy
  have s2 := slice_from y f hfy
  have hlt : l.length < 9223372036854775808 := by omega
  have hmt : m.length < 9223372036854775808 := by omega
  have hyt : (y.take f).length ≤ 1000000 := by rw [List.length_take]; omega
  have hyd : (y.drop f).length ≤ 1000000 := by rw [List.length_drop]; omega
  have hyy : y.length ≤ 1000000 := by omega
  simp only [zz, env0, aPure, aRead, aNew, aEff, aval, avals, aparts, aopt, wantedA, binA, isShift, binI, fillA, single, aRes, splice, mkv, unA, binS, sameAt, reduceCtorEq, reduceIte, Int.reduceEq, Int.reduceLT, Int.reduceLE, Int.reduceNe, Nat.reduceEqDiff, Nat.reduceLT, Nat.reduceAdd, Nat.reduceMul, Nat.reduceSub, Nat.reduceLeDiff, Int.reduceBEq, Int.reduceBNe, Nat.reduceBEq, Nat.reduceBNe, Int.reduceToNat]
  rw [show J5 = .seq (hdC J5) J6 from rfl, zWC_seq]
  refine WC.mono (K := fun e env' H' => e = .normal ∧ Keeps H H' ∧ ∃ b, (b = true ↔ IsT l (y.take f) ∧ IsT m (y.drop f)) ∧ env' = [va, vb, .str w, .int .u8 at', .bool false, .bool true, .str y, .int .i64 f, .bool b, .junk, .junk, .bool false]) ?_ ?_
  · simp only [J5, hdC, tls, tlC, a8, s1, s2, zz, env0, aPure, aRead, aNew, aEff, aval, avals, aparts, aopt, wantedA, binA, isShift, binI, fillA, single, aRes, splice, mkv, unA, binS, sameAt, reduceCtorEq, reduceIte, Int.reduceEq, Int.reduceLT, Int.reduceLE, Int.reduceNe, Nat.reduceEqDiff, Nat.reduceLT, Nat.reduceAdd, Nat.reduceMul, Nat.reduceSub, Nat.reduceLeDiff, Int.reduceBEq, Int.reduceBNe, Nat.reduceBEq, Nat.reduceBNe, Int.reduceToNat]
    refine Is_spec _ _ l (y.take f) (Rows.keeps NdP.mono hk12 hl) hlt hyt _ ?_
    intro b1 H3 hk3 hb1
    cases b1 with
    | false =>
      simp only [s1, s2, zz, env0, aPure, aRead, aNew, aEff, aval, avals, aparts, aopt, wantedA, binA, isShift, binI, fillA, single, aRes, splice, mkv, unA, binS, sameAt, reduceCtorEq, reduceIte, Int.reduceEq, Int.reduceLT, Int.reduceLE, Int.reduceNe, Nat.reduceEqDiff, Nat.reduceLT, Nat.reduceAdd, Nat.reduceMul, Nat.reduceSub, Nat.reduceLeDiff, Int.reduceBEq, Int.reduceBNe, Nat.reduceBEq, Nat.reduceBNe, Int.reduceToNat]
      exact ⟨(hk12).trans hk3, false, by simp; intro h; have := hb1.2 h; simp at this, rfl⟩
    | true =>
      simp only [s1, s2, zz, env0, aPure, aRead, aNew, aEff, aval, avals, aparts, aopt, wantedA, binA, isShift, binI, fillA, single, aRes, splice, mkv, unA, binS, sameAt, reduceCtorEq, reduceIte, Int.reduceEq, Int.reduceLT, Int.reduceLE, Int.reduceNe, Nat.reduceEqDiff, Nat.reduceLT, Nat.reduceAdd, Nat.reduceMul, Nat.reduceSub, Nat.reduceLeDiff, Int.reduceBEq, Int.reduceBNe, Nat.reduceBEq, Nat.reduceBNe, Int.reduceToNat]
      refine Is_spec _ _ m (y.drop f) (Rows.keeps NdP.mono ((hk12).trans hk3) hm) hmt hyd _ ?_
      intro b2 H4 hk4 hb2
      simp only [zz, env0, aPure, aRead, aNew, aEff, aval, avals, aparts, aopt, wantedA, binA, isShift, binI, fillA, single, aRes, splice, mkv, unA, binS, sameAt, reduceCtorEq, reduceIte, Int.reduceEq, Int.reduceLT, Int.reduceLE, Int.reduceNe, Nat.reduceEqDiff, Nat.reduceLT, Nat.reduceAdd, Nat.reduceMul, Nat.reduceSub, Nat.reduceLeDiff, Int.reduceBEq, Int.reduceBNe, Nat.reduceBEq, Nat.reduceBNe, Int.reduceToNat]
      exact ⟨((hk12).trans hk3).trans hk4, b2, by rw [hb2]; simp [hb1.1 rfl], rfl⟩
  rintro e env' H5 ⟨rfl, hk5, both, hboth, rfl⟩
  simp only [zz, env0, aPure, aRead, aNew, aEff, aval, avals, aparts, aopt, wantedA, binA, isShift, binI, fillA, single, aRes, splice, mkv, unA, binS, sameAt, reduceCtorEq, reduceIte, Int.reduceEq, Int.reduceLT, Int.reduceLE, Int.reduceNe, Nat.reduceEqDiff, Nat.reduceLT, Nat.reduceAdd, Nat.reduceMul, Nat.reduceSub, Nat.reduceLeDiff, Int.reduceBEq, Int.reduceBNe, Nat.reduceBEq, Nat.reduceBNe, Int.reduceToNat]
  rw [show J6 = .seq (hdC J6) J7 from rfl, zWC_seq]
  refine WC.mono (K := fun e env' H' => e = .normal ∧ Keeps H H' ∧ ∃ b, (b = true ↔ IsT l (y.take f) ∧ IsT l (y.drop f)) ∧ env' = [va, vb, .str w, .int .u8 at', .bool false, .bool true, .str y, .int .i64 f, .bool both, .bool b, .junk, .bool false]) ?_ ?_
  · simp only [J6, hdC, tls, tlC, a8, s1, s2, zz, env0, aPure, aRead, aNew, aEff, aval, avals, aparts, aopt, wantedA, binA, isShift, binI, fillA, single, aRes, splice, mkv, unA, binS, sameAt, reduceCtorEq, reduceIte, Int.reduceEq, Int.reduceLT, Int.reduceLE, Int.reduceNe, Nat.reduceEqDiff, Nat.reduceLT, Nat.reduceAdd, Nat.reduceMul, Nat.reduceSub, Nat.reduceLeDiff, Int.reduceBEq, Int.reduceBNe, Nat.reduceBEq, Nat.reduceBNe, Int.reduceToNat]
    refine Is_spec _ _ l (y.take f) (Rows.keeps NdP.mono hk5 hl) hlt hyt _ ?_
    intro b1 H3 hk3 hb1
    cases b1 with
    | false =>
      simp only [s1, s2, zz, env0, aPure, aRead, aNew, aEff, aval, avals, aparts, aopt, wantedA, binA, isShift, binI, fillA, single, aRes, splice, mkv, unA, binS, sameAt, reduceCtorEq, reduceIte, Int.reduceEq, Int.reduceLT, Int.reduceLE, Int.reduceNe, Nat.reduceEqDiff, Nat.reduceLT, Nat.reduceAdd, Nat.reduceMul, Nat.reduceSub, Nat.reduceLeDiff, Int.reduceBEq, Int.reduceBNe, Nat.reduceBEq, Nat.reduceBNe, Int.reduceToNat]
      exact ⟨(hk5).trans hk3, false, by simp; intro h; have := hb1.2 h; simp at this, rfl⟩
    | true =>
      simp only [s1, s2, zz, env0, aPure, aRead, aNew, aEff, aval, avals, aparts, aopt, wantedA, binA, isShift, binI, fillA, single, aRes, splice, mkv, unA, binS, sameAt, reduceCtorEq, reduceIte, Int.reduceEq, Int.reduceLT, Int.reduceLE, Int.reduceNe, Nat.reduceEqDiff, Nat.reduceLT, Nat.reduceAdd, Nat.reduceMul, Nat.reduceSub, Nat.reduceLeDiff, Int.reduceBEq, Int.reduceBNe, Nat.reduceBEq, Nat.reduceBNe, Int.reduceToNat]
      refine Is_spec _ _ l (y.drop f) (Rows.keeps NdP.mono ((hk5).trans hk3) hl) hlt hyd _ ?_
      intro b2 H4 hk4 hb2
      simp only [zz, env0, aPure, aRead, aNew, aEff, aval, avals, aparts, aopt, wantedA, binA, isShift, binI, fillA, single, aRes, splice, mkv, unA, binS, sameAt, reduceCtorEq, reduceIte, Int.reduceEq, Int.reduceLT, Int.reduceLE, Int.reduceNe, Nat.reduceEqDiff, Nat.reduceLT, Nat.reduceAdd, Nat.reduceMul, Nat.reduceSub, Nat.reduceLeDiff, Int.reduceBEq, Int.reduceBNe, Nat.reduceBEq, Nat.reduceBNe, Int.reduceToNat]
      exact ⟨((hk5).trans hk3).trans hk4, b2, by rw [hb2]; simp [hb1.1 rfl], rfl⟩
  rintro e env' H6 ⟨rfl, hk6, twice, htwice, rfl⟩
  simp only [zz, env0, aPure, aRead, aNew, aEff, aval, avals, aparts, aopt, wantedA, binA, isShift, binI, fillA, single, aRes, splice, mkv, unA, binS, sameAt, reduceCtorEq, reduceIte, Int.reduceEq, Int.reduceLT, Int.reduceLE, Int.reduceNe, Nat.reduceEqDiff, Nat.reduceLT, Nat.reduceAdd, Nat.reduceMul, Nat.reduceSub, Nat.reduceLeDiff, Int.reduceBEq, Int.reduceBNe, Nat.reduceBEq, Nat.reduceBNe, Int.reduceToNat]
  rw [show J7 = .seq (hdC J7) J8 from rfl, zWC_seq]
  refine WC.mono (K := fun e env' H' => e = .normal ∧ Keeps H H' ∧ ∃ b, (b = true ↔ IsT l y ∨ IsT m y) ∧ env' = [va, vb, .str w, .int .u8 at', .bool false, .bool true, .str y, .int .i64 f, .bool both, .bool twice, .bool b, .bool false]) ?_ ?_
  · simp only [J7, hdC, tls, tlC, a8, zz, env0, aPure, aRead, aNew, aEff, aval, avals, aparts, aopt, wantedA, binA, isShift, binI, fillA, single, aRes, splice, mkv, unA, binS, sameAt, reduceCtorEq, reduceIte, Int.reduceEq, Int.reduceLT, Int.reduceLE, Int.reduceNe, Nat.reduceEqDiff, Nat.reduceLT, Nat.reduceAdd, Nat.reduceMul, Nat.reduceSub, Nat.reduceLeDiff, Int.reduceBEq, Int.reduceBNe, Nat.reduceBEq, Nat.reduceBNe, Int.reduceToNat]
    refine Is_spec _ _ l y (Rows.keeps NdP.mono hk6 hl) hlt hyy _ ?_
    intro b1 H3 hk3 hb1
    cases b1 with
    | true =>
      simp only [zz, env0, aPure, aRead, aNew, aEff, aval, avals, aparts, aopt, wantedA, binA, isShift, binI, fillA, single, aRes, splice, mkv, unA, binS, sameAt, reduceCtorEq, reduceIte, Int.reduceEq, Int.reduceLT, Int.reduceLE, Int.reduceNe, Nat.reduceEqDiff, Nat.reduceLT, Nat.reduceAdd, Nat.reduceMul, Nat.reduceSub, Nat.reduceLeDiff, Int.reduceBEq, Int.reduceBNe, Nat.reduceBEq, Nat.reduceBNe, Int.reduceToNat]
      exact ⟨hk6.trans hk3, true, by simp [hb1.1 rfl], rfl⟩
    | false =>
      simp only [zz, env0, aPure, aRead, aNew, aEff, aval, avals, aparts, aopt, wantedA, binA, isShift, binI, fillA, single, aRes, splice, mkv, unA, binS, sameAt, reduceCtorEq, reduceIte, Int.reduceEq, Int.reduceLT, Int.reduceLE, Int.reduceNe, Nat.reduceEqDiff, Nat.reduceLT, Nat.reduceAdd, Nat.reduceMul, Nat.reduceSub, Nat.reduceLeDiff, Int.reduceBEq, Int.reduceBNe, Nat.reduceBEq, Nat.reduceBNe, Int.reduceToNat]
      refine Is_spec _ _ m y (Rows.keeps NdP.mono (hk6.trans hk3) hm) hmt hyy _ ?_
      intro b2 H4 hk4 hb2
      simp only [zz, env0, aPure, aRead, aNew, aEff, aval, avals, aparts, aopt, wantedA, binA, isShift, binI, fillA, single, aRes, splice, mkv, unA, binS, sameAt, reduceCtorEq, reduceIte, Int.reduceEq, Int.reduceLT, Int.reduceLE, Int.reduceNe, Nat.reduceEqDiff, Nat.reduceLT, Nat.reduceAdd, Nat.reduceMul, Nat.reduceSub, Nat.reduceLeDiff, Int.reduceBEq, Int.reduceBNe, Nat.reduceBEq, Nat.reduceBNe, Int.reduceToNat]
      refine ⟨(hk6.trans hk3).trans hk4, b2, ?_, rfl⟩
      rw [hb2]
      have : ¬ IsT l y := fun h => by have := hb1.2 h; simp at this
      simp [this]
  rintro e env' H7 ⟨rfl, hk7, any, hany, rfl⟩
  have hkm := kids_small hRm hm30
  have hpl : ∀ op, (pairT op l m).length < 9223372036854775808 := fun op => by simp [pairT]; omega
  have hwl' : ∀ n, (wrapT l n).length < 9223372036854775808 := fun n => by simp [wrapT]; omega
  have hcat : both = true → IsT (pairT 3 l m) y := fun hb => by
    obtain ⟨h1, h2⟩ := hboth.1 hb
    obtain ⟨_, _, h3⟩ := (is_take hfy).1 h1
    obtain ⟨_, _, h4⟩ := (is_drop hfy).1 h2
    exact ⟨pair_right (.inl rfl) hRl hRm (by omega), pair_noref (by decide) hNl hNm, (cat_den y hRl hRm _ _).2 ⟨f, h3, h4⟩⟩
  have hrep : twice = true → IsT (wrapT l (repN 2 2)) y := fun hb => by
    obtain ⟨h1, h2⟩ := htwice.1 hb
    obtain ⟨_, _, h3⟩ := (is_take hfy).1 h1
    obtain ⟨_, _, h4⟩ := (is_drop hfy).1 h2
    exact ⟨wrap_right hRl (by omega) (repN_shaped _ (by decide) (by decide)), wrap_noref hNl (by simp [repN]), (rep_den y hRl rfl _ _).2 ⟨2, by simp [repN], by simp [repN], f, h3, y.length, h4, rfl⟩⟩
  have halt : IsT (pairT 4 l m) y ↔ IsT l y ∨ IsT m y := by
    unfold IsT
    rw [alt_den y hRl hRm]
    have a1 := pair_right (op := 4) (.inr rfl) hRl hRm (by omega)
    have a2 := pair_noref (op := 4) (by decide) hNl hNm
    simp [hRl, hNl, hRm, hNm, a1, a2]
  have hstar : IsT (wrapT l (repN 0 (-1))) [] :=
    ⟨wrap_right hRl (by omega) (repN_shaped _ (by decide) (by decide)), wrap_noref hNl (by simp [repN]), (rep_den [] hRl rfl _ _).2 ⟨0, by simp [repN], by simp [repN], rfl⟩⟩
  cases both with
  | true =>
    cases twice with
    | true =>
      simp only [J8, hdC, tls, tlC, a8, zz, env0, aPure, aRead, aNew, aEff, aval, avals, aparts, aopt, wantedA, binA, isShift, binI, fillA, single, aRes, splice, mkv, unA, binS, sameAt, reduceCtorEq, reduceIte, Int.reduceEq, Int.reduceLT, Int.reduceLE, Int.reduceNe, Nat.reduceEqDiff, Nat.reduceLT, Nat.reduceAdd, Nat.reduceMul, Nat.reduceSub, Nat.reduceLeDiff, Int.reduceBEq, Int.reduceBNe, Nat.reduceBEq, Nat.reduceBNe, Int.reduceToNat]
      refine pair_spec 3 ⟨by decide, by decide⟩ _ _ _ l m (Rows.keeps NdP.mono hk7 hl) (Rows.keeps NdP.mono hk7 hm) (by omega) (by omega) hkm _ ?_
      intro vp Hp hkp hNp
      simp only [zz, env0, aPure, aRead, aNew, aEff, aval, avals, aparts, aopt, wantedA, binA, isShift, binI, fillA, single, aRes, splice, mkv, unA, binS, sameAt, reduceCtorEq, reduceIte, Int.reduceEq, Int.reduceLT, Int.reduceLE, Int.reduceNe, Nat.reduceEqDiff, Nat.reduceLT, Nat.reduceAdd, Nat.reduceMul, Nat.reduceSub, Nat.reduceLeDiff, Int.reduceBEq, Int.reduceBNe, Nat.reduceBEq, Nat.reduceBNe, Int.reduceToNat]
      refine Is_spec _ _ _ y hNp (hpl 3) hyy _ ?_
      intro bq Hq hkq hbq
      have := hbq.2 (hcat rfl)
      subst this
      have hkA := (hk7).trans (hkp.trans hkq)
      simp only [zz, env0, aPure, aRead, aNew, aEff, aval, avals, aparts, aopt, wantedA, binA, isShift, binI, fillA, single, aRes, splice, mkv, unA, binS, sameAt, reduceCtorEq, reduceIte, Int.reduceEq, Int.reduceLT, Int.reduceLE, Int.reduceNe, Nat.reduceEqDiff, Nat.reduceLT, Nat.reduceAdd, Nat.reduceMul, Nat.reduceSub, Nat.reduceLeDiff, Int.reduceBEq, Int.reduceBNe, Nat.reduceBEq, Nat.reduceBNe, Int.reduceToNat]
      refine wrap_spec _ _ .nilsl l (repN 2 2) (Rows.keeps NdP.mono hkA hl) (by omega) (repN_ok (by simp [i64In]) (by simp [i64In])) Rows.nil _ ?_
      intro vw Hw hkw hNw
      simp only [zz, env0, aPure, aRead, aNew, aEff, aval, avals, aparts, aopt, wantedA, binA, isShift, binI, fillA, single, aRes, splice, mkv, unA, binS, sameAt, reduceCtorEq, reduceIte, Int.reduceEq, Int.reduceLT, Int.reduceLE, Int.reduceNe, Nat.reduceEqDiff, Nat.reduceLT, Nat.reduceAdd, Nat.reduceMul, Nat.reduceSub, Nat.reduceLeDiff, Int.reduceBEq, Int.reduceBNe, Nat.reduceBEq, Nat.reduceBNe, Int.reduceToNat]
      refine Is_spec _ _ _ y hNw (hwl' _) hyy _ ?_
      intro br Hr hkr hbr
      have := hbr.2 (hrep rfl)
      subst this
      have hkB := (hkA).trans (hkw.trans hkr)
      simp only [zz, env0, aPure, aRead, aNew, aEff, aval, avals, aparts, aopt, wantedA, binA, isShift, binI, fillA, single, aRes, splice, mkv, unA, binS, sameAt, reduceCtorEq, reduceIte, Int.reduceEq, Int.reduceLT, Int.reduceLE, Int.reduceNe, Nat.reduceEqDiff, Nat.reduceLT, Nat.reduceAdd, Nat.reduceMul, Nat.reduceSub, Nat.reduceLeDiff, Int.reduceBEq, Int.reduceBNe, Nat.reduceBEq, Nat.reduceBNe, Int.reduceToNat]
      refine pair_spec 4 ⟨by decide, by decide⟩ _ _ _ l m (Rows.keeps NdP.mono hkB hl) (Rows.keeps NdP.mono hkB hm) (by omega) (by omega) hkm _ ?_
      intro vs Hs hks hNs
      simp only [zz, env0, aPure, aRead, aNew, aEff, aval, avals, aparts, aopt, wantedA, binA, isShift, binI, fillA, single, aRes, splice, mkv, unA, binS, sameAt, reduceCtorEq, reduceIte, Int.reduceEq, Int.reduceLT, Int.reduceLE, Int.reduceNe, Nat.reduceEqDiff, Nat.reduceLT, Nat.reduceAdd, Nat.reduceMul, Nat.reduceSub, Nat.reduceLeDiff, Int.reduceBEq, Int.reduceBNe, Nat.reduceBEq, Nat.reduceBNe, Int.reduceToNat]
      refine Is_spec _ _ _ y hNs (hpl 4) hyy _ ?_
      intro bt Ht hkt hbt
      have e4 := is_bool hbt hany halt
      have hkC := (hkB).trans (hks.trans hkt)
      simp only [e4, zz, env0, aPure, aRead, aNew, aEff, aval, avals, aparts, aopt, wantedA, binA, isShift, binI, fillA, single, aRes, splice, mkv, unA, binS, sameAt, reduceCtorEq, reduceIte, Int.reduceEq, Int.reduceLT, Int.reduceLE, Int.reduceNe, Nat.reduceEqDiff, Nat.reduceLT, Nat.reduceAdd, Nat.reduceMul, Nat.reduceSub, Nat.reduceLeDiff, Int.reduceBEq, Int.reduceBNe, Nat.reduceBEq, Nat.reduceBNe, Int.reduceToNat]
      refine wrap_spec _ _ .nilsl l (repN 0 (-1)) (Rows.keeps NdP.mono hkC hl) (by omega) (repN_ok (by simp [i64In]) (by simp [i64In])) Rows.nil _ ?_
      intro vu Hu hku hNu
      simp only [zz, env0, aPure, aRead, aNew, aEff, aval, avals, aparts, aopt, wantedA, binA, isShift, binI, fillA, single, aRes, splice, mkv, unA, binS, sameAt, reduceCtorEq, reduceIte, Int.reduceEq, Int.reduceLT, Int.reduceLE, Int.reduceNe, Nat.reduceEqDiff, Nat.reduceLT, Nat.reduceAdd, Nat.reduceMul, Nat.reduceSub, Nat.reduceLeDiff, Int.reduceBEq, Int.reduceBNe, Nat.reduceBEq, Nat.reduceBNe, Int.reduceToNat]
      refine Is_spec _ _ _ [] hNu (hwl' _) (by simp) _ ?_
      intro bv Hv hkv hbv
      have := hbv.2 hstar
      subst this
      simp only [zz, env0, aPure, aRead, aNew, aEff, aval, avals, aparts, aopt, wantedA, binA, isShift, binI, fillA, single, aRes, splice, mkv, unA, binS, sameAt, reduceCtorEq, reduceIte, Int.reduceEq, Int.reduceLT, Int.reduceLE, Int.reduceNe, Nat.reduceEqDiff, Nat.reduceLT, Nat.reduceAdd, Nat.reduceMul, Nat.reduceSub, Nat.reduceLeDiff, Int.reduceBEq, Int.reduceBNe, Nat.reduceBEq, Nat.reduceBNe, Int.reduceToNat]
    | false =>
      simp only [J8, hdC, tls, tlC, a8, zz, env0, aPure, aRead, aNew, aEff, aval, avals, aparts, aopt, wantedA, binA, isShift, binI, fillA, single, aRes, splice, mkv, unA, binS, sameAt, reduceCtorEq, reduceIte, Int.reduceEq, Int.reduceLT, Int.reduceLE, Int.reduceNe, Nat.reduceEqDiff, Nat.reduceLT, Nat.reduceAdd, Nat.reduceMul, Nat.reduceSub, Nat.reduceLeDiff, Int.reduceBEq, Int.reduceBNe, Nat.reduceBEq, Nat.reduceBNe, Int.reduceToNat]
      refine pair_spec 3 ⟨by decide, by decide⟩ _ _ _ l m (Rows.keeps NdP.mono hk7 hl) (Rows.keeps NdP.mono hk7 hm) (by omega) (by omega) hkm _ ?_
      intro vp Hp hkp hNp
      simp only [zz, env0, aPure, aRead, aNew, aEff, aval, avals, aparts, aopt, wantedA, binA, isShift, binI, fillA, single, aRes, splice, mkv, unA, binS, sameAt, reduceCtorEq, reduceIte, Int.reduceEq, Int.reduceLT, Int.reduceLE, Int.reduceNe, Nat.reduceEqDiff, Nat.reduceLT, Nat.reduceAdd, Nat.reduceMul, Nat.reduceSub, Nat.reduceLeDiff, Int.reduceBEq, Int.reduceBNe, Nat.reduceBEq, Nat.reduceBNe, Int.reduceToNat]
      refine Is_spec _ _ _ y hNp (hpl 3) hyy _ ?_
      intro bq Hq hkq hbq
      have := hbq.2 (hcat rfl)
      subst this
      have hkA := (hk7).trans (hkp.trans hkq)
      simp only [zz, env0, aPure, aRead, aNew, aEff, aval, avals, aparts, aopt, wantedA, binA, isShift, binI, fillA, single, aRes, splice, mkv, unA, binS, sameAt, reduceCtorEq, reduceIte, Int.reduceEq, Int.reduceLT, Int.reduceLE, Int.reduceNe, Nat.reduceEqDiff, Nat.reduceLT, Nat.reduceAdd, Nat.reduceMul, Nat.reduceSub, Nat.reduceLeDiff, Int.reduceBEq, Int.reduceBNe, Nat.reduceBEq, Nat.reduceBNe, Int.reduceToNat]
      refine pair_spec 4 ⟨by decide, by decide⟩ _ _ _ l m (Rows.keeps NdP.mono hkA hl) (Rows.keeps NdP.mono hkA hm) (by omega) (by omega) hkm _ ?_
      intro vs Hs hks hNs
      simp only [zz, env0, aPure, aRead, aNew, aEff, aval, avals, aparts, aopt, wantedA, binA, isShift, binI, fillA, single, aRes, splice, mkv, unA, binS, sameAt, reduceCtorEq, reduceIte, Int.reduceEq, Int.reduceLT, Int.reduceLE, Int.reduceNe, Nat.reduceEqDiff, Nat.reduceLT, Nat.reduceAdd, Nat.reduceMul, Nat.reduceSub, Nat.reduceLeDiff, Int.reduceBEq, Int.reduceBNe, Nat.reduceBEq, Nat.reduceBNe, Int.reduceToNat]
      refine Is_spec _ _ _ y hNs (hpl 4) hyy _ ?_
      intro bt Ht hkt hbt
      have e4 := is_bool hbt hany halt
      have hkC := (hkA).trans (hks.trans hkt)
      simp only [e4, zz, env0, aPure, aRead, aNew, aEff, aval, avals, aparts, aopt, wantedA, binA, isShift, binI, fillA, single, aRes, splice, mkv, unA, binS, sameAt, reduceCtorEq, reduceIte, Int.reduceEq, Int.reduceLT, Int.reduceLE, Int.reduceNe, Nat.reduceEqDiff, Nat.reduceLT, Nat.reduceAdd, Nat.reduceMul, Nat.reduceSub, Nat.reduceLeDiff, Int.reduceBEq, Int.reduceBNe, Nat.reduceBEq, Nat.reduceBNe, Int.reduceToNat]
      refine wrap_spec _ _ .nilsl l (repN 0 (-1)) (Rows.keeps NdP.mono hkC hl) (by omega) (repN_ok (by simp [i64In]) (by simp [i64In])) Rows.nil _ ?_
      intro vu Hu hku hNu
      simp only [zz, env0, aPure, aRead, aNew, aEff, aval, avals, aparts, aopt, wantedA, binA, isShift, binI, fillA, single, aRes, splice, mkv, unA, binS, sameAt, reduceCtorEq, reduceIte, Int.reduceEq, Int.reduceLT, Int.reduceLE, Int.reduceNe, Nat.reduceEqDiff, Nat.reduceLT, Nat.reduceAdd, Nat.reduceMul, Nat.reduceSub, Nat.reduceLeDiff, Int.reduceBEq, Int.reduceBNe, Nat.reduceBEq, Nat.reduceBNe, Int.reduceToNat]
      refine Is_spec _ _ _ [] hNu (hwl' _) (by simp) _ ?_
      intro bv Hv hkv hbv
      have := hbv.2 hstar
      subst this
      simp only [zz, env0, aPure, aRead, aNew, aEff, aval, avals, aparts, aopt, wantedA, binA, isShift, binI, fillA, single, aRes, splice, mkv, unA, binS, sameAt, reduceCtorEq, reduceIte, Int.reduceEq, Int.reduceLT, Int.reduceLE, Int.reduceNe, Nat.reduceEqDiff, Nat.reduceLT, Nat.reduceAdd, Nat.reduceMul, Nat.reduceSub, Nat.reduceLeDiff, Int.reduceBEq, Int.reduceBNe, Nat.reduceBEq, Nat.reduceBNe, Int.reduceToNat]
  | false =>
    cases twice with
    | true =>
      simp only [J8, hdC, tls, tlC, a8, zz, env0, aPure, aRead, aNew, aEff, aval, avals, aparts, aopt, wantedA, binA, isShift, binI, fillA, single, aRes, splice, mkv, unA, binS, sameAt, reduceCtorEq, reduceIte, Int.reduceEq, Int.reduceLT, Int.reduceLE, Int.reduceNe, Nat.reduceEqDiff, Nat.reduceLT, Nat.reduceAdd, Nat.reduceMul, Nat.reduceSub, Nat.reduceLeDiff, Int.reduceBEq, Int.reduceBNe, Nat.reduceBEq, Nat.reduceBNe, Int.reduceToNat]
      refine wrap_spec _ _ .nilsl l (repN 2 2) (Rows.keeps NdP.mono hk7 hl) (by omega) (repN_ok (by simp [i64In]) (by simp [i64In])) Rows.nil _ ?_
      intro vw Hw hkw hNw
      simp only [zz, env0, aPure, aRead, aNew, aEff, aval, avals, aparts, aopt, wantedA, binA, isShift, binI, fillA, single, aRes, splice, mkv, unA, binS, sameAt, reduceCtorEq, reduceIte, Int.reduceEq, Int.reduceLT, Int.reduceLE, Int.reduceNe, Nat.reduceEqDiff, Nat.reduceLT, Nat.reduceAdd, Nat.reduceMul, Nat.reduceSub, Nat.reduceLeDiff, Int.reduceBEq, Int.reduceBNe, Nat.reduceBEq, Nat.reduceBNe, Int.reduceToNat]
      refine Is_spec _ _ _ y hNw (hwl' _) hyy _ ?_
      intro br Hr hkr hbr
      have := hbr.2 (hrep rfl)
      subst this
      have hkB := (hk7).trans (hkw.trans hkr)
      simp only [zz, env0, aPure, aRead, aNew, aEff, aval, avals, aparts, aopt, wantedA, binA, isShift, binI, fillA, single, aRes, splice, mkv, unA, binS, sameAt, reduceCtorEq, reduceIte, Int.reduceEq, Int.reduceLT, Int.reduceLE, Int.reduceNe, Nat.reduceEqDiff, Nat.reduceLT, Nat.reduceAdd, Nat.reduceMul, Nat.reduceSub, Nat.reduceLeDiff, Int.reduceBEq, Int.reduceBNe, Nat.reduceBEq, Nat.reduceBNe, Int.reduceToNat]
      refine pair_spec 4 ⟨by decide, by decide⟩ _ _ _ l m (Rows.keeps NdP.mono hkB hl) (Rows.keeps NdP.mono hkB hm) (by omega) (by omega) hkm _ ?_
      intro vs Hs hks hNs
      simp only [zz, env0, aPure, aRead, aNew, aEff, aval, avals, aparts, aopt, wantedA, binA, isShift, binI, fillA, single, aRes, splice, mkv, unA, binS, sameAt, reduceCtorEq, reduceIte, Int.reduceEq, Int.reduceLT, Int.reduceLE, Int.reduceNe, Nat.reduceEqDiff, Nat.reduceLT, Nat.reduceAdd, Nat.reduceMul, Nat.reduceSub, Nat.reduceLeDiff, Int.reduceBEq, Int.reduceBNe, Nat.reduceBEq, Nat.reduceBNe, Int.reduceToNat]
      refine Is_spec _ _ _ y hNs (hpl 4) hyy _ ?_
      intro bt Ht hkt hbt
      have e4 := is_bool hbt hany halt
      have hkC := (hkB).trans (hks.trans hkt)
      simp only [e4, zz, env0, aPure, aRead, aNew, aEff, aval, avals, aparts, aopt, wantedA, binA, isShift, binI, fillA, single, aRes, splice, mkv, unA, binS, sameAt, reduceCtorEq, reduceIte, Int.reduceEq, Int.reduceLT, Int.reduceLE, Int.reduceNe, Nat.reduceEqDiff, Nat.reduceLT, Nat.reduceAdd, Nat.reduceMul, Nat.reduceSub, Nat.reduceLeDiff, Int.reduceBEq, Int.reduceBNe, Nat.reduceBEq, Nat.reduceBNe, Int.reduceToNat]
      refine wrap_spec _ _ .nilsl l (repN 0 (-1)) (Rows.keeps NdP.mono hkC hl) (by omega) (repN_ok (by simp [i64In]) (by simp [i64In])) Rows.nil _ ?_
      intro vu Hu hku hNu
      simp only [zz, env0, aPure, aRead, aNew, aEff, aval, avals, aparts, aopt, wantedA, binA, isShift, binI, fillA, single, aRes, splice, mkv, unA, binS, sameAt, reduceCtorEq, reduceIte, Int.reduceEq, Int.reduceLT, Int.reduceLE, Int.reduceNe, Nat.reduceEqDiff, Nat.reduceLT, Nat.reduceAdd, Nat.reduceMul, Nat.reduceSub, Nat.reduceLeDiff, Int.reduceBEq, Int.reduceBNe, Nat.reduceBEq, Nat.reduceBNe, Int.reduceToNat]
      refine Is_spec _ _ _ [] hNu (hwl' _) (by simp) _ ?_
      intro bv Hv hkv hbv
      have := hbv.2 hstar
      subst this
      simp only [zz, env0, aPure, aRead, aNew, aEff, aval, avals, aparts, aopt, wantedA, binA, isShift, binI, fillA, single, aRes, splice, mkv, unA, binS, sameAt, reduceCtorEq, reduceIte, Int.reduceEq, Int.reduceLT, Int.reduceLE, Int.reduceNe, Nat.reduceEqDiff, Nat.reduceLT, Nat.reduceAdd, Nat.reduceMul, Nat.reduceSub, Nat.reduceLeDiff, Int.reduceBEq, Int.reduceBNe, Nat.reduceBEq, Nat.reduceBNe, Int.reduceToNat]
    | false =>
      simp only [J8, hdC, tls, tlC, a8, zz, env0, aPure, aRead, aNew, aEff, aval, avals, aparts, aopt, wantedA, binA, isShift, binI, fillA, single, aRes, splice, mkv, unA, binS, sameAt, reduceCtorEq, reduceIte, Int.reduceEq, Int.reduceLT, Int.reduceLE, Int.reduceNe, Nat.reduceEqDiff, Nat.reduceLT, Nat.reduceAdd, Nat.reduceMul, Nat.reduceSub, Nat.reduceLeDiff, Int.reduceBEq, Int.reduceBNe, Nat.reduceBEq, Nat.reduceBNe, Int.reduceToNat]
      refine pair_spec 4 ⟨by decide, by decide⟩ _ _ _ l m (Rows.keeps NdP.mono hk7 hl) (Rows.keeps NdP.mono hk7 hm) (by omega) (by omega) hkm _ ?_
      intro vs Hs hks hNs
      simp only [zz, env0, aPure, aRead, aNew, aEff, aval, avals, aparts, aopt, wantedA, binA, isShift, binI, fillA, single, aRes, splice, mkv, unA, binS, sameAt, reduceCtorEq, reduceIte, Int.reduceEq, Int.reduceLT, Int.reduceLE, Int.reduceNe, Nat.reduceEqDiff, Nat.reduceLT, Nat.reduceAdd, Nat.reduceMul, Nat.reduceSub, Nat.reduceLeDiff, Int.reduceBEq, Int.reduceBNe, Nat.reduceBEq, Nat.reduceBNe, Int.reduceToNat]
      refine Is_spec _ _ _ y hNs (hpl 4) hyy _ ?_
      intro bt Ht hkt hbt
      have e4 := is_bool hbt hany halt
      have hkC := (hk7).trans (hks.trans hkt)
      simp only [e4, zz, env0, aPure, aRead, aNew, aEff, aval, avals, aparts, aopt, wantedA, binA, isShift, binI, fillA, single, aRes, splice, mkv, unA, binS, sameAt, reduceCtorEq, reduceIte, Int.reduceEq, Int.reduceLT, Int.reduceLE, Int.reduceNe, Nat.reduceEqDiff, Nat.reduceLT, Nat.reduceAdd, Nat.reduceMul, Nat.reduceSub, Nat.reduceLeDiff, Int.reduceBEq, Int.reduceBNe, Nat.reduceBEq, Nat.reduceBNe, Int.reduceToNat]
      refine wrap_spec _ _ .nilsl l (repN 0 (-1)) (Rows.keeps NdP.mono hkC hl) (by omega) (repN_ok (by simp [i64In]) (by simp [i64In])) Rows.nil _ ?_
      intro vu Hu hku hNu
      simp only [zz, env0, aPure, aRead, aNew, aEff, aval, avals, aparts, aopt, wantedA, binA, isShift, binI, fillA, single, aRes, splice, mkv, unA, binS, sameAt, reduceCtorEq, reduceIte, Int.reduceEq, Int.reduceLT, Int.reduceLE, Int.reduceNe, Nat.reduceEqDiff, Nat.reduceLT, Nat.reduceAdd, Nat.reduceMul, Nat.reduceSub, Nat.reduceLeDiff, Int.reduceBEq, Int.reduceBNe, Nat.reduceBEq, Nat.reduceBNe, Int.reduceToNat]
      refine Is_spec _ _ _ [] hNu (hwl' _) (by simp) _ ?_
      intro bv Hv hkv hbv
      have := hbv.2 hstar
      subst this
      simp only [zz, env0, aPure, aRead, aNew, aEff, aval, avals, aparts, aopt, wantedA, binA, isShift, binI, fillA, single, aRes, splice, mkv, unA, binS, sameAt, reduceCtorEq, reduceIte, Int.reduceEq, Int.reduceLT, Int.reduceLE, Int.reduceNe, Nat.reduceEqDiff, Nat.reduceLT, Nat.reduceAdd, Nat.reduceMul, Nat.reduceSub, Nat.reduceLeDiff, Int.reduceBEq, Int.reduceBNe, Nat.reduceBEq, Nat.reduceBNe, Int.reduceToNat]
end Go.Proofs.Ytnblhjpbpobglaa

/- LangEmpty: whether a tree may be nothing; the law's run. -/
set_option maxRecDepth 100000
set_option maxHeartbeats 1000000
set_option linter.unusedSimpArgs false
namespace Go.Proofs.Ytnblhjpbpobglaa
open Go.Am

theorem chain_stay {rs : List (Nat → Nat → Prop)} (h : ∀ r, r ∈ rs → ∀ i j, r i j → i ≤ j) (f : Nat) : chain rs f f ↔ ∀ r, r ∈ rs → r f f := by
  induction rs with
  | nil => simp [chain]
  | cons r rs ih =>
    have h2 : ∀ r, r ∈ rs → ∀ i j, r i j → i ≤ j := fun r hr => h r (by simp [hr])
    simp only [chain, List.mem_cons, forall_eq_or_imp]
    rw [← ih h2]
    constructor
    · rintro ⟨m, h3, h4⟩
      have a1 := h r (by simp) f m h3
      have a2 := chain_mono h2 m f h4
      have : m = f := by omega
      subst this; exact ⟨h3, h4⟩
    · rintro ⟨h3, h4⟩; exact ⟨f, h3, h4⟩
theorem iter_stay {r : Nat → Nat → Prop} (h : ∀ i j, r i j → i ≤ j) (f : Nat) : ∀ c, iterN r (c + 1) f f ↔ r f f := by
  intro c
  induction c with
  | zero =>
    simp only [iterN]
    constructor
    · rintro ⟨m, h1, rfl⟩; exact h1
    · intro h1; exact ⟨f, h1, rfl⟩
  | succ c ih =>
    constructor
    · rintro ⟨m, h1, h2⟩
      have a1 := h f m h1
      have a2 := iterN_mono h (c + 1) m f h2
      have : m = f := by omega
      subst this; exact h1
    · intro h1; exact ⟨f, h1, ih.2 h1⟩

theorem nullable_spec {l : List Nd} {v : AV} (y : List UInt8) (f : Nat) (hR : RightT l) (hNo : NoRef l) : ∀ (a : Nat), a < l.length → ∀ (H : AHeap) (K : AV → AHeap → Prop), Nds H v l →
    (∀ b H', Keeps H H' → (b = true ↔ den l y a f f) → K (.bool b) H') → WF P0 36 [v, .int .i64 a] H K := by
  intro a
  induction a using Nat.strongRecOn with
  | _ a ih =>
  intro ha H K hN hK
  obtain ⟨hl1, hl2, root, hstk⟩ := hR
  obtain ⟨n, hn⟩ : ∃ n, l[a]? = some n := ⟨l[a], List.getElem?_eq_getElem ha⟩
  have hno6 := hNo n (List.mem_of_getElem? hn)
  obtain ⟨hsh, hkl, hkr⟩ := stk_kids hstk hn
  obtain ⟨b9, o9, kv, rfl, hok, hkv, hld⟩ := hN.nd hn
  have p1 : (0 : Int) ≤ a := by omega
  have p2 : (a : Int) < l.length := by omega
  have h9 := hld 0 9 (by omega)
  simp only [Nat.add_zero, List.drop_zero, ndRow, List.take_succ_cons, List.take_zero] at h9
  obtain ⟨f1, f2, f3, f4⟩ := hkv.flat
  have hden := den_eq l y a n hn f f
  have hkid : ∀ k, k ∈ n.kids → ∃ m : Nat, k = m ∧ m < a ∧ kidDen l y a k = den l y m := fun k hk => by
    have := hkr k hk
    refine ⟨k.toNat, by omega, by omega, ?_⟩
    unfold kidDen; rw [if_pos (by omega)]
  refine zWF rfl rfl rfl ?_
  simp only [a36, p1, p2, h9, f1, zz, env0, aPure, aRead, aNew, aEff, aval, avals, aparts, aopt, wantedA, binA, isShift, binI, fillA, single, aRes, splice, mkv, unA, binS, sameAt, reduceCtorEq, reduceIte, Int.reduceEq, Int.reduceLT, Int.reduceLE, Int.reduceNe, Nat.reduceEqDiff, Nat.reduceLT, Nat.reduceAdd, Nat.reduceMul, Nat.reduceSub, Nat.reduceLeDiff, Int.reduceBEq, Int.reduceBNe, Nat.reduceBEq, Nat.reduceBNe, Int.reduceToNat]
  generalize hH2 : H ++ [some (Blk.cells 9 true [AV.int IntKind.u8 n.op, AV.int IntKind.u64 n.s0, AV.int IntKind.u64 n.s1, AV.int IntKind.u64 n.s2, AV.int IntKind.u64 n.s3, kv, AV.int IntKind.i64 n.lo, AV.int IntKind.i64 n.hi, AV.str n.name])] = H2
  have hk2 : Keeps H H2 := by rw [← hH2]; exact .p1 _ _
  have hbn : getB H2 H.length = some (Blk.cells 9 true [AV.int IntKind.u8 n.op, AV.int IntKind.u64 n.s0, AV.int IntKind.u64 n.s1, AV.int IntKind.u64 n.s2, AV.int IntKind.u64 n.s3, kv, AV.int IntKind.i64 n.lo, AV.int IntKind.i64 n.hi, AV.str n.name]) := by
    rw [← hH2]; exact gb_new _ _
  have g5 : ∀ H', Keeps H2 H' → loadA H' H.length 5 1 = some [kv] := fun H' hk => load_one (hk.get hbn) rfl
  have g6 : ∀ H', Keeps H2 H' → loadA H' H.length 6 1 = some [.int .i64 n.lo] := fun H' hk => load_one (hk.get hbn) rfl
  have hlk := hkv.lenOf
  have hcase : n.op = 1 ∨ n.op = 2 ∨ n.op = 3 ∨ n.op = 4 ∨ n.op = 5 := by
    rcases hsh with h | h | h | h | h
    · exact .inl h.1
    · exact .inr (.inl h.1)
    · rcases h.1 with h | h
      · exact .inr (.inr (.inl h))
      · exact .inr (.inr (.inr (.inl h)))
    · exact .inr (.inr (.inr (.inr h.1)))
    · exact absurd h.1 hno6
  rcases hcase with ho | ho | ho | ho | ho
  · have e1 : (n.op == 1) = true := by simp [ho]
    simp only [e1, zz, env0, aPure, aRead, aNew, aEff, aval, avals, aparts, aopt, wantedA, binA, isShift, binI, fillA, single, aRes, splice, mkv, unA, binS, sameAt, reduceCtorEq, reduceIte, Int.reduceEq, Int.reduceLT, Int.reduceLE, Int.reduceNe, Nat.reduceEqDiff, Nat.reduceLT, Nat.reduceAdd, Nat.reduceMul, Nat.reduceSub, Nat.reduceLeDiff, Int.reduceBEq, Int.reduceBNe, Nat.reduceBEq, Nat.reduceBNe, Int.reduceToNat]
    refine hK _ _ hk2 ?_
    rw [hden, if_neg (by omega), if_neg (by omega), if_neg (by omega), if_neg (by omega)]
    simp
  · have e1 : (n.op == 1) = false := by simp [ho]
    have e3 : (n.op == 3) = false := by simp [ho]
    have e4 : (n.op == 4) = false := by simp [ho]
    have e5 : (n.op == 5) = false := by simp [ho]
    simp only [e1, e3, e4, e5, zz, env0, aPure, aRead, aNew, aEff, aval, avals, aparts, aopt, wantedA, binA, isShift, binI, fillA, single, aRes, splice, mkv, unA, binS, sameAt, reduceCtorEq, reduceIte, Int.reduceEq, Int.reduceLT, Int.reduceLE, Int.reduceNe, Nat.reduceEqDiff, Nat.reduceLT, Nat.reduceAdd, Nat.reduceMul, Nat.reduceSub, Nat.reduceLeDiff, Int.reduceBEq, Int.reduceBNe, Nat.reduceBEq, Nat.reduceBNe, Int.reduceToNat]
    refine hK _ _ hk2 ?_
    rw [hden, if_pos ho]
    simp
  · -- Cat
    have e1 : (n.op == 1) = false := by simp [ho]
    have e3 : (n.op == 3) = true := by simp [ho]
    rw [if_neg (by omega), if_pos ho, chain_stay (fun r hr i j h => by
      obtain ⟨x, _, rfl⟩ := List.mem_map.1 hr
      exact kid_mono _ _ _ _ _ _ h)] at hden
    simp only [e1, e3, zz, env0, aPure, aRead, aNew, aEff, aval, avals, aparts, aopt, wantedA, binA, isShift, binI, fillA, single, aRes, splice, mkv, unA, binS, sameAt, reduceCtorEq, reduceIte, Int.reduceEq, Int.reduceLT, Int.reduceLE, Int.reduceNe, Nat.reduceEqDiff, Nat.reduceLT, Nat.reduceAdd, Nat.reduceMul, Nat.reduceSub, Nat.reduceLeDiff, Int.reduceBEq, Int.reduceBNe, Nat.reduceBEq, Nat.reduceBNe, Int.reduceToNat]
    refine WCL (fun r env H' => Keeps H2 H' ∧ ∃ (t : Nat) (a9 a10 : AV), t ≤ n.kids.length ∧ r = n.kids.length - t ∧ (∀ k, k ∈ n.kids.take t → kidDen l y a k f f) ∧
        env = [.sl b9 o9 l.length, .int .i64 a, .bool false, .ptr H.length 0, .int .i64 t, .junk, .int .u8 n.op, .bool false, .bool true, a9, a10, .junk, .junk, .junk, .junk]) (n := n.kids.length)
      ⟨.refl _, 0, _, _, Nat.zero_le _, rfl, fun k h => by simp at h, rfl⟩ ?_
    rintro r env H' ⟨hk, t, a9, a10, htl, rfl, hall, rfl⟩
    have m5 := g5 _ hk
    simp only [m5, hlk, zz, env0, aPure, aRead, aNew, aEff, aval, avals, aparts, aopt, wantedA, binA, isShift, binI, fillA, single, aRes, splice, mkv, unA, binS, sameAt, reduceCtorEq, reduceIte, Int.reduceEq, Int.reduceLT, Int.reduceLE, Int.reduceNe, Nat.reduceEqDiff, Nat.reduceLT, Nat.reduceAdd, Nat.reduceMul, Nat.reduceSub, Nat.reduceLeDiff, Int.reduceBEq, Int.reduceBNe, Nat.reduceBEq, Nat.reduceBNe, Int.reduceToNat]
    refine onB_of (fun hlt => ?_) (fun hlt => ?_)
    · have hlt : t < n.kids.length := by simpa using hlt
      obtain ⟨x, hx⟩ : ∃ x, n.kids[t]? = some x := ⟨n.kids[t], List.getElem?_eq_getElem hlt⟩
      obtain ⟨m, rfl, hma, hkd⟩ := hkid x (List.mem_of_getElem? hx)
      obtain ⟨ik, ok, rfl, g1⟩ := (Rows.keeps IntP.mono (hk2.trans hk) hkv).int hx
      have r1 : (0 : Int) ≤ t := by omega
      have r2 : (t : Int) < n.kids.length := by omega
      have htk : n.kids.take (t + 1) = n.kids.take t ++ [(m : Int)] := by
        rw [List.take_succ_eq_append_getElem hlt]; congr 2
        rw [List.getElem?_eq_getElem hlt] at hx; simpa using hx
      have vt : IntKind.i64.wrap ((t : Int) + 1) = ((t + 1 : Nat) : Int) := by rw [wrap_i64 (by omega) (by omega)]; rfl
      simp only [m5, r1, r2, Nat.mul_one, g1, zz, env0, aPure, aRead, aNew, aEff, aval, avals, aparts, aopt, wantedA, binA, isShift, binI, fillA, single, aRes, splice, mkv, unA, binS, sameAt, reduceCtorEq, reduceIte, Int.reduceEq, Int.reduceLT, Int.reduceLE, Int.reduceNe, Nat.reduceEqDiff, Nat.reduceLT, Nat.reduceAdd, Nat.reduceMul, Nat.reduceSub, Nat.reduceLeDiff, Int.reduceBEq, Int.reduceBNe, Nat.reduceBEq, Nat.reduceBNe, Int.reduceToNat]
      refine ih m hma (by omega) _ _ (Rows.keeps NdP.mono (hk2.trans hk) hN) ?_
      intro b H4 hk4 hb
      cases b with
      | false =>
        simp only [zz, env0, aPure, aRead, aNew, aEff, aval, avals, aparts, aopt, wantedA, binA, isShift, binI, fillA, single, aRes, splice, mkv, unA, binS, sameAt, reduceCtorEq, reduceIte, Int.reduceEq, Int.reduceLT, Int.reduceLE, Int.reduceNe, Nat.reduceEqDiff, Nat.reduceLT, Nat.reduceAdd, Nat.reduceMul, Nat.reduceSub, Nat.reduceLeDiff, Int.reduceBEq, Int.reduceBNe, Nat.reduceBEq, Nat.reduceBNe, Int.reduceToNat]
        refine hK _ _ (hk2.trans (hk.trans hk4)) ?_
        rw [hden]
        simp only [Bool.false_eq_true, false_iff]
        intro h
        have := h (kidDen l y a (m : Int)) (List.mem_map.2 ⟨_, List.mem_of_getElem? hx, rfl⟩)
        rw [hkd] at this
        have := hb.2 this; simp at this
      | true =>
        simp only [vt, zz, env0, aPure, aRead, aNew, aEff, aval, avals, aparts, aopt, wantedA, binA, isShift, binI, fillA, single, aRes, splice, mkv, unA, binS, sameAt, reduceCtorEq, reduceIte, Int.reduceEq, Int.reduceLT, Int.reduceLE, Int.reduceNe, Nat.reduceEqDiff, Nat.reduceLT, Nat.reduceAdd, Nat.reduceMul, Nat.reduceSub, Nat.reduceLeDiff, Int.reduceBEq, Int.reduceBNe, Nat.reduceBEq, Nat.reduceBNe, Int.reduceToNat]
        refine ⟨n.kids.length - (t + 1), by omega, hk.trans hk4, t + 1, _, _, by omega, rfl, fun k hk' => ?_, rfl⟩
        rw [htk] at hk'
        simp only [List.mem_append, List.mem_cons, List.not_mem_nil, or_false] at hk'
        rcases hk' with h | rfl
        · exact hall k h
        · rw [hkd]; exact hb.1 rfl
    · have hte : t = n.kids.length := by simp at hlt; omega
      subst hte
      rw [List.take_length] at hall
      simp only [zz, env0, aPure, aRead, aNew, aEff, aval, avals, aparts, aopt, wantedA, binA, isShift, binI, fillA, single, aRes, splice, mkv, unA, binS, sameAt, reduceCtorEq, reduceIte, Int.reduceEq, Int.reduceLT, Int.reduceLE, Int.reduceNe, Nat.reduceEqDiff, Nat.reduceLT, Nat.reduceAdd, Nat.reduceMul, Nat.reduceSub, Nat.reduceLeDiff, Int.reduceBEq, Int.reduceBNe, Nat.reduceBEq, Nat.reduceBNe, Int.reduceToNat]
      refine hK _ _ (hk2.trans hk) ?_
      rw [hden]
      simp only [true_iff]
      intro r hr
      obtain ⟨x, hx, rfl⟩ := List.mem_map.1 hr
      exact hall x hx
  · -- Alt
    have e1 : (n.op == 1) = false := by simp [ho]
    have e3 : (n.op == 3) = false := by simp [ho]
    have e4 : (n.op == 4) = true := by simp [ho]
    rw [if_neg (by omega), if_neg (by omega), if_pos ho] at hden
    simp only [e1, e3, e4, zz, env0, aPure, aRead, aNew, aEff, aval, avals, aparts, aopt, wantedA, binA, isShift, binI, fillA, single, aRes, splice, mkv, unA, binS, sameAt, reduceCtorEq, reduceIte, Int.reduceEq, Int.reduceLT, Int.reduceLE, Int.reduceNe, Nat.reduceEqDiff, Nat.reduceLT, Nat.reduceAdd, Nat.reduceMul, Nat.reduceSub, Nat.reduceLeDiff, Int.reduceBEq, Int.reduceBNe, Nat.reduceBEq, Nat.reduceBNe, Int.reduceToNat]
    refine WCL (fun r env H' => Keeps H2 H' ∧ ∃ (t : Nat) (a12 a13 : AV), t ≤ n.kids.length ∧ r = n.kids.length - t ∧ (∀ k, k ∈ n.kids.take t → ¬ kidDen l y a k f f) ∧
        env = [.sl b9 o9 l.length, .int .i64 a, .bool false, .ptr H.length 0, .junk, .int .i64 t, .int .u8 n.op, .bool false, .bool false, .junk, .junk, .bool true, a12, a13, .junk]) (n := n.kids.length)
      ⟨.refl _, 0, _, _, Nat.zero_le _, rfl, fun k h => by simp at h, rfl⟩ ?_
    rintro r env H' ⟨hk, t, a12, a13, htl, rfl, hall, rfl⟩
    have m5 := g5 _ hk
    simp only [m5, hlk, zz, env0, aPure, aRead, aNew, aEff, aval, avals, aparts, aopt, wantedA, binA, isShift, binI, fillA, single, aRes, splice, mkv, unA, binS, sameAt, reduceCtorEq, reduceIte, Int.reduceEq, Int.reduceLT, Int.reduceLE, Int.reduceNe, Nat.reduceEqDiff, Nat.reduceLT, Nat.reduceAdd, Nat.reduceMul, Nat.reduceSub, Nat.reduceLeDiff, Int.reduceBEq, Int.reduceBNe, Nat.reduceBEq, Nat.reduceBNe, Int.reduceToNat]
    refine onB_of (fun hlt => ?_) (fun hlt => ?_)
    · have hlt : t < n.kids.length := by simpa using hlt
      obtain ⟨x, hx⟩ : ∃ x, n.kids[t]? = some x := ⟨n.kids[t], List.getElem?_eq_getElem hlt⟩
      obtain ⟨m, rfl, hma, hkd⟩ := hkid x (List.mem_of_getElem? hx)
      obtain ⟨ik, ok, rfl, g1⟩ := (Rows.keeps IntP.mono (hk2.trans hk) hkv).int hx
      have r1 : (0 : Int) ≤ t := by omega
      have r2 : (t : Int) < n.kids.length := by omega
      have htk : n.kids.take (t + 1) = n.kids.take t ++ [(m : Int)] := by
        rw [List.take_succ_eq_append_getElem hlt]; congr 2
        rw [List.getElem?_eq_getElem hlt] at hx; simpa using hx
      have vt : IntKind.i64.wrap ((t : Int) + 1) = ((t + 1 : Nat) : Int) := by rw [wrap_i64 (by omega) (by omega)]; rfl
      simp only [m5, r1, r2, Nat.mul_one, g1, zz, env0, aPure, aRead, aNew, aEff, aval, avals, aparts, aopt, wantedA, binA, isShift, binI, fillA, single, aRes, splice, mkv, unA, binS, sameAt, reduceCtorEq, reduceIte, Int.reduceEq, Int.reduceLT, Int.reduceLE, Int.reduceNe, Nat.reduceEqDiff, Nat.reduceLT, Nat.reduceAdd, Nat.reduceMul, Nat.reduceSub, Nat.reduceLeDiff, Int.reduceBEq, Int.reduceBNe, Nat.reduceBEq, Nat.reduceBNe, Int.reduceToNat]
      refine ih m hma (by omega) _ _ (Rows.keeps NdP.mono (hk2.trans hk) hN) ?_
      intro b H4 hk4 hb
      cases b with
      | true =>
        simp only [zz, env0, aPure, aRead, aNew, aEff, aval, avals, aparts, aopt, wantedA, binA, isShift, binI, fillA, single, aRes, splice, mkv, unA, binS, sameAt, reduceCtorEq, reduceIte, Int.reduceEq, Int.reduceLT, Int.reduceLE, Int.reduceNe, Nat.reduceEqDiff, Nat.reduceLT, Nat.reduceAdd, Nat.reduceMul, Nat.reduceSub, Nat.reduceLeDiff, Int.reduceBEq, Int.reduceBNe, Nat.reduceBEq, Nat.reduceBNe, Int.reduceToNat]
        refine hK _ _ (hk2.trans (hk.trans hk4)) ?_
        rw [hden]
        simp only [true_iff]
        exact ⟨_, List.mem_of_getElem? hx, by rw [hkd]; exact hb.1 rfl⟩
      | false =>
        simp only [vt, zz, env0, aPure, aRead, aNew, aEff, aval, avals, aparts, aopt, wantedA, binA, isShift, binI, fillA, single, aRes, splice, mkv, unA, binS, sameAt, reduceCtorEq, reduceIte, Int.reduceEq, Int.reduceLT, Int.reduceLE, Int.reduceNe, Nat.reduceEqDiff, Nat.reduceLT, Nat.reduceAdd, Nat.reduceMul, Nat.reduceSub, Nat.reduceLeDiff, Int.reduceBEq, Int.reduceBNe, Nat.reduceBEq, Nat.reduceBNe, Int.reduceToNat]
        refine ⟨n.kids.length - (t + 1), by omega, hk.trans hk4, t + 1, _, _, by omega, rfl, fun k hk' => ?_, rfl⟩
        rw [htk] at hk'
        simp only [List.mem_append, List.mem_cons, List.not_mem_nil, or_false] at hk'
        rcases hk' with h | rfl
        · exact hall k h
        · rw [hkd]; intro h; have := hb.2 h; simp at this
    · have hte : t = n.kids.length := by simp at hlt; omega
      subst hte
      rw [List.take_length] at hall
      simp only [zz, env0, aPure, aRead, aNew, aEff, aval, avals, aparts, aopt, wantedA, binA, isShift, binI, fillA, single, aRes, splice, mkv, unA, binS, sameAt, reduceCtorEq, reduceIte, Int.reduceEq, Int.reduceLT, Int.reduceLE, Int.reduceNe, Nat.reduceEqDiff, Nat.reduceLT, Nat.reduceAdd, Nat.reduceMul, Nat.reduceSub, Nat.reduceLeDiff, Int.reduceBEq, Int.reduceBNe, Nat.reduceBEq, Nat.reduceBNe, Int.reduceToNat]
      refine hK _ _ (hk2.trans hk) ?_
      rw [hden]
      simp only [Bool.false_eq_true, false_iff]
      rintro ⟨k, h1, h2⟩
      exact hall k h1 h2
  · -- Rep
    have e1 : (n.op == 1) = false := by simp [ho]
    have e3 : (n.op == 3) = false := by simp [ho]
    have e4 : (n.op == 4) = false := by simp [ho]
    have e5 : (n.op == 5) = true := by simp [ho]
    have hs5 : n.kids.length = 1 ∧ 0 ≤ n.lo ∧ n.lo ≤ 4096 ∧ (n.hi = -1 ∨ 1 ≤ n.hi ∧ n.lo ≤ n.hi ∧ n.hi ≤ 4096) := by
      rcases hsh with h | h | h | h | h
      · omega
      · omega
      · omega
      · exact ⟨h.2.2.1, h.2.2.2.1, h.2.2.2.2.1, h.2.2.2.2.2.1⟩
      · omega
    obtain ⟨x, hx⟩ : ∃ x, n.kids = [x] := by
      match hh : n.kids, hs5.1 with
      | [x], _ => exact ⟨x, rfl⟩
    have hx0 : n.kids[0]? = some x := by rw [hx]; rfl
    obtain ⟨m, rfl, hma, hkd⟩ := hkid x (by rw [hx]; simp)
    rw [if_neg (by omega), if_neg (by omega), if_neg (by omega), if_pos ho, hx, List.headD_cons, hkd] at hden
    have m5 := g5 _ (.refl _)
    have m6 := g6 _ (.refl _)
    simp only [e1, e3, e4, e5, m6, zz, env0, aPure, aRead, aNew, aEff, aval, avals, aparts, aopt, wantedA, binA, isShift, binI, fillA, single, aRes, splice, mkv, unA, binS, sameAt, reduceCtorEq, reduceIte, Int.reduceEq, Int.reduceLT, Int.reduceLE, Int.reduceNe, Nat.reduceEqDiff, Nat.reduceLT, Nat.reduceAdd, Nat.reduceMul, Nat.reduceSub, Nat.reduceLeDiff, Int.reduceBEq, Int.reduceBNe, Nat.reduceBEq, Nat.reduceBNe, Int.reduceToNat]
    refine onG_f (fun h0 => ?_) (fun h0 => ?_)
    · obtain ⟨ik, ok, rfl, g1⟩ := (Rows.keeps IntP.mono hk2 hkv).int hx0
      have hkl1 : (n.kids.length : Int) = 1 := by rw [hs5.1]; rfl
      rw [Nat.add_zero] at g1
      simp only [h0, m5, hkl1, g1, zz, env0, aPure, aRead, aNew, aEff, aval, avals, aparts, aopt, wantedA, binA, isShift, binI, fillA, single, aRes, splice, mkv, unA, binS, sameAt, reduceCtorEq, reduceIte, Int.reduceEq, Int.reduceLT, Int.reduceLE, Int.reduceNe, Nat.reduceEqDiff, Nat.reduceLT, Nat.reduceAdd, Nat.reduceMul, Nat.reduceSub, Nat.reduceLeDiff, Int.reduceBEq, Int.reduceBNe, Nat.reduceBEq, Nat.reduceBNe, Int.reduceToNat]
      refine ih m hma (by omega) _ _ (Rows.keeps NdP.mono hk2 hN) ?_
      intro b H4 hk4 hb
      simp only [h0, zz, env0, aPure, aRead, aNew, aEff, aval, avals, aparts, aopt, wantedA, binA, isShift, binI, fillA, single, aRes, splice, mkv, unA, binS, sameAt, reduceCtorEq, reduceIte, Int.reduceEq, Int.reduceLT, Int.reduceLE, Int.reduceNe, Nat.reduceEqDiff, Nat.reduceLT, Nat.reduceAdd, Nat.reduceMul, Nat.reduceSub, Nat.reduceLeDiff, Int.reduceBEq, Int.reduceBNe, Nat.reduceBEq, Nat.reduceBNe, Int.reduceToNat]
      refine hK _ _ (hk2.trans hk4) ?_
      rw [hb, hden]
      have hlo : n.lo ≠ 0 := by simpa using h0
      have hst := iter_stay (fun i j h => (den_le l y m i j h).1) f
      constructor
      · intro h
        obtain ⟨c, hc⟩ : ∃ c : Nat, n.lo = ((c + 1 : Nat) : Int) := ⟨n.lo.toNat - 1, by omega⟩
        refine ⟨c + 1, by omega, ?_, (hst c).2 h⟩
        rcases hs5.2.2.2 with h' | h'
        · exact .inl h'
        · exact .inr (by omega)
      · rintro ⟨c, h1, _, h3⟩
        obtain ⟨d, rfl⟩ : ∃ d, c = d + 1 := ⟨c - 1, by omega⟩
        exact (hst d).1 h3
    · simp only [h0, zz, env0, aPure, aRead, aNew, aEff, aval, avals, aparts, aopt, wantedA, binA, isShift, binI, fillA, single, aRes, splice, mkv, unA, binS, sameAt, reduceCtorEq, reduceIte, Int.reduceEq, Int.reduceLT, Int.reduceLE, Int.reduceNe, Nat.reduceEqDiff, Nat.reduceLT, Nat.reduceAdd, Nat.reduceMul, Nat.reduceSub, Nat.reduceLeDiff, Int.reduceBEq, Int.reduceBNe, Nat.reduceBEq, Nat.reduceBNe, Int.reduceToNat]
      refine hK _ _ hk2 ?_
      rw [hden]
      have hlo : n.lo = 0 := by simpa using h0
      simp only [true_iff]
      exact ⟨0, by omega, by omega, rfl⟩

theorem Nullable_spec (H : AHeap) (v : AV) (l : List Nd) (y : List UInt8) (f : Nat) (hN : Nds H v l) (hR : RightT l) (hNo : NoRef l) (K : AV → AHeap → Prop)
    (hK : ∀ b H', Keeps H H' → (b = true ↔ den l y (l.length - 1) f f) → K (.bool b) H') : WF P0 25 [v] H K := by
  have hl1 := hR.1
  have hl2 := hR.2.1
  have hla := hN.lenOf
  refine zWF rfl rfl rfl ?_
  simp only [a25, zz, env0, aPure, aRead, aNew, aEff, aval, avals, aparts, aopt, wantedA, binA, isShift, binI, fillA, single, aRes, splice, mkv, unA, binS, sameAt, reduceCtorEq, reduceIte, Int.reduceEq, Int.reduceLT, Int.reduceLE, Int.reduceNe, Nat.reduceEqDiff, Nat.reduceLT, Nat.reduceAdd, Nat.reduceMul, Nat.reduceSub, Nat.reduceLeDiff, Int.reduceBEq, Int.reduceBNe, Nat.reduceBEq, Nat.reduceBNe, Int.reduceToNat]
  refine rright_spec _ _ l hN (by omega) _ ?_
  intro b H1 hk1 hb
  have := hb.2 hR
  subst this
  have v1 : IntKind.i64.wrap ((l.length : Int) - 1) = ((l.length - 1 : Nat) : Int) := by rw [wrap_i64 (by omega) (by omega)]; omega
  simp only [hla, v1, zz, env0, aPure, aRead, aNew, aEff, aval, avals, aparts, aopt, wantedA, binA, isShift, binI, fillA, single, aRes, splice, mkv, unA, binS, sameAt, reduceCtorEq, reduceIte, Int.reduceEq, Int.reduceLT, Int.reduceLE, Int.reduceNe, Nat.reduceEqDiff, Nat.reduceLT, Nat.reduceAdd, Nat.reduceMul, Nat.reduceSub, Nat.reduceLeDiff, Int.reduceBEq, Int.reduceBNe, Nat.reduceBEq, Nat.reduceBNe, Int.reduceToNat]
  refine nullable_spec y f hR hNo (l.length - 1) (by omega) _ _ (Rows.keeps NdP.mono hk1 hN) ?_
  intro b2 H2 hk2 hb2
  simp only [zz, env0, aPure, aRead, aNew, aEff, aval, avals, aparts, aopt, wantedA, binA, isShift, binI, fillA, single, aRes, splice, mkv, unA, binS, sameAt, reduceCtorEq, reduceIte, Int.reduceEq, Int.reduceLT, Int.reduceLE, Int.reduceNe, Nat.reduceEqDiff, Nat.reduceLT, Nat.reduceAdd, Nat.reduceMul, Nat.reduceSub, Nat.reduceLeDiff, Int.reduceBEq, Int.reduceBNe, Nat.reduceBEq, Nat.reduceBNe, Int.reduceToNat]
  exact hK _ _ (hk1.trans hk2) hb2

def E9 : ACode := tls 9 a6.body
def E10 : ACode := tls 10 a6.body
theorem empty_cut : a6.body = .seq (hdC (tls 0 a6.body)) (.seq (hdC (tls 1 a6.body)) (.seq (hdC (tls 2 a6.body)) (.seq (hdC (tls 3 a6.body)) (.seq (hdC (tls 4 a6.body)) (.seq (hdC (tls 5 a6.body)) (.seq (hdC (tls 6 a6.body)) (.seq (hdC (tls 7 a6.body)) (.seq (hdC (tls 8 a6.body)) (E9))))))))) := rfl

theorem first_in {ms : List Nat} (h : ms.Pairwise (· < ·)) {f x : Nat} (hx : ms[0]? = some x) (hge : ∀ m, m ∈ ms → f ≤ m) : x = f ↔ f ∈ ms := by
  constructor
  · rintro rfl; exact List.mem_of_getElem? hx
  · intro hf
    obtain ⟨a, r, rfl⟩ : ∃ a r, ms = a :: r := by cases ms with
      | nil => simp at hf
      | cons a r => exact ⟨a, r, rfl⟩
    simp at hx; subst hx
    have h1 := hge a (by simp)
    simp only [List.mem_cons] at hf
    rcases hf with rfl | hf
    · rfl
    · have := (List.pairwise_cons.1 h).1 f hf; omega

theorem empty_run (H : AHeap) (va : AV) (l : List Nd) (w : List UInt8) (at' : Int) (hl : Nds H va l) (hll : l.length ≤ maxLen) (hwl : w.length ≤ maxLen) (ha : 0 ≤ at' ∧ at' ≤ 255) :
    WF P0 6 [va, .str w, .int .u8 at'] H (fun r _ => r = .bool true) := by
  have hmx : maxLen = 9223372036854775807 := rfl
  refine zWF rfl rfl rfl ?_
  rw [empty_cut]
  simp only [a6, hdC, tls, tlC, zz, env0, aPure, aRead, aNew, aEff, aval, avals, aparts, aopt, wantedA, binA, isShift, binI, fillA, single, aRes, splice, mkv, unA, binS, sameAt, reduceCtorEq, reduceIte, Int.reduceEq, Int.reduceLT, Int.reduceLE, Int.reduceNe, Nat.reduceEqDiff, Nat.reduceLT, Nat.reduceAdd, Nat.reduceMul, Nat.reduceSub, Nat.reduceLeDiff, Int.reduceBEq, Int.reduceBNe, Nat.reduceBEq, Nat.reduceBNe, Int.reduceToNat]
  refine shown_sp _ _ ?_
  simp only [zz, env0, aPure, aRead, aNew, aEff, aval, avals, aparts, aopt, wantedA, binA, isShift, binI, fillA, single, aRes, splice, mkv, unA, binS, sameAt, reduceCtorEq, reduceIte, Int.reduceEq, Int.reduceLT, Int.reduceLE, Int.reduceNe, Nat.reduceEqDiff, Nat.reduceLT, Nat.reduceAdd, Nat.reduceMul, Nat.reduceSub, Nat.reduceLeDiff, Int.reduceBEq, Int.reduceBNe, Nat.reduceBEq, Nat.reduceBNe, Int.reduceToNat]
  refine text_spec _ _ _ (by omega) ?_
  generalize hy : w.take 20 = y
  have hyl : y.length ≤ 20 := by rw [← hy, List.length_take]; omega
  obtain ⟨f, hf⟩ : ∃ f : Nat, f = at'.toNat % (y.length + 1) := ⟨_, rfl⟩
  have hfy : f ≤ y.length := by rw [hf]; have := Nat.mod_lt at'.toNat (show 0 < y.length + 1 by omega); omega
  have c1 : IntKind.i64.wrap at' = at' := wrap_i64 (by omega) (by omega)
  have c2 : IntKind.i64.wrap ((y.length : Int) + 1) = ((y.length + 1 : Nat) : Int) := by rw [wrap_i64 (by omega) (by omega)]; rfl
  have c3 : at'.tmod ((y.length + 1 : Nat) : Int) = (f : Int) := by
    rw [hf]
    have : at' = (at'.toNat : Int) := by omega
    rw [this]; rfl
  have c4 : ((((y.length + 1 : Nat) : Int)) = 0) = False := by simp; omega
  simp only [c1, c2, c3, c4, zz, env0, aPure, aRead, aNew, aEff, aval, avals, aparts, aopt, wantedA, binA, isShift, binI, fillA, single, aRes, splice, mkv, unA, binS, sameAt, reduceCtorEq, reduceIte, Int.reduceEq, Int.reduceLT, Int.reduceLE, Int.reduceNe, Nat.reduceEqDiff, Nat.reduceLT, Nat.reduceAdd, Nat.reduceMul, Nat.reduceSub, Nat.reduceLeDiff, Int.reduceBEq, Int.reduceBNe, Nat.reduceBEq, Nat.reduceBNe, Int.reduceToNat]
  refine good_spec _ _ l hl (by omega) _ ?_
  intro b1 H1 hk1 hb1
  cases b1 with
  | false => simp only [zz, env0, aPure, aRead, aNew, aEff, aval, avals, aparts, aopt, wantedA, binA, isShift, binI, fillA, single, aRes, splice, mkv, unA, binS, sameAt, reduceCtorEq, reduceIte, Int.reduceEq, Int.reduceLT, Int.reduceLE, Int.reduceNe, Nat.reduceEqDiff, Nat.reduceLT, Nat.reduceAdd, Nat.reduceMul, Nat.reduceSub, Nat.reduceLeDiff, Int.reduceBEq, Int.reduceBNe, Nat.reduceBEq, Nat.reduceBNe, Int.reduceToNat]
  | true =>
  obtain ⟨hl30, hRl, hNl⟩ := hb1 rfl
  simp only [zz, env0, aPure, aRead, aNew, aEff, aval, avals, aparts, aopt, wantedA, binA, isShift, binI, fillA, single, aRes, splice, mkv, unA, binS, sameAt, reduceCtorEq, reduceIte, Int.reduceEq, Int.reduceLT, Int.reduceLE, Int.reduceNe, Nat.reduceEqDiff, Nat.reduceLT, Nat.reduceAdd, Nat.reduceMul, Nat.reduceSub, Nat.reduceLeDiff, Int.reduceBEq, Int.reduceBNe, Nat.reduceBEq, Nat.reduceBNe, Int.reduceToNat]
  refine Ends_spec _ _ l y f (Rows.keeps NdP.mono hk1 hl) (by omega) (by omega) _ ?_
  intro v7 H2 ms hk2 hi2 hE2
  have hk12 := hk1.trans hk2
  have s2 := slice_from y f hfy
  simp only [s2, zz, env0, aPure, aRead, aNew, aEff, aval, avals, aparts, aopt, wantedA, binA, isShift, binI, fillA, single, aRes, splice, mkv, unA, binS, sameAt, reduceCtorEq, reduceIte, Int.reduceEq, Int.reduceLT, Int.reduceLE, Int.reduceNe, Nat.reduceEqDiff, Nat.reduceLT, Nat.reduceAdd, Nat.reduceMul, Nat.reduceSub, Nat.reduceLeDiff, Int.reduceBEq, Int.reduceBNe, Nat.reduceBEq, Nat.reduceBNe, Int.reduceToNat]
  refine Ends_spec _ _ l (y.drop f) 0 (Rows.keeps NdP.mono hk12 hl) (by omega) (by rw [List.length_drop]; omega) _ ?_
  intro v8 H3 ns hk3 hi3 hE3
  have hk13 := hk12.trans hk3
  have hml := hE2.1.len
  have hms : ms = ns.map (f + ·) := sorted_ext hE2.1.1 (by
      rw [List.pairwise_map]; exact hE3.1.1.imp (fun {a b} h => by omega)) (fun x => by
    rw [hE2.2 x, List.mem_map]
    constructor
    · rintro ⟨h1, h2, h3, h4, h5⟩
      have h6 : f ≤ x := (den_le _ _ _ _ _ h5).1
      refine ⟨x - f, (hE3.2 _).2 ⟨h1, h2, by omega, by omega, (den_drop l y f _ _ _).2 ?_⟩, by omega⟩
      have e1 : f + (0 : Int).toNat = f := by simp
      have e2 : f + (x - f) = x := by omega
      rw [e1, e2]; exact h5
    · rintro ⟨z, h1, rfl⟩
      obtain ⟨h2, h3, _, _, h5⟩ := (hE3.2 z).1 h1
      have := (den_drop l y f _ _ _).1 h5
      exact ⟨h2, h3, by omega, by omega, by simpa using this⟩)
  have hlen : ms.length = ns.length := by rw [hms, List.length_map]
  have hlo7 := hi2.lenOf
  have hlo8 := hi3.lenOf
  rw [nts_len] at hlo7 hlo8
  have q0 : ((ms.length : Int) != ns.length) = false := by simp [hlen]
  simp only [hlo7, hlo8, q0, zz, env0, aPure, aRead, aNew, aEff, aval, avals, aparts, aopt, wantedA, binA, isShift, binI, fillA, single, aRes, splice, mkv, unA, binS, sameAt, reduceCtorEq, reduceIte, Int.reduceEq, Int.reduceLT, Int.reduceLE, Int.reduceNe, Nat.reduceEqDiff, Nat.reduceLT, Nat.reduceAdd, Nat.reduceMul, Nat.reduceSub, Nat.reduceLeDiff, Int.reduceBEq, Int.reduceBNe, Nat.reduceBEq, Nat.reduceBNe, Int.reduceToNat]
  refine WCL (fun r env H' => H' = H3 ∧ ∃ (t : Nat) (a9 a17 a18 : AV), t ≤ ms.length ∧ r = ms.length - t ∧
      env = [va, .str w, .int .u8 at', .bool false, .bool true, .str y, .int .i64 f, v7, v8, a9, .junk, .junk, .junk, .bool false, .bool false, .int .i64 ms.length, .int .i64 t, a17, a18]) (n := ms.length)
    ⟨rfl, 0, _, _, _, Nat.zero_le _, rfl, rfl⟩ ?_
  rintro r env H' ⟨rfl, t, a9, a17, a18, htl, rfl, rfl⟩
  simp only [zz, env0, aPure, aRead, aNew, aEff, aval, avals, aparts, aopt, wantedA, binA, isShift, binI, fillA, single, aRes, splice, mkv, unA, binS, sameAt, reduceCtorEq, reduceIte, Int.reduceEq, Int.reduceLT, Int.reduceLE, Int.reduceNe, Nat.reduceEqDiff, Nat.reduceLT, Nat.reduceAdd, Nat.reduceMul, Nat.reduceSub, Nat.reduceLeDiff, Int.reduceBEq, Int.reduceBNe, Nat.reduceBEq, Nat.reduceBNe, Int.reduceToNat]
  refine onB_of (fun hlt => ?_) (fun hlt => ?_)
  · have hlt : t < ms.length := by simpa using hlt
    obtain ⟨z, hz⟩ : ∃ z, ns[t]? = some z := ⟨ns[t]'(by omega), List.getElem?_eq_getElem (by omega)⟩
    have hx : ms[t]? = some (f + z) := by rw [hms, List.getElem?_map, hz]; rfl
    have hzl : z ≤ (y.drop f).length := hE3.1.2 z (List.mem_of_getElem? hz)
    rw [List.length_drop] at hzl
    obtain ⟨i7, o7, rfl, g1⟩ := (Rows.keeps IntP.mono hk3 hi2).int (nts_get hx)
    obtain ⟨i8, o8, rfl, g2⟩ := hi3.int (nts_get hz)
    rw [nts_len ms] at *
    rw [nts_len ns] at *
    have r1 : (0 : Int) ≤ t := by omega
    have r2 : (t : Int) < ms.length := by omega
    have r3 : (t : Int) < ns.length := by omega
    have vt : IntKind.i64.wrap ((t : Int) + 1) = ((t + 1 : Nat) : Int) := by rw [wrap_i64 (by omega) (by omega)]; rfl
    have vz : IntKind.i64.wrap ((z : Int) + f) = ((f + z : Nat) : Int) := by rw [wrap_i64 (by omega) (by omega)]; omega
    have vq : ((((f + z : Nat) : Int)) != ((f + z : Nat) : Int)) = false := by simp
    simp only [r1, r2, r3, Nat.mul_one, g1, g2, vz, vq, vt, zz, env0, aPure, aRead, aNew, aEff, aval, avals, aparts, aopt, wantedA, binA, isShift, binI, fillA, single, aRes, splice, mkv, unA, binS, sameAt, reduceCtorEq, reduceIte, Int.reduceEq, Int.reduceLT, Int.reduceLE, Int.reduceNe, Nat.reduceEqDiff, Nat.reduceLT, Nat.reduceAdd, Nat.reduceMul, Nat.reduceSub, Nat.reduceLeDiff, Int.reduceBEq, Int.reduceBNe, Nat.reduceBEq, Nat.reduceBNe, Int.reduceToNat]
    exact ⟨ms.length - (t + 1), by omega, t + 1, _, _, _, hlt, rfl, rfl⟩
  · have hte : t = ms.length := by simp at hlt; omega
    subst hte
    have hi7 : Ints H' v7 (nts ms) := Rows.keeps IntP.mono hk3 hi2
    have hge : ∀ m, m ∈ ms → f ≤ m := fun m hm => by have := ends_ge hE2 hm; omega
    simp only [zz, env0, aPure, aRead, aNew, aEff, aval, avals, aparts, aopt, wantedA, binA, isShift, binI, fillA, single, aRes, splice, mkv, unA, binS, sameAt, reduceCtorEq, reduceIte, Int.reduceEq, Int.reduceLT, Int.reduceLE, Int.reduceNe, Nat.reduceEqDiff, Nat.reduceLT, Nat.reduceAdd, Nat.reduceMul, Nat.reduceSub, Nat.reduceLeDiff, Int.reduceBEq, Int.reduceBNe, Nat.reduceBEq, Nat.reduceBNe, Int.reduceToNat]
    rw [show E9 = .seq (hdC E9) E10 from rfl, zWC_seq]
    refine WC.mono (K := fun e env H2 => e = .normal ∧ H2 = H' ∧ ∃ eb a17, (eb = true ↔ f ∈ ms) ∧ env = [va, .str w, .int .u8 at', .bool false, .bool true, .str y, .int .i64 f, v7, v8, a9, .bool eb, .junk, .junk, .bool false, .bool false, .int .i64 ms.length, .int .i64 ms.length, a17, a18]) ?_ ?_
    · simp only [E9, hdC, tls, tlC, a6, hlo7, zz, env0, aPure, aRead, aNew, aEff, aval, avals, aparts, aopt, wantedA, binA, isShift, binI, fillA, single, aRes, splice, mkv, unA, binS, sameAt, reduceCtorEq, reduceIte, Int.reduceEq, Int.reduceLT, Int.reduceLE, Int.reduceNe, Nat.reduceEqDiff, Nat.reduceLT, Nat.reduceAdd, Nat.reduceMul, Nat.reduceSub, Nat.reduceLeDiff, Int.reduceBEq, Int.reduceBNe, Nat.reduceBEq, Nat.reduceBNe, Int.reduceToNat]
      by_cases h0 : 0 < ms.length
      · have hd : decide ((0 : Int) < ms.length) = true := by simp; omega
        obtain ⟨x, hx⟩ : ∃ x, ms[0]? = some x := ⟨ms[0], List.getElem?_eq_getElem h0⟩
        obtain ⟨i7, o7, rfl, g1⟩ := hi7.int (nts_get hx)
        rw [nts_len] at *
        rw [Nat.add_zero] at g1
        have r2 : (0 : Int) < ms.length := by omega
        simp only [hd, r2, g1, zz, env0, aPure, aRead, aNew, aEff, aval, avals, aparts, aopt, wantedA, binA, isShift, binI, fillA, single, aRes, splice, mkv, unA, binS, sameAt, reduceCtorEq, reduceIte, Int.reduceEq, Int.reduceLT, Int.reduceLE, Int.reduceNe, Nat.reduceEqDiff, Nat.reduceLT, Nat.reduceAdd, Nat.reduceMul, Nat.reduceSub, Nat.reduceLeDiff, Int.reduceBEq, Int.reduceBNe, Nat.reduceBEq, Nat.reduceBNe, Int.reduceToNat]
        refine ⟨_, _, ?_, rfl⟩
        rw [← first_in hE2.1.1 hx hge]
        simp only [beq_iff_eq]
        omega
      · have hd : decide ((0 : Int) < ms.length) = false := decide_eq_false (by omega)
        have : ms = [] := List.length_eq_zero_iff.1 (by omega)
        simp only [hd, zz, env0, aPure, aRead, aNew, aEff, aval, avals, aparts, aopt, wantedA, binA, isShift, binI, fillA, single, aRes, splice, mkv, unA, binS, sameAt, reduceCtorEq, reduceIte, Int.reduceEq, Int.reduceLT, Int.reduceLE, Int.reduceNe, Nat.reduceEqDiff, Nat.reduceLT, Nat.reduceAdd, Nat.reduceMul, Nat.reduceSub, Nat.reduceLeDiff, Int.reduceBEq, Int.reduceBNe, Nat.reduceBEq, Nat.reduceBNe, Int.reduceToNat]
        exact ⟨false, _, by simp [this], rfl⟩
    · rintro e env H4 ⟨rfl, rfl, eb, b17, heb, rfl⟩
      simp only [E10, tls, tlC, a6, zz, env0, aPure, aRead, aNew, aEff, aval, avals, aparts, aopt, wantedA, binA, isShift, binI, fillA, single, aRes, splice, mkv, unA, binS, sameAt, reduceCtorEq, reduceIte, Int.reduceEq, Int.reduceLT, Int.reduceLE, Int.reduceNe, Nat.reduceEqDiff, Nat.reduceLT, Nat.reduceAdd, Nat.reduceMul, Nat.reduceSub, Nat.reduceLeDiff, Int.reduceBEq, Int.reduceBNe, Nat.reduceBEq, Nat.reduceBNe, Int.reduceToNat]
      refine Longest_spec _ _ l y f (Rows.keeps NdP.mono hk13 hl) (by omega) (by omega) _ ?_
      intro nn ok H5 ms5 hk5 hE5 hL5
      have := ends_uniq hE2 hE5
      subst this
      have hk15 := hk13.trans hk5
      simp only [zz, env0, aPure, aRead, aNew, aEff, aval, avals, aparts, aopt, wantedA, binA, isShift, binI, fillA, single, aRes, splice, mkv, unA, binS, sameAt, reduceCtorEq, reduceIte, Int.reduceEq, Int.reduceLT, Int.reduceLE, Int.reduceNe, Nat.reduceEqDiff, Nat.reduceLT, Nat.reduceAdd, Nat.reduceMul, Nat.reduceSub, Nat.reduceLeDiff, Int.reduceBEq, Int.reduceBNe, Nat.reduceBEq, Nat.reduceBNe, Int.reduceToNat]
      refine Nullable_spec _ _ l y f (Rows.keeps NdP.mono hk15 hl) hRl hNl _ ?_
      intro b2 H6 hk6 hb2
      have hk16 := hk15.trans hk6
      have hfm : f ∈ ms ↔ den l y (l.length - 1) f f := by
        rw [hE2.2]
        constructor
        · rintro ⟨_, _, _, _, h⟩; simpa using h
        · intro h; exact ⟨hRl, hNl, by omega, by omega, by simpa using h⟩
      have e4 := is_bool heb hb2 hfm
      cases ok with
      | true =>
        obtain ⟨m, h1, rfl, h3, h4⟩ := hL5.1 rfl
        have hmf := hge m h1
        have hmy := hE2.1.2 m h1
        have hd : decide ((f : Int) < m) = true := by simp; omega
        have s3 := slice_mid y f m hmf hmy
        simp only [e4, hd, s3, zz, env0, aPure, aRead, aNew, aEff, aval, avals, aparts, aopt, wantedA, binA, isShift, binI, fillA, single, aRes, splice, mkv, unA, binS, sameAt, reduceCtorEq, reduceIte, Int.reduceEq, Int.reduceLT, Int.reduceLE, Int.reduceNe, Nat.reduceEqDiff, Nat.reduceLT, Nat.reduceAdd, Nat.reduceMul, Nat.reduceSub, Nat.reduceLeDiff, Int.reduceBEq, Int.reduceBNe, Nat.reduceBEq, Nat.reduceBNe, Int.reduceToNat]
        refine Is_spec _ _ l ((y.take m).drop f) (Rows.keeps NdP.mono hk16 hl) (by omega) (by rw [List.length_drop, List.length_take]; omega) _ ?_
        intro b3 H7 hk7 hb3
        have hist : IsT l ((y.take m).drop f) := by
          have hlm : (y.take m).length = m := by rw [List.length_take]; omega
          rw [is_drop (by omega), hlm]
          refine ⟨hRl, hNl, (den_take l y m hmy _ _ _ hmf).2 ⟨?_, Nat.le_refl _⟩⟩
          obtain ⟨_, _, _, _, h⟩ := (hE2.2 m).1 h1
          simpa using h
        have := hb3.2 hist
        subst this
        simp only [zz, env0, aPure, aRead, aNew, aEff, aval, avals, aparts, aopt, wantedA, binA, isShift, binI, fillA, single, aRes, splice, mkv, unA, binS, sameAt, reduceCtorEq, reduceIte, Int.reduceEq, Int.reduceLT, Int.reduceLE, Int.reduceNe, Nat.reduceEqDiff, Nat.reduceLT, Nat.reduceAdd, Nat.reduceMul, Nat.reduceSub, Nat.reduceLeDiff, Int.reduceBEq, Int.reduceBNe, Nat.reduceBEq, Nat.reduceBNe, Int.reduceToNat]
      | false =>
        have hall := (hL5.2 rfl).2
        by_cases h0 : ms.length = 0
        · have hd : ((ms.length : Int) == 0) = true := by simp [h0]
          simp only [e4, hlo7, hd, zz, env0, aPure, aRead, aNew, aEff, aval, avals, aparts, aopt, wantedA, binA, isShift, binI, fillA, single, aRes, splice, mkv, unA, binS, sameAt, reduceCtorEq, reduceIte, Int.reduceEq, Int.reduceLT, Int.reduceLE, Int.reduceNe, Nat.reduceEqDiff, Nat.reduceLT, Nat.reduceAdd, Nat.reduceMul, Nat.reduceSub, Nat.reduceLeDiff, Int.reduceBEq, Int.reduceBNe, Nat.reduceBEq, Nat.reduceBNe, Int.reduceToNat]
        · have hd : ((ms.length : Int) == 0) = false := beq_eq_false_iff_ne.2 (by omega)
          have hone : ms.length = 1 := by
            have hsub : ms = [f] ∨ ms = [] := by
              cases ms with
              | nil => exact .inr rfl
              | cons a r =>
                left
                have ha := hall a (by simp)
                have ha2 := hge a (by simp)
                have : a = f := by omega
                subst this
                cases r with
                | nil => rfl
                | cons b r =>
                  have hb := hall b (by simp)
                  have := (List.pairwise_cons.1 hE2.1.1).1 b (by simp)
                  omega
            rcases hsub with h | h
            · rw [h]; rfl
            · rw [h] at h0; simp at h0
          have hd1 : ((ms.length : Int) == 1) = true := by simp [hone]
          have hebt : eb = true := by
            rw [heb]
            obtain ⟨a, r, e⟩ : ∃ a r, ms = a :: r := by cases ms with
              | nil => simp at h0
              | cons a r => exact ⟨a, r, rfl⟩
            have ha := hall a (by rw [e]; simp)
            have ha2 := hge a (by rw [e]; simp)
            have : a = f := by omega
            rw [e, this]; simp
          subst hebt
          simp only [e4, hlo7, hd, hd1, zz, env0, aPure, aRead, aNew, aEff, aval, avals, aparts, aopt, wantedA, binA, isShift, binI, fillA, single, aRes, splice, mkv, unA, binS, sameAt, reduceCtorEq, reduceIte, Int.reduceEq, Int.reduceLT, Int.reduceLE, Int.reduceNe, Nat.reduceEqDiff, Nat.reduceLT, Nat.reduceAdd, Nat.reduceMul, Nat.reduceSub, Nat.reduceLeDiff, Int.reduceBEq, Int.reduceBNe, Nat.reduceBEq, Nat.reduceBNe, Int.reduceToNat]
end Go.Proofs.Ytnblhjpbpobglaa

/- LangEmpty: the statement, from the law's run. -/
set_option maxRecDepth 100000
set_option linter.unusedVariables false
namespace Go.Proofs.Ytnblhjpbpobglaa
open Go.Am Go.ChangeShapes Go.WideShapes Go.ChangeAt Go.RowKit

theorem own : ownKnob Try.prog.godebug = none := by kernel_rfl
theorem laidOut : laidOutB Try.prog = true := by kernel_rfl

theorem law_shapes : shapesArgs Try.prog 20 Try.f6.params.toList = some [.slice 9 ndShp, .str, .int .u8] := by kernel_rfl

theorem law_all (H : AHeap) (avs : List AV) (h : FitsArgs H [.slice 9 ndShp, .str, .int .u8] avs) : ∃ n H', aCall prog orc1 n 6 avs H = some (.bool true, H') := by
  simp only [FitsArgs] at h
  obtain ⟨a0, _, rfl, h0, a1, _, rfl, h1, a2, _, rfl, h2, rfl⟩ := h
  obtain ⟨l0, g0, k0⟩ := fits_nds h0
  obtain ⟨s1, e1, k1⟩ := fits_str h1
  simp only [List.cons.injEq, and_true] at e1
  subst e1
  simp only [Fits] at h2
  obtain ⟨n2, e2, u2, v2⟩ := h2
  simp only [List.cons.injEq, and_true] at e2
  subst e2
  have u2 : (0 : Int) ≤ n2 := u2
  have v2 : n2 ≤ 255 := v2
  obtain ⟨m, r, HF, h, rfl⟩ := empty_run H a0 l0 s1 n2 g0 k0 k1 ⟨u2, v2⟩
  exact ⟨m, HF, h⟩

theorem law_lifted (os : Os) (started : os.Started) (H : Type) (enc : TypeId × Value → H) :
    ReturnsInHanded {} Try.checked os 6 .any (Rows.langEmptySpec.pre6 enc Try.prog Try.f6 Rows.langEmptyRow.domain false) (Rows.langEmptySpec.post enc Try.prog Try.f6 false Rows.langEmptyRow.fresh Rows.langEmptyRow.handsOn Rows.langEmptyRow.again) := by
  refine returnsInHanded_of_change (C := Try.checked) own started (by kernel_rfl) Try.func6
    (ChangeSpec.witness6 (enc := enc) (C := Try.checked) false ⟨#[], #[.slice none 0 0, .string ⟨#[]⟩, .int .u8 0], []⟩ 8 (by kernel_rfl) (by kernel_rfl) (by kernel_rfl) (by kernel_rfl)) ?_
  intro W base args ds gs before hval hW _ _
  exact law_calls laidOut sound law_shapes (by
      have : Try.f6.params.toList.all (fun t => Try.prog.readableRec t && decide (t < Try.prog.types.size)) = true := by kernel_rfl
      intro t ht
      have := List.all_eq_true.1 this t ht
      simpa using this) rfl (tb := 4) (by kernel_rfl) (by kernel_rfl) (fun ds hds => by
      match ds, hds with
      | [d0, d1, d2], _ => rfl) hval hW (fun H avs hF => law_all H avs hF)

theorem law_row : Rows.LangEmptySaid :=
  OpenClaim.holds_of_wide 6 Try.f6 rfl rfl rfl rfl rfl rfl rfl ⟨rfl, rfl, rfl, rfl, rfl⟩ rfl rfl rfl rfl rfl (by kernel_rfl) Try.func6 (by kernel_rfl)
    (of_decide_eq_true (by kernel_rfl)) (by unfold Func.isWrapper; first | (rw [if_pos (by decide +kernel)]; kernel_rfl) | (rw [if_neg (by decide +kernel)]; exact ⟨rfl, rfl⟩))
    (fun os started H enc _ => law_lifted os started H enc)
end Go.Proofs.Ytnblhjpbpobglaa
