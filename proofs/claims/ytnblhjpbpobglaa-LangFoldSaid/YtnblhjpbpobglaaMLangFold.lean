/- The law's run, and the statement. -/
import Derived.Test.YtnblhjpbpobglaaM5
import Derived.Test.YtnblhjpbpobglaaRows
import Derived.Test.YtnblhjpbpobglaaM2

/- LangJoin: the law's run. -/
set_option maxRecDepth 100000
set_option linter.unusedSimpArgs false
namespace Go.Proofs.Ytnblhjpbpobglaa
open Go.Am

/-- Parts of a text in a row. -/
def hdC : ACode → ACode
  | .seq a _ => a
  | c => c
def tlC : ACode → ACode
  | .seq _ b => b
  | c => c
def tls : Nat → ACode → ACode
  | 0, c => c
  | n + 1, c => tls n (tlC c)

def J5 : ACode := tls 5 a8.body
def J6 : ACode := tls 6 a8.body
def J7 : ACode := tls 7 a8.body
def J8 : ACode := tls 8 a8.body
theorem join_cut : a8.body = .seq (hdC a8.body) (.seq (hdC (tls 1 a8.body)) (.seq (hdC (tls 2 a8.body)) (.seq (hdC (tls 3 a8.body)) (.seq (hdC (tls 4 a8.body)) J5)))) := rfl

theorem kids_small {m : List Nd} (hR : RightT m) (hl : m.length ≤ 30) : ∀ n, n ∈ m → n.kids.length ≤ 1000 ∧ ∀ x, x ∈ n.kids → 0 ≤ x ∧ x ≤ 1000 := fun n hn => by
  obtain ⟨k, hk⟩ := List.mem_iff_getElem?.1 hn
  obtain ⟨_, _, r, hr⟩ := hR
  obtain ⟨_, h2, h3⟩ := stk_kids hr hk
  have hkl : k < m.length := by
    rcases Nat.lt_or_ge k m.length with h | h
    · exact h
    · rw [List.getElem?_eq_none h] at hk; simp at hk
  exact ⟨by omega, fun x hx => by have := h3 x hx; omega⟩

def repN (lo hi : Int) : Nd := ⟨5, 0, 0, 0, 0, [], lo, hi, []⟩
theorem repN_ok {lo hi : Int} (h1 : i64In lo) (h2 : i64In hi) : (repN lo hi).Ok :=
  ⟨⟨by simp [repN], by simp [repN]⟩, zero_u64, zero_u64, zero_u64, zero_u64, fun x hx => by simp [repN] at hx, h1, h2, by simp [repN], by simp [repN]⟩
theorem repN_shaped {lo hi : Int} (d : Int) (h1 : 0 ≤ lo ∧ lo ≤ 4096) (h2 : hi = -1 ∨ 1 ≤ hi ∧ lo ≤ hi ∧ hi ≤ 4096) : Shaped { repN lo hi with kids := [d] } :=
  .inr (.inr (.inr (.inl ⟨rfl, ⟨rfl, rfl, rfl, rfl⟩, rfl, h1.1, h1.2, h2, rfl⟩)))

theorem is_bool {p q : Prop} {a b : Bool} (h1 : a = true ↔ p) (h2 : b = true ↔ q) (h : p ↔ q) : (a == b) = true := by
  have : a = b := by
    cases a <;> cases b <;> simp_all
  simp [this]

theorem join_run (H : AHeap) (va vb : AV) (l m : List Nd) (w : List UInt8) (at' : Int) (hl : Nds H va l) (hm : Nds H vb m) (hll : l.length ≤ maxLen) (hml : m.length ≤ maxLen) (hwl : w.length ≤ maxLen) (ha : 0 ≤ at' ∧ at' ≤ 255) :
    WF P0 8 [va, vb, .str w, .int .u8 at'] H (fun r _ => r = .bool true) := by
  have hmx : maxLen = 9223372036854775807 := rfl
  refine zWF rfl rfl rfl ?_
  rw [join_cut]
  simp only [a8, hdC, tls, tlC, zz, env0, aPure, aRead, aNew, aEff, aval, avals, aparts, aopt, wantedA, binA, isShift, binI, fillA, single, aRes, splice, mkv, unA, binS, sameAt, reduceCtorEq, reduceIte, Int.reduceEq, Int.reduceLT, Int.reduceLE, Int.reduceNe, Nat.reduceEqDiff, Nat.reduceLT, Nat.reduceAdd, Nat.reduceMul, Nat.reduceSub, Nat.reduceLeDiff, Int.reduceBEq, Int.reduceBNe, Nat.reduceBEq, Nat.reduceBNe, Int.reduceToNat]
  refine shown_sp _ _ ?_
  simp only [zz, env0, aPure, aRead, aNew, aEff, aval, avals, aparts, aopt, wantedA, binA, isShift, binI, fillA, single, aRes, splice, mkv, unA, binS, sameAt, reduceCtorEq, reduceIte, Int.reduceEq, Int.reduceLT, Int.reduceLE, Int.reduceNe, Nat.reduceEqDiff, Nat.reduceLT, Nat.reduceAdd, Nat.reduceMul, Nat.reduceSub, Nat.reduceLeDiff, Int.reduceBEq, Int.reduceBNe, Nat.reduceBEq, Nat.reduceBNe, Int.reduceToNat]
  refine text_spec _ _ _ (by omega) ?_
  generalize hy : w.take 20 = y
  have hyl : y.length ≤ 20 := by rw [← hy, List.length_take]; omega
  obtain ⟨f, hf⟩ : ∃ f : Nat, f = at'.toNat % (y.length + 1) := ⟨_, rfl⟩
  have hfy : f ≤ y.length := by rw [hf]; have := Nat.mod_lt at'.toNat (show 0 < y.length + 1 by omega); omega
  have c1 : IntKind.i64.wrap at' = at' := wrap_i64 (by omega) (by omega)
  have c2 : IntKind.i64.wrap ((y.length : Int) + 1) = ((y.length + 1 : Nat) : Int) := by rw [wrap_i64 (by omega) (by omega)]; rfl
  have c3 : at'.tmod ((y.length + 1 : Nat) : Int) = (f : Int) := by
    rw [hf]
    have : at' = (at'.toNat : Int) := by omega
    rw [this]; rfl
  have c4 : ((((y.length + 1 : Nat) : Int)) = 0) = False := by simp; omega
  simp only [c1, c2, c3, c4, zz, env0, aPure, aRead, aNew, aEff, aval, avals, aparts, aopt, wantedA, binA, isShift, binI, fillA, single, aRes, splice, mkv, unA, binS, sameAt, reduceCtorEq, reduceIte, Int.reduceEq, Int.reduceLT, Int.reduceLE, Int.reduceNe, Nat.reduceEqDiff, Nat.reduceLT, Nat.reduceAdd, Nat.reduceMul, Nat.reduceSub, Nat.reduceLeDiff, Int.reduceBEq, Int.reduceBNe, Nat.reduceBEq, Nat.reduceBNe, Int.reduceToNat]
  refine good_spec _ _ l hl (by omega) _ ?_
  intro b1 H1 hk1 hb1
  cases b1 with
  | false => simp only [zz, env0, aPure, aRead, aNew, aEff, aval, avals, aparts, aopt, wantedA, binA, isShift, binI, fillA, single, aRes, splice, mkv, unA, binS, sameAt, reduceCtorEq, reduceIte, Int.reduceEq, Int.reduceLT, Int.reduceLE, Int.reduceNe, Nat.reduceEqDiff, Nat.reduceLT, Nat.reduceAdd, Nat.reduceMul, Nat.reduceSub, Nat.reduceLeDiff, Int.reduceBEq, Int.reduceBNe, Nat.reduceBEq, Nat.reduceBNe, Int.reduceToNat]
  | true =>
  obtain ⟨hl30, hRl, hNl⟩ := hb1 rfl
  simp only [zz, env0, aPure, aRead, aNew, aEff, aval, avals, aparts, aopt, wantedA, binA, isShift, binI, fillA, single, aRes, splice, mkv, unA, binS, sameAt, reduceCtorEq, reduceIte, Int.reduceEq, Int.reduceLT, Int.reduceLE, Int.reduceNe, Nat.reduceEqDiff, Nat.reduceLT, Nat.reduceAdd, Nat.reduceMul, Nat.reduceSub, Nat.reduceLeDiff, Int.reduceBEq, Int.reduceBNe, Nat.reduceBEq, Nat.reduceBNe, Int.reduceToNat]
  refine good_spec _ _ m (Rows.keeps NdP.mono hk1 hm) (by omega) _ ?_
  intro b2 H2 hk2 hb2
  cases b2 with
  | false => simp only [zz, env0, aPure, aRead, aNew, aEff, aval, avals, aparts, aopt, wantedA, binA, isShift, binI, fillA, single, aRes, splice, mkv, unA, binS, sameAt, reduceCtorEq, reduceIte, Int.reduceEq, Int.reduceLT, Int.reduceLE, Int.reduceNe, Nat.reduceEqDiff, Nat.reduceLT, Nat.reduceAdd, Nat.reduceMul, Nat.reduceSub, Nat.reduceLeDiff, Int.reduceBEq, Int.reduceBNe, Nat.reduceBEq, Nat.reduceBNe, Int.reduceToNat]
  | true =>
  obtain ⟨hm30, hRm, hNm⟩ := hb2 rfl
  have hk12 := hk1.trans hk2
  have s1 := slice_to y f hfy
  have s2 := slice_from y f hfy
  have hlt : l.length < 9223372036854775808 := by omega
  have hmt : m.length < 9223372036854775808 := by omega
  have hyt : (y.take f).length ≤ 1000000 := by rw [List.length_take]; omega
  have hyd : (y.drop f).length ≤ 1000000 := by rw [List.length_drop]; omega
  have hyy : y.length ≤ 1000000 := by omega
  simp only [zz, env0, aPure, aRead, aNew, aEff, aval, avals, aparts, aopt, wantedA, binA, isShift, binI, fillA, single, aRes, splice, mkv, unA, binS, sameAt, reduceCtorEq, reduceIte, Int.reduceEq, Int.reduceLT, Int.reduceLE, Int.reduceNe, Nat.reduceEqDiff, Nat.reduceLT, Nat.reduceAdd, Nat.reduceMul, Nat.reduceSub, Nat.reduceLeDiff, Int.reduceBEq, Int.reduceBNe, Nat.reduceBEq, Nat.reduceBNe, Int.reduceToNat]
  rw [show J5 = .seq (hdC J5) J6 from rfl, zWC_seq]
  refine WC.mono (K := fun e env' H' => e = .normal ∧ Keeps H H' ∧ ∃ b, (b = true ↔ IsT l (y.take f) ∧ IsT m (y.drop f)) ∧ env' = [va, vb, .str w, .int .u8 at', .bool false, .bool true, .str y, .int .i64 f, .bool b, .junk, .junk, .bool false]) ?_ ?_
  · simp only [J5, hdC, tls, tlC, a8, s1, s2, zz, env0, aPure, aRead, aNew, aEff, aval, avals, aparts, aopt, wantedA, binA, isShift, binI, fillA, single, aRes, splice, mkv, unA, binS, sameAt, reduceCtorEq, reduceIte, Int.reduceEq, Int.reduceLT, Int.reduceLE, Int.reduceNe, Nat.reduceEqDiff, Nat.reduceLT, Nat.reduceAdd, Nat.reduceMul, Nat.reduceSub, Nat.reduceLeDiff, Int.reduceBEq, Int.reduceBNe, Nat.reduceBEq, Nat.reduceBNe, Int.reduceToNat]
    refine Is_spec _ _ l (y.take f) (Rows.keeps NdP.mono hk12 hl) hlt hyt _ ?_
    intro b1 H3 hk3 hb1
    cases b1 with
    | false =>
      simp only [s1, s2, zz, env0, aPure, aRead, aNew, aEff, aval, avals, aparts, aopt, wantedA, binA, isShift, binI, fillA, single, aRes, splice, mkv, unA, binS, sameAt, reduceCtorEq, reduceIte, Int.reduceEq, Int.reduceLT, Int.reduceLE, Int.reduceNe, Nat.reduceEqDiff, Nat.reduceLT, Nat.reduceAdd, Nat.reduceMul, Nat.reduceSub, Nat.reduceLeDiff, Int.reduceBEq, Int.reduceBNe, Nat.reduceBEq, Nat.reduceBNe, Int.reduceToNat]
      exact ⟨(hk12).trans hk3, false, by simp; intro h; have := hb1.2 h; simp at this, rfl⟩
    | true =>
      simp only [s1, s2, zz, env0, aPure, aRead, aNew, aEff, aval, avals, aparts, aopt, wantedA, binA, isShift, binI, fillA, single, aRes, splice, mkv, unA, binS, sameAt, reduceCtorEq, reduceIte, Int.reduceEq, Int.reduceLT, Int.reduceLE, Int.reduceNe, Nat.reduceEqDiff, Nat.reduceLT, Nat.reduceAdd, Nat.reduceMul, Nat.reduceSub, Nat.reduceLeDiff, Int.reduceBEq, Int.reduceBNe, Nat.reduceBEq, Nat.reduceBNe, Int.reduceToNat]
      refine Is_spec _ _ m (y.drop f) (Rows.keeps NdP.mono ((hk12).trans hk3) hm) hmt hyd _ ?_
      intro b2 H4 hk4 hb2
      simp only [zz, env0, aPure, aRead, aNew, aEff, aval, avals, aparts, aopt, wantedA, binA, isShift, binI, fillA, single, aRes, splice, mkv, unA, binS, sameAt, reduceCtorEq, reduceIte, Int.reduceEq, Int.reduceLT, Int.reduceLE, Int.reduceNe, Nat.reduceEqDiff, Nat.reduceLT, Nat.reduceAdd, Nat.reduceMul, Nat.reduceSub, Nat.reduceLeDiff, Int.reduceBEq, Int.reduceBNe, Nat.reduceBEq, Nat.reduceBNe, Int.reduceToNat]
      exact ⟨((hk12).trans hk3).trans hk4, b2, by rw [hb2]; simp [hb1.1 rfl], rfl⟩
  rintro e env' H5 ⟨rfl, hk5, both, hboth, rfl⟩
  simp only [zz, env0, aPure, aRead, aNew, aEff, aval, avals, aparts, aopt, wantedA, binA, isShift, binI, fillA, single, aRes, splice, mkv, unA, binS, sameAt, reduceCtorEq, reduceIte, Int.reduceEq, Int.reduceLT, Int.reduceLE, Int.reduceNe, Nat.reduceEqDiff, Nat.reduceLT, Nat.reduceAdd, Nat.reduceMul, Nat.reduceSub, Nat.reduceLeDiff, Int.reduceBEq, Int.reduceBNe, Nat.reduceBEq, Nat.reduceBNe, Int.reduceToNat]
  rw [show J6 = .seq (hdC J6) J7 from rfl, zWC_seq]
  refine WC.mono (K := fun e env' H' => e = .normal ∧ Keeps H H' ∧ ∃ b, (b = true ↔ IsT l (y.take f) ∧ IsT l (y.drop f)) ∧ env' = [va, vb, .str w, .int .u8 at', .bool false, .bool true, .str y, .int .i64 f, .bool both, .bool b, .junk, .bool false]) ?_ ?_
  · simp only [J6, hdC, tls, tlC, a8, s1, s2, zz, env0, aPure, aRead, aNew, aEff, aval, avals, aparts, aopt, wantedA, binA, isShift, binI, fillA, single, aRes, splice, mkv, unA, binS, sameAt, reduceCtorEq, reduceIte, Int.reduceEq, Int.reduceLT, Int.reduceLE, Int.reduceNe, Nat.reduceEqDiff, Nat.reduceLT, Nat.reduceAdd, Nat.reduceMul, Nat.reduceSub, Nat.reduceLeDiff, Int.reduceBEq, Int.reduceBNe, Nat.reduceBEq, Nat.reduceBNe, Int.reduceToNat]
    refine Is_spec _ _ l (y.take f) (Rows.keeps NdP.mono hk5 hl) hlt hyt _ ?_
    intro b1 H3 hk3 hb1
    cases b1 with
    | false =>
      simp only [s1, s2, zz, env0, aPure, aRead, aNew, aEff, aval, avals, aparts, aopt, wantedA, binA, isShift, binI, fillA, single, aRes, splice, mkv, unA, binS, sameAt, reduceCtorEq, reduceIte, Int.reduceEq, Int.reduceLT, Int.reduceLE, Int.reduceNe, Nat.reduceEqDiff, Nat.reduceLT, Nat.reduceAdd, Nat.reduceMul, Nat.reduceSub, Nat.reduceLeDiff, Int.reduceBEq, Int.reduceBNe, Nat.reduceBEq, Nat.reduceBNe, Int.reduceToNat]
      exact ⟨(hk5).trans hk3, false, by simp; intro h; have := hb1.2 h; simp at this, rfl⟩
    | true =>
      simp only [s1, s2, zz, env0, aPure, aRead, aNew, aEff, aval, avals, aparts, aopt, wantedA, binA, isShift, binI, fillA, single, aRes, splice, mkv, unA, binS, sameAt, reduceCtorEq, reduceIte, Int.reduceEq, Int.reduceLT, Int.reduceLE, Int.reduceNe, Nat.reduceEqDiff, Nat.reduceLT, Nat.reduceAdd, Nat.reduceMul, Nat.reduceSub, Nat.reduceLeDiff, Int.reduceBEq, Int.reduceBNe, Nat.reduceBEq, Nat.reduceBNe, Int.reduceToNat]
      refine Is_spec _ _ l (y.drop f) (Rows.keeps NdP.mono ((hk5).trans hk3) hl) hlt hyd _ ?_
      intro b2 H4 hk4 hb2
      simp only [zz, env0, aPure, aRead, aNew, aEff, aval, avals, aparts, aopt, wantedA, binA, isShift, binI, fillA, single, aRes, splice, mkv, unA, binS, sameAt, reduceCtorEq, reduceIte, Int.reduceEq, Int.reduceLT, Int.reduceLE, Int.reduceNe, Nat.reduceEqDiff, Nat.reduceLT, Nat.reduceAdd, Nat.reduceMul, Nat.reduceSub, Nat.reduceLeDiff, Int.reduceBEq, Int.reduceBNe, Nat.reduceBEq, Nat.reduceBNe, Int.reduceToNat]
      exact ⟨((hk5).trans hk3).trans hk4, b2, by rw [hb2]; simp [hb1.1 rfl], rfl⟩
  rintro e env' H6 ⟨rfl, hk6, twice, htwice, rfl⟩
  simp only [zz, env0, aPure, aRead, aNew, aEff, aval, avals, aparts, aopt, wantedA, binA, isShift, binI, fillA, single, aRes, splice, mkv, unA, binS, sameAt, reduceCtorEq, reduceIte, Int.reduceEq, Int.reduceLT, Int.reduceLE, Int.reduceNe, Nat.reduceEqDiff, Nat.reduceLT, Nat.reduceAdd, Nat.reduceMul, Nat.reduceSub, Nat.reduceLeDiff, Int.reduceBEq, Int.reduceBNe, Nat.reduceBEq, Nat.reduceBNe, Int.reduceToNat]
  rw [show J7 = .seq (hdC J7) J8 from rfl, zWC_seq]
  refine WC.mono (K := fun e env' H' => e = .normal ∧ Keeps H H' ∧ ∃ b, (b = true ↔ IsT l y ∨ IsT m y) ∧ env' = [va, vb, .str w, .int .u8 at', .bool false, .bool true, .str y, .int .i64 f, .bool both, .bool twice, .bool b, .bool false]) ?_ ?_
  · simp only [J7, hdC, tls, tlC, a8, zz, env0, aPure, aRead, aNew, aEff, aval, avals, aparts, aopt, wantedA, binA, isShift, binI, fillA, single, aRes, splice, mkv, unA, binS, sameAt, reduceCtorEq, reduceIte, Int.reduceEq, Int.reduceLT, Int.reduceLE, Int.reduceNe, Nat.reduceEqDiff, Nat.reduceLT, Nat.reduceAdd, Nat.reduceMul, Nat.reduceSub, Nat.reduceLeDiff, Int.reduceBEq, Int.reduceBNe, Nat.reduceBEq, Nat.reduceBNe, Int.reduceToNat]
    refine Is_spec _ _ l y (Rows.keeps NdP.mono hk6 hl) hlt hyy _ ?_
    intro b1 H3 hk3 hb1
    cases b1 with
    | true =>
      simp only [zz, env0, aPure, aRead, aNew, aEff, aval, avals, aparts, aopt, wantedA, binA, isShift, binI, fillA, single, aRes, splice, mkv, unA, binS, sameAt, reduceCtorEq, reduceIte, Int.reduceEq, Int.reduceLT, Int.reduceLE, Int.reduceNe, Nat.reduceEqDiff, Nat.reduceLT, Nat.reduceAdd, Nat.reduceMul, Nat.reduceSub, Nat.reduceLeDiff, Int.reduceBEq, Int.reduceBNe, Nat.reduceBEq, Nat.reduceBNe, Int.reduceToNat]
      exact ⟨hk6.trans hk3, true, by simp [hb1.1 rfl], rfl⟩
    | false =>
      simp only [zz, env0, aPure, aRead, aNew, aEff, aval, avals, aparts, aopt, wantedA, binA, isShift, binI, fillA, single, aRes, splice, mkv, unA, binS, sameAt, reduceCtorEq, reduceIte, Int.reduceEq, Int.reduceLT, Int.reduceLE, Int.reduceNe, Nat.reduceEqDiff, Nat.reduceLT, Nat.reduceAdd, Nat.reduceMul, Nat.reduceSub, Nat.reduceLeDiff, Int.reduceBEq, Int.reduceBNe, Nat.reduceBEq, Nat.reduceBNe, Int.reduceToNat]
      refine Is_spec _ _ m y (Rows.keeps NdP.mono (hk6.trans hk3) hm) hmt hyy _ ?_
      intro b2 H4 hk4 hb2
      simp only [zz, env0, aPure, aRead, aNew, aEff, aval, avals, aparts, aopt, wantedA, binA, isShift, binI, fillA, single, aRes, splice, mkv, unA, binS, sameAt, reduceCtorEq, reduceIte, Int.reduceEq, Int.reduceLT, Int.reduceLE, Int.reduceNe, Nat.reduceEqDiff, Nat.reduceLT, Nat.reduceAdd, Nat.reduceMul, Nat.reduceSub, Nat.reduceLeDiff, Int.reduceBEq, Int.reduceBNe, Nat.reduceBEq, Nat.reduceBNe, Int.reduceToNat]
      refine ⟨(hk6.trans hk3).trans hk4, b2, ?_, rfl⟩
      rw [hb2]
      have : ¬ IsT l y := fun h => by have := hb1.2 h; simp at this
      simp [this]
  rintro e env' H7 ⟨rfl, hk7, any, hany, rfl⟩
  have hkm := kids_small hRm hm30
  have hpl : ∀ op, (pairT op l m).length < 9223372036854775808 := fun op => by simp [pairT]; omega
  have hwl' : ∀ n, (wrapT l n).length < 9223372036854775808 := fun n => by simp [wrapT]; omega
  have hcat : both = true → IsT (pairT 3 l m) y := fun hb => by
    obtain ⟨h1, h2⟩ := hboth.1 hb
    obtain ⟨_, _, h3⟩ := (is_take hfy).1 h1
    obtain ⟨_, _, h4⟩ := (is_drop hfy).1 h2
    exact ⟨pair_right (.inl rfl) hRl hRm (by omega), pair_noref (by decide) hNl hNm, (cat_den y hRl hRm _ _).2 ⟨f, h3, h4⟩⟩
  have hrep : twice = true → IsT (wrapT l (repN 2 2)) y := fun hb => by
    obtain ⟨h1, h2⟩ := htwice.1 hb
    obtain ⟨_, _, h3⟩ := (is_take hfy).1 h1
    obtain ⟨_, _, h4⟩ := (is_drop hfy).1 h2
    exact ⟨wrap_right hRl (by omega) (repN_shaped _ (by decide) (by decide)), wrap_noref hNl (by simp [repN]), (rep_den y hRl rfl _ _).2 ⟨2, by simp [repN], by simp [repN], f, h3, y.length, h4, rfl⟩⟩
  have halt : IsT (pairT 4 l m) y ↔ IsT l y ∨ IsT m y := by
    unfold IsT
    rw [alt_den y hRl hRm]
    have a1 := pair_right (op := 4) (.inr rfl) hRl hRm (by omega)
    have a2 := pair_noref (op := 4) (by decide) hNl hNm
    simp [hRl, hNl, hRm, hNm, a1, a2]
  have hstar : IsT (wrapT l (repN 0 (-1))) [] :=
    ⟨wrap_right hRl (by omega) (repN_shaped _ (by decide) (by decide)), wrap_noref hNl (by simp [repN]), (rep_den [] hRl rfl _ _).2 ⟨0, by simp [repN], by simp [repN], rfl⟩⟩
  cases both with
  | true =>
    cases twice with
    | true =>
      simp only [J8, hdC, tls, tlC, a8, zz, env0, aPure, aRead, aNew, aEff, aval, avals, aparts, aopt, wantedA, binA, isShift, binI, fillA, single, aRes, splice, mkv, unA, binS, sameAt, reduceCtorEq, reduceIte, Int.reduceEq, Int.reduceLT, Int.reduceLE, Int.reduceNe, Nat.reduceEqDiff, Nat.reduceLT, Nat.reduceAdd, Nat.reduceMul, Nat.reduceSub, Nat.reduceLeDiff, Int.reduceBEq, Int.reduceBNe, Nat.reduceBEq, Nat.reduceBNe, Int.reduceToNat]
      refine pair_spec 3 ⟨by decide, by decide⟩ _ _ _ l m (Rows.keeps NdP.mono hk7 hl) (Rows.keeps NdP.mono hk7 hm) (by omega) (by omega) hkm _ ?_
      intro vp Hp hkp hNp
      simp only [zz, env0, aPure, aRead, aNew, aEff, aval, avals, aparts, aopt, wantedA, binA, isShift, binI, fillA, single, aRes, splice, mkv, unA, binS, sameAt, reduceCtorEq, reduceIte, Int.reduceEq, Int.reduceLT, Int.reduceLE, Int.reduceNe, Nat.reduceEqDiff, Nat.reduceLT, Nat.reduceAdd, Nat.reduceMul, Nat.reduceSub, Nat.reduceLeDiff, Int.reduceBEq, Int.reduceBNe, Nat.reduceBEq, Nat.reduceBNe, Int.reduceToNat]
      refine Is_spec _ _ _ y hNp (hpl 3) hyy _ ?_
      intro bq Hq hkq hbq
      have := hbq.2 (hcat rfl)
      subst this
      have hkA := (hk7).trans (hkp.trans hkq)
      simp only [zz, env0, aPure, aRead, aNew, aEff, aval, avals, aparts, aopt, wantedA, binA, isShift, binI, fillA, single, aRes, splice, mkv, unA, binS, sameAt, reduceCtorEq, reduceIte, Int.reduceEq, Int.reduceLT, Int.reduceLE, Int.reduceNe, Nat.reduceEqDiff, Nat.reduceLT, Nat.reduceAdd, Nat.reduceMul, Nat.reduceSub, Nat.reduceLeDiff, Int.reduceBEq, Int.reduceBNe, Nat.reduceBEq, Nat.reduceBNe, Int.reduceToNat]
      refine wrap_spec _ _ .nilsl l (repN 2 2) (Rows.keeps NdP.mono hkA hl) (by omega) (repN_ok (by simp [i64In]) (by simp [i64In])) Rows.nil _ ?_
      intro vw Hw hkw hNw
      simp only [zz, env0, aPure, aRead, aNew, aEff, aval, avals, aparts, aopt, wantedA, binA, isShift, binI, fillA, single, aRes, splice, mkv, unA, binS, sameAt, reduceCtorEq, reduceIte, Int.reduceEq, Int.reduceLT, Int.reduceLE, Int.reduceNe, Nat.reduceEqDiff, Nat.reduceLT, Nat.reduceAdd, Nat.reduceMul, Nat.reduceSub, Nat.reduceLeDiff, Int.reduceBEq, Int.reduceBNe, Nat.reduceBEq, Nat.reduceBNe, Int.reduceToNat]
      refine Is_spec _ _ _ y hNw (hwl' _) hyy _ ?_
      intro br Hr hkr hbr
      have := hbr.2 (hrep rfl)
      subst this
      have hkB := (hkA).trans (hkw.trans hkr)
      simp only [zz, env0, aPure, aRead, aNew, aEff, aval, avals, aparts, aopt, wantedA, binA, isShift, binI, fillA, single, aRes, splice, mkv, unA, binS, sameAt, reduceCtorEq, reduceIte, Int.reduceEq, Int.reduceLT, Int.reduceLE, Int.reduceNe, Nat.reduceEqDiff, Nat.reduceLT, Nat.reduceAdd, Nat.reduceMul, Nat.reduceSub, Nat.reduceLeDiff, Int.reduceBEq, Int.reduceBNe, Nat.reduceBEq, Nat.reduceBNe, Int.reduceToNat]
      refine pair_spec 4 ⟨by decide, by decide⟩ _ _ _ l m (Rows.keeps NdP.mono hkB hl) (Rows.keeps NdP.mono hkB hm) (by omega) (by omega) hkm _ ?_
      intro vs Hs hks hNs
      simp only [zz, env0, aPure, aRead, aNew, aEff, aval, avals, aparts, aopt, wantedA, binA, isShift, binI, fillA, single, aRes, splice, mkv, unA, binS, sameAt, reduceCtorEq, reduceIte, Int.reduceEq, Int.reduceLT, Int.reduceLE, Int.reduceNe, Nat.reduceEqDiff, Nat.reduceLT, Nat.reduceAdd, Nat.reduceMul, Nat.reduceSub, Nat.reduceLeDiff, Int.reduceBEq, Int.reduceBNe, Nat.reduceBEq, Nat.reduceBNe, Int.reduceToNat]
      refine Is_spec _ _ _ y hNs (hpl 4) hyy _ ?_
      intro bt Ht hkt hbt
      have e4 := is_bool hbt hany halt
      have hkC := (hkB).trans (hks.trans hkt)
      simp only [e4, zz, env0, aPure, aRead, aNew, aEff, aval, avals, aparts, aopt, wantedA, binA, isShift, binI, fillA, single, aRes, splice, mkv, unA, binS, sameAt, reduceCtorEq, reduceIte, Int.reduceEq, Int.reduceLT, Int.reduceLE, Int.reduceNe, Nat.reduceEqDiff, Nat.reduceLT, Nat.reduceAdd, Nat.reduceMul, Nat.reduceSub, Nat.reduceLeDiff, Int.reduceBEq, Int.reduceBNe, Nat.reduceBEq, Nat.reduceBNe, Int.reduceToNat]
      refine wrap_spec _ _ .nilsl l (repN 0 (-1)) (Rows.keeps NdP.mono hkC hl) (by omega) (repN_ok (by simp [i64In]) (by simp [i64In])) Rows.nil _ ?_
      intro vu Hu hku hNu
      simp only [zz, env0, aPure, aRead, aNew, aEff, aval, avals, aparts, aopt, wantedA, binA, isShift, binI, fillA, single, aRes, splice, mkv, unA, binS, sameAt, reduceCtorEq, reduceIte, Int.reduceEq, Int.reduceLT, Int.reduceLE, Int.reduceNe, Nat.reduceEqDiff, Nat.reduceLT, Nat.reduceAdd, Nat.reduceMul, Nat.reduceSub, Nat.reduceLeDiff, Int.reduceBEq, Int.reduceBNe, Nat.reduceBEq, Nat.reduceBNe, Int.reduceToNat]
      refine Is_spec _ _ _ [] hNu (hwl' _) (by simp) _ ?_
      intro bv Hv hkv hbv
      have := hbv.2 hstar
      subst this
      simp only [zz, env0, aPure, aRead, aNew, aEff, aval, avals, aparts, aopt, wantedA, binA, isShift, binI, fillA, single, aRes, splice, mkv, unA, binS, sameAt, reduceCtorEq, reduceIte, Int.reduceEq, Int.reduceLT, Int.reduceLE, Int.reduceNe, Nat.reduceEqDiff, Nat.reduceLT, Nat.reduceAdd, Nat.reduceMul, Nat.reduceSub, Nat.reduceLeDiff, Int.reduceBEq, Int.reduceBNe, Nat.reduceBEq, Nat.reduceBNe, Int.reduceToNat]
    | false =>
      simp only [J8, hdC, tls, tlC, a8, zz, env0, aPure, aRead, aNew, aEff, aval, avals, aparts, aopt, wantedA, binA, isShift, binI, fillA, single, aRes, splice, mkv, unA, binS, sameAt, reduceCtorEq, reduceIte, Int.reduceEq, Int.reduceLT, Int.reduceLE, Int.reduceNe, Nat.reduceEqDiff, Nat.reduceLT, Nat.reduceAdd, Nat.reduceMul, Nat.reduceSub, Nat.reduceLeDiff, Int.reduceBEq, Int.reduceBNe, Nat.reduceBEq, Nat.reduceBNe, Int.reduceToNat]
      refine pair_spec 3 ⟨by decide, by decide⟩ _ _ _ l m (Rows.keeps NdP.mono hk7 hl) (Rows.keeps NdP.mono hk7 hm) (by omega) (by omega) hkm _ ?_
      intro vp Hp hkp hNp
      simp only [zz, env0, aPure, aRead, aNew, aEff, aval, avals, aparts, aopt, wantedA, binA, isShift, binI, fillA, single, aRes, splice, mkv, unA, binS, sameAt, reduceCtorEq, reduceIte, Int.reduceEq, Int.reduceLT, Int.reduceLE, Int.reduceNe, Nat.reduceEqDiff, Nat.reduceLT, Nat.reduceAdd, Nat.reduceMul, Nat.reduceSub, Nat.reduceLeDiff, Int.reduceBEq, Int.reduceBNe, Nat.reduceBEq, Nat.reduceBNe, Int.reduceToNat]
      refine Is_spec _ _ _ y hNp (hpl 3) hyy _ ?_
      intro bq Hq hkq hbq
      have := hbq.2 (hcat rfl)
      subst this
      have hkA := (hk7).trans (hkp.trans hkq)
      simp only [zz, env0, aPure, aRead, aNew, aEff, aval, avals, aparts, aopt, wantedA, binA, isShift, binI, fillA, single, aRes, splice, mkv, unA, binS, sameAt, reduceCtorEq, reduceIte, Int.reduceEq, Int.reduceLT, Int.reduceLE, Int.reduceNe, Nat.reduceEqDiff, Nat.reduceLT, Nat.reduceAdd, Nat.reduceMul, Nat.reduceSub, Nat.reduceLeDiff, Int.reduceBEq, Int.reduceBNe, Nat.reduceBEq, Nat.reduceBNe, Int.reduceToNat]
      refine pair_spec 4 ⟨by decide, by decide⟩ _ _ _ l m (Rows.keeps NdP.mono hkA hl) (Rows.keeps NdP.mono hkA hm) (by omega) (by omega) hkm _ ?_
      intro vs Hs hks hNs
      simp only [zz, env0, aPure, aRead, aNew, aEff, aval, avals, aparts, aopt, wantedA, binA, isShift, binI, fillA, single, aRes, splice, mkv, unA, binS, sameAt, reduceCtorEq, reduceIte, Int.reduceEq, Int.reduceLT, Int.reduceLE, Int.reduceNe, Nat.reduceEqDiff, Nat.reduceLT, Nat.reduceAdd, Nat.reduceMul, Nat.reduceSub, Nat.reduceLeDiff, Int.reduceBEq, Int.reduceBNe, Nat.reduceBEq, Nat.reduceBNe, Int.reduceToNat]
      refine Is_spec _ _ _ y hNs (hpl 4) hyy _ ?_
      intro bt Ht hkt hbt
      have e4 := is_bool hbt hany halt
      have hkC := (hkA).trans (hks.trans hkt)
      simp only [e4, zz, env0, aPure, aRead, aNew, aEff, aval, avals, aparts, aopt, wantedA, binA, isShift, binI, fillA, single, aRes, splice, mkv, unA, binS, sameAt, reduceCtorEq, reduceIte, Int.reduceEq, Int.reduceLT, Int.reduceLE, Int.reduceNe, Nat.reduceEqDiff, Nat.reduceLT, Nat.reduceAdd, Nat.reduceMul, Nat.reduceSub, Nat.reduceLeDiff, Int.reduceBEq, Int.reduceBNe, Nat.reduceBEq, Nat.reduceBNe, Int.reduceToNat]
      refine wrap_spec _ _ .nilsl l (repN 0 (-1)) (Rows.keeps NdP.mono hkC hl) (by omega) (repN_ok (by simp [i64In]) (by simp [i64In])) Rows.nil _ ?_
      intro vu Hu hku hNu
      simp only [zz, env0, aPure, aRead, aNew, aEff, aval, avals, aparts, aopt, wantedA, binA, isShift, binI, fillA, single, aRes, splice, mkv, unA, binS, sameAt, reduceCtorEq, reduceIte, Int.reduceEq, Int.reduceLT, Int.reduceLE, Int.reduceNe, Nat.reduceEqDiff, Nat.reduceLT, Nat.reduceAdd, Nat.reduceMul, Nat.reduceSub, Nat.reduceLeDiff, Int.reduceBEq, Int.reduceBNe, Nat.reduceBEq, Nat.reduceBNe, Int.reduceToNat]
      refine Is_spec _ _ _ [] hNu (hwl' _) (by simp) _ ?_
      intro bv Hv hkv hbv
      have := hbv.2 hstar
      subst this
      simp only [zz, env0, aPure, aRead, aNew, aEff, aval, avals, aparts, aopt, wantedA, binA, isShift, binI, fillA, single, aRes, splice, mkv, unA, binS, sameAt, reduceCtorEq, reduceIte, Int.reduceEq, Int.reduceLT, Int.reduceLE, Int.reduceNe, Nat.reduceEqDiff, Nat.reduceLT, Nat.reduceAdd, Nat.reduceMul, Nat.reduceSub, Nat.reduceLeDiff, Int.reduceBEq, Int.reduceBNe, Nat.reduceBEq, Nat.reduceBNe, Int.reduceToNat]
  | false =>
    cases twice with
    | true =>
      simp only [J8, hdC, tls, tlC, a8, zz, env0, aPure, aRead, aNew, aEff, aval, avals, aparts, aopt, wantedA, binA, isShift, binI, fillA, single, aRes, splice, mkv, unA, binS, sameAt, reduceCtorEq, reduceIte, Int.reduceEq, Int.reduceLT, Int.reduceLE, Int.reduceNe, Nat.reduceEqDiff, Nat.reduceLT, Nat.reduceAdd, Nat.reduceMul, Nat.reduceSub, Nat.reduceLeDiff, Int.reduceBEq, Int.reduceBNe, Nat.reduceBEq, Nat.reduceBNe, Int.reduceToNat]
      refine wrap_spec _ _ .nilsl l (repN 2 2) (Rows.keeps NdP.mono hk7 hl) (by omega) (repN_ok (by simp [i64In]) (by simp [i64In])) Rows.nil _ ?_
      intro vw Hw hkw hNw
      simp only [zz, env0, aPure, aRead, aNew, aEff, aval, avals, aparts, aopt, wantedA, binA, isShift, binI, fillA, single, aRes, splice, mkv, unA, binS, sameAt, reduceCtorEq, reduceIte, Int.reduceEq, Int.reduceLT, Int.reduceLE, Int.reduceNe, Nat.reduceEqDiff, Nat.reduceLT, Nat.reduceAdd, Nat.reduceMul, Nat.reduceSub, Nat.reduceLeDiff, Int.reduceBEq, Int.reduceBNe, Nat.reduceBEq, Nat.reduceBNe, Int.reduceToNat]
      refine Is_spec _ _ _ y hNw (hwl' _) hyy _ ?_
      intro br Hr hkr hbr
      have := hbr.2 (hrep rfl)
      subst this
      have hkB := (hk7).trans (hkw.trans hkr)
      simp only [zz, env0, aPure, aRead, aNew, aEff, aval, avals, aparts, aopt, wantedA, binA, isShift, binI, fillA, single, aRes, splice, mkv, unA, binS, sameAt, reduceCtorEq, reduceIte, Int.reduceEq, Int.reduceLT, Int.reduceLE, Int.reduceNe, Nat.reduceEqDiff, Nat.reduceLT, Nat.reduceAdd, Nat.reduceMul, Nat.reduceSub, Nat.reduceLeDiff, Int.reduceBEq, Int.reduceBNe, Nat.reduceBEq, Nat.reduceBNe, Int.reduceToNat]
      refine pair_spec 4 ⟨by decide, by decide⟩ _ _ _ l m (Rows.keeps NdP.mono hkB hl) (Rows.keeps NdP.mono hkB hm) (by omega) (by omega) hkm _ ?_
      intro vs Hs hks hNs
      simp only [zz, env0, aPure, aRead, aNew, aEff, aval, avals, aparts, aopt, wantedA, binA, isShift, binI, fillA, single, aRes, splice, mkv, unA, binS, sameAt, reduceCtorEq, reduceIte, Int.reduceEq, Int.reduceLT, Int.reduceLE, Int.reduceNe, Nat.reduceEqDiff, Nat.reduceLT, Nat.reduceAdd, Nat.reduceMul, Nat.reduceSub, Nat.reduceLeDiff, Int.reduceBEq, Int.reduceBNe, Nat.reduceBEq, Nat.reduceBNe, Int.reduceToNat]
      refine Is_spec _ _ _ y hNs (hpl 4) hyy _ ?_
      intro bt Ht hkt hbt
      have e4 := is_bool hbt hany halt
      have hkC := (hkB).trans (hks.trans hkt)
      simp only [e4, zz, env0, aPure, aRead, aNew, aEff, aval, avals, aparts, aopt, wantedA, binA, isShift, binI, fillA, single, aRes, splice, mkv, unA, binS, sameAt, reduceCtorEq, reduceIte, Int.reduceEq, Int.reduceLT, Int.reduceLE, Int.reduceNe, Nat.reduceEqDiff, Nat.reduceLT, Nat.reduceAdd, Nat.reduceMul, Nat.reduceSub, Nat.reduceLeDiff, Int.reduceBEq, Int.reduceBNe, Nat.reduceBEq, Nat.reduceBNe, Int.reduceToNat]
      refine wrap_spec _ _ .nilsl l (repN 0 (-1)) (Rows.keeps NdP.mono hkC hl) (by omega) (repN_ok (by simp [i64In]) (by simp [i64In])) Rows.nil _ ?_
      intro vu Hu hku hNu
      simp only [zz, env0, aPure, aRead, aNew, aEff, aval, avals, aparts, aopt, wantedA, binA, isShift, binI, fillA, single, aRes, splice, mkv, unA, binS, sameAt, reduceCtorEq, reduceIte, Int.reduceEq, Int.reduceLT, Int.reduceLE, Int.reduceNe, Nat.reduceEqDiff, Nat.reduceLT, Nat.reduceAdd, Nat.reduceMul, Nat.reduceSub, Nat.reduceLeDiff, Int.reduceBEq, Int.reduceBNe, Nat.reduceBEq, Nat.reduceBNe, Int.reduceToNat]
      refine Is_spec _ _ _ [] hNu (hwl' _) (by simp) _ ?_
      intro bv Hv hkv hbv
      have := hbv.2 hstar
      subst this
      simp only [zz, env0, aPure, aRead, aNew, aEff, aval, avals, aparts, aopt, wantedA, binA, isShift, binI, fillA, single, aRes, splice, mkv, unA, binS, sameAt, reduceCtorEq, reduceIte, Int.reduceEq, Int.reduceLT, Int.reduceLE, Int.reduceNe, Nat.reduceEqDiff, Nat.reduceLT, Nat.reduceAdd, Nat.reduceMul, Nat.reduceSub, Nat.reduceLeDiff, Int.reduceBEq, Int.reduceBNe, Nat.reduceBEq, Nat.reduceBNe, Int.reduceToNat]
    | false =>
      simp only [J8, hdC, tls, tlC, a8, zz, env0, aPure, aRead, aNew, aEff, aval, avals, aparts, aopt, wantedA, binA, isShift, binI, fillA, single, aRes, splice, mkv, unA, binS, sameAt, reduceCtorEq, reduceIte, Int.reduceEq, Int.reduceLT, Int.reduceLE, Int.reduceNe, Nat.reduceEqDiff, Nat.reduceLT, Nat.reduceAdd, Nat.reduceMul, Nat.reduceSub, Nat.reduceLeDiff, Int.reduceBEq, Int.reduceBNe, Nat.reduceBEq, Nat.reduceBNe, Int.reduceToNat]
      refine pair_spec 4 ⟨by decide, by decide⟩ _ _ _ l m (Rows.keeps NdP.mono hk7 hl) (Rows.keeps NdP.mono hk7 hm) (by omega) (by omega) hkm _ ?_
      intro vs Hs hks hNs
      simp only [zz, env0, aPure, aRead, aNew, aEff, aval, avals, aparts, aopt, wantedA, binA, isShift, binI, fillA, single, aRes, splice, mkv, unA, binS, sameAt, reduceCtorEq, reduceIte, Int.reduceEq, Int.reduceLT, Int.reduceLE, Int.reduceNe, Nat.reduceEqDiff, Nat.reduceLT, Nat.reduceAdd, Nat.reduceMul, Nat.reduceSub, Nat.reduceLeDiff, Int.reduceBEq, Int.reduceBNe, Nat.reduceBEq, Nat.reduceBNe, Int.reduceToNat]
      refine Is_spec _ _ _ y hNs (hpl 4) hyy _ ?_
      intro bt Ht hkt hbt
      have e4 := is_bool hbt hany halt
      have hkC := (hk7).trans (hks.trans hkt)
      simp only [e4, zz, env0, aPure, aRead, aNew, aEff, aval, avals, aparts, aopt, wantedA, binA, isShift, binI, fillA, single, aRes, splice, mkv, unA, binS, sameAt, reduceCtorEq, reduceIte, Int.reduceEq, Int.reduceLT, Int.reduceLE, Int.reduceNe, Nat.reduceEqDiff, Nat.reduceLT, Nat.reduceAdd, Nat.reduceMul, Nat.reduceSub, Nat.reduceLeDiff, Int.reduceBEq, Int.reduceBNe, Nat.reduceBEq, Nat.reduceBNe, Int.reduceToNat]
      refine wrap_spec _ _ .nilsl l (repN 0 (-1)) (Rows.keeps NdP.mono hkC hl) (by omega) (repN_ok (by simp [i64In]) (by simp [i64In])) Rows.nil _ ?_
      intro vu Hu hku hNu
      simp only [zz, env0, aPure, aRead, aNew, aEff, aval, avals, aparts, aopt, wantedA, binA, isShift, binI, fillA, single, aRes, splice, mkv, unA, binS, sameAt, reduceCtorEq, reduceIte, Int.reduceEq, Int.reduceLT, Int.reduceLE, Int.reduceNe, Nat.reduceEqDiff, Nat.reduceLT, Nat.reduceAdd, Nat.reduceMul, Nat.reduceSub, Nat.reduceLeDiff, Int.reduceBEq, Int.reduceBNe, Nat.reduceBEq, Nat.reduceBNe, Int.reduceToNat]
      refine Is_spec _ _ _ [] hNu (hwl' _) (by simp) _ ?_
      intro bv Hv hkv hbv
      have := hbv.2 hstar
      subst this
      simp only [zz, env0, aPure, aRead, aNew, aEff, aval, avals, aparts, aopt, wantedA, binA, isShift, binI, fillA, single, aRes, splice, mkv, unA, binS, sameAt, reduceCtorEq, reduceIte, Int.reduceEq, Int.reduceLT, Int.reduceLE, Int.reduceNe, Nat.reduceEqDiff, Nat.reduceLT, Nat.reduceAdd, Nat.reduceMul, Nat.reduceSub, Nat.reduceLeDiff, Int.reduceBEq, Int.reduceBNe, Nat.reduceBEq, Nat.reduceBNe, Int.reduceToNat]
end Go.Proofs.Ytnblhjpbpobglaa

/- The reference: sets with a byte more, and with both cases of letters. -/
set_option maxRecDepth 100000
set_option maxHeartbeats 1000000
set_option linter.unusedSimpArgs false
namespace Go.Proofs.Ytnblhjpbpobglaa
open Go.Am

theorem add_bit (n k : Nat) (hn : n < 2 ^ 64) (hk : k < 64) (hb : n / 2 ^ k % 2 = 0) : n + 2 ^ k < 2 ^ 64 ∧ ∀ j, (n + 2 ^ k) / 2 ^ j % 2 = 1 ↔ n / 2 ^ j % 2 = 1 ∨ j = k := by
  obtain ⟨A, hA⟩ : ∃ A, n / 2 ^ k = 2 * A := ⟨n / 2 ^ k / 2, by omega⟩
  have hp : 0 < 2 ^ k := Nat.pow_pos (by decide)
  obtain ⟨B, hB, hlt⟩ : ∃ B, n = 2 ^ k * (2 * A) + B ∧ B < 2 ^ k := ⟨n % 2 ^ k, by rw [← hA, Nat.div_add_mod], Nat.mod_lt _ hp⟩
  have e1 : n + 2 ^ k = 2 ^ k * (2 * A + 1) + B := by rw [hB, Nat.mul_add, Nat.mul_one]; omega
  constructor
  · have h64 : (2 : Nat) ^ 64 = 2 ^ k * (2 * 2 ^ (63 - k)) := by rw [← Nat.pow_succ', ← Nat.pow_add]; congr 1; omega
    rw [h64] at hn ⊢
    have hA2 : 2 * A < 2 * 2 ^ (63 - k) := by
      rcases Nat.lt_or_ge (2 * A) (2 * 2 ^ (63 - k)) with h | h
      · exact h
      · have := Nat.mul_le_mul_left (2 ^ k) h
        omega
    have : 2 ^ k * (2 * A + 2) ≤ 2 ^ k * (2 * 2 ^ (63 - k)) := Nat.mul_le_mul_left _ (by omega)
    rw [e1]
    have e3 : 2 ^ k * (2 * A + 2) = 2 ^ k * (2 * A + 1) + 2 ^ k := by rw [show 2 * A + 2 = (2 * A + 1) + 1 from rfl, Nat.mul_add (2 ^ k) (2 * A + 1) 1, Nat.mul_one]
    omega
  · intro j
    rcases Nat.lt_trichotomy j k with h | h | h
    · obtain ⟨d, rfl⟩ : ∃ d, k = j + (d + 1) := ⟨k - j - 1, by omega⟩
      have hpj : 0 < 2 ^ j := Nat.pow_pos (by decide)
      have f1 : ∀ X : Nat, (2 ^ (j + (d + 1)) * X + B) / 2 ^ j = 2 ^ (d + 1) * X + B / 2 ^ j := fun X => by
        rw [Nat.pow_add, Nat.mul_assoc, Nat.mul_add_div hpj]
      rw [e1, f1, hB, f1]
      have f2 : ∀ X : Nat, (2 ^ (d + 1) * X + B / 2 ^ j) % 2 = B / 2 ^ j % 2 := fun X => by
        rw [Nat.pow_succ, Nat.mul_comm (2 ^ d) 2, Nat.mul_assoc, Nat.mul_add_mod]
      rw [f2, f2]
      constructor
      · exact Or.inl
      · rintro (h | h)
        · exact h
        · omega
    · subst h
      rw [e1, Nat.mul_add_div hp, Nat.div_eq_of_lt hlt]
      simp
    · obtain ⟨d, rfl⟩ : ∃ d, j = k + 1 + d := ⟨j - k - 1, by omega⟩
      have f1 : ∀ X, X < 2 → (2 ^ k * (2 * A + X) + B) / 2 ^ (k + 1 + d) = A / 2 ^ d := fun X hX => by
        rw [Nat.pow_add, ← Nat.div_div_eq_div_mul, Nat.pow_succ, ← Nat.div_div_eq_div_mul, Nat.mul_add_div hp, Nat.div_eq_of_lt hlt]
        congr 1
        omega
      have := f1 1 (by omega)
      have h0 := f1 0 (by omega)
      rw [e1, this, hB]
      rw [Nat.add_zero] at h0
      rw [h0]
      constructor
      · exact Or.inl
      · rintro (h | h)
        · exact h
        · omega

theorem nat_bit (s : Int) (n j : Nat) (hs : s = n) : (s / 2 ^ j) % 2 = 1 ↔ n / 2 ^ j % 2 = 1 := by
  subst hs
  have : ((n : Int) / 2 ^ j) % 2 = ((n / 2 ^ j % 2 : Nat) : Int) := by
    rw [Int.natCast_emod, Int.natCast_ediv]; simp
  rw [this]; omega

theorem add_bit_int (s : Int) (k : Nat) (hs : u64In s) (hk : k < 64) (hb : ¬ (s / 2 ^ k) % 2 = 1) : u64In (s + 2 ^ k) ∧ ∀ j : Nat, ((s + 2 ^ k) / 2 ^ j) % 2 = 1 ↔ (s / 2 ^ j) % 2 = 1 ∨ j = k := by
  obtain ⟨n, rfl⟩ : ∃ n : Nat, s = n := ⟨s.toNat, by have := hs.1; omega⟩
  have hn : n < 2 ^ 64 := by have := hs.2; omega
  rw [nat_bit _ n k rfl] at hb
  obtain ⟨h1, h2⟩ := add_bit n k hn hk (by omega)
  have e : ((n : Int) + 2 ^ k) = ((n + 2 ^ k : Nat) : Int) := by simp
  rw [e]
  refine ⟨⟨Int.natCast_nonneg _, by
    have h3 : n + 2 ^ k < 18446744073709551616 := h1
    generalize n + 2 ^ k = q at h3 ⊢
    omega⟩, fun j => ?_⟩
  rw [nat_bit _ _ j rfl, nat_bit _ n j rfl]
  exact h2 j

theorem two_lt64 (p : Nat) (h : p < 64) : (0 : Int) < 2 ^ p ∧ (2 : Int) ^ p < 18446744073709551616 := by
  refine ⟨Int.pow_pos (by decide), ?_⟩
  have : (2 : Nat) ^ p < 2 ^ 64 := Nat.pow_lt_pow_right (by decide) h
  have h2 : ((2 ^ p : Nat) : Int) < ((2 ^ 64 : Nat) : Int) := by exact_mod_cast this
  simpa using h2
theorem shl_1 (k : Nat) (h : k < 64) : shiftI .shl .u64 1 k = some (.int .u64 (2 ^ k)) := by
  have hp := two_lt64 k h
  simp only [shiftI, IntKind.bits]
  rw [if_neg (by omega)]
  have : min (k : Int).toNat 64 = k := by simp; omega
  rw [this, Int.one_mul, wrap_u64 (Int.le_of_lt hp.1) hp.2]
theorem setW_0 {a b c d : Int} {y : Nat} (h : y / 64 = 0) : setW a b c d y = a := by unfold setW; rw [if_pos (by omega)]
theorem setW_1 {a b c d : Int} {y : Nat} (h : y / 64 = 1) : setW a b c d y = b := by unfold setW; rw [if_neg (by omega), if_pos (by omega)]
theorem setW_2 {a b c d : Int} {y : Nat} (h : y / 64 = 2) : setW a b c d y = c := by unfold setW; rw [if_neg (by omega), if_neg (by omega), if_pos (by omega)]
theorem setW_3 {a b c d : Int} {y : Nat} (h : y / 64 = 3) : setW a b c d y = d := by unfold setW; rw [if_neg (by omega), if_neg (by omega), if_neg (by omega)]

/-- Four numbers of a set. -/
structure S4 where
  a : Int
  b : Int
  c : Int
  d : Int
def S4.row (s : S4) : List AV := [.int .u64 s.a, .int .u64 s.b, .int .u64 s.c, .int .u64 s.d]
def S4.Has (s : S4) (x : Nat) : Prop := SetHas s.a s.b s.c s.d x
structure S4.Ok (s : S4) : Prop where
  a : u64In s.a
  b : u64In s.b
  c : u64In s.c
  d : u64In s.d

theorem rhas_nat (H : AHeap) (s : S4) (hs : s.Ok) (x : Nat) (hx : x < 256) (K : AV → AHeap → Prop) (hK : ∀ b H', Keeps H H' → (b = true ↔ s.Has x) → K (.bool b) H') :
    WF P0 52 [.agg s.row, .int .u8 x] H K := by
  have e : (UInt8.ofNat x).toNat = x := by rw [UInt8.toNat_ofNat']; omega
  have := rhas_spec H s.a s.b s.c s.d (UInt8.ofNat x) hs.a hs.b hs.c hs.d K (fun b H' h1 h2 => hK b H' h1 (by rw [h2, e]; exact Iff.rfl))
  rw [e] at this
  exact this

theorem with_spec (H : AHeap) (s : S4) (hs : s.Ok) (x : Nat) (hx : x < 256) (K : AV → AHeap → Prop)
    (hK : ∀ (t : S4) H', Keeps H H' → t.Ok → (∀ y, y < 256 → (t.Has y ↔ s.Has y ∨ y = x)) → K (.agg t.row) H') :
    WF P0 53 [.agg s.row, .int .u8 x] H K := by
  have hq : IntKind.u8.wrap ((x : Int).tdiv 64) = ((x / 64 : Nat) : Int) := by
    have : (x : Int).tdiv 64 = ((x / 64 : Nat) : Int) := rfl
    rw [this, wrap_u8 (by omega) (by omega)]
  have hr : (x : Int).tmod 64 = ((x % 64 : Nat) : Int) := rfl
  have hsh : shiftI .shl .u64 1 ((x % 64 : Nat) : Int) = some (.int .u64 (2 ^ (x % 64))) := shl_1 _ (by omega)
  refine zWF rfl rfl rfl ?_
  simp only [a53, S4.row, zz, env0, aPure, aRead, aNew, aEff, aval, avals, aparts, aopt, wantedA, binA, isShift, binI, fillA, single, aRes, splice, mkv, unA, binS, sameAt, reduceCtorEq, reduceIte, Int.reduceEq, Int.reduceLT, Int.reduceLE, Int.reduceNe, Nat.reduceEqDiff, Nat.reduceLT, Nat.reduceAdd, Nat.reduceMul, Nat.reduceSub, Nat.reduceLeDiff, Int.reduceBEq, Int.reduceBNe, Nat.reduceBEq, Nat.reduceBNe, Int.reduceToNat]
  generalize hnb : (H ++ [some (Blk.cells 4 true [AV.int IntKind.u64 s.a, AV.int IntKind.u64 s.b, AV.int IntKind.u64 s.c, AV.int IntKind.u64 s.d])]).length = nb
  have hnv : nb = H.length + 1 := by rw [← hnb]; simp
  refine rhas_nat _ s hs x hx _ ?_
  intro b H1 hk1 hb
  have hbox : getB H1 H.length = some (.cells 4 true [.int .u64 s.a, .int .u64 s.b, .int .u64 s.c, .int .u64 s.d]) := hk1.get (gb_push _ (gb_new _ _))
  have hres : getB H1 nb = some (.cells 4 true [.int .u64 0, .int .u64 0, .int .u64 0, .int .u64 0]) := hk1.get (by rw [← hnb]; exact gb_new _ _)
  have hkH : Keeps H H1 := (Keeps.p2 _ _ _).trans hk1
  -- the result is put
  have fin : ∀ (t : S4) (H2 : AHeap), getB H2 H.length = some (.cells 4 true t.row) → getB H2 nb = some (.cells 4 true [.int .u64 0, .int .u64 0, .int .u64 0, .int .u64 0]) →
      ∃ H3, loadA H2 H.length 0 4 = some t.row ∧ storeA H2 nb 0 t.row = some H3 ∧ loadA H3 nb 0 4 = some t.row ∧ Else H2 H3 (some nb) := fun t H2 h1 h2 => by
    refine ⟨H2.set nb (some (.cells 4 true t.row)), load_at h1 (by simp [S4.row]), ?_, load_at (gb_set _ (gb_lt h2)) (by simp [S4.row]), ⟨by simp, fun i q hi hq => by rw [gb_set_ne _ (fun e => hi (by rw [e]))]; exact hq⟩⟩
    rw [store_of h2, if_pos (by simp [S4.row]), if_pos (by simp [S4.row, one_int])]
    rfl
  cases b with
  | true =>
    obtain ⟨H3, g1, g2, g3, g4⟩ := fin s H1 hbox hres
    simp only [S4.row] at g1 g2 g3
    simp only [g1, g2, g3, zz, env0, aPure, aRead, aNew, aEff, aval, avals, aparts, aopt, wantedA, binA, isShift, binI, fillA, single, aRes, splice, mkv, unA, binS, sameAt, reduceCtorEq, reduceIte, Int.reduceEq, Int.reduceLT, Int.reduceLE, Int.reduceNe, Nat.reduceEqDiff, Nat.reduceLT, Nat.reduceAdd, Nat.reduceMul, Nat.reduceSub, Nat.reduceLeDiff, Int.reduceBEq, Int.reduceBNe, Nat.reduceBEq, Nat.reduceBNe, Int.reduceToNat]
    refine hK s H3 (Else.keeps hkH g4 (fun i hi => by simp only [Option.some.injEq] at hi; omega)) hs (fun y hy => ?_)
    constructor
    · exact Or.inl
    · rintro (h | rfl)
      · exact h
      · exact hb.1 rfl
  | false =>
    have hno : ¬ s.Has x := fun h => by have := hb.2 h; simp at this
    have hcase : x / 64 = 0 ∨ x / 64 = 1 ∨ x / 64 = 2 ∨ x / 64 = 3 := by omega
    rcases hcase with h | h | h | h
    · rw [h] at hq
      have hbit : ¬ (s.a / 2 ^ (x % 64)) % 2 = 1 := fun e => hno (by unfold S4.Has SetHas setW; rw [if_pos (by omega)]; exact e)
      obtain ⟨h1, h2⟩ := add_bit_int s.a (x % 64) hs.a (by omega) hbit
      have hw : IntKind.u64.wrap (s.a + 2 ^ (x % 64)) = s.a + 2 ^ (x % 64) := wrap_u64 h1.1 h1.2
      have l1 : loadA H1 H.length 0 1 = some [.int .u64 s.a] := load_one hbox rfl
      have hst := store_of hbox 0 [.int .u64 (s.a + 2 ^ (x % 64))]
      rw [if_pos (by simp), if_pos (by simp [one_int])] at hst
      obtain ⟨H3, g1, g2, g3, g4⟩ := fin ⟨s.a + 2 ^ (x % 64), s.b, s.c, s.d⟩ (H1.set H.length (some (.cells 4 true (S4.row ⟨s.a + 2 ^ (x % 64), s.b, s.c, s.d⟩)))) (gb_set _ (gb_lt hbox)) (by rw [gb_set_ne _ (by omega)]; exact hres)
      have hst' : storeA H1 H.length 0 [.int .u64 (s.a + 2 ^ (x % 64))] = some (H1.set H.length (some (.cells 4 true (S4.row ⟨s.a + 2 ^ (x % 64), s.b, s.c, s.d⟩)))) := hst
      simp only [S4.row] at g1 g2 g3 hst'
      simp only [hq, hr, hsh, l1, hw, hst', g1, g2, g3, zz, env0, aPure, aRead, aNew, aEff, aval, avals, aparts, aopt, wantedA, binA, isShift, binI, fillA, single, aRes, splice, mkv, unA, binS, sameAt, reduceCtorEq, reduceIte, Int.reduceEq, Int.reduceLT, Int.reduceLE, Int.reduceNe, Nat.reduceEqDiff, Nat.reduceLT, Nat.reduceAdd, Nat.reduceMul, Nat.reduceSub, Nat.reduceLeDiff, Int.reduceBEq, Int.reduceBNe, Nat.reduceBEq, Nat.reduceBNe, Int.reduceToNat]
      refine hK ⟨s.a + 2 ^ (x % 64), s.b, s.c, s.d⟩ H3 ?_ ⟨h1, hs.b, hs.c, hs.d⟩ (fun y hy => ?_)
      · exact Else.keeps (H := H1.set H.length (some (.cells 4 true (S4.row ⟨s.a + 2 ^ (x % 64), s.b, s.c, s.d⟩)))) (hkH.set (Nat.le_refl _) _) g4 (fun i hi => by simp only [Option.some.injEq] at hi; omega)
      · unfold S4.Has SetHas
        have hy4 : y / 64 = 0 ∨ y / 64 = 1 ∨ y / 64 = 2 ∨ y / 64 = 3 := by omega
        rcases hy4 with e | e | e | e
        · rw [setW_0 e, setW_0 e]
          have hi : y % 64 = x % 64 ↔ y = x := ⟨fun _ => by omega, fun e => by rw [e]⟩
          rw [← hi]; exact h2 (y % 64)
        · rw [setW_1 e, setW_1 e]
          constructor
          · exact Or.inl
          · rintro (h | h)
            · exact h
            · omega
        · rw [setW_2 e, setW_2 e]
          constructor
          · exact Or.inl
          · rintro (h | h)
            · exact h
            · omega
        · rw [setW_3 e, setW_3 e]
          constructor
          · exact Or.inl
          · rintro (h | h)
            · exact h
            · omega
    · rw [h] at hq
      have hbit : ¬ (s.b / 2 ^ (x % 64)) % 2 = 1 := fun e => hno (by unfold S4.Has SetHas setW; rw [if_neg (by omega), if_pos (by omega)]; exact e)
      obtain ⟨h1, h2⟩ := add_bit_int s.b (x % 64) hs.b (by omega) hbit
      have hw : IntKind.u64.wrap (s.b + 2 ^ (x % 64)) = s.b + 2 ^ (x % 64) := wrap_u64 h1.1 h1.2
      have l1 : loadA H1 H.length 1 1 = some [.int .u64 s.b] := load_one hbox rfl
      have hst := store_of hbox 1 [.int .u64 (s.b + 2 ^ (x % 64))]
      rw [if_pos (by simp), if_pos (by simp [one_int])] at hst
      obtain ⟨H3, g1, g2, g3, g4⟩ := fin ⟨s.a, s.b + 2 ^ (x % 64), s.c, s.d⟩ (H1.set H.length (some (.cells 4 true (S4.row ⟨s.a, s.b + 2 ^ (x % 64), s.c, s.d⟩)))) (gb_set _ (gb_lt hbox)) (by rw [gb_set_ne _ (by omega)]; exact hres)
      have hst' : storeA H1 H.length 1 [.int .u64 (s.b + 2 ^ (x % 64))] = some (H1.set H.length (some (.cells 4 true (S4.row ⟨s.a, s.b + 2 ^ (x % 64), s.c, s.d⟩)))) := hst
      simp only [S4.row] at g1 g2 g3 hst'
      simp only [hq, hr, hsh, l1, hw, hst', g1, g2, g3, zz, env0, aPure, aRead, aNew, aEff, aval, avals, aparts, aopt, wantedA, binA, isShift, binI, fillA, single, aRes, splice, mkv, unA, binS, sameAt, reduceCtorEq, reduceIte, Int.reduceEq, Int.reduceLT, Int.reduceLE, Int.reduceNe, Nat.reduceEqDiff, Nat.reduceLT, Nat.reduceAdd, Nat.reduceMul, Nat.reduceSub, Nat.reduceLeDiff, Int.reduceBEq, Int.reduceBNe, Nat.reduceBEq, Nat.reduceBNe, Int.reduceToNat]
      refine hK ⟨s.a, s.b + 2 ^ (x % 64), s.c, s.d⟩ H3 ?_ ⟨hs.a, h1, hs.c, hs.d⟩ (fun y hy => ?_)
      · exact Else.keeps (H := H1.set H.length (some (.cells 4 true (S4.row ⟨s.a, s.b + 2 ^ (x % 64), s.c, s.d⟩)))) (hkH.set (Nat.le_refl _) _) g4 (fun i hi => by simp only [Option.some.injEq] at hi; omega)
      · unfold S4.Has SetHas
        have hy4 : y / 64 = 0 ∨ y / 64 = 1 ∨ y / 64 = 2 ∨ y / 64 = 3 := by omega
        rcases hy4 with e | e | e | e
        · rw [setW_0 e, setW_0 e]
          constructor
          · exact Or.inl
          · rintro (h | h)
            · exact h
            · omega
        · rw [setW_1 e, setW_1 e]
          have hi : y % 64 = x % 64 ↔ y = x := ⟨fun _ => by omega, fun e => by rw [e]⟩
          rw [← hi]; exact h2 (y % 64)
        · rw [setW_2 e, setW_2 e]
          constructor
          · exact Or.inl
          · rintro (h | h)
            · exact h
            · omega
        · rw [setW_3 e, setW_3 e]
          constructor
          · exact Or.inl
          · rintro (h | h)
            · exact h
            · omega
    · rw [h] at hq
      have hbit : ¬ (s.c / 2 ^ (x % 64)) % 2 = 1 := fun e => hno (by unfold S4.Has SetHas setW; rw [if_neg (by omega), if_neg (by omega), if_pos (by omega)]; exact e)
      obtain ⟨h1, h2⟩ := add_bit_int s.c (x % 64) hs.c (by omega) hbit
      have hw : IntKind.u64.wrap (s.c + 2 ^ (x % 64)) = s.c + 2 ^ (x % 64) := wrap_u64 h1.1 h1.2
      have l1 : loadA H1 H.length 2 1 = some [.int .u64 s.c] := load_one hbox rfl
      have hst := store_of hbox 2 [.int .u64 (s.c + 2 ^ (x % 64))]
      rw [if_pos (by simp), if_pos (by simp [one_int])] at hst
      obtain ⟨H3, g1, g2, g3, g4⟩ := fin ⟨s.a, s.b, s.c + 2 ^ (x % 64), s.d⟩ (H1.set H.length (some (.cells 4 true (S4.row ⟨s.a, s.b, s.c + 2 ^ (x % 64), s.d⟩)))) (gb_set _ (gb_lt hbox)) (by rw [gb_set_ne _ (by omega)]; exact hres)
      have hst' : storeA H1 H.length 2 [.int .u64 (s.c + 2 ^ (x % 64))] = some (H1.set H.length (some (.cells 4 true (S4.row ⟨s.a, s.b, s.c + 2 ^ (x % 64), s.d⟩)))) := hst
      simp only [S4.row] at g1 g2 g3 hst'
      simp only [hq, hr, hsh, l1, hw, hst', g1, g2, g3, zz, env0, aPure, aRead, aNew, aEff, aval, avals, aparts, aopt, wantedA, binA, isShift, binI, fillA, single, aRes, splice, mkv, unA, binS, sameAt, reduceCtorEq, reduceIte, Int.reduceEq, Int.reduceLT, Int.reduceLE, Int.reduceNe, Nat.reduceEqDiff, Nat.reduceLT, Nat.reduceAdd, Nat.reduceMul, Nat.reduceSub, Nat.reduceLeDiff, Int.reduceBEq, Int.reduceBNe, Nat.reduceBEq, Nat.reduceBNe, Int.reduceToNat]
      refine hK ⟨s.a, s.b, s.c + 2 ^ (x % 64), s.d⟩ H3 ?_ ⟨hs.a, hs.b, h1, hs.d⟩ (fun y hy => ?_)
      · exact Else.keeps (H := H1.set H.length (some (.cells 4 true (S4.row ⟨s.a, s.b, s.c + 2 ^ (x % 64), s.d⟩)))) (hkH.set (Nat.le_refl _) _) g4 (fun i hi => by simp only [Option.some.injEq] at hi; omega)
      · unfold S4.Has SetHas
        have hy4 : y / 64 = 0 ∨ y / 64 = 1 ∨ y / 64 = 2 ∨ y / 64 = 3 := by omega
        rcases hy4 with e | e | e | e
        · rw [setW_0 e, setW_0 e]
          constructor
          · exact Or.inl
          · rintro (h | h)
            · exact h
            · omega
        · rw [setW_1 e, setW_1 e]
          constructor
          · exact Or.inl
          · rintro (h | h)
            · exact h
            · omega
        · rw [setW_2 e, setW_2 e]
          have hi : y % 64 = x % 64 ↔ y = x := ⟨fun _ => by omega, fun e => by rw [e]⟩
          rw [← hi]; exact h2 (y % 64)
        · rw [setW_3 e, setW_3 e]
          constructor
          · exact Or.inl
          · rintro (h | h)
            · exact h
            · omega
    · rw [h] at hq
      have hbit : ¬ (s.d / 2 ^ (x % 64)) % 2 = 1 := fun e => hno (by unfold S4.Has SetHas setW; rw [if_neg (by omega), if_neg (by omega), if_neg (by omega)]; exact e)
      obtain ⟨h1, h2⟩ := add_bit_int s.d (x % 64) hs.d (by omega) hbit
      have hw : IntKind.u64.wrap (s.d + 2 ^ (x % 64)) = s.d + 2 ^ (x % 64) := wrap_u64 h1.1 h1.2
      have l1 : loadA H1 H.length 3 1 = some [.int .u64 s.d] := load_one hbox rfl
      have hst := store_of hbox 3 [.int .u64 (s.d + 2 ^ (x % 64))]
      rw [if_pos (by simp), if_pos (by simp [one_int])] at hst
      obtain ⟨H3, g1, g2, g3, g4⟩ := fin ⟨s.a, s.b, s.c, s.d + 2 ^ (x % 64)⟩ (H1.set H.length (some (.cells 4 true (S4.row ⟨s.a, s.b, s.c, s.d + 2 ^ (x % 64)⟩)))) (gb_set _ (gb_lt hbox)) (by rw [gb_set_ne _ (by omega)]; exact hres)
      have hst' : storeA H1 H.length 3 [.int .u64 (s.d + 2 ^ (x % 64))] = some (H1.set H.length (some (.cells 4 true (S4.row ⟨s.a, s.b, s.c, s.d + 2 ^ (x % 64)⟩)))) := hst
      simp only [S4.row] at g1 g2 g3 hst'
      simp only [hq, hr, hsh, l1, hw, hst', g1, g2, g3, zz, env0, aPure, aRead, aNew, aEff, aval, avals, aparts, aopt, wantedA, binA, isShift, binI, fillA, single, aRes, splice, mkv, unA, binS, sameAt, reduceCtorEq, reduceIte, Int.reduceEq, Int.reduceLT, Int.reduceLE, Int.reduceNe, Nat.reduceEqDiff, Nat.reduceLT, Nat.reduceAdd, Nat.reduceMul, Nat.reduceSub, Nat.reduceLeDiff, Int.reduceBEq, Int.reduceBNe, Nat.reduceBEq, Nat.reduceBNe, Int.reduceToNat]
      refine hK ⟨s.a, s.b, s.c, s.d + 2 ^ (x % 64)⟩ H3 ?_ ⟨hs.a, hs.b, hs.c, h1⟩ (fun y hy => ?_)
      · exact Else.keeps (H := H1.set H.length (some (.cells 4 true (S4.row ⟨s.a, s.b, s.c, s.d + 2 ^ (x % 64)⟩)))) (hkH.set (Nat.le_refl _) _) g4 (fun i hi => by simp only [Option.some.injEq] at hi; omega)
      · unfold S4.Has SetHas
        have hy4 : y / 64 = 0 ∨ y / 64 = 1 ∨ y / 64 = 2 ∨ y / 64 = 3 := by omega
        rcases hy4 with e | e | e | e
        · rw [setW_0 e, setW_0 e]
          constructor
          · exact Or.inl
          · rintro (h | h)
            · exact h
            · omega
        · rw [setW_1 e, setW_1 e]
          constructor
          · exact Or.inl
          · rintro (h | h)
            · exact h
            · omega
        · rw [setW_2 e, setW_2 e]
          constructor
          · exact Or.inl
          · rintro (h | h)
            · exact h
            · omega
        · rw [setW_3 e, setW_3 e]
          have hi : y % 64 = x % 64 ↔ y = x := ⟨fun _ => by omega, fun e => by rw [e]⟩
          rw [← hi]; exact h2 (y % 64)
end Go.Proofs.Ytnblhjpbpobglaa

/- The reference: a set with both cases of letters; folded trees. -/
set_option maxRecDepth 100000
set_option maxHeartbeats 1000000
set_option linter.unusedSimpArgs false
namespace Go.Proofs.Ytnblhjpbpobglaa
open Go.Am

/-- What a folded set has. -/
def FoldP (P : Nat → Prop) (c : Nat) : Prop := P c ∨ (97 ≤ c ∧ c ≤ 122 ∧ P (c - 32)) ∨ (65 ≤ c ∧ c ≤ 90 ∧ P (c + 32))

theorem fold_spec (H : AHeap) (s : S4) (hs : s.Ok) (K : AV → AHeap → Prop)
    (hK : ∀ (t : S4) H', Keeps H H' → t.Ok → (∀ y, y < 256 → (t.Has y ↔ FoldP s.Has y)) → K (.agg t.row) H') :
    WF P0 37 [.agg s.row] H K := by
  refine zWF rfl rfl rfl ?_
  simp only [a37, S4.row, zz, env0, aPure, aRead, aNew, aEff, aval, avals, aparts, aopt, wantedA, binA, isShift, binI, fillA, single, aRes, splice, mkv, unA, binS, sameAt, reduceCtorEq, reduceIte, Int.reduceEq, Int.reduceLT, Int.reduceLE, Int.reduceNe, Nat.reduceEqDiff, Nat.reduceLT, Nat.reduceAdd, Nat.reduceMul, Nat.reduceSub, Nat.reduceLeDiff, Int.reduceBEq, Int.reduceBNe, Nat.reduceBEq, Nat.reduceBNe, Int.reduceToNat]
  generalize hn2 : (H ++ [some (Blk.cells 4 true [AV.int IntKind.u64 s.a, AV.int IntKind.u64 s.b, AV.int IntKind.u64 s.c, AV.int IntKind.u64 s.d])]).length = n2
  have hv2 : n2 = H.length + 1 := by rw [← hn2]; simp
  generalize hn3 : (H ++ [some (Blk.cells 4 true [AV.int IntKind.u64 s.a, AV.int IntKind.u64 s.b, AV.int IntKind.u64 s.c, AV.int IntKind.u64 s.d])] ++ [some (Blk.cells 4 true [AV.int IntKind.u64 0, AV.int IntKind.u64 0, AV.int IntKind.u64 0, AV.int IntKind.u64 0])]).length = n3
  have hv3 : n3 = H.length + 2 := by rw [← hn3]; simp
  generalize hH1 : H ++ [some (Blk.cells 4 true [AV.int IntKind.u64 s.a, AV.int IntKind.u64 s.b, AV.int IntKind.u64 s.c, AV.int IntKind.u64 s.d])] ++ [some (Blk.cells 4 true [AV.int IntKind.u64 0, AV.int IntKind.u64 0, AV.int IntKind.u64 0, AV.int IntKind.u64 0])] ++
    [some (Blk.cells 4 true [AV.int IntKind.u64 s.a, AV.int IntKind.u64 s.b, AV.int IntKind.u64 s.c, AV.int IntKind.u64 s.d])] = H1
  have hk1 : Keeps H H1 := by rw [← hH1]; exact .p3 _ _ _ _
  have b1 : getB H1 H.length = some (.cells 4 true s.row) := by rw [← hH1]; exact gb_push _ (gb_push _ (gb_new _ _))
  have b2 : getB H1 n2 = some (.cells 4 true [.int .u64 0, .int .u64 0, .int .u64 0, .int .u64 0]) := by rw [← hH1, ← hn2]; exact gb_push _ (gb_new _ _)
  have b3 : getB H1 n3 = some (.cells 4 true s.row) := by rw [← hH1, ← hn3]; exact gb_new _ _
  -- a set is put
  have put4 : ∀ (H' : AHeap) (i : Nat) (old t : S4) (cs : List AV), getB H' i = some (.cells 4 true cs) → cs.length = 4 → storeA H' i 0 t.row = some (H'.set i (some (.cells 4 true t.row))) := fun H' i old t cs h hl => by
    rw [store_of h, if_pos (by simp [S4.row, hl]), if_pos (by simp [S4.row, one_int])]
    have : splice cs 0 t.row = t.row := by simp [splice, S4.row, hl]
    rw [this]
  refine WC.mono (K := fun e env H' => e = .exit 0 ∧ ∃ (t : S4) (a4 a5 a6 : AV), Keeps H H' ∧ t.Ok ∧ (∀ y, y < 256 → (t.Has y ↔ FoldP s.Has y)) ∧ getB H' n2 = some (.cells 4 true [.int .u64 0, .int .u64 0, .int .u64 0, .int .u64 0]) ∧ getB H' n3 = some (.cells 4 true t.row) ∧
      env = [.agg s.row, .ptr H.length 0, .ptr n2 0, .ptr n3 0, a4, a5, a6]) ?_ ?_
  · refine WCL (fun r env H' => ∃ (b : Nat) (t : S4) (a5 a6 : AV), 97 ≤ b ∧ b ≤ 123 ∧ r = 123 - b ∧ Keeps H H' ∧ t.Ok ∧ (∀ y, y < 256 → (t.Has y ↔ s.Has y ∨ (97 ≤ y ∧ y < b ∧ (s.Has y ∨ s.Has (y - 32))) ∨ (65 ≤ y ∧ y + 32 < b ∧ (s.Has y ∨ s.Has (y + 32))))) ∧
        getB H' H.length = some (.cells 4 true s.row) ∧ getB H' n2 = some (.cells 4 true [.int .u64 0, .int .u64 0, .int .u64 0, .int .u64 0]) ∧ getB H' n3 = some (.cells 4 true t.row) ∧
        env = [.agg s.row, .ptr H.length 0, .ptr n2 0, .ptr n3 0, .int .u8 b, a5, a6]) (n := 26)
      ⟨97, s, _, _, by omega, by omega, rfl, hk1, hs, fun y hy => ⟨Or.inl, fun h => by rcases h with h | h | h; exact h; omega; omega⟩, b1, b2, b3, rfl⟩ ?_
    rintro r env H' ⟨b, t, a5, a6, hb1, hb2, rfl, hk, ht, hT, c1, c2, c3, rfl⟩
    simp only [zz, env0, aPure, aRead, aNew, aEff, aval, avals, aparts, aopt, wantedA, binA, isShift, binI, fillA, single, aRes, splice, mkv, unA, binS, sameAt, reduceCtorEq, reduceIte, Int.reduceEq, Int.reduceLT, Int.reduceLE, Int.reduceNe, Nat.reduceEqDiff, Nat.reduceLT, Nat.reduceAdd, Nat.reduceMul, Nat.reduceSub, Nat.reduceLeDiff, Int.reduceBEq, Int.reduceBNe, Nat.reduceBEq, Nat.reduceBNe, Int.reduceToNat]
    refine onB_of (fun hlt => ?_) (fun hlt => ?_)
    · have hb : b ≤ 122 := by simp at hlt; omega
      have l1 : loadA H' H.length 0 4 = some s.row := load_at c1 (by simp [S4.row])
      have vb : IntKind.u8.wrap ((b : Int) + 1) = ((b + 1 : Nat) : Int) := by rw [wrap_u8 (by omega) (by omega)]; rfl
      have vs : IntKind.u8.wrap ((b : Int) - 32) = ((b - 32 : Nat) : Int) := by rw [wrap_u8 (by omega) (by omega)]; omega
      simp only [S4.row] at l1
      simp only [l1, zz, env0, aPure, aRead, aNew, aEff, aval, avals, aparts, aopt, wantedA, binA, isShift, binI, fillA, single, aRes, splice, mkv, unA, binS, sameAt, reduceCtorEq, reduceIte, Int.reduceEq, Int.reduceLT, Int.reduceLE, Int.reduceNe, Nat.reduceEqDiff, Nat.reduceLT, Nat.reduceAdd, Nat.reduceMul, Nat.reduceSub, Nat.reduceLeDiff, Int.reduceBEq, Int.reduceBNe, Nat.reduceBEq, Nat.reduceBNe, Int.reduceToNat]
      -- nothing to do, and both
      have skip : ¬ (s.Has b ∨ s.Has (b - 32)) → ∀ y, y < 256 → (t.Has y ↔ s.Has y ∨ (97 ≤ y ∧ y < b + 1 ∧ (s.Has y ∨ s.Has (y - 32))) ∨ (65 ≤ y ∧ y + 32 < b + 1 ∧ (s.Has y ∨ s.Has (y + 32)))) := fun hno y hy => by
        rw [hT y hy]
        constructor
        · rintro (h | h | h)
          · exact .inl h
          · exact .inr (.inl ⟨h.1, by omega, h.2.2⟩)
          · exact .inr (.inr ⟨h.1, by omega, h.2.2⟩)
        · rintro (h | ⟨h1, h2, h3⟩ | ⟨h1, h2, h3⟩)
          · exact .inl h
          · rcases Nat.lt_or_ge y b with h | h
            · exact .inr (.inl ⟨h1, h, h3⟩)
            · have : y = b := by omega
              subst this; exact absurd h3 hno
          · rcases Nat.lt_or_ge (y + 32) b with h | h
            · exact .inr (.inr ⟨h1, h, h3⟩)
            · have : y = b - 32 := by omega
              subst this
              have e : b - 32 + 32 = b := by omega
              rw [e] at h3
              exact absurd h3.symm hno
      refine rhas_nat _ s hs b (by omega) _ ?_
      intro x1 H2 hk2 hx1
      have d1 := hk2.get c1
      have d2 := hk2.get c2
      have d3 := hk2.get c3
      -- both cases are put
      have both : (s.Has b ∨ s.Has (b - 32)) → ∀ (t1 t2 : S4), (∀ y, y < 256 → (t1.Has y ↔ t.Has y ∨ y = b)) → (∀ y, y < 256 → (t2.Has y ↔ t1.Has y ∨ y = b - 32)) → ∀ y, y < 256 → (t2.Has y ↔ s.Has y ∨ (97 ≤ y ∧ y < b + 1 ∧ (s.Has y ∨ s.Has (y - 32))) ∨ (65 ≤ y ∧ y + 32 < b + 1 ∧ (s.Has y ∨ s.Has (y + 32)))) := fun hyes t1 t2 h1 h2 y hy => by
        rw [h2 y hy, h1 y hy, hT y hy]
        constructor
        · rintro (((h | h | h) | rfl) | rfl)
          · exact .inl h
          · exact .inr (.inl ⟨h.1, by omega, h.2.2⟩)
          · exact .inr (.inr ⟨h.1, by omega, h.2.2⟩)
          · exact .inr (.inl ⟨hb1, by omega, hyes⟩)
          · refine .inr (.inr ⟨by omega, by omega, ?_⟩)
            have e : b - 32 + 32 = b := by omega
            rw [e]; exact hyes.symm
        · rintro (h | ⟨h1, h2, h3⟩ | ⟨h1, h2, h3⟩)
          · exact .inl (.inl (.inl h))
          · rcases Nat.lt_or_ge y b with h | h
            · exact .inl (.inl (.inr (.inl ⟨h1, h, h3⟩)))
            · exact .inl (.inr (by omega))
          · rcases Nat.lt_or_ge (y + 32) b with h | h
            · exact .inl (.inl (.inr (.inr ⟨h1, h, h3⟩)))
            · exact .inr (by omega)
      cases x1 with
      | true =>
        have l3 : loadA H2 n3 0 4 = some t.row := load_at d3 (by simp [S4.row])
        simp only [S4.row] at l3
        simp only [l3, zz, env0, aPure, aRead, aNew, aEff, aval, avals, aparts, aopt, wantedA, binA, isShift, binI, fillA, single, aRes, splice, mkv, unA, binS, sameAt, reduceCtorEq, reduceIte, Int.reduceEq, Int.reduceLT, Int.reduceLE, Int.reduceNe, Nat.reduceEqDiff, Nat.reduceLT, Nat.reduceAdd, Nat.reduceMul, Nat.reduceSub, Nat.reduceLeDiff, Int.reduceBEq, Int.reduceBNe, Nat.reduceBEq, Nat.reduceBNe, Int.reduceToNat]
        refine with_spec _ t ht b (by omega) _ ?_
        intro t1 H3 hk3 ht1 hT1
        simp only [vs, zz, env0, aPure, aRead, aNew, aEff, aval, avals, aparts, aopt, wantedA, binA, isShift, binI, fillA, single, aRes, splice, mkv, unA, binS, sameAt, reduceCtorEq, reduceIte, Int.reduceEq, Int.reduceLT, Int.reduceLE, Int.reduceNe, Nat.reduceEqDiff, Nat.reduceLT, Nat.reduceAdd, Nat.reduceMul, Nat.reduceSub, Nat.reduceLeDiff, Int.reduceBEq, Int.reduceBNe, Nat.reduceBEq, Nat.reduceBNe, Int.reduceToNat]
        refine with_spec _ t1 ht1 (b - 32) (by omega) _ ?_
        intro t2 H4 hk4 ht2 hT2
        have f3 := hk4.get (hk3.get d3)
        have hp := put4 H4 n3 t t2 _ f3 (by simp [S4.row])
        have hlt3 := gb_lt f3
        simp only [S4.row] at hp
        simp only [hp, vb, S4.row, zz, env0, aPure, aRead, aNew, aEff, aval, avals, aparts, aopt, wantedA, binA, isShift, binI, fillA, single, aRes, splice, mkv, unA, binS, sameAt, reduceCtorEq, reduceIte, Int.reduceEq, Int.reduceLT, Int.reduceLE, Int.reduceNe, Nat.reduceEqDiff, Nat.reduceLT, Nat.reduceAdd, Nat.reduceMul, Nat.reduceSub, Nat.reduceLeDiff, Int.reduceBEq, Int.reduceBNe, Nat.reduceBEq, Nat.reduceBNe, Int.reduceToNat]
        exact ⟨123 - (b + 1), by omega, b + 1, t2, _, _, by omega, by omega, rfl, (((hk.trans hk2).trans hk3).trans hk4).set (by omega) _, ht2, both (.inl (hx1.1 rfl)) t1 t2 hT1 hT2, by rw [gb_set_ne _ (by omega)]; exact hk4.get (hk3.get d1), by rw [gb_set_ne _ (by omega)]; exact hk4.get (hk3.get d2), gb_set _ hlt3, rfl⟩
      | false =>
        have l1' := hk2.load l1
        simp only [l1', vs, zz, env0, aPure, aRead, aNew, aEff, aval, avals, aparts, aopt, wantedA, binA, isShift, binI, fillA, single, aRes, splice, mkv, unA, binS, sameAt, reduceCtorEq, reduceIte, Int.reduceEq, Int.reduceLT, Int.reduceLE, Int.reduceNe, Nat.reduceEqDiff, Nat.reduceLT, Nat.reduceAdd, Nat.reduceMul, Nat.reduceSub, Nat.reduceLeDiff, Int.reduceBEq, Int.reduceBNe, Nat.reduceBEq, Nat.reduceBNe, Int.reduceToNat]
        refine rhas_nat _ s hs (b - 32) (by omega) _ ?_
        intro x2 H5 hk5 hx2
        have e1 := hk5.get d1
        have e2 := hk5.get d2
        have e3 := hk5.get d3
        cases x2 with
        | false =>
          simp only [vb, zz, env0, aPure, aRead, aNew, aEff, aval, avals, aparts, aopt, wantedA, binA, isShift, binI, fillA, single, aRes, splice, mkv, unA, binS, sameAt, reduceCtorEq, reduceIte, Int.reduceEq, Int.reduceLT, Int.reduceLE, Int.reduceNe, Nat.reduceEqDiff, Nat.reduceLT, Nat.reduceAdd, Nat.reduceMul, Nat.reduceSub, Nat.reduceLeDiff, Int.reduceBEq, Int.reduceBNe, Nat.reduceBEq, Nat.reduceBNe, Int.reduceToNat]
          exact ⟨123 - (b + 1), by omega, b + 1, t, _, _, by omega, by omega, rfl, (hk.trans hk2).trans hk5, ht, skip (fun h => by
            rcases h with h | h
            · have := hx1.2 h; simp at this
            · have := hx2.2 h; simp at this), e1, e2, e3, rfl⟩
        | true =>
          have l3 : loadA H5 n3 0 4 = some t.row := load_at e3 (by simp [S4.row])
          simp only [S4.row] at l3
          simp only [l3, zz, env0, aPure, aRead, aNew, aEff, aval, avals, aparts, aopt, wantedA, binA, isShift, binI, fillA, single, aRes, splice, mkv, unA, binS, sameAt, reduceCtorEq, reduceIte, Int.reduceEq, Int.reduceLT, Int.reduceLE, Int.reduceNe, Nat.reduceEqDiff, Nat.reduceLT, Nat.reduceAdd, Nat.reduceMul, Nat.reduceSub, Nat.reduceLeDiff, Int.reduceBEq, Int.reduceBNe, Nat.reduceBEq, Nat.reduceBNe, Int.reduceToNat]
          refine with_spec _ t ht b (by omega) _ ?_
          intro t1 H3 hk3 ht1 hT1
          simp only [vs, zz, env0, aPure, aRead, aNew, aEff, aval, avals, aparts, aopt, wantedA, binA, isShift, binI, fillA, single, aRes, splice, mkv, unA, binS, sameAt, reduceCtorEq, reduceIte, Int.reduceEq, Int.reduceLT, Int.reduceLE, Int.reduceNe, Nat.reduceEqDiff, Nat.reduceLT, Nat.reduceAdd, Nat.reduceMul, Nat.reduceSub, Nat.reduceLeDiff, Int.reduceBEq, Int.reduceBNe, Nat.reduceBEq, Nat.reduceBNe, Int.reduceToNat]
          refine with_spec _ t1 ht1 (b - 32) (by omega) _ ?_
          intro t2 H4 hk4 ht2 hT2
          have f3 := hk4.get (hk3.get e3)
          have hp := put4 H4 n3 t t2 _ f3 (by simp [S4.row])
          have hlt3 := gb_lt f3
          simp only [S4.row] at hp
          simp only [hp, vb, S4.row, zz, env0, aPure, aRead, aNew, aEff, aval, avals, aparts, aopt, wantedA, binA, isShift, binI, fillA, single, aRes, splice, mkv, unA, binS, sameAt, reduceCtorEq, reduceIte, Int.reduceEq, Int.reduceLT, Int.reduceLE, Int.reduceNe, Nat.reduceEqDiff, Nat.reduceLT, Nat.reduceAdd, Nat.reduceMul, Nat.reduceSub, Nat.reduceLeDiff, Int.reduceBEq, Int.reduceBNe, Nat.reduceBEq, Nat.reduceBNe, Int.reduceToNat]
          exact ⟨123 - (b + 1), by omega, b + 1, t2, _, _, by omega, by omega, rfl, ((((hk.trans hk2).trans hk5).trans hk3).trans hk4).set (by omega) _, ht2, both (.inr (hx2.1 rfl)) t1 t2 hT1 hT2, by rw [gb_set_ne _ (by omega)]; exact hk4.get (hk3.get e1), by rw [gb_set_ne _ (by omega)]; exact hk4.get (hk3.get e2), gb_set _ hlt3, rfl⟩
    · have hbe : b = 123 := by simp at hlt; omega
      subst hbe
      simp only [zz, env0, aPure, aRead, aNew, aEff, aval, avals, aparts, aopt, wantedA, binA, isShift, binI, fillA, single, aRes, splice, mkv, unA, binS, sameAt, reduceCtorEq, reduceIte, Int.reduceEq, Int.reduceLT, Int.reduceLE, Int.reduceNe, Nat.reduceEqDiff, Nat.reduceLT, Nat.reduceAdd, Nat.reduceMul, Nat.reduceSub, Nat.reduceLeDiff, Int.reduceBEq, Int.reduceBNe, Nat.reduceBEq, Nat.reduceBNe, Int.reduceToNat]
      refine ⟨t, _, _, _, hk, ht, fun y hy => ?_, c2, c3, rfl⟩
      rw [hT y hy]
      unfold FoldP
      constructor
      · rintro (h | ⟨h1, h2, h3 | h3⟩ | ⟨h1, h2, h3 | h3⟩)
        · exact .inl h
        · exact .inl h3
        · exact .inr (.inl ⟨h1, by omega, h3⟩)
        · exact .inl h3
        · exact .inr (.inr ⟨h1, by omega, h3⟩)
      · rintro (h | ⟨h1, h2, h3⟩ | ⟨h1, h2, h3⟩)
        · exact .inl h
        · exact .inr (.inl ⟨h1, by omega, .inr h3⟩)
        · exact .inr (.inr ⟨h1, by omega, .inr h3⟩)
  · rintro e env H' ⟨rfl, t, a4, a5, a6, hk, ht, hT, c2, c3, rfl⟩
    have l3 : loadA H' n3 0 4 = some t.row := load_at c3 (by simp [S4.row])
    have hp := put4 H' n2 t t _ c2 (by simp)
    have l2 : loadA (H'.set n2 (some (.cells 4 true t.row))) n2 0 4 = some t.row := load_at (gb_set _ (gb_lt c2)) (by simp [S4.row])
    simp only [S4.row] at l3 hp l2
    simp only [l3, hp, l2, S4.row, zz, env0, aPure, aRead, aNew, aEff, aval, avals, aparts, aopt, wantedA, binA, isShift, binI, fillA, single, aRes, splice, mkv, unA, binS, sameAt, reduceCtorEq, reduceIte, Int.reduceEq, Int.reduceLT, Int.reduceLE, Int.reduceNe, Nat.reduceEqDiff, Nat.reduceLT, Nat.reduceAdd, Nat.reduceMul, Nat.reduceSub, Nat.reduceLeDiff, Int.reduceBEq, Int.reduceBNe, Nat.reduceBEq, Nat.reduceBNe, Int.reduceToNat]
    exact hK t _ (hk.set (by omega) _) ht hT
end Go.Proofs.Ytnblhjpbpobglaa

/- The reference: folded trees. -/
set_option maxRecDepth 100000
set_option maxHeartbeats 1000000
set_option linter.unusedSimpArgs false
namespace Go.Proofs.Ytnblhjpbpobglaa
open Go.Am

/-- A node, and the same of both cases of letters. -/
structure FoldN (n n' : Nd) : Prop where
  op : n'.op = n.op
  kids : n'.kids = n.kids
  lo : n'.lo = n.lo
  hi : n'.hi = n.hi
  name : n'.name = n.name
  ok : n'.Ok
  set : ∀ c, c < 256 → (SetHas n'.s0 n'.s1 n'.s2 n'.s3 c ↔ FoldP (SetHas n.s0 n.s1 n.s2 n.s3) c)

theorem rFold_spec (H : AHeap) (v : AV) (l : List Nd) (hN : Nds H v l) (hR : RightT l) (K : AV → AHeap → Prop)
    (hK : ∀ v' H' l', Keeps H H' → Nds H' v' l' → l'.length = l.length → (∀ (k : Nat) (n : Nd), l[k]? = some n → ∃ n', l'[k]? = some n' ∧ FoldN n n') → K v' H') : WF P0 26 [v] H K := by
  have hla := hN.lenOf
  have hl1 := hR.1
  have hl2 := hR.2.1
  refine zWF rfl rfl rfl ?_
  simp only [a26, zz, env0, aPure, aRead, aNew, aEff, aval, avals, aparts, aopt, wantedA, binA, isShift, binI, fillA, single, aRes, splice, mkv, unA, binS, sameAt, reduceCtorEq, reduceIte, Int.reduceEq, Int.reduceLT, Int.reduceLE, Int.reduceNe, Nat.reduceEqDiff, Nat.reduceLT, Nat.reduceAdd, Nat.reduceMul, Nat.reduceSub, Nat.reduceLeDiff, Int.reduceBEq, Int.reduceBNe, Nat.reduceBEq, Nat.reduceBNe, Int.reduceToNat]
  refine rright_spec _ _ l hN (by omega) _ ?_
  intro b H1 hk1 hb
  have := hb.2 hR
  subst this
  simp only [zz, env0, aPure, aRead, aNew, aEff, aval, avals, aparts, aopt, wantedA, binA, isShift, binI, fillA, single, aRes, splice, mkv, unA, binS, sameAt, reduceCtorEq, reduceIte, Int.reduceEq, Int.reduceLT, Int.reduceLE, Int.reduceNe, Nat.reduceEqDiff, Nat.reduceLT, Nat.reduceAdd, Nat.reduceMul, Nat.reduceSub, Nat.reduceLeDiff, Int.reduceBEq, Int.reduceBNe, Nat.reduceBEq, Nat.reduceBNe, Int.reduceToNat]
  refine WCL (fun r env H' => ∃ (t : Nat) (vo a4 a6 : AV) (rs : List (List AV)), t ≤ l.length ∧ r = l.length - t ∧ Keeps H H' ∧ WR H' H.length 9 vo t rs.flatten ∧ rs.length = t ∧
      (∀ (k : Nat) (n : Nd), k < t → l[k]? = some n → ∃ n' kv, rs[k]? = some (ndRow n' kv) ∧ FoldN n n' ∧ Ints H' kv n'.kids) ∧
      env = [v, .nilsl, vo, .int .i64 t, a4, .bool false, a6]) (n := l.length)
    ⟨0, .nilsl, _, _, [], Nat.zero_le _, rfl, hk1, .nil, rfl, fun k n h => by omega, rfl⟩ ?_
  rintro r env H' ⟨t, vo, a4, a6, rs, htl, rfl, hk, hwo, hrl, hrs, rfl⟩
  simp only [hla, zz, env0, aPure, aRead, aNew, aEff, aval, avals, aparts, aopt, wantedA, binA, isShift, binI, fillA, single, aRes, splice, mkv, unA, binS, sameAt, reduceCtorEq, reduceIte, Int.reduceEq, Int.reduceLT, Int.reduceLE, Int.reduceNe, Nat.reduceEqDiff, Nat.reduceLT, Nat.reduceAdd, Nat.reduceMul, Nat.reduceSub, Nat.reduceLeDiff, Int.reduceBEq, Int.reduceBNe, Nat.reduceBEq, Nat.reduceBNe, Int.reduceToNat]
  refine onB_of (fun hlt => ?_) (fun hlt => ?_)
  · have hlt : t < l.length := by simpa using hlt
    obtain ⟨n, hn⟩ : ∃ n, l[t]? = some n := ⟨l[t], List.getElem?_eq_getElem hlt⟩
    obtain ⟨b9, o9, kv, rfl, hok, hkv0, hld⟩ := hN.nd hn
    have hkl : n.kids.length ≤ 1024 := by
      obtain ⟨_, _, r, hr⟩ := hR
      have := (stk_kids hr hn).2.1
      omega
    have hkv := Rows.keeps IntP.mono hk hkv0
    have p1 : (0 : Int) ≤ t := by omega
    have p2 : (t : Int) < l.length := by omega
    have h9 := hk.load (hld 0 9 (by omega))
    simp only [Nat.add_zero, List.drop_zero, ndRow, List.take_succ_cons, List.take_zero] at h9
    obtain ⟨f1, f2, f3, f4⟩ := hkv.flat
    simp only [p1, p2, h9, f1, zz, env0, aPure, aRead, aNew, aEff, aval, avals, aparts, aopt, wantedA, binA, isShift, binI, fillA, single, aRes, splice, mkv, unA, binS, sameAt, reduceCtorEq, reduceIte, Int.reduceEq, Int.reduceLT, Int.reduceLE, Int.reduceNe, Nat.reduceEqDiff, Nat.reduceLT, Nat.reduceAdd, Nat.reduceMul, Nat.reduceSub, Nat.reduceLeDiff, Int.reduceBEq, Int.reduceBNe, Nat.reduceBEq, Nat.reduceBNe, Int.reduceToNat]
    generalize hHb : H' ++ [some (Blk.cells 9 true [AV.int IntKind.u8 n.op, AV.int IntKind.u64 n.s0, AV.int IntKind.u64 n.s1, AV.int IntKind.u64 n.s2, AV.int IntKind.u64 n.s3, kv, AV.int IntKind.i64 n.lo, AV.int IntKind.i64 n.hi, AV.str n.name])] = Hb
    have hkb : Keeps H' Hb := by rw [← hHb]; exact .p1 _ _
    have hbl : Hb.length = H'.length + 1 := by rw [← hHb]; simp
    have hbox : getB Hb H'.length = some (.cells 9 true (ndRow n kv)) := by rw [← hHb]; exact gb_new _ _
    refine fold_spec _ ⟨n.s0, n.s1, n.s2, n.s3⟩ ⟨hok.s0, hok.s1, hok.s2, hok.s3⟩ _ ?_
    intro s H2 hk2 hs hS
    have hbox2 := hk2.get hbox
    have hlt2 := gb_lt hbox2
    -- the set is put
    have hst := store_of hbox2 1 s.row
    rw [if_pos (by simp [ndRow, S4.row]), if_pos (by simp [S4.row, one_int])] at hst
    generalize hn1 : ({ n with s0 := s.a, s1 := s.b, s2 := s.c, s3 := s.d } : Nd) = n1 at *
    have hsp : splice (ndRow n kv) 1 s.row = ndRow n1 kv := by rw [← hn1]; rfl
    rw [hsp] at hst
    generalize hH3 : H2.set H'.length (some (.cells 9 true (ndRow n1 kv))) = H3 at hst
    have hbox3 : getB H3 H'.length = some (.cells 9 true (ndRow n1 kv)) := by rw [← hH3]; exact gb_set _ hlt2
    have hne3 : ∀ i q, i ≠ H'.length → getB H2 i = some q → getB H3 i = some q := fun i q h1 h2 => by rw [← hH3, gb_set_ne _ (Ne.symm h1)]; exact h2
    have hl3 : H3.length = H2.length := by rw [← hH3]; simp
    have hold3 : ∀ i q, getB H' i = some q → getB H3 i = some q := fun i q hq => hne3 i q (by have := gb_lt hq; omega) (hk2.get (hkb.get hq))
    have l5 : loadA H3 H'.length 5 1 = some [kv] := load_one hbox3 rfl
    have hb2 : Hb.length ≤ H2.length := hk2.1
    -- the kids are put
    have hkv3 : Ints H3 kv n.kids := ints_else hkv (fun i q _ hq => hold3 i q hq)
    have hx3 := (Rows.keeps IntP.mono (Keeps.p1 H3 (some (.cells 1 true []))) hkv3).ints.src
    obtain ⟨kw, H4, hap, hw4, he4, hid4⟩ := (WR.new H3 1 0 [] rfl (b := H3.length) (Nat.le_refl _)).append (bytes := 8) (by simp) hx3 (by simp) (one_ints _) (by simp only [maxRoom]; omega)
    rw [Nat.zero_add, List.nil_append] at hw4
    have hk4 : Keeps H3 H4 := Else.keeps (.p1 _ _) he4 (fun i hi => by simp [avId] at hi; omega)
    have l5' := hk4.load l5
    have l5'' := (Keeps.p1 H3 (some (.cells 1 true []))).load l5
    obtain ⟨e1, e2, e3, e4⟩ := hw4.row.flat
    have hbox4 := hk4.get hbox3
    have hlt4 := gb_lt hbox4
    have hst5 := store_of hbox4 5 [kw]
    rw [if_pos (by simp [ndRow]), if_pos (by simp [e1])] at hst5
    have hsp5 : splice (ndRow n1 kv) 5 [kw] = ndRow n1 kw := rfl
    rw [hsp5] at hst5
    generalize hH5 : H4.set H'.length (some (.cells 9 true (ndRow n1 kw))) = H5 at hst5
    have hbox5 : getB H5 H'.length = some (.cells 9 true (ndRow n1 kw)) := by rw [← hH5]; exact gb_set _ hlt4
    have hne5 : ∀ i q, i ≠ H'.length → getB H4 i = some q → getB H5 i = some q := fun i q h1 h2 => by rw [← hH5, gb_set_ne _ (Ne.symm h1)]; exact h2
    have hl5 : H5.length = H4.length := by rw [← hH5]; simp
    have hold5 : ∀ i q, getB H' i = some q → getB H5 i = some q := fun i q hq => hne5 i q (by have := gb_lt hq; omega) (hk4.get (hold3 i q hq))
    have hwo5 : WR H5 H.length 9 vo t rs.flatten := hwo.keep (fun i q _ hq => hold5 i q hq)
    have l9 : loadA H5 H'.length 0 9 = some (ndRow n1 kw) := load_at hbox5 (by simp [ndRow])
    have h34 := hk4.1
    have hH := hk.1
    obtain ⟨v', H6, hap6, hw6, he6, hid6⟩ := (hwo5.keeps (Keeps.p1 H5 (some (.cells 9 true (ndRow n1 kw))))).append (bytes := 96) (by simp; omega) (src_new H5 9 1 _ rfl) rfl (by simp [ndRow, one_int, one_str, e1]) (by simp only [maxRoom]; omega)
    have vt : IntKind.i64.wrap ((t : Int) + 1) = ((t + 1 : Nat) : Int) := by rw [wrap_i64 (by omega) (by omega)]; rfl
    simp only [ndRow] at l9 hap6
    simp only [S4.row] at hst
    simp only [S4.row, hst, l5'', f4, hap, e2, hst5, l9, e1, hap6, vt, zz, env0, aPure, aRead, aNew, aEff, aval, avals, aparts, aopt, wantedA, binA, isShift, binI, fillA, single, aRes, splice, mkv, unA, binS, sameAt, reduceCtorEq, reduceIte, Int.reduceEq, Int.reduceLT, Int.reduceLE, Int.reduceNe, Nat.reduceEqDiff, Nat.reduceLT, Nat.reduceAdd, Nat.reduceMul, Nat.reduceSub, Nat.reduceLeDiff, Int.reduceBEq, Int.reduceBNe, Nat.reduceBEq, Nat.reduceBNe, Int.reduceToNat]
    have hfold : FoldN n n1 := by
      rw [← hn1]
      exact ⟨rfl, rfl, rfl, rfl, rfl, ⟨hok.op, hs.a, hs.b, hs.c, hs.d, hok.kids, hok.lo, hok.hi, hok.klen, hok.name⟩, fun c hc => hS c hc⟩
    have hkd : n1.kids = n.kids := hfold.kids
    have hkeep : ∀ i q, i ≠ H'.length → avId vo ≠ some i → getB H4 i = some q → getB H6 i = some q := fun i q h1 h2 h3 => he6.2 i q h2 (gb_push _ (hne5 i q h1 h3))
    refine ⟨l.length - (t + 1), by omega, t + 1, v', _, _, rs ++ [ndRow n1 kw], hlt, rfl, ⟨by have h1 := he6.1; simp at h1; omega, fun i q hq => ?_⟩, ?_, by simp [hrl], fun k m hk' hm => ?_, rfl⟩
    · have hi := gb_lt hq
      have hi2 := gb_lt (hk.get hq)
      exact hkeep i q (by omega) (fun e => by have := (hwo.id e).1; omega) (hk4.get (hold3 i q (hk.get hq)))
    · rw [List.flatten_append]
      simpa using hw6
    · rcases Nat.lt_or_ge k t with h | h
      · obtain ⟨n', kv', q1, q2, q3⟩ := hrs k m h hm
        refine ⟨n', kv', by rw [List.getElem?_append_left (by omega)]; exact q1, q2, ints_else q3 (fun i q hi hq => ?_)⟩
        obtain ⟨rw', cs', hc⟩ := RowAt.id q3.ints hi
        have hi2 := gb_lt hq
        exact hkeep i q (by omega) (fun e => by obtain ⟨rw2, cs2, hc2⟩ := RowAt.id hwo.row e; rw [hc] at hc2; simp at hc2) (hk4.get (hold3 i q hq))
      · have : k = t := by omega
        subst this
        rw [hn] at hm; simp only [Option.some.injEq] at hm; subst hm
        refine ⟨n1, kw, by rw [List.getElem?_append_right (by omega), hrl]; simp, hfold, ?_⟩
        have hI : Ints H4 kw n1.kids := by rw [hkd]; exact ints_of hw4.row
        refine ints_else hI (fun i q hi hq => ?_)
        have hi2 := (hw4.id hi).1
        exact hkeep i q (by omega) (fun e => by have := (hwo.id e).2; omega) hq
  · have hte : t = l.length := by simp at hlt; omega
    subst hte
    simp only [zz, env0, aPure, aRead, aNew, aEff, aval, avals, aparts, aopt, wantedA, binA, isShift, binI, fillA, single, aRes, splice, mkv, unA, binS, sameAt, reduceCtorEq, reduceIte, Int.reduceEq, Int.reduceLT, Int.reduceLE, Int.reduceNe, Nat.reduceEqDiff, Nat.reduceLT, Nat.reduceAdd, Nat.reduceMul, Nat.reduceSub, Nat.reduceLeDiff, Int.reduceBEq, Int.reduceBNe, Nat.reduceBEq, Nat.reduceBNe, Int.reduceToNat]
    obtain ⟨l', hl', hP⟩ := choose_list (n := l.length) (P := fun k n' => ∃ kv, rs[k]? = some (ndRow n' kv) ∧ (∀ n, l[k]? = some n → FoldN n n') ∧ Ints H' kv n'.kids) (fun k hk' => by
      obtain ⟨n', kv, q1, q2, q3⟩ := hrs k l[k] hk' (List.getElem?_eq_getElem hk')
      exact ⟨n', kv, q1, fun n hn => by rw [List.getElem?_eq_getElem hk'] at hn; simp only [Option.some.injEq] at hn; subst hn; exact q2, q3⟩)
    refine hK _ _ l' hk ⟨rs, by rw [hl']; exact hwo.row, by omega, fun k n' hn' => ?_⟩ hl' (fun k n hn => ?_)
    · obtain ⟨kv, q1, q2, q3⟩ := hP k n' hn'
      have hkl : k < l.length := by
        rcases Nat.lt_or_ge k l'.length with h | h
        · omega
        · rw [List.getElem?_eq_none h] at hn'; simp at hn'
      exact ⟨ndRow n' kv, q1, rfl, (q2 l[k] (List.getElem?_eq_getElem hkl)).ok, kv, rfl, q3⟩
    · have hkl : k < l.length := by
        rcases Nat.lt_or_ge k l.length with h | h
        · exact h
        · rw [List.getElem?_eq_none h] at hn; simp at hn
      refine ⟨l'[k]'(by omega), List.getElem?_eq_getElem (by omega), ?_⟩
      obtain ⟨kv, q1, q2, q3⟩ := hP k _ (List.getElem?_eq_getElem (by omega))
      exact q2 n hn
end Go.Proofs.Ytnblhjpbpobglaa

/- LangFold: the law's run. -/
set_option maxRecDepth 100000
set_option maxHeartbeats 1000000
set_option linter.unusedSimpArgs false
namespace Go.Am
section
variable {p : Prg} {all r : List AOper} {env vals env' : List AV} {hs : List AHeap} {H : AHeap} {op : AOp} {dst : Option Nat} {aft bef : List Nat} {g : Option (Nat × Bool)} {K : KO}
theorem XH_stepG {v : AV} {H1 : AHeap} (hw : wantedA vals g = some true) (hop : ∀ n, aOp (p.call n) env vals H op = some (v, H1)) (ha : aft.all (sameAt all env vals H1) = true)
    (hb : bef.all (fun j => match hs[j]? with
      | some Hj => (match aRead env vals Hj op with
        | some u => AV.same u v
        | none => false)
      | none => false) = true) (h : XH p all env r (snoc vals v) (hs ++ [H]) (put env' dst v) H1 K) : XH p all env ({ op := op, dst := dst, guard := g, aft := aft, bef := bef } :: r) vals hs env' H K := by
  obtain ⟨m, eF, HF, h2, h3⟩ := h
  rw [snoc_eq] at h2
  refine ⟨m, eF, HF, ?_, h3⟩
  simp only [runOps, hw, hop, ha, Bool.true_and]
  exact (if_pos hb).trans h2
theorem XH_call {f : Nat} {xs : List Opd} {ys : List AV} (hw : wantedA vals g = some true) (hy : avals env vals xs = some ys)
    (h : WF p f ys H (fun v H1 => XH p all env r (snoc vals v) (hs ++ [H]) (put env' dst v) H1 K)) : XH p all env ({ op := .call f xs, dst := dst, guard := g } :: r) vals hs env' H K := by
  obtain ⟨n, v, H1, hv, m, eF, HF, h2, h3⟩ := h
  rw [snoc_eq] at h2
  refine ⟨max n m, eF, HF, ?_, h3⟩
  simp only [runOps, hw, aOp, AOp.cls, aEff, hy, call_le (Nat.le_max_left n m) _ _ _ _ hv, List.all_nil, Bool.and_self, if_true]
  exact runOps_mono (call_le (Nat.le_max_right n m)) _ _ _ _ _ h2
theorem XH_XO (h : XO p all env r vals env' H K) : XH p all env r vals hs env' H K := by
  obtain ⟨hb, m, eF, HF, h2, h3⟩ := h
  exact ⟨m, eF, HF, by rw [runOps_hs r vals hs [] env' H hb]; exact h2, h3⟩
end
end Go.Am
namespace Go.Proofs.Ytnblhjpbpobglaa
open Go.Am

theorem bytesOf_map (bs : List UInt8) : bytesOf (bs.map fun b => AV.int .u8 b.toNat) = some bs := by
  induction bs with
  | nil => rfl
  | cons b l ih => simp [bytesOf, ih]
theorem wr_load {H : AHeap} {b i n : Nat} {cs : List AV} (h : WR H b 1 (.sl i 0 n) n cs) : loadA H i 0 n = some cs := by
  rcases h with ⟨h, _⟩ | ⟨i', o', cs', e, _, h3, h4, h5⟩
  · rcases h with h | h <;> simp at h
  · simp only [AV.sl.injEq] at e
    obtain ⟨rfl, rfl, _⟩ := e
    rw [load_of h3, if_pos (by omega)]
    rw [Nat.mul_one] at h5; rw [h5]
theorem wr_at {H : AHeap} {b i n : Nat} {bs : List UInt8} (h : WR H b 1 (.sl i 0 n) n (bs.map fun b => AV.int .u8 b.toNat)) {k : Nat} {c : UInt8} (hc : bs[k]? = some c) : loadA H i k 1 = some [.int .u8 c.toNat] := by
  have hl := h.len
  rw [List.length_map] at hl
  have hk : k < bs.length := by
    rcases Nat.lt_or_ge k bs.length with h | h
    · exact h
    · rw [List.getElem?_eq_none h] at hc; simp at hc
  obtain ⟨i', o', e, g⟩ := h.row.elem (k := k) (by omega)
  simp only [AV.sl.injEq] at e
  obtain ⟨rfl, rfl, _⟩ := e
  have := g 0 1 (by omega)
  simp only [Nat.mul_one, Nat.add_zero, Nat.zero_add] at this
  rw [this, List.drop_eq_getElem_cons (by simpa using hk)]
  rw [List.getElem?_eq_getElem hk] at hc
  simp only [Option.some.injEq] at hc
  simp [hc]
theorem splice_bytes (bs : List UInt8) (k : Nat) (c : UInt8) (h : k < bs.length) : splice (bs.map fun b => AV.int .u8 b.toNat) k [.int .u8 c.toNat] = (bs.set k c).map fun b => AV.int .u8 b.toNat := by
  apply List.ext_getElem?
  intro j
  rw [splice_get _ _ _ (by simp; omega), List.getElem?_map, List.getElem?_map, List.getElem?_set]
  rcases Nat.lt_trichotomy j k with h1 | h1 | h1
  · rw [if_pos h1, if_neg (by omega)]
  · subst h1; simp [h]
  · rw [if_neg (by omega), if_neg (by simp; omega), if_neg (by omega)]

-- ---------------------------------------------------------------- folded trees
theorem no_bits (n : Nat) (hn : n < 2 ^ 64) (h : ∀ j, j < 64 → ¬ n / 2 ^ j % 2 = 1) : n = 0 := by
  apply Nat.eq_of_testBit_eq
  intro i
  rw [Nat.zero_testBit]
  rcases Nat.lt_or_ge i 64 with hi | hi
  · rw [Nat.testBit_eq_decide_div_mod_eq]
    exact decide_eq_false (h i hi)
  · exact Nat.testBit_lt_two_pow (Nat.lt_of_lt_of_le hn (Nat.pow_le_pow_right (by decide) hi))
theorem word_zero (s : Int) (hs : u64In s) (h : ∀ j, j < 64 → ¬ (s / 2 ^ j) % 2 = 1) : s = 0 := by
  obtain ⟨n, rfl⟩ : ∃ n : Nat, s = n := ⟨s.toNat, by have := hs.1; omega⟩
  have hn : n < 2 ^ 64 := by have := hs.2; omega
  have := no_bits n hn (fun j hj => by have := h j hj; rwa [nat_bit _ n j rfl] at this)
  omega
theorem zero_iff (n : Nd) (hok : n.Ok) : zeroS n ↔ ∀ c, c < 256 → ¬ SetHas n.s0 n.s1 n.s2 n.s3 c := by
  constructor
  · rintro ⟨h0, h1, h2, h3⟩ c hc
    rw [h0, h1, h2, h3]
    unfold SetHas setW
    simp
  · intro h
    refine ⟨word_zero _ hok.s0 (fun j hj => ?_), word_zero _ hok.s1 (fun j hj => ?_), word_zero _ hok.s2 (fun j hj => ?_), word_zero _ hok.s3 (fun j hj => ?_)⟩
    · have := h j (by omega); unfold SetHas at this; rw [setW_0 (by omega)] at this
      have e : j % 64 = j := by omega
      rwa [e] at this
    · have := h (64 + j) (by omega); unfold SetHas at this; rw [setW_1 (by omega)] at this
      have e : (64 + j) % 64 = j := by omega
      rwa [e] at this
    · have := h (128 + j) (by omega); unfold SetHas at this; rw [setW_2 (by omega)] at this
      have e : (128 + j) % 64 = j := by omega
      rwa [e] at this
    · have := h (192 + j) (by omega); unfold SetHas at this; rw [setW_3 (by omega)] at this
      have e : (192 + j) % 64 = j := by omega
      rwa [e] at this
theorem fold_zero {n n' : Nd} (hok : n.Ok) (h : FoldN n n') : zeroS n' ↔ zeroS n := by
  rw [zero_iff n hok, zero_iff n' h.ok]
  constructor
  · intro hz c hc hh
    exact hz c hc ((h.set c hc).2 (.inl hh))
  · intro hz c hc hh
    rcases (h.set c hc).1 hh with h1 | ⟨h1, h2, h3⟩ | ⟨h1, h2, h3⟩
    · exact hz c hc h1
    · exact hz _ (by omega) h3
    · exact hz _ (by omega) h3
theorem fold_shaped {n n' : Nd} (hok : n.Ok) (h : FoldN n n') (hs : Shaped n) : Shaped n' := by
  have hz := fold_zero hok h
  unfold Shaped at hs ⊢
  rw [h.op, h.kids, h.lo, h.hi, h.name, hz]
  exact hs

theorem stk_sim {l : List Nd} {st : List Int} (h : Stk l st) : ∀ l' : List Nd, l'.length = l.length → (∀ (k : Nat) (n : Nd), l[k]? = some n → ∃ n', l'[k]? = some n' ∧ n'.kids = n.kids ∧ Shaped n') → Stk l' st := by
  induction h with
  | nil => intro l' hl _; have := List.length_eq_zero_iff.1 hl; subst this; exact .nil
  | @snoc l st n h1 h2 ih =>
    intro l' hl hP
    rw [List.length_append, List.length_singleton] at hl
    have hne : l' ≠ [] := by intro e; subst e; simp at hl
    have hd := List.dropLast_concat_getLast hne
    have hdl : l'.dropLast.length = l.length := by rw [List.length_dropLast]; omega
    obtain ⟨n', q1, q2, q3⟩ := hP l.length n (by simp)
    have hlast : l'.getLast hne = n' := by
      rw [← hd, List.getElem?_append_right (by omega), hdl] at q1
      simpa using q1
    rw [← hd, hlast]
    have e : (l.length : Int) = (l'.dropLast.length : Int) := by omega
    rw [e]
    refine .snoc ?_ q3
    rw [q2]
    refine ih l'.dropLast hdl (fun k m hm => ?_)
    have hk : k < l.length := by
      rcases Nat.lt_or_ge k l.length with h | h
      · exact h
      · rw [List.getElem?_eq_none h] at hm; simp at hm
    obtain ⟨m', r1, r2⟩ := hP k m (by rw [List.getElem?_append_left hk]; exact hm)
    refine ⟨m', ?_, r2⟩
    rw [← hd, List.getElem?_append_left (by omega)] at r1
    exact r1

theorem den_map {l l' : List Nd} {y y' : List UInt8} (hS : ∀ (k : Nat) (n : Nd), l[k]? = some n → ∃ n', l'[k]? = some n' ∧ n'.op = n.op ∧ n'.kids = n.kids ∧ n'.lo = n.lo ∧ n'.hi = n.hi ∧
    ∀ (i : Nat) (c : UInt8), y[i]? = some c → ndHas n c → ∃ c', y'[i]? = some c' ∧ ndHas n' c') : ∀ a i j, den l y a i j → den l' y' a i j := by
  intro a
  induction a using Nat.strongRecOn with
  | _ a ih =>
    intro i j h
    have kid : ∀ x i j, kidDen l y a x i j → kidDen l' y' a x i j := fun x i j h => by
      unfold kidDen at h ⊢
      split
      · rename_i hlt; rw [if_pos hlt] at h; exact ih _ hlt i j h
      · rename_i hlt; rw [if_neg hlt] at h; exact h
    cases hn : l[a]? with
    | none => rw [den, hn] at h; exact h.elim
    | some n =>
      obtain ⟨n', hn', e1, e2, e3, e4, hh⟩ := hS a n hn
      rw [den_eq _ _ _ _ hn] at h
      rw [den_eq _ _ _ _ hn', e1, e2, e3, e4]
      split at h
      · rename_i ho
        rw [if_pos ho]
        obtain ⟨⟨c, h1, h2⟩, h3⟩ := h
        exact ⟨hh i c h1 h2, h3⟩
      rename_i o2
      rw [if_neg o2]
      split at h
      · rename_i ho
        rw [if_pos ho]
        have : ∀ (ks : List Int) i j, chain (ks.map (kidDen l y a)) i j → chain (ks.map (kidDen l' y' a)) i j := by
          intro ks
          induction ks with
          | nil => intro i j h; exact h
          | cons x ks ihk =>
            rintro i j ⟨m, h1, h2⟩
            exact ⟨m, kid x i m h1, ihk m j h2⟩
        exact this _ i j h
      rename_i o3
      rw [if_neg o3]
      split at h
      · rename_i ho
        rw [if_pos ho]
        obtain ⟨x, h1, h2⟩ := h
        exact ⟨x, h1, kid x i j h2⟩
      rename_i o4
      rw [if_neg o4]
      split at h
      · rename_i ho
        rw [if_pos ho]
        obtain ⟨c, h1, h2, h3⟩ := h
        refine ⟨c, h1, h2, ?_⟩
        have : ∀ c i j, iterN (kidDen l y a (n.kids.headD 0)) c i j → iterN (kidDen l' y' a (n.kids.headD 0)) c i j := by
          intro c
          induction c with
          | zero => intro i j h; exact h
          | succ c ihc =>
            rintro i j ⟨m, h1, h2⟩
            exact ⟨m, kid _ i m h1, ihc m j h2⟩
        exact this c i j h3
      · rename_i o5
        rw [if_neg o5]; exact h

/-- The same letter, or of the other case. -/
def CaseEq (c d : Nat) : Prop := d = c ∨ (97 ≤ c ∧ c ≤ 122 ∧ d = c - 32) ∨ (65 ≤ c ∧ c ≤ 90 ∧ d = c + 32)
theorem fold_case {P : Nat → Prop} {c d : Nat} (h : CaseEq c d) : FoldP P c → FoldP P d := by
  unfold FoldP
  rcases h with rfl | ⟨h1, h2, rfl⟩ | ⟨h1, h2, rfl⟩
  · exact id
  · rintro (h | ⟨_, _, h⟩ | ⟨h3, h4, h⟩)
    · refine .inr (.inr ⟨by omega, by omega, ?_⟩)
      have e : c - 32 + 32 = c := by omega
      rw [e]; exact h
    · exact .inl h
    · omega
  · rintro (h | ⟨h3, h4, h⟩ | ⟨_, _, h⟩)
    · refine .inr (.inl ⟨by omega, by omega, ?_⟩)
      have e : c + 32 - 32 = c := by omega
      rw [e]; exact h
    · omega
    · exact .inl h
theorem case_symm {c d : Nat} (h : CaseEq c d) : CaseEq d c := by unfold CaseEq at *; omega

theorem xor_low : ∀ c : Fin 26, bitsA .xor .u8 ((97 + c.val : Nat) : Int) 32 = some ((97 + c.val - 32 : Nat) : Int) := by decide +kernel
theorem xor_up : ∀ c : Fin 26, bitsA .xor .u8 ((65 + c.val : Nat) : Int) 32 = some ((65 + c.val + 32 : Nat) : Int) := by decide +kernel

theorem fold_run (H : AHeap) (va : AV) (l : List Nd) (w : List UInt8) (turn : Int) (hl : Nds H va l) (hll : l.length ≤ maxLen) (hwl : w.length ≤ maxLen) (_ht : 0 ≤ turn ∧ turn ≤ 4294967295) :
    WF P0 9 [va, .str w, .int .u32 turn] H (fun r _ => r = .bool true) := by
  have hmx : maxLen = 9223372036854775807 := rfl
  refine zWF rfl rfl rfl ?_
  simp only [a9, zz, env0, aPure, aRead, aNew, aEff, aval, avals, aparts, aopt, wantedA, binA, isShift, binI, fillA, single, aRes, splice, mkv, unA, binS, sameAt, reduceCtorEq, reduceIte, Int.reduceEq, Int.reduceLT, Int.reduceLE, Int.reduceNe, Nat.reduceEqDiff, Nat.reduceLT, Nat.reduceAdd, Nat.reduceMul, Nat.reduceSub, Nat.reduceLeDiff, Int.reduceBEq, Int.reduceBNe, Nat.reduceBEq, Nat.reduceBNe, Int.reduceToNat]
  refine shown_sp _ _ ?_
  simp only [zz, env0, aPure, aRead, aNew, aEff, aval, avals, aparts, aopt, wantedA, binA, isShift, binI, fillA, single, aRes, splice, mkv, unA, binS, sameAt, reduceCtorEq, reduceIte, Int.reduceEq, Int.reduceLT, Int.reduceLE, Int.reduceNe, Nat.reduceEqDiff, Nat.reduceLT, Nat.reduceAdd, Nat.reduceMul, Nat.reduceSub, Nat.reduceLeDiff, Int.reduceBEq, Int.reduceBNe, Nat.reduceBEq, Nat.reduceBNe, Int.reduceToNat]
  refine text_spec _ _ _ (by omega) ?_
  generalize hy : w.take 20 = y
  have hyl : y.length ≤ 20 := by rw [← hy, List.length_take]; omega
  simp only [zz, env0, aPure, aRead, aNew, aEff, aval, avals, aparts, aopt, wantedA, binA, isShift, binI, fillA, single, aRes, splice, mkv, unA, binS, sameAt, reduceCtorEq, reduceIte, Int.reduceEq, Int.reduceLT, Int.reduceLE, Int.reduceNe, Nat.reduceEqDiff, Nat.reduceLT, Nat.reduceAdd, Nat.reduceMul, Nat.reduceSub, Nat.reduceLeDiff, Int.reduceBEq, Int.reduceBNe, Nat.reduceBEq, Nat.reduceBNe, Int.reduceToNat]
  refine good_spec _ _ l hl (by omega) _ ?_
  intro b1 H1 hk1 hb1
  cases b1 with
  | false => simp only [zz, env0, aPure, aRead, aNew, aEff, aval, avals, aparts, aopt, wantedA, binA, isShift, binI, fillA, single, aRes, splice, mkv, unA, binS, sameAt, reduceCtorEq, reduceIte, Int.reduceEq, Int.reduceLT, Int.reduceLE, Int.reduceNe, Nat.reduceEqDiff, Nat.reduceLT, Nat.reduceAdd, Nat.reduceMul, Nat.reduceSub, Nat.reduceLeDiff, Int.reduceBEq, Int.reduceBNe, Nat.reduceBEq, Nat.reduceBNe, Int.reduceToNat]
  | true =>
  obtain ⟨hl30, hRl, hNl⟩ := hb1 rfl
  simp only [zz, env0, aPure, aRead, aNew, aEff, aval, avals, aparts, aopt, wantedA, binA, isShift, binI, fillA, single, aRes, splice, mkv, unA, binS, sameAt, reduceCtorEq, reduceIte, Int.reduceEq, Int.reduceLT, Int.reduceLE, Int.reduceNe, Nat.reduceEqDiff, Nat.reduceLT, Nat.reduceAdd, Nat.reduceMul, Nat.reduceSub, Nat.reduceLeDiff, Int.reduceBEq, Int.reduceBNe, Nat.reduceBEq, Nat.reduceBNe, Int.reduceToNat]
  refine rFold_spec _ _ l (Rows.keeps NdP.mono hk1 hl) hRl _ ?_
  intro vf H2 l' hk2 hNf hll' hF
  have hk12 := hk1.trans hk2
  have hlok : ∀ (k : Nat) (n : Nd), l[k]? = some n → n.Ok := fun k n hn => by obtain ⟨_, _, _, _, h, _⟩ := hl.nd hn; exact h
  have hRf : RightT l' := by
    obtain ⟨h1, h2, r, hr⟩ := hRl
    refine ⟨by omega, by omega, r, stk_sim hr l' hll' (fun k n hn => ?_)⟩
    obtain ⟨n', q1, q2⟩ := hF k n hn
    exact ⟨n', q1, q2.kids, fold_shaped (hlok k n hn) q2 (stk_kids hr hn).1⟩
  have hback : ∀ (k : Nat) (n' : Nd), l'[k]? = some n' → ∃ n, l[k]? = some n ∧ FoldN n n' := fun k n' hn' => by
    have hkl : k < l.length := by
      rcases Nat.lt_or_ge k l'.length with h | h
      · omega
      · rw [List.getElem?_eq_none h] at hn'; simp at hn'
    obtain ⟨n2, q1, q2⟩ := hF k l[k] (List.getElem?_eq_getElem hkl)
    rw [hn'] at q1; simp only [Option.some.injEq] at q1; subst q1
    exact ⟨_, List.getElem?_eq_getElem hkl, q2⟩
  have hNf' : NoRef l' := fun n' hn' => by
    obtain ⟨k, hk⟩ := List.mem_iff_getElem?.1 hn'
    obtain ⟨n, q1, q2⟩ := hback k n' hk
    rw [q2.op]; exact hNl n (List.mem_of_getElem? q1)
  simp only [zz, env0, aPure, aRead, aNew, aEff, aval, avals, aparts, aopt, wantedA, binA, isShift, binI, fillA, single, aRes, splice, mkv, unA, binS, sameAt, reduceCtorEq, reduceIte, Int.reduceEq, Int.reduceLT, Int.reduceLE, Int.reduceNe, Nat.reduceEqDiff, Nat.reduceLT, Nat.reduceAdd, Nat.reduceMul, Nat.reduceSub, Nat.reduceLeDiff, Int.reduceBEq, Int.reduceBNe, Nat.reduceBEq, Nat.reduceBNe, Int.reduceToNat]
  generalize hib : H2.length = ib
  generalize hH3 : H2 ++ [some (Blk.cells 1 true (ofBytes y))] = H3
  have hk3 : Keeps H2 H3 := by rw [← hH3]; exact .p1 _ _
  have hwb : WR H3 ib 1 (.sl ib 0 y.length) y.length (y.map fun b => AV.int .u8 b.toNat) := by
    rw [← hH3, ← hib]
    exact WR.new H2 1 y.length (ofBytes y) (by simp [ofBytes]) (Nat.le_refl _)
  have hk23 := hk12.trans hk3
  refine WCL (fun r env H' => ∃ (t : Nat) (bs : List UInt8) (a8 a9 a14 a15 : AV), t ≤ y.length ∧ r = y.length - t ∧ Keeps H2 H' ∧ bs.length = y.length ∧ WR H' ib 1 (.sl ib 0 y.length) y.length (bs.map fun b => AV.int .u8 b.toNat) ∧
      (∀ (i : Nat) (c : UInt8), y[i]? = some c → ∃ c', bs[i]? = some c' ∧ CaseEq c.toNat c'.toNat ∧ (t ≤ i → c' = c)) ∧
      env = [va, .str w, .int .u32 turn, .bool false, .bool true, .str y, vf, .sl ib 0 y.length, a8, a9, .bool false, .sl ib 0 y.length, .int .i64 y.length, .int .i64 t, a14, a15]) (n := y.length)
    ⟨0, y, _, _, _, _, Nat.zero_le _, rfl, hk3, rfl, hwb, fun i c hc => ⟨c, hc, .inl rfl, fun _ => rfl⟩, rfl⟩ ?_
  rintro r env H' ⟨t, bs, a8, a9, a14, a15, htl, rfl, hk, hbl, hw, hC, rfl⟩
  simp only [zz, env0, aPure, aRead, aNew, aEff, aval, avals, aparts, aopt, wantedA, binA, isShift, binI, fillA, single, aRes, splice, mkv, unA, binS, sameAt, reduceCtorEq, reduceIte, Int.reduceEq, Int.reduceLT, Int.reduceLE, Int.reduceNe, Nat.reduceEqDiff, Nat.reduceLT, Nat.reduceAdd, Nat.reduceMul, Nat.reduceSub, Nat.reduceLeDiff, Int.reduceBEq, Int.reduceBNe, Nat.reduceBEq, Nat.reduceBNe, Int.reduceToNat]
  refine onB_of (fun hlt => ?_) (fun hlt => ?_)
  · have hlt : t < y.length := by simpa using hlt
    obtain ⟨c, hc⟩ : ∃ c, y[t]? = some c := ⟨y[t], List.getElem?_eq_getElem hlt⟩
    have hcb : bs[t]? = some c := by obtain ⟨c', q1, _, q3⟩ := hC t c hc; rw [q3 (Nat.le_refl _)] at q1; exact q1
    have g1 := wr_at hw hcb
    have r1 : (0 : Int) ≤ t := by omega
    have r2 : (t : Int) < y.length := by omega
    have hmod : (t : Int).tmod 32 = ((t % 32 : Nat) : Int) := rfl
    obtain ⟨X, hX⟩ : ∃ X, shiftI .shr .u32 turn ((t % 32 : Nat) : Int) = some (.int .u32 X) := ⟨_, by simp only [shiftI]; rw [if_neg (by omega)]⟩
    obtain ⟨N, hN⟩ : ∃ N, bitsA .and .u32 X 1 = some N := ⟨_, rfl⟩
    have vt : IntKind.i64.wrap ((t : Int) + 1) = ((t + 1 : Nat) : Int) := by rw [wrap_i64 (by omega) (by omega)]; rfl
    have hc256 : c.toNat < 256 := c.toNat_lt
    have hidb := (hw.id rfl).1
    have stay : ∀ (i : Nat) (c : UInt8), y[i]? = some c → ∃ c', bs[i]? = some c' ∧ CaseEq c.toNat c'.toNat ∧ (t + 1 ≤ i → c' = c) := fun i c hc => by
      obtain ⟨c', q1, q2, q3⟩ := hC i c hc
      exact ⟨c', q1, q2, fun h => q3 (by omega)⟩
    -- a letter is turned
    have turned : ∀ d : Nat, d < 256 → CaseEq c.toNat d → ∃ H4, storeA H' ib t [.int .u8 (d : Int)] = some H4 ∧ Keeps H2 H4 ∧ ∃ bs' : List UInt8, bs'.length = y.length ∧ WR H4 ib 1 (.sl ib 0 y.length) y.length (bs'.map fun b => AV.int .u8 b.toNat) ∧
        ∀ (i : Nat) (c : UInt8), y[i]? = some c → ∃ c', bs'[i]? = some c' ∧ CaseEq c.toNat c'.toNat ∧ (t + 1 ≤ i → c' = c) := fun d hd hcd => by
      have e : (UInt8.ofNat d).toNat = d := by rw [UInt8.toNat_ofNat']; omega
      obtain ⟨i4, q4, e4, H4, hs4, hw4, he4, _⟩ := hw.store (k := t) (vs := [.int .u8 ((UInt8.ofNat d).toNat : Int)]) (by simp; omega) (by omega) rfl
      simp only [AV.sl.injEq] at e4
      obtain ⟨rfl, rfl, _⟩ := e4
      rw [Nat.zero_add] at hs4
      rw [splice_bytes _ _ _ (by omega)] at hw4
      rw [e] at hs4
      refine ⟨H4, hs4, Else.keeps hk he4 (fun j hj => by simp only [Option.some.injEq] at hj; omega), bs.set t (UInt8.ofNat d), by simpa using hbl, hw4, fun i c2 hc2 => ?_⟩
      by_cases hit : t = i
      · subst hit
        rw [hc] at hc2; simp only [Option.some.injEq] at hc2; subst hc2
        exact ⟨UInt8.ofNat d, by rw [List.getElem?_set, if_pos rfl, if_pos (by omega)], by rw [e]; exact hcd, fun h => by omega⟩
      · obtain ⟨c', q1, q2, q3⟩ := hC i c2 hc2
        exact ⟨c', by rw [List.getElem?_set, if_neg hit]; exact q1, q2, fun h => q3 (by omega)⟩
    cases htb : (N == 1) with
    | false =>
      simp only [r1, r2, Nat.mul_one, g1, hmod, hX, hN, htb, vt, zz, env0, aPure, aRead, aNew, aEff, aval, avals, aparts, aopt, wantedA, binA, isShift, binI, fillA, single, aRes, splice, mkv, unA, binS, sameAt, reduceCtorEq, reduceIte, Int.reduceEq, Int.reduceLT, Int.reduceLE, Int.reduceNe, Nat.reduceEqDiff, Nat.reduceLT, Nat.reduceAdd, Nat.reduceMul, Nat.reduceSub, Nat.reduceLeDiff, Int.reduceBEq, Int.reduceBNe, Nat.reduceBEq, Nat.reduceBNe, Int.reduceToNat]
      exact ⟨y.length - (t + 1), by omega, t + 1, bs, _, _, _, _, hlt, rfl, hk, hbl, hw, stay, rfl⟩
    | true =>
      have hcase : (97 ≤ c.toNat ∧ c.toNat ≤ 122) ∨ (65 ≤ c.toNat ∧ c.toNat ≤ 90) ∨ c.toNat < 65 ∨ (90 < c.toNat ∧ c.toNat < 97) ∨ 122 < c.toNat := by omega
      rcases hcase with ⟨z1, z2⟩ | ⟨z1, z2⟩ | z1 | ⟨z1, z2⟩ | z1
      · have d1 : decide ((97 : Int) ≤ c.toNat) = true := by simp; omega
        have d2 : decide ((c.toNat : Int) ≤ 122) = true := by simp; omega
        have hx := xor_low ⟨c.toNat - 97, by omega⟩
        have e1 : 97 + (c.toNat - 97) = c.toNat := by omega
        simp only [e1] at hx
        obtain ⟨H4, hs4, hk4, bs', q1, q2, q3⟩ := turned (c.toNat - 32) (by omega) (.inr (.inl ⟨z1, z2, rfl⟩))
        simp only [r1, r2, Nat.mul_one, g1, hmod, hX, hN, htb, d1, d2, hx, hs4, vt, zz, env0, aPure, aRead, aNew, aEff, aval, avals, aparts, aopt, wantedA, binA, isShift, binI, fillA, single, aRes, splice, mkv, unA, binS, sameAt, reduceCtorEq, reduceIte, Int.reduceEq, Int.reduceLT, Int.reduceLE, Int.reduceNe, Nat.reduceEqDiff, Nat.reduceLT, Nat.reduceAdd, Nat.reduceMul, Nat.reduceSub, Nat.reduceLeDiff, Int.reduceBEq, Int.reduceBNe, Nat.reduceBEq, Nat.reduceBNe, Int.reduceToNat]
        exact ⟨y.length - (t + 1), by omega, t + 1, bs', _, _, _, _, hlt, rfl, hk4, q1, q2, q3, rfl⟩
      · have d1 : decide ((97 : Int) ≤ c.toNat) = false := by simp; omega
        have d3 : decide ((65 : Int) ≤ c.toNat) = true := by simp; omega
        have d4 : decide ((c.toNat : Int) ≤ 90) = true := by simp; omega
        have hx := xor_up ⟨c.toNat - 65, by omega⟩
        have e1 : 65 + (c.toNat - 65) = c.toNat := by omega
        simp only [e1] at hx
        obtain ⟨H4, hs4, hk4, bs', q1, q2, q3⟩ := turned (c.toNat + 32) (by omega) (.inr (.inr ⟨z1, z2, rfl⟩))
        simp only [r1, r2, Nat.mul_one, g1, hmod, hX, hN, htb, d1, d3, d4, hx, hs4, vt, zz, env0, aPure, aRead, aNew, aEff, aval, avals, aparts, aopt, wantedA, binA, isShift, binI, fillA, single, aRes, splice, mkv, unA, binS, sameAt, reduceCtorEq, reduceIte, Int.reduceEq, Int.reduceLT, Int.reduceLE, Int.reduceNe, Nat.reduceEqDiff, Nat.reduceLT, Nat.reduceAdd, Nat.reduceMul, Nat.reduceSub, Nat.reduceLeDiff, Int.reduceBEq, Int.reduceBNe, Nat.reduceBEq, Nat.reduceBNe, Int.reduceToNat]
        exact ⟨y.length - (t + 1), by omega, t + 1, bs', _, _, _, _, hlt, rfl, hk4, q1, q2, q3, rfl⟩
      · have d1 : decide ((97 : Int) ≤ c.toNat) = false := by simp; omega
        have d3 : decide ((65 : Int) ≤ c.toNat) = false := by simp; omega
        simp only [r1, r2, Nat.mul_one, g1, hmod, hX, hN, htb, d1, d3, vt, zz, env0, aPure, aRead, aNew, aEff, aval, avals, aparts, aopt, wantedA, binA, isShift, binI, fillA, single, aRes, splice, mkv, unA, binS, sameAt, reduceCtorEq, reduceIte, Int.reduceEq, Int.reduceLT, Int.reduceLE, Int.reduceNe, Nat.reduceEqDiff, Nat.reduceLT, Nat.reduceAdd, Nat.reduceMul, Nat.reduceSub, Nat.reduceLeDiff, Int.reduceBEq, Int.reduceBNe, Nat.reduceBEq, Nat.reduceBNe, Int.reduceToNat]
        exact ⟨y.length - (t + 1), by omega, t + 1, bs, _, _, _, _, hlt, rfl, hk, hbl, hw, stay, rfl⟩
      · have d1 : decide ((97 : Int) ≤ c.toNat) = false := by simp; omega
        have d3 : decide ((65 : Int) ≤ c.toNat) = true := by simp; omega
        have d4 : decide ((c.toNat : Int) ≤ 90) = false := by simp; omega
        simp only [r1, r2, Nat.mul_one, g1, hmod, hX, hN, htb, d1, d3, d4, vt, zz, env0, aPure, aRead, aNew, aEff, aval, avals, aparts, aopt, wantedA, binA, isShift, binI, fillA, single, aRes, splice, mkv, unA, binS, sameAt, reduceCtorEq, reduceIte, Int.reduceEq, Int.reduceLT, Int.reduceLE, Int.reduceNe, Nat.reduceEqDiff, Nat.reduceLT, Nat.reduceAdd, Nat.reduceMul, Nat.reduceSub, Nat.reduceLeDiff, Int.reduceBEq, Int.reduceBNe, Nat.reduceBEq, Nat.reduceBNe, Int.reduceToNat]
        exact ⟨y.length - (t + 1), by omega, t + 1, bs, _, _, _, _, hlt, rfl, hk, hbl, hw, stay, rfl⟩
      · have d1 : decide ((97 : Int) ≤ c.toNat) = true := by simp; omega
        have d2 : decide ((c.toNat : Int) ≤ 122) = false := by simp; omega
        have d3 : decide ((65 : Int) ≤ c.toNat) = true := by simp; omega
        have d4 : decide ((c.toNat : Int) ≤ 90) = false := by simp; omega
        simp only [r1, r2, Nat.mul_one, g1, hmod, hX, hN, htb, d1, d2, d3, d4, vt, zz, env0, aPure, aRead, aNew, aEff, aval, avals, aparts, aopt, wantedA, binA, isShift, binI, fillA, single, aRes, splice, mkv, unA, binS, sameAt, reduceCtorEq, reduceIte, Int.reduceEq, Int.reduceLT, Int.reduceLE, Int.reduceNe, Nat.reduceEqDiff, Nat.reduceLT, Nat.reduceAdd, Nat.reduceMul, Nat.reduceSub, Nat.reduceLeDiff, Int.reduceBEq, Int.reduceBNe, Nat.reduceBEq, Nat.reduceBNe, Int.reduceToNat]
        exact ⟨y.length - (t + 1), by omega, t + 1, bs, _, _, _, _, hlt, rfl, hk, hbl, hw, stay, rfl⟩
  · have hkH := hk12.trans hk
    have lb := wr_load hw
    have hby := bytesOf_map bs
    have hbl20 : bs.length ≤ 1000000 := by omega
    have hC1 : ∀ (i : Nat) (c : UInt8), y[i]? = some c → ∃ c', bs[i]? = some c' ∧ CaseEq c.toNat c'.toNat := fun i c hc => by
      obtain ⟨c', q1, q2, _⟩ := hC i c hc; exact ⟨c', q1, q2⟩
    have hC2 : ∀ (i : Nat) (c : UInt8), bs[i]? = some c → ∃ c', y[i]? = some c' ∧ CaseEq c.toNat c'.toNat := fun i c hc => by
      have hil : i < y.length := by
        rcases Nat.lt_or_ge i bs.length with h | h
        · omega
        · rw [List.getElem?_eq_none h] at hc; simp at hc
      obtain ⟨c', q1, q2, _⟩ := hC i y[i] (List.getElem?_eq_getElem hil)
      rw [hc] at q1; simp only [Option.some.injEq] at q1; subst q1
      exact ⟨y[i], List.getElem?_eq_getElem hil, case_symm q2⟩
    have same1 : ∀ (u v : List UInt8), (∀ (i : Nat) (c : UInt8), u[i]? = some c → ∃ c', v[i]? = some c' ∧ CaseEq c.toNat c'.toNat) → ∀ a i j, den l' u a i j → den l' v a i j := fun u v h => den_map (fun k n' hn' => by
      refine ⟨n', hn', rfl, rfl, rfl, rfl, fun i c hc hh => ?_⟩
      obtain ⟨n, _, q2⟩ := hback k n' hn'
      obtain ⟨c', p1, p2⟩ := h i c hc
      exact ⟨c', p1, (q2.set _ c'.toNat_lt).2 (fold_case p2 ((q2.set _ c.toNat_lt).1 hh))⟩)
    have hsame : IsT l' y ↔ IsT l' bs := by
      unfold IsT
      rw [hbl]
      constructor
      · rintro ⟨h1, h2, h3⟩; exact ⟨h1, h2, same1 y bs hC1 _ _ _ h3⟩
      · rintro ⟨h1, h2, h3⟩; exact ⟨h1, h2, same1 bs y hC2 _ _ _ h3⟩
    have hinc : IsT l y → IsT l' bs := by
      unfold IsT
      rw [hbl, hll']
      rintro ⟨_, _, h3⟩
      refine ⟨hRf, hNf', den_map (fun k n hn => ?_) _ _ _ h3⟩
      obtain ⟨n', q1, q2⟩ := hF k n hn
      refine ⟨n', q1, q2.op, q2.kids, q2.lo, q2.hi, fun i c hc hh => ?_⟩
      obtain ⟨c', p1, p2⟩ := hC1 i c hc
      exact ⟨c', p1, (q2.set _ c'.toNat_lt).2 (fold_case p2 (.inl hh))⟩
    have hfl : l'.length < 9223372036854775808 := by omega
    simp only [zz, env0, aPure, aRead, aNew, aEff, aval, avals, aparts, aopt, wantedA, binA, isShift, binI, fillA, single, aRes, splice, mkv, unA, binS, sameAt, reduceCtorEq, reduceIte, Int.reduceEq, Int.reduceLT, Int.reduceLE, Int.reduceNe, Nat.reduceEqDiff, Nat.reduceLT, Nat.reduceAdd, Nat.reduceMul, Nat.reduceSub, Nat.reduceLeDiff, Int.reduceBEq, Int.reduceBNe, Nat.reduceBEq, Nat.reduceBNe, Int.reduceToNat]
    refine WC_regionH ?_
    refine XH_step (v := .bool true) (H1 := H') (fun m => by simp [aOp, AOp.cls, aPure, aval]) rfl rfl ?_
    refine XH_step (v := .bool true) (H1 := H') (fun m => by simp [aOp, AOp.cls, aPure, aval, snoc]) rfl rfl ?_
    refine XH_stepG (v := vf) (H1 := H') rfl (fun m => by simp [aOp, AOp.cls, aPure, aval]) rfl rfl ?_
    refine XH_stepG (v := .str y) (H1 := H') rfl (fun m => by simp [aOp, AOp.cls, aPure, aval]) rfl rfl ?_
    refine XH_call (ys := [vf, .str y]) rfl (by simp [avals, aval, snoc]) ?_
    refine Is_spec _ _ l' y (Rows.keeps NdP.mono hk hNf) hfl (by omega) _ ?_
    intro b1 H4 hk4 hb1
    have lb4 := hk4.load lb
    refine XH_stepG (v := vf) (H1 := H4) rfl (fun m => by simp [aOp, AOp.cls, aPure, aval]) rfl rfl ?_
    refine XH_stepG (v := .sl ib 0 y.length) (H1 := H4) rfl (fun m => by simp [aOp, AOp.cls, aPure, aval]) rfl rfl ?_
    refine XH_stepG (v := .str bs) (H1 := H4) rfl (fun m => by simp [aOp, AOp.cls, aRead, aval, snoc, lb4, hby]) rfl (by simp [aRead, aval, snoc, lb, hby, AV.same_refl]) ?_
    refine XH_XO ?_
    simp only [zz, env0, aPure, aRead, aNew, aEff, aval, avals, aparts, aopt, wantedA, binA, isShift, binI, fillA, single, aRes, splice, mkv, unA, binS, sameAt, reduceCtorEq, reduceIte, Int.reduceEq, Int.reduceLT, Int.reduceLE, Int.reduceNe, Nat.reduceEqDiff, Nat.reduceLT, Nat.reduceAdd, Nat.reduceMul, Nat.reduceSub, Nat.reduceLeDiff, Int.reduceBEq, Int.reduceBNe, Nat.reduceBEq, Nat.reduceBNe, Int.reduceToNat]
    refine Is_spec _ _ l' bs (Rows.keeps NdP.mono (hk.trans hk4) hNf) hfl hbl20 _ ?_
    intro b2 H5 hk5 hb2
    have e4 := is_bool hb1 hb2 hsame
    have hk15 := (hkH.trans hk4).trans hk5
    simp only [e4, zz, env0, aPure, aRead, aNew, aEff, aval, avals, aparts, aopt, wantedA, binA, isShift, binI, fillA, single, aRes, splice, mkv, unA, binS, sameAt, reduceCtorEq, reduceIte, Int.reduceEq, Int.reduceLT, Int.reduceLE, Int.reduceNe, Nat.reduceEqDiff, Nat.reduceLT, Nat.reduceAdd, Nat.reduceMul, Nat.reduceSub, Nat.reduceLeDiff, Int.reduceBEq, Int.reduceBNe, Nat.reduceBEq, Nat.reduceBNe, Int.reduceToNat]
    refine Is_spec _ _ l y (Rows.keeps NdP.mono hk15 hl) (by omega) (by omega) _ ?_
    intro b3 H6 hk6 hb3
    cases b3 with
    | false => simp only [e4, zz, env0, aPure, aRead, aNew, aEff, aval, avals, aparts, aopt, wantedA, binA, isShift, binI, fillA, single, aRes, splice, mkv, unA, binS, sameAt, reduceCtorEq, reduceIte, Int.reduceEq, Int.reduceLT, Int.reduceLE, Int.reduceNe, Nat.reduceEqDiff, Nat.reduceLT, Nat.reduceAdd, Nat.reduceMul, Nat.reduceSub, Nat.reduceLeDiff, Int.reduceBEq, Int.reduceBNe, Nat.reduceBEq, Nat.reduceBNe, Int.reduceToNat]
    | true =>
      have lb6 := ((hk4.trans hk5).trans hk6).load lb
      simp only [e4, lb6, hby, zz, env0, aPure, aRead, aNew, aEff, aval, avals, aparts, aopt, wantedA, binA, isShift, binI, fillA, single, aRes, splice, mkv, unA, binS, sameAt, reduceCtorEq, reduceIte, Int.reduceEq, Int.reduceLT, Int.reduceLE, Int.reduceNe, Nat.reduceEqDiff, Nat.reduceLT, Nat.reduceAdd, Nat.reduceMul, Nat.reduceSub, Nat.reduceLeDiff, Int.reduceBEq, Int.reduceBNe, Nat.reduceBEq, Nat.reduceBNe, Int.reduceToNat]
      refine Is_spec _ _ l' bs (Rows.keeps NdP.mono (((hk.trans hk4).trans hk5).trans hk6) hNf) hfl hbl20 _ ?_
      intro b4 H7 hk7 hb4
      have := hb4.2 (hinc (hb3.1 rfl))
      subst this
      simp only [e4, zz, env0, aPure, aRead, aNew, aEff, aval, avals, aparts, aopt, wantedA, binA, isShift, binI, fillA, single, aRes, splice, mkv, unA, binS, sameAt, reduceCtorEq, reduceIte, Int.reduceEq, Int.reduceLT, Int.reduceLE, Int.reduceNe, Nat.reduceEqDiff, Nat.reduceLT, Nat.reduceAdd, Nat.reduceMul, Nat.reduceSub, Nat.reduceLeDiff, Int.reduceBEq, Int.reduceBNe, Nat.reduceBEq, Nat.reduceBNe, Int.reduceToNat]
end Go.Proofs.Ytnblhjpbpobglaa

/- LangFold: the statement, from the law's run. -/
set_option maxRecDepth 100000
set_option linter.unusedVariables false
namespace Go.Proofs.Ytnblhjpbpobglaa
open Go.Am Go.ChangeShapes Go.WideShapes Go.ChangeAt Go.RowKit

theorem own : ownKnob Try.prog.godebug = none := by kernel_rfl
theorem laidOut : laidOutB Try.prog = true := by kernel_rfl

theorem law_shapes : shapesArgs Try.prog 20 Try.f9.params.toList = some [.slice 9 ndShp, .str, .int .u32] := by kernel_rfl

theorem law_all (H : AHeap) (avs : List AV) (h : FitsArgs H [.slice 9 ndShp, .str, .int .u32] avs) : ∃ n H', aCall prog orc1 n 9 avs H = some (.bool true, H') := by
  simp only [FitsArgs] at h
  obtain ⟨a0, _, rfl, h0, a1, _, rfl, h1, a2, _, rfl, h2, rfl⟩ := h
  obtain ⟨l0, g0, k0⟩ := fits_nds h0
  obtain ⟨s1, e1, k1⟩ := fits_str h1
  simp only [List.cons.injEq, and_true] at e1
  subst e1
  simp only [Fits] at h2
  obtain ⟨n2, e2, u2, v2⟩ := h2
  simp only [List.cons.injEq, and_true] at e2
  subst e2
  have u2 : (0 : Int) ≤ n2 := u2
  have v2 : n2 ≤ 4294967295 := v2
  obtain ⟨m, r, HF, h, rfl⟩ := fold_run H a0 l0 s1 n2 g0 k0 k1 ⟨u2, v2⟩
  exact ⟨m, HF, h⟩

theorem law_lifted (os : Os) (started : os.Started) (H : Type) (enc : TypeId × Value → H) :
    ReturnsInHanded {} Try.checked os 9 .any (Rows.langFoldSpec.pre6 enc Try.prog Try.f9 Rows.langFoldRow.domain false) (Rows.langFoldSpec.post enc Try.prog Try.f9 false Rows.langFoldRow.fresh Rows.langFoldRow.handsOn Rows.langFoldRow.again) := by
  refine returnsInHanded_of_change (C := Try.checked) own started (by kernel_rfl) Try.func9
    (ChangeSpec.witness6 (enc := enc) (C := Try.checked) false ⟨#[], #[.slice none 0 0, .string ⟨#[]⟩, .int .u32 0], []⟩ 8 (by kernel_rfl) (by kernel_rfl) (by kernel_rfl) (by kernel_rfl)) ?_
  intro W base args ds gs before hval hW _ _
  exact law_calls laidOut sound law_shapes (by
      have : Try.f9.params.toList.all (fun t => Try.prog.readableRec t && decide (t < Try.prog.types.size)) = true := by kernel_rfl
      intro t ht
      have := List.all_eq_true.1 this t ht
      simpa using this) rfl (tb := 4) (by kernel_rfl) (by kernel_rfl) (fun ds hds => by
      match ds, hds with
      | [d0, d1, d2], _ => rfl) hval hW (fun H avs hF => law_all H avs hF)

theorem law_row : Rows.LangFoldSaid :=
  OpenClaim.holds_of_wide 9 Try.f9 rfl rfl rfl rfl rfl rfl rfl ⟨rfl, rfl, rfl, rfl, rfl⟩ rfl rfl rfl rfl rfl (by kernel_rfl) Try.func9 (by kernel_rfl)
    (of_decide_eq_true (by kernel_rfl)) (by unfold Func.isWrapper; first | (rw [if_pos (by decide +kernel)]; kernel_rfl) | (rw [if_neg (by decide +kernel)]; exact ⟨rfl, rfl⟩))
    (fun os started H enc _ => law_lifted os started H enc)
end Go.Proofs.Ytnblhjpbpobglaa
