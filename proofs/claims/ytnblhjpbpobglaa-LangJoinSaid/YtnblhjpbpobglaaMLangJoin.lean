/- The law's run, and the statement. -/
import Derived.Test.YtnblhjpbpobglaaM5
import Derived.Test.YtnblhjpbpobglaaRows
import Derived.Test.YtnblhjpbpobglaaM2

/- LangJoin: the law's run. -/
set_option maxRecDepth 100000
set_option linter.unusedSimpArgs false
namespace Go.Proofs.Ytnblhjpbpobglaa
open Go.Am

/-- Parts of a text in a row. -/
def hdC : ACode → ACode
  | .seq a _ => a
  | c => c
def tlC : ACode → ACode
  | .seq _ b => b
  | c => c
def tls : Nat → ACode → ACode
  | 0, c => c
  | n + 1, c => tls n (tlC c)

def J5 : ACode := tls 5 a8.body
def J6 : ACode := tls 6 a8.body
def J7 : ACode := tls 7 a8.body
def J8 : ACode := tls 8 a8.body
theorem join_cut : a8.body = .seq (hdC a8.body) (.seq (hdC (tls 1 a8.body)) (.seq (hdC (tls 2 a8.body)) (.seq (hdC (tls 3 a8.body)) (.seq (hdC (tls 4 a8.body)) J5)))) := rfl

theorem kids_small {m : List Nd} (hR : RightT m) (hl : m.length ≤ 30) : ∀ n, n ∈ m → n.kids.length ≤ 1000 ∧ ∀ x, x ∈ n.kids → 0 ≤ x ∧ x ≤ 1000 := fun n hn => by
  obtain ⟨k, hk⟩ := List.mem_iff_getElem?.1 hn
  obtain ⟨_, _, r, hr⟩ := hR
  obtain ⟨_, h2, h3⟩ := stk_kids hr hk
  have hkl : k < m.length := by
    rcases Nat.lt_or_ge k m.length with h | h
    · exact h
    · rw [List.getElem?_eq_none h] at hk; simp at hk
  exact ⟨by omega, fun x hx => by have := h3 x hx; omega⟩

def repN (lo hi : Int) : Nd := ⟨5, 0, 0, 0, 0, [], lo, hi, []⟩
theorem repN_ok {lo hi : Int} (h1 : i64In lo) (h2 : i64In hi) : (repN lo hi).Ok :=
  ⟨⟨by simp [repN], by simp [repN]⟩, zero_u64, zero_u64, zero_u64, zero_u64, fun x hx => by simp [repN] at hx, h1, h2, by simp [repN], by simp [repN]⟩
theorem repN_shaped {lo hi : Int} (d : Int) (h1 : 0 ≤ lo ∧ lo ≤ 4096) (h2 : hi = -1 ∨ 1 ≤ hi ∧ lo ≤ hi ∧ hi ≤ 4096) : Shaped { repN lo hi with kids := [d] } :=
  .inr (.inr (.inr (.inl ⟨rfl, ⟨rfl, rfl, rfl, rfl⟩, rfl, h1.1, h1.2, h2, rfl⟩)))

theorem is_bool {p q : Prop} {a b : Bool} (h1 : a = true ↔ p) (h2 : b = true ↔ q) (h : p ↔ q) : (a == b) = true := by
  have : a = b := by
    cases a <;> cases b <;> simp_all
  simp [this]

theorem join_run (H : AHeap) (va vb : AV) (l m : List Nd) (w : List UInt8) (at' : Int) (hl : Nds H va l) (hm : Nds H vb m) (hll : l.length ≤ maxLen) (hml : m.length ≤ maxLen) (hwl : w.length ≤ maxLen) (ha : 0 ≤ at' ∧ at' ≤ 255) :
    WF P0 8 [va, vb, .str w, .int .u8 at'] H (fun r _ => r = .bool true) := by
  have hmx : maxLen = 9223372036854775807 := rfl
  refine zWF rfl rfl rfl ?_
  rw [join_cut]
  simp only [a8, hdC, tls, tlC, zz, env0, aPure, aRead, aNew, aEff, aval, avals, aparts, aopt, wantedA, binA, isShift, binI, fillA, single, aRes, splice, mkv, unA, binS, sameAt, reduceCtorEq, reduceIte, Int.reduceEq, Int.reduceLT, Int.reduceLE, Int.reduceNe, Nat.reduceEqDiff, Nat.reduceLT, Nat.reduceAdd, Nat.reduceMul, Nat.reduceSub, Nat.reduceLeDiff, Int.reduceBEq, Int.reduceBNe, Nat.reduceBEq, Nat.reduceBNe, Int.reduceToNat]
  refine shown_sp _ _ ?_
  simp only [zz, env0, aPure, aRead, aNew, aEff, aval, avals, aparts, aopt, wantedA, binA, isShift, binI, fillA, single, aRes, splice, mkv, unA, binS, sameAt, reduceCtorEq, reduceIte, Int.reduceEq, Int.reduceLT, Int.reduceLE, Int.reduceNe, Nat.reduceEqDiff, Nat.reduceLT, Nat.reduceAdd, Nat.reduceMul, Nat.reduceSub, Nat.reduceLeDiff, Int.reduceBEq, Int.reduceBNe, Nat.reduceBEq, Nat.reduceBNe, Int.reduceToNat]
  refine text_spec _ _ _ (by omega) ?_
  generalize hy : w.take 20 = y
  have hyl : y.length ≤ 20 := by rw [← hy, List.length_take]; omega
  obtain ⟨f, hf⟩ : ∃ f : Nat, f = at'.toNat % (y.length + 1) := ⟨_, rfl⟩
  have hfy : f ≤ y.length := by rw [hf]; have := Nat.mod_lt at'.toNat (show 0 < y.length + 1 by omega); omega
  have c1 : IntKind.i64.wrap at' = at' := wrap_i64 (by omega) (by omega)
  have c2 : IntKind.i64.wrap ((y.length : Int) + 1) = ((y.length + 1 : Nat) : Int) := by rw [wrap_i64 (by omega) (by omega)]; rfl
  have c3 : at'.tmod ((y.length + 1 : Nat) : Int) = (f : Int) := by
    rw [hf]
    have : at' = (at'.toNat : Int) := by omega
    rw [this]; rfl
  have c4 : ((((y.length + 1 : Nat) : Int)) = 0) = False := by simp; omega
  simp only [c1, c2, c3, c4, zz, env0, aPure, aRead, aNew, aEff, aval, avals, aparts, aopt, wantedA, binA, isShift, binI, fillA, single, aRes, splice, mkv, unA, binS, sameAt, reduceCtorEq, reduceIte, Int.reduceEq, Int.reduceLT, Int.reduceLE, Int.reduceNe, Nat.reduceEqDiff, Nat.reduceLT, Nat.reduceAdd, Nat.reduceMul, Nat.reduceSub, Nat.reduceLeDiff, Int.reduceBEq, Int.reduceBNe, Nat.reduceBEq, Nat.reduceBNe, Int.reduceToNat]
  refine good_spec _ _ l hl (by omega) _ ?_
  intro b1 H1 hk1 hb1
  cases b1 with
  | false => simp only [zz, env0, aPure, aRead, aNew, aEff, aval, avals, aparts, aopt, wantedA, binA, isShift, binI, fillA, single, aRes, splice, mkv, unA, binS, sameAt, reduceCtorEq, reduceIte, Int.reduceEq, Int.reduceLT, Int.reduceLE, Int.reduceNe, Nat.reduceEqDiff, Nat.reduceLT, Nat.reduceAdd, Nat.reduceMul, Nat.reduceSub, Nat.reduceLeDiff, Int.reduceBEq, Int.reduceBNe, Nat.reduceBEq, Nat.reduceBNe, Int.reduceToNat]
  | true =>
  obtain ⟨hl30, hRl, hNl⟩ := hb1 rfl
  simp only [zz, env0, aPure, aRead, aNew, aEff, aval, avals, aparts, aopt, wantedA, binA, isShift, binI, fillA, single, aRes, splice, mkv, unA, binS, sameAt, reduceCtorEq, reduceIte, Int.reduceEq, Int.reduceLT, Int.reduceLE, Int.reduceNe, Nat.reduceEqDiff, Nat.reduceLT, Nat.reduceAdd, Nat.reduceMul, Nat.reduceSub, Nat.reduceLeDiff, Int.reduceBEq, Int.reduceBNe, Nat.reduceBEq, Nat.reduceBNe, Int.reduceToNat]
  refine good_spec _ _ m (Rows.keeps NdP.mono hk1 hm) (by omega) _ ?_
  intro b2 H2 hk2 hb2
  cases b2 with
  | false => simp only [zz, env0, aPure, aRead, aNew, aEff, aval, avals, aparts, aopt, wantedA, binA, isShift, binI, fillA, single, aRes, splice, mkv, unA, binS, sameAt, reduceCtorEq, reduceIte, Int.reduceEq, Int.reduceLT, Int.reduceLE, Int.reduceNe, Nat.reduceEqDiff, Nat.reduceLT, Nat.reduceAdd, Nat.reduceMul, Nat.reduceSub, Nat.reduceLeDiff, Int.reduceBEq, Int.reduceBNe, Nat.reduceBEq, Nat.reduceBNe, Int.reduceToNat]
  | true =>
  obtain ⟨hm30, hRm, hNm⟩ := hb2 rfl
  have hk12 := hk1.trans hk2
  have s1 := slice_to y f hfy
  have s2 := slice_from y f hfy
  have hlt : l.length < 9223372036854775808 := by omega
  have hmt : m.length < 9223372036854775808 := by omega
  have hyt : (y.take f).length ≤ 1000000 := by rw [List.length_take]; omega
  have hyd : (y.drop f).length ≤ 1000000 := by rw [List.length_drop]; omega
  have hyy : y.length ≤ 1000000 := by omega
  simp only [zz, env0, aPure, aRead, aNew, aEff, aval, avals, aparts, aopt, wantedA, binA, isShift, binI, fillA, single, aRes, splice, mkv, unA, binS, sameAt, reduceCtorEq, reduceIte, Int.reduceEq, Int.reduceLT, Int.reduceLE, Int.reduceNe, Nat.reduceEqDiff, Nat.reduceLT, Nat.reduceAdd, Nat.reduceMul, Nat.reduceSub, Nat.reduceLeDiff, Int.reduceBEq, Int.reduceBNe, Nat.reduceBEq, Nat.reduceBNe, Int.reduceToNat]
  rw [show J5 = .seq (hdC J5) J6 from rfl, zWC_seq]
  refine WC.mono (K := fun e env' H' => e = .normal ∧ Keeps H H' ∧ ∃ b, (b = true ↔ IsT l (y.take f) ∧ IsT m (y.drop f)) ∧ env' = [va, vb, .str w, .int .u8 at', .bool false, .bool true, .str y, .int .i64 f, .bool b, .junk, .junk, .bool false]) ?_ ?_
  · simp only [J5, hdC, tls, tlC, a8, s1, s2, zz, env0, aPure, aRead, aNew, aEff, aval, avals, aparts, aopt, wantedA, binA, isShift, binI, fillA, single, aRes, splice, mkv, unA, binS, sameAt, reduceCtorEq, reduceIte, Int.reduceEq, Int.reduceLT, Int.reduceLE, Int.reduceNe, Nat.reduceEqDiff, Nat.reduceLT, Nat.reduceAdd, Nat.reduceMul, Nat.reduceSub, Nat.reduceLeDiff, Int.reduceBEq, Int.reduceBNe, Nat.reduceBEq, Nat.reduceBNe, Int.reduceToNat]
    refine Is_spec _ _ l (y.take f) (Rows.keeps NdP.mono hk12 hl) hlt hyt _ ?_
    intro b1 H3 hk3 hb1
    cases b1 with
    | false =>
      simp only [s1, s2, zz, env0, aPure, aRead, aNew, aEff, aval, avals, aparts, aopt, wantedA, binA, isShift, binI, fillA, single, aRes, splice, mkv, unA, binS, sameAt, reduceCtorEq, reduceIte, Int.reduceEq, Int.reduceLT, Int.reduceLE, Int.reduceNe, Nat.reduceEqDiff, Nat.reduceLT, Nat.reduceAdd, Nat.reduceMul, Nat.reduceSub, Nat.reduceLeDiff, Int.reduceBEq, Int.reduceBNe, Nat.reduceBEq, Nat.reduceBNe, Int.reduceToNat]
      exact ⟨(hk12).trans hk3, false, by simp; intro h; have := hb1.2 h; simp at this, rfl⟩
    | true =>
      simp only [s1, s2, zz, env0, aPure, aRead, aNew, aEff, aval, avals, aparts, aopt, wantedA, binA, isShift, binI, fillA, single, aRes, splice, mkv, unA, binS, sameAt, reduceCtorEq, reduceIte, Int.reduceEq, Int.reduceLT, Int.reduceLE, Int.reduceNe, Nat.reduceEqDiff, Nat.reduceLT, Nat.reduceAdd, Nat.reduceMul, Nat.reduceSub, Nat.reduceLeDiff, Int.reduceBEq, Int.reduceBNe, Nat.reduceBEq, Nat.reduceBNe, Int.reduceToNat]
      refine Is_spec _ _ m (y.drop f) (Rows.keeps NdP.mono ((hk12).trans hk3) hm) hmt hyd _ ?_
      intro b2 H4 hk4 hb2
      simp only [zz, env0, aPure, aRead, aNew, aEff, aval, avals, aparts, aopt, wantedA, binA, isShift, binI, fillA, single, aRes, splice, mkv, unA, binS, sameAt, reduceCtorEq, reduceIte, Int.reduceEq, Int.reduceLT, Int.reduceLE, Int.reduceNe, Nat.reduceEqDiff, Nat.reduceLT, Nat.reduceAdd, Nat.reduceMul, Nat.reduceSub, Nat.reduceLeDiff, Int.reduceBEq, Int.reduceBNe, Nat.reduceBEq, Nat.reduceBNe, Int.reduceToNat]
      exact ⟨((hk12).trans hk3).trans hk4, b2, by rw [hb2]; simp [hb1.1 rfl], rfl⟩
  rintro e env' H5 ⟨rfl, hk5, both, hboth, rfl⟩
  simp only [zz, env0, aPure, aRead, aNew, aEff, aval, avals, aparts, aopt, wantedA, binA, isShift, binI, fillA, single, aRes, splice, mkv, unA, binS, sameAt, reduceCtorEq, reduceIte, Int.reduceEq, Int.reduceLT, Int.reduceLE, Int.reduceNe, Nat.reduceEqDiff, Nat.reduceLT, Nat.reduceAdd, Nat.reduceMul, Nat.reduceSub, Nat.reduceLeDiff, Int.reduceBEq, Int.reduceBNe, Nat.reduceBEq, Nat.reduceBNe, Int.reduceToNat]
  rw [show J6 = .seq (hdC J6) J7 from rfl, zWC_seq]
  refine WC.mono (K := fun e env' H' => e = .normal ∧ Keeps H H' ∧ ∃ b, (b = true ↔ IsT l (y.take f) ∧ IsT l (y.drop f)) ∧ env' = [va, vb, .str w, .int .u8 at', .bool false, .bool true, .str y, .int .i64 f, .bool both, .bool b, .junk, .bool false]) ?_ ?_
  · simp only [J6, hdC, tls, tlC, a8, s1, s2, zz, env0, aPure, aRead, aNew, aEff, aval, avals, aparts, aopt, wantedA, binA, isShift, binI, fillA, single, aRes, splice, mkv, unA, binS, sameAt, reduceCtorEq, reduceIte, Int.reduceEq, Int.reduceLT, Int.reduceLE, Int.reduceNe, Nat.reduceEqDiff, Nat.reduceLT, Nat.reduceAdd, Nat.reduceMul, Nat.reduceSub, Nat.reduceLeDiff, Int.reduceBEq, Int.reduceBNe, Nat.reduceBEq, Nat.reduceBNe, Int.reduceToNat]
    refine Is_spec _ _ l (y.take f) (Rows.keeps NdP.mono hk5 hl) hlt hyt _ ?_
    intro b1 H3 hk3 hb1
    cases b1 with
    | false =>
      simp only [s1, s2, zz, env0, aPure, aRead, aNew, aEff, aval, avals, aparts, aopt, wantedA, binA, isShift, binI, fillA, single, aRes, splice, mkv, unA, binS, sameAt, reduceCtorEq, reduceIte, Int.reduceEq, Int.reduceLT, Int.reduceLE, Int.reduceNe, Nat.reduceEqDiff, Nat.reduceLT, Nat.reduceAdd, Nat.reduceMul, Nat.reduceSub, Nat.reduceLeDiff, Int.reduceBEq, Int.reduceBNe, Nat.reduceBEq, Nat.reduceBNe, Int.reduceToNat]
      exact ⟨(hk5).trans hk3, false, by simp; intro h; have := hb1.2 h; simp at this, rfl⟩
    | true =>
      simp only [s1, s2, zz, env0, aPure, aRead, aNew, aEff, aval, avals, aparts, aopt, wantedA, binA, isShift, binI, fillA, single, aRes, splice, mkv, unA, binS, sameAt, reduceCtorEq, reduceIte, Int.reduceEq, Int.reduceLT, Int.reduceLE, Int.reduceNe, Nat.reduceEqDiff, Nat.reduceLT, Nat.reduceAdd, Nat.reduceMul, Nat.reduceSub, Nat.reduceLeDiff, Int.reduceBEq, Int.reduceBNe, Nat.reduceBEq, Nat.reduceBNe, Int.reduceToNat]
      refine Is_spec _ _ l (y.drop f) (Rows.keeps NdP.mono ((hk5).trans hk3) hl) hlt hyd _ ?_
      intro b2 H4 hk4 hb2
      simp only [zz, env0, aPure, aRead, aNew, aEff, aval, avals, aparts, aopt, wantedA, binA, isShift, binI, fillA, single, aRes, splice, mkv, unA, binS, sameAt, reduceCtorEq, reduceIte, Int.reduceEq, Int.reduceLT, Int.reduceLE, Int.reduceNe, Nat.reduceEqDiff, Nat.reduceLT, Nat.reduceAdd, Nat.reduceMul, Nat.reduceSub, Nat.reduceLeDiff, Int.reduceBEq, Int.reduceBNe, Nat.reduceBEq, Nat.reduceBNe, Int.reduceToNat]
      exact ⟨((hk5).trans hk3).trans hk4, b2, by rw [hb2]; simp [hb1.1 rfl], rfl⟩
  rintro e env' H6 ⟨rfl, hk6, twice, htwice, rfl⟩
  simp only [zz, env0, aPure, aRead, aNew, aEff, aval, avals, aparts, aopt, wantedA, binA, isShift, binI, fillA, single, aRes, splice, mkv, unA, binS, sameAt, reduceCtorEq, reduceIte, Int.reduceEq, Int.reduceLT, Int.reduceLE, Int.reduceNe, Nat.reduceEqDiff, Nat.reduceLT, Nat.reduceAdd, Nat.reduceMul, Nat.reduceSub, Nat.reduceLeDiff, Int.reduceBEq, Int.reduceBNe, Nat.reduceBEq, Nat.reduceBNe, Int.reduceToNat]
  rw [show J7 = .seq (hdC J7) J8 from rfl, zWC_seq]
  refine WC.mono (K := fun e env' H' => e = .normal ∧ Keeps H H' ∧ ∃ b, (b = true ↔ IsT l y ∨ IsT m y) ∧ env' = [va, vb, .str w, .int .u8 at', .bool false, .bool true, .str y, .int .i64 f, .bool both, .bool twice, .bool b, .bool false]) ?_ ?_
  · simp only [J7, hdC, tls, tlC, a8, zz, env0, aPure, aRead, aNew, aEff, aval, avals, aparts, aopt, wantedA, binA, isShift, binI, fillA, single, aRes, splice, mkv, unA, binS, sameAt, reduceCtorEq, reduceIte, Int.reduceEq, Int.reduceLT, Int.reduceLE, Int.reduceNe, Nat.reduceEqDiff, Nat.reduceLT, Nat.reduceAdd, Nat.reduceMul, Nat.reduceSub, Nat.reduceLeDiff, Int.reduceBEq, Int.reduceBNe, Nat.reduceBEq, Nat.reduceBNe, Int.reduceToNat]
    refine Is_spec _ _ l y (Rows.keeps NdP.mono hk6 hl) hlt hyy _ ?_
    intro b1 H3 hk3 hb1
    cases b1 with
    | true =>
      simp only [zz, env0, aPure, aRead, aNew, aEff, aval, avals, aparts, aopt, wantedA, binA, isShift, binI, fillA, single, aRes, splice, mkv, unA, binS, sameAt, reduceCtorEq, reduceIte, Int.reduceEq, Int.reduceLT, Int.reduceLE, Int.reduceNe, Nat.reduceEqDiff, Nat.reduceLT, Nat.reduceAdd, Nat.reduceMul, Nat.reduceSub, Nat.reduceLeDiff, Int.reduceBEq, Int.reduceBNe, Nat.reduceBEq, Nat.reduceBNe, Int.reduceToNat]
      exact ⟨hk6.trans hk3, true, by simp [hb1.1 rfl], rfl⟩
    | false =>
      simp only [zz, env0, aPure, aRead, aNew, aEff, aval, avals, aparts, aopt, wantedA, binA, isShift, binI, fillA, single, aRes, splice, mkv, unA, binS, sameAt, reduceCtorEq, reduceIte, Int.reduceEq, Int.reduceLT, Int.reduceLE, Int.reduceNe, Nat.reduceEqDiff, Nat.reduceLT, Nat.reduceAdd, Nat.reduceMul, Nat.reduceSub, Nat.reduceLeDiff, Int.reduceBEq, Int.reduceBNe, Nat.reduceBEq, Nat.reduceBNe, Int.reduceToNat]
      refine Is_spec _ _ m y (Rows.keeps NdP.mono (hk6.trans hk3) hm) hmt hyy _ ?_
      intro b2 H4 hk4 hb2
      simp only [zz, env0, aPure, aRead, aNew, aEff, aval, avals, aparts, aopt, wantedA, binA, isShift, binI, fillA, single, aRes, splice, mkv, unA, binS, sameAt, reduceCtorEq, reduceIte, Int.reduceEq, Int.reduceLT, Int.reduceLE, Int.reduceNe, Nat.reduceEqDiff, Nat.reduceLT, Nat.reduceAdd, Nat.reduceMul, Nat.reduceSub, Nat.reduceLeDiff, Int.reduceBEq, Int.reduceBNe, Nat.reduceBEq, Nat.reduceBNe, Int.reduceToNat]
      refine ⟨(hk6.trans hk3).trans hk4, b2, ?_, rfl⟩
      rw [hb2]
      have : ¬ IsT l y := fun h => by have := hb1.2 h; simp at this
      simp [this]
  rintro e env' H7 ⟨rfl, hk7, any, hany, rfl⟩
  have hkm := kids_small hRm hm30
  have hpl : ∀ op, (pairT op l m).length < 9223372036854775808 := fun op => by simp [pairT]; omega
  have hwl' : ∀ n, (wrapT l n).length < 9223372036854775808 := fun n => by simp [wrapT]; omega
  have hcat : both = true → IsT (pairT 3 l m) y := fun hb => by
    obtain ⟨h1, h2⟩ := hboth.1 hb
    obtain ⟨_, _, h3⟩ := (is_take hfy).1 h1
    obtain ⟨_, _, h4⟩ := (is_drop hfy).1 h2
    exact ⟨pair_right (.inl rfl) hRl hRm (by omega), pair_noref (by decide) hNl hNm, (cat_den y hRl hRm _ _).2 ⟨f, h3, h4⟩⟩
  have hrep : twice = true → IsT (wrapT l (repN 2 2)) y := fun hb => by
    obtain ⟨h1, h2⟩ := htwice.1 hb
    obtain ⟨_, _, h3⟩ := (is_take hfy).1 h1
    obtain ⟨_, _, h4⟩ := (is_drop hfy).1 h2
    exact ⟨wrap_right hRl (by omega) (repN_shaped _ (by decide) (by decide)), wrap_noref hNl (by simp [repN]), (rep_den y hRl rfl _ _).2 ⟨2, by simp [repN], by simp [repN], f, h3, y.length, h4, rfl⟩⟩
  have halt : IsT (pairT 4 l m) y ↔ IsT l y ∨ IsT m y := by
    unfold IsT
    rw [alt_den y hRl hRm]
    have a1 := pair_right (op := 4) (.inr rfl) hRl hRm (by omega)
    have a2 := pair_noref (op := 4) (by decide) hNl hNm
    simp [hRl, hNl, hRm, hNm, a1, a2]
  have hstar : IsT (wrapT l (repN 0 (-1))) [] :=
    ⟨wrap_right hRl (by omega) (repN_shaped _ (by decide) (by decide)), wrap_noref hNl (by simp [repN]), (rep_den [] hRl rfl _ _).2 ⟨0, by simp [repN], by simp [repN], rfl⟩⟩
  cases both with
  | true =>
    cases twice with
    | true =>
      simp only [J8, hdC, tls, tlC, a8, zz, env0, aPure, aRead, aNew, aEff, aval, avals, aparts, aopt, wantedA, binA, isShift, binI, fillA, single, aRes, splice, mkv, unA, binS, sameAt, reduceCtorEq, reduceIte, Int.reduceEq, Int.reduceLT, Int.reduceLE, Int.reduceNe, Nat.reduceEqDiff, Nat.reduceLT, Nat.reduceAdd, Nat.reduceMul, Nat.reduceSub, Nat.reduceLeDiff, Int.reduceBEq, Int.reduceBNe, Nat.reduceBEq, Nat.reduceBNe, Int.reduceToNat]
      refine pair_spec 3 ⟨by decide, by decide⟩ _ _ _ l m (Rows.keeps NdP.mono hk7 hl) (Rows.keeps NdP.mono hk7 hm) (by omega) (by omega) hkm _ ?_
      intro vp Hp hkp hNp
      simp only [zz, env0, aPure, aRead, aNew, aEff, aval, avals, aparts, aopt, wantedA, binA, isShift, binI, fillA, single, aRes, splice, mkv, unA, binS, sameAt, reduceCtorEq, reduceIte, Int.reduceEq, Int.reduceLT, Int.reduceLE, Int.reduceNe, Nat.reduceEqDiff, Nat.reduceLT, Nat.reduceAdd, Nat.reduceMul, Nat.reduceSub, Nat.reduceLeDiff, Int.reduceBEq, Int.reduceBNe, Nat.reduceBEq, Nat.reduceBNe, Int.reduceToNat]
      refine Is_spec _ _ _ y hNp (hpl 3) hyy _ ?_
      intro bq Hq hkq hbq
      have := hbq.2 (hcat rfl)
      subst this
      have hkA := (hk7).trans (hkp.trans hkq)
      simp only [zz, env0, aPure, aRead, aNew, aEff, aval, avals, aparts, aopt, wantedA, binA, isShift, binI, fillA, single, aRes, splice, mkv, unA, binS, sameAt, reduceCtorEq, reduceIte, Int.reduceEq, Int.reduceLT, Int.reduceLE, Int.reduceNe, Nat.reduceEqDiff, Nat.reduceLT, Nat.reduceAdd, Nat.reduceMul, Nat.reduceSub, Nat.reduceLeDiff, Int.reduceBEq, Int.reduceBNe, Nat.reduceBEq, Nat.reduceBNe, Int.reduceToNat]
      refine wrap_spec _ _ .nilsl l (repN 2 2) (Rows.keeps NdP.mono hkA hl) (by omega) (repN_ok (by simp [i64In]) (by simp [i64In])) Rows.nil _ ?_
      intro vw Hw hkw hNw
      simp only [zz, env0, aPure, aRead, aNew, aEff, aval, avals, aparts, aopt, wantedA, binA, isShift, binI, fillA, single, aRes, splice, mkv, unA, binS, sameAt, reduceCtorEq, reduceIte, Int.reduceEq, Int.reduceLT, Int.reduceLE, Int.reduceNe, Nat.reduceEqDiff, Nat.reduceLT, Nat.reduceAdd, Nat.reduceMul, Nat.reduceSub, Nat.reduceLeDiff, Int.reduceBEq, Int.reduceBNe, Nat.reduceBEq, Nat.reduceBNe, Int.reduceToNat]
      refine Is_spec _ _ _ y hNw (hwl' _) hyy _ ?_
      intro br Hr hkr hbr
      have := hbr.2 (hrep rfl)
      subst this
      have hkB := (hkA).trans (hkw.trans hkr)
      simp only [zz, env0, aPure, aRead, aNew, aEff, aval, avals, aparts, aopt, wantedA, binA, isShift, binI, fillA, single, aRes, splice, mkv, unA, binS, sameAt, reduceCtorEq, reduceIte, Int.reduceEq, Int.reduceLT, Int.reduceLE, Int.reduceNe, Nat.reduceEqDiff, Nat.reduceLT, Nat.reduceAdd, Nat.reduceMul, Nat.reduceSub, Nat.reduceLeDiff, Int.reduceBEq, Int.reduceBNe, Nat.reduceBEq, Nat.reduceBNe, Int.reduceToNat]
      refine pair_spec 4 ⟨by decide, by decide⟩ _ _ _ l m (Rows.keeps NdP.mono hkB hl) (Rows.keeps NdP.mono hkB hm) (by omega) (by omega) hkm _ ?_
      intro vs Hs hks hNs
      simp only [zz, env0, aPure, aRead, aNew, aEff, aval, avals, aparts, aopt, wantedA, binA, isShift, binI, fillA, single, aRes, splice, mkv, unA, binS, sameAt, reduceCtorEq, reduceIte, Int.reduceEq, Int.reduceLT, Int.reduceLE, Int.reduceNe, Nat.reduceEqDiff, Nat.reduceLT, Nat.reduceAdd, Nat.reduceMul, Nat.reduceSub, Nat.reduceLeDiff, Int.reduceBEq, Int.reduceBNe, Nat.reduceBEq, Nat.reduceBNe, Int.reduceToNat]
      refine Is_spec _ _ _ y hNs (hpl 4) hyy _ ?_
      intro bt Ht hkt hbt
      have e4 := is_bool hbt hany halt
      have hkC := (hkB).trans (hks.trans hkt)
      simp only [e4, zz, env0, aPure, aRead, aNew, aEff, aval, avals, aparts, aopt, wantedA, binA, isShift, binI, fillA, single, aRes, splice, mkv, unA, binS, sameAt, reduceCtorEq, reduceIte, Int.reduceEq, Int.reduceLT, Int.reduceLE, Int.reduceNe, Nat.reduceEqDiff, Nat.reduceLT, Nat.reduceAdd, Nat.reduceMul, Nat.reduceSub, Nat.reduceLeDiff, Int.reduceBEq, Int.reduceBNe, Nat.reduceBEq, Nat.reduceBNe, Int.reduceToNat]
      refine wrap_spec _ _ .nilsl l (repN 0 (-1)) (Rows.keeps NdP.mono hkC hl) (by omega) (repN_ok (by simp [i64In]) (by simp [i64In])) Rows.nil _ ?_
      intro vu Hu hku hNu
      simp only [zz, env0, aPure, aRead, aNew, aEff, aval, avals, aparts, aopt, wantedA, binA, isShift, binI, fillA, single, aRes, splice, mkv, unA, binS, sameAt, reduceCtorEq, reduceIte, Int.reduceEq, Int.reduceLT, Int.reduceLE, Int.reduceNe, Nat.reduceEqDiff, Nat.reduceLT, Nat.reduceAdd, Nat.reduceMul, Nat.reduceSub, Nat.reduceLeDiff, Int.reduceBEq, Int.reduceBNe, Nat.reduceBEq, Nat.reduceBNe, Int.reduceToNat]
      refine Is_spec _ _ _ [] hNu (hwl' _) (by simp) _ ?_
      intro bv Hv hkv hbv
      have := hbv.2 hstar
      subst this
      simp only [zz, env0, aPure, aRead, aNew, aEff, aval, avals, aparts, aopt, wantedA, binA, isShift, binI, fillA, single, aRes, splice, mkv, unA, binS, sameAt, reduceCtorEq, reduceIte, Int.reduceEq, Int.reduceLT, Int.reduceLE, Int.reduceNe, Nat.reduceEqDiff, Nat.reduceLT, Nat.reduceAdd, Nat.reduceMul, Nat.reduceSub, Nat.reduceLeDiff, Int.reduceBEq, Int.reduceBNe, Nat.reduceBEq, Nat.reduceBNe, Int.reduceToNat]
    | false =>
      simp only [J8, hdC, tls, tlC, a8, zz, env0, aPure, aRead, aNew, aEff, aval, avals, aparts, aopt, wantedA, binA, isShift, binI, fillA, single, aRes, splice, mkv, unA, binS, sameAt, reduceCtorEq, reduceIte, Int.reduceEq, Int.reduceLT, Int.reduceLE, Int.reduceNe, Nat.reduceEqDiff, Nat.reduceLT, Nat.reduceAdd, Nat.reduceMul, Nat.reduceSub, Nat.reduceLeDiff, Int.reduceBEq, Int.reduceBNe, Nat.reduceBEq, Nat.reduceBNe, Int.reduceToNat]
      refine pair_spec 3 ⟨by decide, by decide⟩ _ _ _ l m (Rows.keeps NdP.mono hk7 hl) (Rows.keeps NdP.mono hk7 hm) (by omega) (by omega) hkm _ ?_
      intro vp Hp hkp hNp
      simp only [zz, env0, aPure, aRead, aNew, aEff, aval, avals, aparts, aopt, wantedA, binA, isShift, binI, fillA, single, aRes, splice, mkv, unA, binS, sameAt, reduceCtorEq, reduceIte, Int.reduceEq, Int.reduceLT, Int.reduceLE, Int.reduceNe, Nat.reduceEqDiff, Nat.reduceLT, Nat.reduceAdd, Nat.reduceMul, Nat.reduceSub, Nat.reduceLeDiff, Int.reduceBEq, Int.reduceBNe, Nat.reduceBEq, Nat.reduceBNe, Int.reduceToNat]
      refine Is_spec _ _ _ y hNp (hpl 3) hyy _ ?_
      intro bq Hq hkq hbq
      have := hbq.2 (hcat rfl)
      subst this
      have hkA := (hk7).trans (hkp.trans hkq)
      simp only [zz, env0, aPure, aRead, aNew, aEff, aval, avals, aparts, aopt, wantedA, binA, isShift, binI, fillA, single, aRes, splice, mkv, unA, binS, sameAt, reduceCtorEq, reduceIte, Int.reduceEq, Int.reduceLT, Int.reduceLE, Int.reduceNe, Nat.reduceEqDiff, Nat.reduceLT, Nat.reduceAdd, Nat.reduceMul, Nat.reduceSub, Nat.reduceLeDiff, Int.reduceBEq, Int.reduceBNe, Nat.reduceBEq, Nat.reduceBNe, Int.reduceToNat]
      refine pair_spec 4 ⟨by decide, by decide⟩ _ _ _ l m (Rows.keeps NdP.mono hkA hl) (Rows.keeps NdP.mono hkA hm) (by omega) (by omega) hkm _ ?_
      intro vs Hs hks hNs
      simp only [zz, env0, aPure, aRead, aNew, aEff, aval, avals, aparts, aopt, wantedA, binA, isShift, binI, fillA, single, aRes, splice, mkv, unA, binS, sameAt, reduceCtorEq, reduceIte, Int.reduceEq, Int.reduceLT, Int.reduceLE, Int.reduceNe, Nat.reduceEqDiff, Nat.reduceLT, Nat.reduceAdd, Nat.reduceMul, Nat.reduceSub, Nat.reduceLeDiff, Int.reduceBEq, Int.reduceBNe, Nat.reduceBEq, Nat.reduceBNe, Int.reduceToNat]
      refine Is_spec _ _ _ y hNs (hpl 4) hyy _ ?_
      intro bt Ht hkt hbt
      have e4 := is_bool hbt hany halt
      have hkC := (hkA).trans (hks.trans hkt)
      simp only [e4, zz, env0, aPure, aRead, aNew, aEff, aval, avals, aparts, aopt, wantedA, binA, isShift, binI, fillA, single, aRes, splice, mkv, unA, binS, sameAt, reduceCtorEq, reduceIte, Int.reduceEq, Int.reduceLT, Int.reduceLE, Int.reduceNe, Nat.reduceEqDiff, Nat.reduceLT, Nat.reduceAdd, Nat.reduceMul, Nat.reduceSub, Nat.reduceLeDiff, Int.reduceBEq, Int.reduceBNe, Nat.reduceBEq, Nat.reduceBNe, Int.reduceToNat]
      refine wrap_spec _ _ .nilsl l (repN 0 (-1)) (Rows.keeps NdP.mono hkC hl) (by omega) (repN_ok (by simp [i64In]) (by simp [i64In])) Rows.nil _ ?_
      intro vu Hu hku hNu
      simp only [zz, env0, aPure, aRead, aNew, aEff, aval, avals, aparts, aopt, wantedA, binA, isShift, binI, fillA, single, aRes, splice, mkv, unA, binS, sameAt, reduceCtorEq, reduceIte, Int.reduceEq, Int.reduceLT, Int.reduceLE, Int.reduceNe, Nat.reduceEqDiff, Nat.reduceLT, Nat.reduceAdd, Nat.reduceMul, Nat.reduceSub, Nat.reduceLeDiff, Int.reduceBEq, Int.reduceBNe, Nat.reduceBEq, Nat.reduceBNe, Int.reduceToNat]
      refine Is_spec _ _ _ [] hNu (hwl' _) (by simp) _ ?_
      intro bv Hv hkv hbv
      have := hbv.2 hstar
      subst this
      simp only [zz, env0, aPure, aRead, aNew, aEff, aval, avals, aparts, aopt, wantedA, binA, isShift, binI, fillA, single, aRes, splice, mkv, unA, binS, sameAt, reduceCtorEq, reduceIte, Int.reduceEq, Int.reduceLT, Int.reduceLE, Int.reduceNe, Nat.reduceEqDiff, Nat.reduceLT, Nat.reduceAdd, Nat.reduceMul, Nat.reduceSub, Nat.reduceLeDiff, Int.reduceBEq, Int.reduceBNe, Nat.reduceBEq, Nat.reduceBNe, Int.reduceToNat]
  | false =>
    cases twice with
    | true =>
      simp only [J8, hdC, tls, tlC, a8, zz, env0, aPure, aRead, aNew, aEff, aval, avals, aparts, aopt, wantedA, binA, isShift, binI, fillA, single, aRes, splice, mkv, unA, binS, sameAt, reduceCtorEq, reduceIte, Int.reduceEq, Int.reduceLT, Int.reduceLE, Int.reduceNe, Nat.reduceEqDiff, Nat.reduceLT, Nat.reduceAdd, Nat.reduceMul, Nat.reduceSub, Nat.reduceLeDiff, Int.reduceBEq, Int.reduceBNe, Nat.reduceBEq, Nat.reduceBNe, Int.reduceToNat]
      refine wrap_spec _ _ .nilsl l (repN 2 2) (Rows.keeps NdP.mono hk7 hl) (by omega) (repN_ok (by simp [i64In]) (by simp [i64In])) Rows.nil _ ?_
      intro vw Hw hkw hNw
      simp only [zz, env0, aPure, aRead, aNew, aEff, aval, avals, aparts, aopt, wantedA, binA, isShift, binI, fillA, single, aRes, splice, mkv, unA, binS, sameAt, reduceCtorEq, reduceIte, Int.reduceEq, Int.reduceLT, Int.reduceLE, Int.reduceNe, Nat.reduceEqDiff, Nat.reduceLT, Nat.reduceAdd, Nat.reduceMul, Nat.reduceSub, Nat.reduceLeDiff, Int.reduceBEq, Int.reduceBNe, Nat.reduceBEq, Nat.reduceBNe, Int.reduceToNat]
      refine Is_spec _ _ _ y hNw (hwl' _) hyy _ ?_
      intro br Hr hkr hbr
      have := hbr.2 (hrep rfl)
      subst this
      have hkB := (hk7).trans (hkw.trans hkr)
      simp only [zz, env0, aPure, aRead, aNew, aEff, aval, avals, aparts, aopt, wantedA, binA, isShift, binI, fillA, single, aRes, splice, mkv, unA, binS, sameAt, reduceCtorEq, reduceIte, Int.reduceEq, Int.reduceLT, Int.reduceLE, Int.reduceNe, Nat.reduceEqDiff, Nat.reduceLT, Nat.reduceAdd, Nat.reduceMul, Nat.reduceSub, Nat.reduceLeDiff, Int.reduceBEq, Int.reduceBNe, Nat.reduceBEq, Nat.reduceBNe, Int.reduceToNat]
      refine pair_spec 4 ⟨by decide, by decide⟩ _ _ _ l m (Rows.keeps NdP.mono hkB hl) (Rows.keeps NdP.mono hkB hm) (by omega) (by omega) hkm _ ?_
      intro vs Hs hks hNs
      simp only [zz, env0, aPure, aRead, aNew, aEff, aval, avals, aparts, aopt, wantedA, binA, isShift, binI, fillA, single, aRes, splice, mkv, unA, binS, sameAt, reduceCtorEq, reduceIte, Int.reduceEq, Int.reduceLT, Int.reduceLE, Int.reduceNe, Nat.reduceEqDiff, Nat.reduceLT, Nat.reduceAdd, Nat.reduceMul, Nat.reduceSub, Nat.reduceLeDiff, Int.reduceBEq, Int.reduceBNe, Nat.reduceBEq, Nat.reduceBNe, Int.reduceToNat]
      refine Is_spec _ _ _ y hNs (hpl 4) hyy _ ?_
      intro bt Ht hkt hbt
      have e4 := is_bool hbt hany halt
      have hkC := (hkB).trans (hks.trans hkt)
      simp only [e4, zz, env0, aPure, aRead, aNew, aEff, aval, avals, aparts, aopt, wantedA, binA, isShift, binI, fillA, single, aRes, splice, mkv, unA, binS, sameAt, reduceCtorEq, reduceIte, Int.reduceEq, Int.reduceLT, Int.reduceLE, Int.reduceNe, Nat.reduceEqDiff, Nat.reduceLT, Nat.reduceAdd, Nat.reduceMul, Nat.reduceSub, Nat.reduceLeDiff, Int.reduceBEq, Int.reduceBNe, Nat.reduceBEq, Nat.reduceBNe, Int.reduceToNat]
      refine wrap_spec _ _ .nilsl l (repN 0 (-1)) (Rows.keeps NdP.mono hkC hl) (by omega) (repN_ok (by simp [i64In]) (by simp [i64In])) Rows.nil _ ?_
      intro vu Hu hku hNu
      simp only [zz, env0, aPure, aRead, aNew, aEff, aval, avals, aparts, aopt, wantedA, binA, isShift, binI, fillA, single, aRes, splice, mkv, unA, binS, sameAt, reduceCtorEq, reduceIte, Int.reduceEq, Int.reduceLT, Int.reduceLE, Int.reduceNe, Nat.reduceEqDiff, Nat.reduceLT, Nat.reduceAdd, Nat.reduceMul, Nat.reduceSub, Nat.reduceLeDiff, Int.reduceBEq, Int.reduceBNe, Nat.reduceBEq, Nat.reduceBNe, Int.reduceToNat]
      refine Is_spec _ _ _ [] hNu (hwl' _) (by simp) _ ?_
      intro bv Hv hkv hbv
      have := hbv.2 hstar
      subst this
      simp only [zz, env0, aPure, aRead, aNew, aEff, aval, avals, aparts, aopt, wantedA, binA, isShift, binI, fillA, single, aRes, splice, mkv, unA, binS, sameAt, reduceCtorEq, reduceIte, Int.reduceEq, Int.reduceLT, Int.reduceLE, Int.reduceNe, Nat.reduceEqDiff, Nat.reduceLT, Nat.reduceAdd, Nat.reduceMul, Nat.reduceSub, Nat.reduceLeDiff, Int.reduceBEq, Int.reduceBNe, Nat.reduceBEq, Nat.reduceBNe, Int.reduceToNat]
    | false =>
      simp only [J8, hdC, tls, tlC, a8, zz, env0, aPure, aRead, aNew, aEff, aval, avals, aparts, aopt, wantedA, binA, isShift, binI, fillA, single, aRes, splice, mkv, unA, binS, sameAt, reduceCtorEq, reduceIte, Int.reduceEq, Int.reduceLT, Int.reduceLE, Int.reduceNe, Nat.reduceEqDiff, Nat.reduceLT, Nat.reduceAdd, Nat.reduceMul, Nat.reduceSub, Nat.reduceLeDiff, Int.reduceBEq, Int.reduceBNe, Nat.reduceBEq, Nat.reduceBNe, Int.reduceToNat]
      refine pair_spec 4 ⟨by decide, by decide⟩ _ _ _ l m (Rows.keeps NdP.mono hk7 hl) (Rows.keeps NdP.mono hk7 hm) (by omega) (by omega) hkm _ ?_
      intro vs Hs hks hNs
      simp only [zz, env0, aPure, aRead, aNew, aEff, aval, avals, aparts, aopt, wantedA, binA, isShift, binI, fillA, single, aRes, splice, mkv, unA, binS, sameAt, reduceCtorEq, reduceIte, Int.reduceEq, Int.reduceLT, Int.reduceLE, Int.reduceNe, Nat.reduceEqDiff, Nat.reduceLT, Nat.reduceAdd, Nat.reduceMul, Nat.reduceSub, Nat.reduceLeDiff, Int.reduceBEq, Int.reduceBNe, Nat.reduceBEq, Nat.reduceBNe, Int.reduceToNat]
      refine Is_spec _ _ _ y hNs (hpl 4) hyy _ ?_
      intro bt Ht hkt hbt
      have e4 := is_bool hbt hany halt
      have hkC := (hk7).trans (hks.trans hkt)
      simp only [e4, zz, env0, aPure, aRead, aNew, aEff, aval, avals, aparts, aopt, wantedA, binA, isShift, binI, fillA, single, aRes, splice, mkv, unA, binS, sameAt, reduceCtorEq, reduceIte, Int.reduceEq, Int.reduceLT, Int.reduceLE, Int.reduceNe, Nat.reduceEqDiff, Nat.reduceLT, Nat.reduceAdd, Nat.reduceMul, Nat.reduceSub, Nat.reduceLeDiff, Int.reduceBEq, Int.reduceBNe, Nat.reduceBEq, Nat.reduceBNe, Int.reduceToNat]
      refine wrap_spec _ _ .nilsl l (repN 0 (-1)) (Rows.keeps NdP.mono hkC hl) (by omega) (repN_ok (by simp [i64In]) (by simp [i64In])) Rows.nil _ ?_
      intro vu Hu hku hNu
      simp only [zz, env0, aPure, aRead, aNew, aEff, aval, avals, aparts, aopt, wantedA, binA, isShift, binI, fillA, single, aRes, splice, mkv, unA, binS, sameAt, reduceCtorEq, reduceIte, Int.reduceEq, Int.reduceLT, Int.reduceLE, Int.reduceNe, Nat.reduceEqDiff, Nat.reduceLT, Nat.reduceAdd, Nat.reduceMul, Nat.reduceSub, Nat.reduceLeDiff, Int.reduceBEq, Int.reduceBNe, Nat.reduceBEq, Nat.reduceBNe, Int.reduceToNat]
      refine Is_spec _ _ _ [] hNu (hwl' _) (by simp) _ ?_
      intro bv Hv hkv hbv
      have := hbv.2 hstar
      subst this
      simp only [zz, env0, aPure, aRead, aNew, aEff, aval, avals, aparts, aopt, wantedA, binA, isShift, binI, fillA, single, aRes, splice, mkv, unA, binS, sameAt, reduceCtorEq, reduceIte, Int.reduceEq, Int.reduceLT, Int.reduceLE, Int.reduceNe, Nat.reduceEqDiff, Nat.reduceLT, Nat.reduceAdd, Nat.reduceMul, Nat.reduceSub, Nat.reduceLeDiff, Int.reduceBEq, Int.reduceBNe, Nat.reduceBEq, Nat.reduceBNe, Int.reduceToNat]
end Go.Proofs.Ytnblhjpbpobglaa

/- LangJoin: the statement, from the law's run. -/
set_option maxRecDepth 100000
set_option linter.unusedVariables false
namespace Go.Proofs.Ytnblhjpbpobglaa
open Go.Am Go.ChangeShapes Go.WideShapes Go.ChangeAt Go.RowKit

theorem own : ownKnob Try.prog.godebug = none := by kernel_rfl
theorem laidOut : laidOutB Try.prog = true := by kernel_rfl

theorem law_shapes : shapesArgs Try.prog 20 Try.f8.params.toList = some [.slice 9 ndShp, .slice 9 ndShp, .str, .int .u8] := by kernel_rfl

theorem law_all (H : AHeap) (avs : List AV) (h : FitsArgs H [.slice 9 ndShp, .slice 9 ndShp, .str, .int .u8] avs) : ∃ n H', aCall prog orc1 n 8 avs H = some (.bool true, H') := by
  simp only [FitsArgs] at h
  obtain ⟨a0, _, rfl, h0, a1, _, rfl, h1, a2, _, rfl, h2, a3, _, rfl, h3, rfl⟩ := h
  obtain ⟨l0, g0, k0⟩ := fits_nds h0
  obtain ⟨l1, g1, k1⟩ := fits_nds h1
  obtain ⟨s2, e2, k2⟩ := fits_str h2
  simp only [List.cons.injEq, and_true] at e2
  subst e2
  simp only [Fits] at h3
  obtain ⟨n3, e3, u3, v3⟩ := h3
  simp only [List.cons.injEq, and_true] at e3
  subst e3
  have u3 : (0 : Int) ≤ n3 := u3
  have v3 : n3 ≤ 255 := v3
  obtain ⟨m, r, HF, h, rfl⟩ := join_run H a0 a1 l0 l1 s2 n3 g0 g1 k0 k1 k2 ⟨u3, v3⟩
  exact ⟨m, HF, h⟩

theorem law_lifted (os : Os) (started : os.Started) (H : Type) (enc : TypeId × Value → H) :
    ReturnsInHanded {} Try.checked os 8 .any (Rows.langJoinSpec.pre6 enc Try.prog Try.f8 Rows.langJoinRow.domain false) (Rows.langJoinSpec.post enc Try.prog Try.f8 false Rows.langJoinRow.fresh Rows.langJoinRow.handsOn Rows.langJoinRow.again) := by
  refine returnsInHanded_of_change (C := Try.checked) own started (by kernel_rfl) Try.func8
    (ChangeSpec.witness6 (enc := enc) (C := Try.checked) false ⟨#[], #[.slice none 0 0, .slice none 0 0, .string ⟨#[]⟩, .int .u8 0], []⟩ 8 (by kernel_rfl) (by kernel_rfl) (by kernel_rfl) (by kernel_rfl)) ?_
  intro W base args ds gs before hval hW _ _
  exact law_calls laidOut sound law_shapes (by
      have : Try.f8.params.toList.all (fun t => Try.prog.readableRec t && decide (t < Try.prog.types.size)) = true := by kernel_rfl
      intro t ht
      have := List.all_eq_true.1 this t ht
      simpa using this) rfl (tb := 4) (by kernel_rfl) (by kernel_rfl) (fun ds hds => by
      match ds, hds with
      | [d0, d1, d2, d3], _ => rfl) hval hW (fun H avs hF => law_all H avs hF)

theorem law_row : Rows.LangJoinSaid :=
  OpenClaim.holds_of_wide 8 Try.f8 rfl rfl rfl rfl rfl rfl rfl ⟨rfl, rfl, rfl, rfl, rfl⟩ rfl rfl rfl rfl rfl (by kernel_rfl) Try.func8 (by kernel_rfl)
    (of_decide_eq_true (by kernel_rfl)) (by unfold Func.isWrapper; first | (rw [if_pos (by decide +kernel)]; kernel_rfl) | (rw [if_neg (by decide +kernel)]; exact ⟨rfl, rfl⟩))
    (fun os started H enc _ => law_lifted os started H enc)
end Go.Proofs.Ytnblhjpbpobglaa
