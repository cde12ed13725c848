/- The law's run, and the statement. -/
import Derived.Test.YtnblhjpbpobglaaM5
import Derived.Test.YtnblhjpbpobglaaRows
import Derived.Test.YtnblhjpbpobglaaM2

/- LangJoin: the law's run. -/
set_option maxRecDepth 100000
set_option linter.unusedSimpArgs false
namespace Go.Proofs.Ytnblhjpbpobglaa
open Go.Am

/-- Parts of a text in a row. -/
def hdC : ACode → ACode
  | .seq a _ => a
  | c => c
def tlC : ACode → ACode
  | .seq _ b => b
  | c => c
def tls : Nat → ACode → ACode
  | 0, c => c
  | n + 1, c => tls n (tlC c)

def J5 : ACode := tls 5 a8.body
def J6 : ACode := tls 6 a8.body
def J7 : ACode := tls 7 a8.body
def J8 : ACode := tls 8 a8.body
theorem join_cut : a8.body = .seq (hdC a8.body) (.seq (hdC (tls 1 a8.body)) (.seq (hdC (tls 2 a8.body)) (.seq (hdC (tls 3 a8.body)) (.seq (hdC (tls 4 a8.body)) J5)))) := rfl

theorem kids_small {m : List Nd} (hR : RightT m) (hl : m.length ≤ 30) : ∀ n, n ∈ m → n.kids.length ≤ 1000 ∧ ∀ x, x ∈ n.kids → 0 ≤ x ∧ x ≤ 1000 := fun n hn => by
  obtain ⟨k, hk⟩ := List.mem_iff_getElem?.1 hn
  obtain ⟨_, _, r, hr⟩ := hR
  obtain ⟨_, h2, h3⟩ := stk_kids hr hk
  have hkl : k < m.length := by
    rcases Nat.lt_or_ge k m.length with h | h
    · exact h
    · rw [List.getElem?_eq_none h] at hk; simp at hk
  exact ⟨by omega, fun x hx => by have := h3 x hx; omega⟩

def repN (lo hi : Int) : Nd := ⟨5, 0, 0, 0, 0, [], lo, hi, []⟩
theorem repN_ok {lo hi : Int} (h1 : i64In lo) (h2 : i64In hi) : (repN lo hi).Ok :=
  ⟨⟨by simp [repN], by simp [repN]⟩, zero_u64, zero_u64, zero_u64, zero_u64, fun x hx => by simp [repN] at hx, h1, h2, by simp [repN], by simp [repN]⟩
theorem repN_shaped {lo hi : Int} (d : Int) (h1 : 0 ≤ lo ∧ lo ≤ 4096) (h2 : hi = -1 ∨ 1 ≤ hi ∧ lo ≤ hi ∧ hi ≤ 4096) : Shaped { repN lo hi with kids := [d] } :=
  .inr (.inr (.inr (.inl ⟨rfl, ⟨rfl, rfl, rfl, rfl⟩, rfl, h1.1, h1.2, h2, rfl⟩)))

theorem is_bool {p q : Prop} {a b : Bool} (h1 : a = true ↔ p) (h2 : b = true ↔ q) (h : p ↔ q) : (a == b) = true := by
  have : a = b := by
    cases a <;> cases b <;> simp_all
  simp [this]

theorem join_run (H : AHeap) (va vb : AV) (l m : List Nd) (w : List UInt8) (at' : Int) (hl : Nds H va l) (hm : Nds H vb m) (hll : l.length ≤ maxLen) (hml : m.length ≤ maxLen) (hwl : w.length ≤ maxLen) (ha : 0 ≤ at' ∧ at' ≤ 255) :
    WF P0 8 [va, vb, .str w, .int .u8 at'] H (fun r _ => r = .bool true) := by
  have hmx : maxLen = 9223372036854775807 := rfl
  refine zWF rfl rfl rfl ?_
  rw [join_cut]
  simp only [a8, hdC, tls, tlC, zz, env0, aPure, aRead, aNew, aEff, aval, avals, aparts, aopt, wantedA, binA, isShift, binI, fillA, single, aRes, splice, mkv, unA, binS, sameAt, reduceCtorEq, reduceIte, Int.reduceEq, Int.reduceLT, Int.reduceLE, Int.reduceNe, Nat.reduceEqDiff, Nat.reduceLT, Nat.reduceAdd, Nat.reduceMul, Nat.reduceSub, Nat.reduceLeDiff, Int.reduceBEq, Int.reduceBNe, Nat.reduceBEq, Nat.reduceBNe, Int.reduceToNat]
  refine shown_sp _ _ ?_
  simp only [zz, env0, aPure, aRead, aNew, aEff, aval, avals, aparts, aopt, wantedA, binA, isShift, binI, fillA, single, aRes, splice, mkv, unA, binS, sameAt, reduceCtorEq, reduceIte, Int.reduceEq, Int.reduceLT, Int.reduceLE, Int.reduceNe, Nat.reduceEqDiff, Nat.reduceLT, Nat.reduceAdd, Nat.reduceMul, Nat.reduceSub, Nat.reduceLeDiff, Int.reduceBEq, Int.reduceBNe, Nat.reduceBEq, Nat.reduceBNe, Int.reduceToNat]
  refine text_spec _ _ _ (by omega) ?_
  generalize hy : w.take 20 = y
  have hyl : y.length ≤ 20 := by rw [← hy, List.length_take]; omega
  obtain ⟨f, hf⟩ : ∃ f : Nat, f = at'.toNat % (y.length + 1) := ⟨_, rfl⟩
  have hfy : f ≤ y.length := by rw [hf]; have := Nat.mod_lt at'.toNat (show 0 < y.length + 1 by omega); omega
  have c1 : IntKind.i64.wrap at' = at' := wrap_i64 (by omega) (by omega)
  have c2 : IntKind.i64.wrap ((y.length : Int) + 1) = ((y.length + 1 : Nat) : Int) := by rw [wrap_i64 (by omega) (by omega)]; rfl
  have c3 : at'.tmod ((y.length + 1 : Nat) : Int) = (f : Int) := by
    rw [hf]
    have : at' = (at'.toNat : Int) := by omega
    rw [this]; rfl
  have c4 : ((((y.length + 1 : Nat) : Int)) = 0) = False := by simp; omega
  simp only [c1, c2, c3, c4, zz, env0, aPure, aRead, aNew, aEff, aval, avals, aparts, aopt, wantedA, binA, isShift, binI, fillA, single, aRes, splice, mkv, unA, binS, sameAt, reduceCtorEq, reduceIte, Int.reduceEq, Int.reduceLT, Int.reduceLE, Int.reduceNe, Nat.reduceEqDiff, Nat.reduceLT, Nat.reduceAdd, Nat.reduceMul, Nat.reduceSub, Nat.reduceLeDiff, Int.reduceBEq, Int.reduceBNe, Nat.reduceBEq, Nat.reduceBNe, Int.reduceToNat]
  refine good_spec _ _ l hl (by omega) _ ?_
  intro b1 H1 hk1 hb1
  cases b1 with
  | false => simp only [zz, env0, aPure, aRead, aNew, aEff, aval, avals, aparts, aopt, wantedA, binA, isShift, binI, fillA, single, aRes, splice, mkv, unA, binS, sameAt, reduceCtorEq, reduceIte, Int.reduceEq, Int.reduceLT, Int.reduceLE, Int.reduceNe, Nat.reduceEqDiff, Nat.reduceLT, Nat.reduceAdd, Nat.reduceMul, Nat.reduceSub, Nat.reduceLeDiff, Int.reduceBEq, Int.reduceBNe, Nat.reduceBEq, Nat.reduceBNe, Int.reduceToNat]
  | true =>
  obtain ⟨hl30, hRl, hNl⟩ := hb1 rfl
  simp only [zz, env0, aPure, aRead, aNew, aEff, aval, avals, aparts, aopt, wantedA, binA, isShift, binI, fillA, single, aRes, splice, mkv, unA, binS, sameAt, reduceCtorEq, reduceIte, Int.reduceEq, Int.reduceLT, Int.reduceLE, Int.reduceNe, Nat.reduceEqDiff, Nat.reduceLT, Nat.reduceAdd, Nat.reduceMul, Nat.reduceSub, Nat.reduceLeDiff, Int.reduceBEq, Int.reduceBNe, Nat.reduceBEq, Nat.reduceBNe, Int.reduceToNat]
  refine good_spec _ _ m (Rows.keeps NdP.mono hk1 hm) (by omega) _ ?_
  intro b2 H2 hk2 hb2
  cases b2 with
  | false => simp only [zz, env0, aPure, aRead, aNew, aEff, aval, avals, aparts, aopt, wantedA, binA, isShift, binI, fillA, single, aRes, splice, mkv, unA, binS, sameAt, reduceCtorEq, reduceIte, Int.reduceEq, Int.reduceLT, Int.reduceLE, Int.reduceNe, Nat.reduceEqDiff, Nat.reduceLT, Nat.reduceAdd, Nat.reduceMul, Nat.reduceSub, Nat.reduceLeDiff, Int.reduceBEq, Int.reduceBNe, Nat.reduceBEq, Nat.reduceBNe, Int.reduceToNat]
  | true =>
  obtain ⟨hm30, hRm, hNm⟩ := hb2 rfl
  have hk12 := hk1.trans hk2
  have s1 := slice_to y f hfy
  have s2 := slice_from y f hfy
  have hlt : l.length < 9223372036854775808 := by omega
  have hmt : m.length < 9223372036854775808 := by omega
  have hyt : (y.take f).length ≤ 1000000 := by rw [List.length_take]; omega
  have hyd : (y.drop f).length ≤ 1000000 := by rw [List.length_drop]; omega
  have hyy : y.length ≤ 1000000 := by omega
  simp only [zz, env0, aPure, aRead, aNew, aEff, aval, avals, aparts, aopt, wantedA, binA, isShift, binI, fillA, single, aRes, splice, mkv, unA, binS, sameAt, reduceCtorEq, reduceIte, Int.reduceEq, Int.reduceLT, Int.reduceLE, Int.reduceNe, Nat.reduceEqDiff, Nat.reduceLT, Nat.reduceAdd, Nat.reduceMul, Nat.reduceSub, Nat.reduceLeDiff, Int.reduceBEq, Int.reduceBNe, Nat.reduceBEq, Nat.reduceBNe, Int.reduceToNat]
  rw [show J5 = .seq (hdC J5) J6 from rfl, zWC_seq]
  refine WC.mono (K := fun e env' H' => e = .normal ∧ Keeps H H' ∧ ∃ b, (b = true ↔ IsT l (y.take f) ∧ IsT m (y.drop f)) ∧ env' = [va, vb, .str w, .int .u8 at', .bool false, .bool true, .str y, .int .i64 f, .bool b, .junk, .junk, .bool false]) ?_ ?_
  · simp only [J5, hdC, tls, tlC, a8, s1, s2, zz, env0, aPure, aRead, aNew, aEff, aval, avals, aparts, aopt, wantedA, binA, isShift, binI, fillA, single, aRes, splice, mkv, unA, binS, sameAt, reduceCtorEq, reduceIte, Int.reduceEq, Int.reduceLT, Int.reduceLE, Int.reduceNe, Nat.reduceEqDiff, Nat.reduceLT, Nat.reduceAdd, Nat.reduceMul, Nat.reduceSub, Nat.reduceLeDiff, Int.reduceBEq, Int.reduceBNe, Nat.reduceBEq, Nat.reduceBNe, Int.reduceToNat]
    refine Is_spec _ _ l (y.take f) (Rows.keeps NdP.mono hk12 hl) hlt hyt _ ?_
    intro b1 H3 hk3 hb1
    cases b1 with
    | false =>
      simp only [s1, s2, zz, env0, aPure, aRead, aNew, aEff, aval, avals, aparts, aopt, wantedA, binA, isShift, binI, fillA, single, aRes, splice, mkv, unA, binS, sameAt, reduceCtorEq, reduceIte, Int.reduceEq, Int.reduceLT, Int.reduceLE, Int.reduceNe, Nat.reduceEqDiff, Nat.reduceLT, Nat.reduceAdd, Nat.reduceMul, Nat.reduceSub, Nat.reduceLeDiff, Int.reduceBEq, Int.reduceBNe, Nat.reduceBEq, Nat.reduceBNe, Int.reduceToNat]
      exact ⟨(hk12).trans hk3, false, by simp; intro h; have := hb1.2 h; simp at this, rfl⟩
    | true =>
      simp only [s1, s2, zz, env0, aPure, aRead, aNew, aEff, aval, avals, aparts, aopt, wantedA, binA, isShift, binI, fillA, single, aRes, splice, mkv, unA, binS, sameAt, reduceCtorEq, reduceIte, Int.reduceEq, Int.reduceLT, Int.reduceLE, Int.reduceNe, Nat.reduceEqDiff, Nat.reduceLT, Nat.reduceAdd, Nat.reduceMul, Nat.reduceSub, Nat.reduceLeDiff, Int.reduceBEq, Int.reduceBNe, Nat.reduceBEq, Nat.reduceBNe, Int.reduceToNat]
      refine Is_spec _ _ m (y.drop f) (Rows.keeps NdP.mono ((hk12).trans hk3) hm) hmt hyd _ ?_
      intro b2 H4 hk4 hb2
      simp only [zz, env0, aPure, aRead, aNew, aEff, aval, avals, aparts, aopt, wantedA, binA, isShift, binI, fillA, single, aRes, splice, mkv, unA, binS, sameAt, reduceCtorEq, reduceIte, Int.reduceEq, Int.reduceLT, Int.reduceLE, Int.reduceNe, Nat.reduceEqDiff, Nat.reduceLT, Nat.reduceAdd, Nat.reduceMul, Nat.reduceSub, Nat.reduceLeDiff, Int.reduceBEq, Int.reduceBNe, Nat.reduceBEq, Nat.reduceBNe, Int.reduceToNat]
      exact ⟨((hk12).trans hk3).trans hk4, b2, by rw [hb2]; simp [hb1.1 rfl], rfl⟩
  rintro e env' H5 ⟨rfl, hk5, both, hboth, rfl⟩
  simp only [zz, env0, aPure, aRead, aNew, aEff, aval, avals, aparts, aopt, wantedA, binA, isShift, binI, fillA, single, aRes, splice, mkv, unA, binS, sameAt, reduceCtorEq, reduceIte, Int.reduceEq, Int.reduceLT, Int.reduceLE, Int.reduceNe, Nat.reduceEqDiff, Nat.reduceLT, Nat.reduceAdd, Nat.reduceMul, Nat.reduceSub, Nat.reduceLeDiff, Int.reduceBEq, Int.reduceBNe, Nat.reduceBEq, Nat.reduceBNe, Int.reduceToNat]
  rw [show J6 = .seq (hdC J6) J7 from rfl, zWC_seq]
  refine WC.mono (K := fun e env' H' => e = .normal ∧ Keeps H H' ∧ ∃ b, (b = true ↔ IsT l (y.take f) ∧ IsT l (y.drop f)) ∧ env' = [va, vb, .str w, .int .u8 at', .bool false, .bool true, .str y, .int .i64 f, .bool both, .bool b, .junk, .bool false]) ?_ ?_
  · simp only [J6, hdC, tls, tlC, a8, s1, s2, zz, env0, aPure, aRead, aNew, aEff, aval, avals, aparts, aopt, wantedA, binA, isShift, binI, fillA, single, aRes, splice, mkv, unA, binS, sameAt, reduceCtorEq, reduceIte, Int.reduceEq, Int.reduceLT, Int.reduceLE, Int.reduceNe, Nat.reduceEqDiff, Nat.reduceLT, Nat.reduceAdd, Nat.reduceMul, Nat.reduceSub, Nat.reduceLeDiff, Int.reduceBEq, Int.reduceBNe, Nat.reduceBEq, Nat.reduceBNe, Int.reduceToNat]
    refine Is_spec _ _ l (y.take f) (Rows.keeps NdP.mono hk5 hl) hlt hyt _ ?_
    intro b1 H3 hk3 hb1
    cases b1 with
    | false =>
      simp only [s1, s2, zz, env0, aPure, aRead, aNew, aEff, aval, avals, aparts, aopt, wantedA, binA, isShift, binI, fillA, single, aRes, splice, mkv, unA, binS, sameAt, reduceCtorEq, reduceIte, Int.reduceEq, Int.reduceLT, Int.reduceLE, Int.reduceNe, Nat.reduceEqDiff, Nat.reduceLT, Nat.reduceAdd, Nat.reduceMul, Nat.reduceSub, Nat.reduceLeDiff, Int.reduceBEq, Int.reduceBNe, Nat.reduceBEq, Nat.reduceBNe, Int.reduceToNat]
      exact ⟨(hk5).trans hk3, false, by simp; intro h; have := hb1.2 h; simp at this, rfl⟩
    | true =>
      simp only [s1, s2, zz, env0, aPure, aRead, aNew, aEff, aval, avals, aparts, aopt, wantedA, binA, isShift, binI, fillA, single, aRes, splice, mkv, unA, binS, sameAt, reduceCtorEq, reduceIte, Int.reduceEq, Int.reduceLT, Int.reduceLE, Int.reduceNe, Nat.reduceEqDiff, Nat.reduceLT, Nat.reduceAdd, Nat.reduceMul, Nat.reduceSub, Nat.reduceLeDiff, Int.reduceBEq, Int.reduceBNe, Nat.reduceBEq, Nat.reduceBNe, Int.reduceToNat]
      refine Is_spec _ _ l (y.drop f) (Rows.keeps NdP.mono ((hk5).trans hk3) hl) hlt hyd _ ?_
      intro b2 H4 hk4 hb2
      simp only [zz, env0, aPure, aRead, aNew, aEff, aval, avals, aparts, aopt, wantedA, binA, isShift, binI, fillA, single, aRes, splice, mkv, unA, binS, sameAt, reduceCtorEq, reduceIte, Int.reduceEq, Int.reduceLT, Int.reduceLE, Int.reduceNe, Nat.reduceEqDiff, Nat.reduceLT, Nat.reduceAdd, Nat.reduceMul, Nat.reduceSub, Nat.reduceLeDiff, Int.reduceBEq, Int.reduceBNe, Nat.reduceBEq, Nat.reduceBNe, Int.reduceToNat]
      exact ⟨((hk5).trans hk3).trans hk4, b2, by rw [hb2]; simp [hb1.1 rfl], rfl⟩
  rintro e env' H6 ⟨rfl, hk6, twice, htwice, rfl⟩
  simp only [zz, env0, aPure, aRead, aNew, aEff, aval, avals, aparts, aopt, wantedA, binA, isShift, binI, fillA, single, aRes, splice, mkv, unA, binS, sameAt, reduceCtorEq, reduceIte, Int.reduceEq, Int.reduceLT, Int.reduceLE, Int.reduceNe, Nat.reduceEqDiff, Nat.reduceLT, Nat.reduceAdd, Nat.reduceMul, Nat.reduceSub, Nat.reduceLeDiff, Int.reduceBEq, Int.reduceBNe, Nat.reduceBEq, Nat.reduceBNe, Int.reduceToNat]
  rw [show J7 = .seq (hdC J7) J8 from rfl, zWC_seq]
  refine WC.mono (K := fun e env' H' => e = .normal ∧ Keeps H H' ∧ ∃ b, (b = true ↔ IsT l y ∨ IsT m y) ∧ env' = [va, vb, .str w, .int .u8 at', .bool false, .bool true, .str y, .int .i64 f, .bool both, .bool twice, .bool b, .bool false]) ?_ ?_
  · simp only [J7, hdC, tls, tlC, a8, zz, env0, aPure, aRead, aNew, aEff, aval, avals, aparts, aopt, wantedA, binA, isShift, binI, fillA, single, aRes, splice, mkv, unA, binS, sameAt, reduceCtorEq, reduceIte, Int.reduceEq, Int.reduceLT, Int.reduceLE, Int.reduceNe, Nat.reduceEqDiff, Nat.reduceLT, Nat.reduceAdd, Nat.reduceMul, Nat.reduceSub, Nat.reduceLeDiff, Int.reduceBEq, Int.reduceBNe, Nat.reduceBEq, Nat.reduceBNe, Int.reduceToNat]
    refine Is_spec _ _ l y (Rows.keeps NdP.mono hk6 hl) hlt hyy _ ?_
    intro b1 H3 hk3 hb1
    cases b1 with
    | true =>
      simp only [zz, env0, aPure, aRead, aNew, aEff, aval, avals, aparts, aopt, wantedA, binA, isShift, binI, fillA, single, aRes, splice, mkv, unA, binS, sameAt, reduceCtorEq, reduceIte, Int.reduceEq, Int.reduceLT, Int.reduceLE, Int.reduceNe, Nat.reduceEqDiff, Nat.reduceLT, Nat.reduceAdd, Nat.reduceMul, Nat.reduceSub, Nat.reduceLeDiff, Int.reduceBEq, Int.reduceBNe, Nat.reduceBEq, Nat.reduceBNe, Int.reduceToNat]
      exact ⟨hk6.trans hk3, true, by simp [hb1.1 rfl], rfl⟩
    | false =>
      simp only [zz, env0, aPure, aRead, aNew, aEff, aval, avals, aparts, aopt, wantedA, binA, isShift, binI, fillA, single, aRes, splice, mkv, unA, binS, sameAt, reduceCtorEq, reduceIte, Int.reduceEq, Int.reduceLT, Int.reduceLE, Int.reduceNe, Nat.reduceEqDiff, Nat.reduceLT, Nat.reduceAdd, Nat.reduceMul, Nat.reduceSub, Nat.reduceLeDiff, Int.reduceBEq, Int.reduceBNe, Nat.reduceBEq, Nat.reduceBNe, Int.reduceToNat]
      refine Is_spec _ _ m y (Rows.keeps NdP.mono (hk6.trans hk3) hm) hmt hyy _ ?_
      intro b2 H4 hk4 hb2
      simp only [zz, env0, aPure, aRead, aNew, aEff, aval, avals, aparts, aopt, wantedA, binA, isShift, binI, fillA, single, aRes, splice, mkv, unA, binS, sameAt, reduceCtorEq, reduceIte, Int.reduceEq, Int.reduceLT, Int.reduceLE, Int.reduceNe, Nat.reduceEqDiff, Nat.reduceLT, Nat.reduceAdd, Nat.reduceMul, Nat.reduceSub, Nat.reduceLeDiff, Int.reduceBEq, Int.reduceBNe, Nat.reduceBEq, Nat.reduceBNe, Int.reduceToNat]
      refine ⟨(hk6.trans hk3).trans hk4, b2, ?_, rfl⟩
      rw [hb2]
      have : ¬ IsT l y := fun h => by have := hb1.2 h; simp at this
      simp [this]
  rintro e env' H7 ⟨rfl, hk7, any, hany, rfl⟩
  have hkm := kids_small hRm hm30
  have hpl : ∀ op, (pairT op l m).length < 9223372036854775808 := fun op => by simp [pairT]; omega
  have hwl' : ∀ n, (wrapT l n).length < 9223372036854775808 := fun n => by simp [wrapT]; omega
  have hcat : both = true → IsT (pairT 3 l m) y := fun hb => by
    obtain ⟨h1, h2⟩ := hboth.1 hb
    obtain ⟨_, _, h3⟩ := (is_take hfy).1 h1
    obtain ⟨_, _, h4⟩ := (is_drop hfy).1 h2
    exact ⟨pair_right (.inl rfl) hRl hRm (by omega), pair_noref (by decide) hNl hNm, (cat_den y hRl hRm _ _).2 ⟨f, h3, h4⟩⟩
  have hrep : twice = true → IsT (wrapT l (repN 2 2)) y := fun hb => by
    obtain ⟨h1, h2⟩ := htwice.1 hb
    obtain ⟨_, _, h3⟩ := (is_take hfy).1 h1
    obtain ⟨_, _, h4⟩ := (is_drop hfy).1 h2
    exact ⟨wrap_right hRl (by omega) (repN_shaped _ (by decide) (by decide)), wrap_noref hNl (by simp [repN]), (rep_den y hRl rfl _ _).2 ⟨2, by simp [repN], by simp [repN], f, h3, y.length, h4, rfl⟩⟩
  have halt : IsT (pairT 4 l m) y ↔ IsT l y ∨ IsT m y := by
    unfold IsT
    rw [alt_den y hRl hRm]
    have a1 := pair_right (op := 4) (.inr rfl) hRl hRm (by omega)
    have a2 := pair_noref (op := 4) (by decide) hNl hNm
    simp [hRl, hNl, hRm, hNm, a1, a2]
  have hstar : IsT (wrapT l (repN 0 (-1))) [] :=
    ⟨wrap_right hRl (by omega) (repN_shaped _ (by decide) (by decide)), wrap_noref hNl (by simp [repN]), (rep_den [] hRl rfl _ _).2 ⟨0, by simp [repN], by simp [repN], rfl⟩⟩
  cases both with
  | true =>
    cases twice with
    | true =>
      simp only [J8, hdC, tls, tlC, a8, zz, env0, aPure, aRead, aNew, aEff, aval, avals, aparts, aopt, wantedA, binA, isShift, binI, fillA, single, aRes, splice, mkv, unA, binS, sameAt, reduceCtorEq, reduceIte, Int.reduceEq, Int.reduceLT, Int.reduceLE, Int.reduceNe, Nat.reduceEqDiff, Nat.reduceLT, Nat.reduceAdd, Nat.reduceMul, Nat.reduceSub, Nat.reduceLeDiff, Int.reduceBEq, Int.reduceBNe, Nat.reduceBEq, Nat.reduceBNe, Int.reduceToNat]
      refine pair_spec 3 ⟨by decide, by decide⟩ _ _ _ l m (Rows.keeps NdP.mono hk7 hl) (Rows.keeps NdP.mono hk7 hm) (by omega) (by omega) hkm _ ?_
      intro vp Hp hkp hNp
      simp only [zz, env0, aPure, aRead, aNew, aEff, aval, avals, aparts, aopt, wantedA, binA, isShift, binI, fillA, single, aRes, splice, mkv, unA, binS, sameAt, reduceCtorEq, reduceIte, Int.reduceEq, Int.reduceLT, Int.reduceLE, Int.reduceNe, Nat.reduceEqDiff, Nat.reduceLT, Nat.reduceAdd, Nat.reduceMul, Nat.reduceSub, Nat.reduceLeDiff, Int.reduceBEq, Int.reduceBNe, Nat.reduceBEq, Nat.reduceBNe, Int.reduceToNat]
      refine Is_spec _ _ _ y hNp (hpl 3) hyy _ ?_
      intro bq Hq hkq hbq
      have := hbq.2 (hcat rfl)
      subst this
      have hkA := (hk7).trans (hkp.trans hkq)
      simp only [zz, env0, aPure, aRead, aNew, aEff, aval, avals, aparts, aopt, wantedA, binA, isShift, binI, fillA, single, aRes, splice, mkv, unA, binS, sameAt, reduceCtorEq, reduceIte, Int.reduceEq, Int.reduceLT, Int.reduceLE, Int.reduceNe, Nat.reduceEqDiff, Nat.reduceLT, Nat.reduceAdd, Nat.reduceMul, Nat.reduceSub, Nat.reduceLeDiff, Int.reduceBEq, Int.reduceBNe, Nat.reduceBEq, Nat.reduceBNe, Int.reduceToNat]
      refine wrap_spec _ _ .nilsl l (repN 2 2) (Rows.keeps NdP.mono hkA hl) (by omega) (repN_ok (by simp [i64In]) (by simp [i64In])) Rows.nil _ ?_
      intro vw Hw hkw hNw
      simp only [zz, env0, aPure, aRead, aNew, aEff, aval, avals, aparts, aopt, wantedA, binA, isShift, binI, fillA, single, aRes, splice, mkv, unA, binS, sameAt, reduceCtorEq, reduceIte, Int.reduceEq, Int.reduceLT, Int.reduceLE, Int.reduceNe, Nat.reduceEqDiff, Nat.reduceLT, Nat.reduceAdd, Nat.reduceMul, Nat.reduceSub, Nat.reduceLeDiff, Int.reduceBEq, Int.reduceBNe, Nat.reduceBEq, Nat.reduceBNe, Int.reduceToNat]
      refine Is_spec _ _ _ y hNw (hwl' _) hyy _ ?_
      intro br Hr hkr hbr
      have := hbr.2 (hrep rfl)
      subst this
      have hkB := (hkA).trans (hkw.trans hkr)
      simp only [zz, env0, aPure, aRead, aNew, aEff, aval, avals, aparts, aopt, wantedA, binA, isShift, binI, fillA, single, aRes, splice, mkv, unA, binS, sameAt, reduceCtorEq, reduceIte, Int.reduceEq, Int.reduceLT, Int.reduceLE, Int.reduceNe, Nat.reduceEqDiff, Nat.reduceLT, Nat.reduceAdd, Nat.reduceMul, Nat.reduceSub, Nat.reduceLeDiff, Int.reduceBEq, Int.reduceBNe, Nat.reduceBEq, Nat.reduceBNe, Int.reduceToNat]
      refine pair_spec 4 ⟨by decide, by decide⟩ _ _ _ l m (Rows.keeps NdP.mono hkB hl) (Rows.keeps NdP.mono hkB hm) (by omega) (by omega) hkm _ ?_
      intro vs Hs hks hNs
      simp only [zz, env0, aPure, aRead, aNew, aEff, aval, avals, aparts, aopt, wantedA, binA, isShift, binI, fillA, single, aRes, splice, mkv, unA, binS, sameAt, reduceCtorEq, reduceIte, Int.reduceEq, Int.reduceLT, Int.reduceLE, Int.reduceNe, Nat.reduceEqDiff, Nat.reduceLT, Nat.reduceAdd, Nat.reduceMul, Nat.reduceSub, Nat.reduceLeDiff, Int.reduceBEq, Int.reduceBNe, Nat.reduceBEq, Nat.reduceBNe, Int.reduceToNat]
      refine Is_spec _ _ _ y hNs (hpl 4) hyy _ ?_
      intro bt Ht hkt hbt
      have e4 := is_bool hbt hany halt
      have hkC := (hkB).trans (hks.trans hkt)
      simp only [e4, zz, env0, aPure, aRead, aNew, aEff, aval, avals, aparts, aopt, wantedA, binA, isShift, binI, fillA, single, aRes, splice, mkv, unA, binS, sameAt, reduceCtorEq, reduceIte, Int.reduceEq, Int.reduceLT, Int.reduceLE, Int.reduceNe, Nat.reduceEqDiff, Nat.reduceLT, Nat.reduceAdd, Nat.reduceMul, Nat.reduceSub, Nat.reduceLeDiff, Int.reduceBEq, Int.reduceBNe, Nat.reduceBEq, Nat.reduceBNe, Int.reduceToNat]
      refine wrap_spec _ _ .nilsl l (repN 0 (-1)) (Rows.keeps NdP.mono hkC hl) (by omega) (repN_ok (by simp [i64In]) (by simp [i64In])) Rows.nil _ ?_
      intro vu Hu hku hNu
      simp only [zz, env0, aPure, aRead, aNew, aEff, aval, avals, aparts, aopt, wantedA, binA, isShift, binI, fillA, single, aRes, splice, mkv, unA, binS, sameAt, reduceCtorEq, reduceIte, Int.reduceEq, Int.reduceLT, Int.reduceLE, Int.reduceNe, Nat.reduceEqDiff, Nat.reduceLT, Nat.reduceAdd, Nat.reduceMul, Nat.reduceSub, Nat.reduceLeDiff, Int.reduceBEq, Int.reduceBNe, Nat.reduceBEq, Nat.reduceBNe, Int.reduceToNat]
      refine Is_spec _ _ _ [] hNu (hwl' _) (by simp) _ ?_
      intro bv Hv hkv hbv
      have := hbv.2 hstar
      subst this
      simp only [zz, env0, aPure, aRead, aNew, aEff, aval, avals, aparts, aopt, wantedA, binA, isShift, binI, fillA, single, aRes, splice, mkv, unA, binS, sameAt, reduceCtorEq, reduceIte, Int.reduceEq, Int.reduceLT, Int.reduceLE, Int.reduceNe, Nat.reduceEqDiff, Nat.reduceLT, Nat.reduceAdd, Nat.reduceMul, Nat.reduceSub, Nat.reduceLeDiff, Int.reduceBEq, Int.reduceBNe, Nat.reduceBEq, Nat.reduceBNe, Int.reduceToNat]
    | false =>
      simp only [J8, hdC, tls, tlC, a8, zz, env0, aPure, aRead, aNew, aEff, aval, avals, aparts, aopt, wantedA, binA, isShift, binI, fillA, single, aRes, splice, mkv, unA, binS, sameAt, reduceCtorEq, reduceIte, Int.reduceEq, Int.reduceLT, Int.reduceLE, Int.reduceNe, Nat.reduceEqDiff, Nat.reduceLT, Nat.reduceAdd, Nat.reduceMul, Nat.reduceSub, Nat.reduceLeDiff, Int.reduceBEq, Int.reduceBNe, Nat.reduceBEq, Nat.reduceBNe, Int.reduceToNat]
      refine pair_spec 3 ⟨by decide, by decide⟩ _ _ _ l m (Rows.keeps NdP.mono hk7 hl) (Rows.keeps NdP.mono hk7 hm) (by omega) (by omega) hkm _ ?_
      intro vp Hp hkp hNp
      simp only [zz, env0, aPure, aRead, aNew, aEff, aval, avals, aparts, aopt, wantedA, binA, isShift, binI, fillA, single, aRes, splice, mkv, unA, binS, sameAt, reduceCtorEq, reduceIte, Int.reduceEq, Int.reduceLT, Int.reduceLE, Int.reduceNe, Nat.reduceEqDiff, Nat.reduceLT, Nat.reduceAdd, Nat.reduceMul, Nat.reduceSub, Nat.reduceLeDiff, Int.reduceBEq, Int.reduceBNe, Nat.reduceBEq, Nat.reduceBNe, Int.reduceToNat]
      refine Is_spec _ _ _ y hNp (hpl 3) hyy _ ?_
      intro bq Hq hkq hbq
      have := hbq.2 (hcat rfl)
      subst this
      have hkA := (hk7).trans (hkp.trans hkq)
      simp only [zz, env0, aPure, aRead, aNew, aEff, aval, avals, aparts, aopt, wantedA, binA, isShift, binI, fillA, single, aRes, splice, mkv, unA, binS, sameAt, reduceCtorEq, reduceIte, Int.reduceEq, Int.reduceLT, Int.reduceLE, Int.reduceNe, Nat.reduceEqDiff, Nat.reduceLT, Nat.reduceAdd, Nat.reduceMul, Nat.reduceSub, Nat.reduceLeDiff, Int.reduceBEq, Int.reduceBNe, Nat.reduceBEq, Nat.reduceBNe, Int.reduceToNat]
      refine pair_spec 4 ⟨by decide, by decide⟩ _ _ _ l m (Rows.keeps NdP.mono hkA hl) (Rows.keeps NdP.mono hkA hm) (by omega) (by omega) hkm _ ?_
      intro vs Hs hks hNs
      simp only [zz, env0, aPure, aRead, aNew, aEff, aval, avals, aparts, aopt, wantedA, binA, isShift, binI, fillA, single, aRes, splice, mkv, unA, binS, sameAt, reduceCtorEq, reduceIte, Int.reduceEq, Int.reduceLT, Int.reduceLE, Int.reduceNe, Nat.reduceEqDiff, Nat.reduceLT, Nat.reduceAdd, Nat.reduceMul, Nat.reduceSub, Nat.reduceLeDiff, Int.reduceBEq, Int.reduceBNe, Nat.reduceBEq, Nat.reduceBNe, Int.reduceToNat]
      refine Is_spec _ _ _ y hNs (hpl 4) hyy _ ?_
      intro bt Ht hkt hbt
      have e4 := is_bool hbt hany halt
      have hkC := (hkA).trans (hks.trans hkt)
      simp only [e4, zz, env0, aPure, aRead, aNew, aEff, aval, avals, aparts, aopt, wantedA, binA, isShift, binI, fillA, single, aRes, splice, mkv, unA, binS, sameAt, reduceCtorEq, reduceIte, Int.reduceEq, Int.reduceLT, Int.reduceLE, Int.reduceNe, Nat.reduceEqDiff, Nat.reduceLT, Nat.reduceAdd, Nat.reduceMul, Nat.reduceSub, Nat.reduceLeDiff, Int.reduceBEq, Int.reduceBNe, Nat.reduceBEq, Nat.reduceBNe, Int.reduceToNat]
      refine wrap_spec _ _ .nilsl l (repN 0 (-1)) (Rows.keeps NdP.mono hkC hl) (by omega) (repN_ok (by simp [i64In]) (by simp [i64In])) Rows.nil _ ?_
      intro vu Hu hku hNu
      simp only [zz, env0, aPure, aRead, aNew, aEff, aval, avals, aparts, aopt, wantedA, binA, isShift, binI, fillA, single, aRes, splice, mkv, unA, binS, sameAt, reduceCtorEq, reduceIte, Int.reduceEq, Int.reduceLT, Int.reduceLE, Int.reduceNe, Nat.reduceEqDiff, Nat.reduceLT, Nat.reduceAdd, Nat.reduceMul, Nat.reduceSub, Nat.reduceLeDiff, Int.reduceBEq, Int.reduceBNe, Nat.reduceBEq, Nat.reduceBNe, Int.reduceToNat]
      refine Is_spec _ _ _ [] hNu (hwl' _) (by simp) _ ?_
      intro bv Hv hkv hbv
      have := hbv.2 hstar
      subst this
      simp only [zz, env0, aPure, aRead, aNew, aEff, aval, avals, aparts, aopt, wantedA, binA, isShift, binI, fillA, single, aRes, splice, mkv, unA, binS, sameAt, reduceCtorEq, reduceIte, Int.reduceEq, Int.reduceLT, Int.reduceLE, Int.reduceNe, Nat.reduceEqDiff, Nat.reduceLT, Nat.reduceAdd, Nat.reduceMul, Nat.reduceSub, Nat.reduceLeDiff, Int.reduceBEq, Int.reduceBNe, Nat.reduceBEq, Nat.reduceBNe, Int.reduceToNat]
  | false =>
    cases twice with
    | true =>
      simp only [J8, hdC, tls, tlC, a8, zz, env0, aPure, aRead, aNew, aEff, aval, avals, aparts, aopt, wantedA, binA, isShift, binI, fillA, single, aRes, splice, mkv, unA, binS, sameAt, reduceCtorEq, reduceIte, Int.reduceEq, Int.reduceLT, Int.reduceLE, Int.reduceNe, Nat.reduceEqDiff, Nat.reduceLT, Nat.reduceAdd, Nat.reduceMul, Nat.reduceSub, Nat.reduceLeDiff, Int.reduceBEq, Int.reduceBNe, Nat.reduceBEq, Nat.reduceBNe, Int.reduceToNat]
      refine wrap_spec _ _ .nilsl l (repN 2 2) (Rows.keeps NdP.mono hk7 hl) (by omega) (repN_ok (by simp [i64In]) (by simp [i64In])) Rows.nil _ ?_
      intro vw Hw hkw hNw
      simp only [zz, env0, aPure, aRead, aNew, aEff, aval, avals, aparts, aopt, wantedA, binA, isShift, binI, fillA, single, aRes, splice, mkv, unA, binS, sameAt, reduceCtorEq, reduceIte, Int.reduceEq, Int.reduceLT, Int.reduceLE, Int.reduceNe, Nat.reduceEqDiff, Nat.reduceLT, Nat.reduceAdd, Nat.reduceMul, Nat.reduceSub, Nat.reduceLeDiff, Int.reduceBEq, Int.reduceBNe, Nat.reduceBEq, Nat.reduceBNe, Int.reduceToNat]
      refine Is_spec _ _ _ y hNw (hwl' _) hyy _ ?_
      intro br Hr hkr hbr
      have := hbr.2 (hrep rfl)
      subst this
      have hkB := (hk7).trans (hkw.trans hkr)
      simp only [zz, env0, aPure, aRead, aNew, aEff, aval, avals, aparts, aopt, wantedA, binA, isShift, binI, fillA, single, aRes, splice, mkv, unA, binS, sameAt, reduceCtorEq, reduceIte, Int.reduceEq, Int.reduceLT, Int.reduceLE, Int.reduceNe, Nat.reduceEqDiff, Nat.reduceLT, Nat.reduceAdd, Nat.reduceMul, Nat.reduceSub, Nat.reduceLeDiff, Int.reduceBEq, Int.reduceBNe, Nat.reduceBEq, Nat.reduceBNe, Int.reduceToNat]
      refine pair_spec 4 ⟨by decide, by decide⟩ _ _ _ l m (Rows.keeps NdP.mono hkB hl) (Rows.keeps NdP.mono hkB hm) (by omega) (by omega) hkm _ ?_
      intro vs Hs hks hNs
      simp only [zz, env0, aPure, aRead, aNew, aEff, aval, avals, aparts, aopt, wantedA, binA, isShift, binI, fillA, single, aRes, splice, mkv, unA, binS, sameAt, reduceCtorEq, reduceIte, Int.reduceEq, Int.reduceLT, Int.reduceLE, Int.reduceNe, Nat.reduceEqDiff, Nat.reduceLT, Nat.reduceAdd, Nat.reduceMul, Nat.reduceSub, Nat.reduceLeDiff, Int.reduceBEq, Int.reduceBNe, Nat.reduceBEq, Nat.reduceBNe, Int.reduceToNat]
      refine Is_spec _ _ _ y hNs (hpl 4) hyy _ ?_
      intro bt Ht hkt hbt
      have e4 := is_bool hbt hany halt
      have hkC := (hkB).trans (hks.trans hkt)
      simp only [e4, zz, env0, aPure, aRead, aNew, aEff, aval, avals, aparts, aopt, wantedA, binA, isShift, binI, fillA, single, aRes, splice, mkv, unA, binS, sameAt, reduceCtorEq, reduceIte, Int.reduceEq, Int.reduceLT, Int.reduceLE, Int.reduceNe, Nat.reduceEqDiff, Nat.reduceLT, Nat.reduceAdd, Nat.reduceMul, Nat.reduceSub, Nat.reduceLeDiff, Int.reduceBEq, Int.reduceBNe, Nat.reduceBEq, Nat.reduceBNe, Int.reduceToNat]
      refine wrap_spec _ _ .nilsl l (repN 0 (-1)) (Rows.keeps NdP.mono hkC hl) (by omega) (repN_ok (by simp [i64In]) (by simp [i64In])) Rows.nil _ ?_
      intro vu Hu hku hNu
      simp only [zz, env0, aPure, aRead, aNew, aEff, aval, avals, aparts, aopt, wantedA, binA, isShift, binI, fillA, single, aRes, splice, mkv, unA, binS, sameAt, reduceCtorEq, reduceIte, Int.reduceEq, Int.reduceLT, Int.reduceLE, Int.reduceNe, Nat.reduceEqDiff, Nat.reduceLT, Nat.reduceAdd, Nat.reduceMul, Nat.reduceSub, Nat.reduceLeDiff, Int.reduceBEq, Int.reduceBNe, Nat.reduceBEq, Nat.reduceBNe, Int.reduceToNat]
      refine Is_spec _ _ _ [] hNu (hwl' _) (by simp) _ ?_
      intro bv Hv hkv hbv
      have := hbv.2 hstar
      subst this
      simp only [zz, env0, aPure, aRead, aNew, aEff, aval, avals, aparts, aopt, wantedA, binA, isShift, binI, fillA, single, aRes, splice, mkv, unA, binS, sameAt, reduceCtorEq, reduceIte, Int.reduceEq, Int.reduceLT, Int.reduceLE, Int.reduceNe, Nat.reduceEqDiff, Nat.reduceLT, Nat.reduceAdd, Nat.reduceMul, Nat.reduceSub, Nat.reduceLeDiff, Int.reduceBEq, Int.reduceBNe, Nat.reduceBEq, Nat.reduceBNe, Int.reduceToNat]
    | false =>
      simp only [J8, hdC, tls, tlC, a8, zz, env0, aPure, aRead, aNew, aEff, aval, avals, aparts, aopt, wantedA, binA, isShift, binI, fillA, single, aRes, splice, mkv, unA, binS, sameAt, reduceCtorEq, reduceIte, Int.reduceEq, Int.reduceLT, Int.reduceLE, Int.reduceNe, Nat.reduceEqDiff, Nat.reduceLT, Nat.reduceAdd, Nat.reduceMul, Nat.reduceSub, Nat.reduceLeDiff, Int.reduceBEq, Int.reduceBNe, Nat.reduceBEq, Nat.reduceBNe, Int.reduceToNat]
      refine pair_spec 4 ⟨by decide, by decide⟩ _ _ _ l m (Rows.keeps NdP.mono hk7 hl) (Rows.keeps NdP.mono hk7 hm) (by omega) (by omega) hkm _ ?_
      intro vs Hs hks hNs
      simp only [zz, env0, aPure, aRead, aNew, aEff, aval, avals, aparts, aopt, wantedA, binA, isShift, binI, fillA, single, aRes, splice, mkv, unA, binS, sameAt, reduceCtorEq, reduceIte, Int.reduceEq, Int.reduceLT, Int.reduceLE, Int.reduceNe, Nat.reduceEqDiff, Nat.reduceLT, Nat.reduceAdd, Nat.reduceMul, Nat.reduceSub, Nat.reduceLeDiff, Int.reduceBEq, Int.reduceBNe, Nat.reduceBEq, Nat.reduceBNe, Int.reduceToNat]
      refine Is_spec _ _ _ y hNs (hpl 4) hyy _ ?_
      intro bt Ht hkt hbt
      have e4 := is_bool hbt hany halt
      have hkC := (hk7).trans (hks.trans hkt)
      simp only [e4, zz, env0, aPure, aRead, aNew, aEff, aval, avals, aparts, aopt, wantedA, binA, isShift, binI, fillA, single, aRes, splice, mkv, unA, binS, sameAt, reduceCtorEq, reduceIte, Int.reduceEq, Int.reduceLT, Int.reduceLE, Int.reduceNe, Nat.reduceEqDiff, Nat.reduceLT, Nat.reduceAdd, Nat.reduceMul, Nat.reduceSub, Nat.reduceLeDiff, Int.reduceBEq, Int.reduceBNe, Nat.reduceBEq, Nat.reduceBNe, Int.reduceToNat]
      refine wrap_spec _ _ .nilsl l (repN 0 (-1)) (Rows.keeps NdP.mono hkC hl) (by omega) (repN_ok (by simp [i64In]) (by simp [i64In])) Rows.nil _ ?_
      intro vu Hu hku hNu
      simp only [zz, env0, aPure, aRead, aNew, aEff, aval, avals, aparts, aopt, wantedA, binA, isShift, binI, fillA, single, aRes, splice, mkv, unA, binS, sameAt, reduceCtorEq, reduceIte, Int.reduceEq, Int.reduceLT, Int.reduceLE, Int.reduceNe, Nat.reduceEqDiff, Nat.reduceLT, Nat.reduceAdd, Nat.reduceMul, Nat.reduceSub, Nat.reduceLeDiff, Int.reduceBEq, Int.reduceBNe, Nat.reduceBEq, Nat.reduceBNe, Int.reduceToNat]
      refine Is_spec _ _ _ [] hNu (hwl' _) (by simp) _ ?_
      intro bv Hv hkv hbv
      have := hbv.2 hstar
      subst this
      simp only [zz, env0, aPure, aRead, aNew, aEff, aval, avals, aparts, aopt, wantedA, binA, isShift, binI, fillA, single, aRes, splice, mkv, unA, binS, sameAt, reduceCtorEq, reduceIte, Int.reduceEq, Int.reduceLT, Int.reduceLE, Int.reduceNe, Nat.reduceEqDiff, Nat.reduceLT, Nat.reduceAdd, Nat.reduceMul, Nat.reduceSub, Nat.reduceLeDiff, Int.reduceBEq, Int.reduceBNe, Nat.reduceBEq, Nat.reduceBNe, Int.reduceToNat]
end Go.Proofs.Ytnblhjpbpobglaa

/- LangRows: the law's run. -/
set_option maxRecDepth 100000
set_option linter.unusedSimpArgs false
namespace Go.Proofs.Ytnblhjpbpobglaa
open Go.Am

theorem bls_set {H : AHeap} {b i N : Nat} {C : List Bool} (h : WR H b 1 (.sl i 0 N) N (bls C)) (hC : C.length = N) {k : Nat} (hk : k < N) (x : Bool) :
    ∃ H', storeA H i k [.bool x] = some H' ∧ WR H' b 1 (.sl i 0 N) N (bls (C.set k x)) ∧ Else H H' (some i) := by
  obtain ⟨i4, q4, e4, H4, hs4, hw4, he4, _⟩ := h.store (k := k) (vs := [.bool x]) (by simp; omega) (by omega) rfl
  simp only [AV.sl.injEq] at e4
  obtain ⟨rfl, rfl, _⟩ := e4
  rw [Nat.zero_add] at hs4
  rw [splice_bls _ _ _ (by omega)] at hw4
  exact ⟨H4, hs4, hw4, he4⟩
theorem set_true {C : List Bool} {k : Nat} (hk : k < C.length) (j : Nat) : (C.set k true)[j]? = some true ↔ C[j]? = some true ∨ j = k := by
  rw [List.getElem?_set]
  by_cases e : k = j
  · rw [if_pos e, if_pos hk]; simp [e]
  · rw [if_neg e]
    constructor
    · exact Or.inl
    · rintro (h | h)
      · exact h
      · exact absurd h.symm e
theorem mem_take_succ {ms : List Nat} {t x : Nat} (hx : ms[t]? = some x) (i : Nat) : i ∈ ms.take (t + 1) ↔ i ∈ ms.take t ∨ i = x := by
  have ht : t < ms.length := by
    rcases Nat.lt_or_ge t ms.length with h | h
    · exact h
    · rw [List.getElem?_eq_none h] at hx; simp at hx
  rw [List.take_succ_eq_append_getElem ht, List.mem_append]
  rw [List.getElem?_eq_getElem ht] at hx
  simp only [Option.some.injEq] at hx
  simp [hx]
theorem ends_trues {l : List Nd} {w : List UInt8} {f : Int} {p : List Nat} {C : List Bool} (hp : EndsL l w f p) (h : ∀ j, C[j]? = some true ↔ RightT l ∧ NoRef l ∧ 0 ≤ f ∧ f ≤ w.length ∧ den l w (l.length - 1) f.toNat j) : p = trues C :=
  sorted_ext hp.1.1 (trues_sorted C) (fun x => by rw [hp.2 x, trues_mem, h x])

/-- All blocks but two. -/
def KX (ic ia : Nat) (H H' : AHeap) : Prop := H.length ≤ H'.length ∧ ∀ k b, k ≠ ic → k ≠ ia → getB H k = some b → getB H' k = some b
theorem KX.refl (ic ia : Nat) (H : AHeap) : KX ic ia H H := ⟨Nat.le_refl _, fun _ _ _ _ h => h⟩
theorem KX.kp {ic ia : Nat} {H H1 H2 : AHeap} (h : KX ic ia H H1) (k : Keeps H1 H2) : KX ic ia H H2 := ⟨Nat.le_trans h.1 k.1, fun i b h1 h2 h3 => k.2 i b (h.2 i b h1 h2 h3)⟩
theorem KX.e1 {ic ia : Nat} {H H1 H2 : AHeap} (h : KX ic ia H H1) (k : Else H1 H2 (some ic)) : KX ic ia H H2 :=
  ⟨Nat.le_trans h.1 k.1, fun i b h1 h2 h3 => k.2 i b (fun e => h1 (by simpa using e.symm)) (h.2 i b h1 h2 h3)⟩
theorem KX.e2 {ic ia : Nat} {H H1 H2 : AHeap} (h : KX ic ia H H1) (k : Else H1 H2 (some ia)) : KX ic ia H H2 :=
  ⟨Nat.le_trans h.1 k.1, fun i b h1 h2 h3 => k.2 i b (fun e => h2 (by simpa using e.symm)) (h.2 i b h1 h2 h3)⟩
theorem KX.base {ic ia : Nat} {H0 H H1 : AHeap} (k : Keeps H0 H) (h : KX ic ia H H1) (h1 : H0.length ≤ ic) (h2 : H0.length ≤ ia) : Keeps H0 H1 :=
  ⟨Nat.le_trans k.1 h.1, fun i b hb => h.2 i b (by have := gb_lt hb; omega) (by have := gb_lt hb; omega) (k.2 i b hb)⟩
/-- Another block is written: numbers stay. -/
theorem ints_e {H H' : AHeap} {v : AV} {xs : List Int} {i : Nat} (h : Ints H v xs) (hk : Else H H' (some i)) (hi : ∀ j, avId v = some j → j ≠ i) : Ints H' v xs :=
  ints_else h (fun j b hj hb => hk.2 j b (fun e => hi j hj (by simpa using e.symm)) hb)
theorem wr_e {H H' : AHeap} {b sz n i : Nat} {v : AV} {cs : List AV} (h : WR H b sz v n cs) (hk : Else H H' (some i)) (hi : ∀ j, avId v = some j → j ≠ i) : WR H' b sz v n cs :=
  h.keep (fun j q hj hq => hk.2 j q (fun e => hi j hj (by simpa using e.symm)) hq)

theorem rows_run (H : AHeap) (va vb : AV) (l m : List Nd) (w : List UInt8) (at' : Int) (hl : Nds H va l) (hm : Nds H vb m) (hll : l.length ≤ maxLen) (hml : m.length ≤ maxLen) (hwl : w.length ≤ maxLen) (ha : 0 ≤ at' ∧ at' ≤ 255) :
    WF P0 3 [va, vb, .str w, .int .u8 at'] H (fun r _ => r = .bool true) := by
  have hmx : maxLen = 9223372036854775807 := rfl
  refine zWF rfl rfl rfl ?_
  simp only [a3, zz, env0, aPure, aRead, aNew, aEff, aval, avals, aparts, aopt, wantedA, binA, isShift, binI, fillA, single, aRes, splice, mkv, unA, binS, sameAt, reduceCtorEq, reduceIte, Int.reduceEq, Int.reduceLT, Int.reduceLE, Int.reduceNe, Nat.reduceEqDiff, Nat.reduceLT, Nat.reduceAdd, Nat.reduceMul, Nat.reduceSub, Nat.reduceLeDiff, Int.reduceBEq, Int.reduceBNe, Nat.reduceBEq, Nat.reduceBNe, Int.reduceToNat]
  refine shown_sp _ _ ?_
  simp only [zz, env0, aPure, aRead, aNew, aEff, aval, avals, aparts, aopt, wantedA, binA, isShift, binI, fillA, single, aRes, splice, mkv, unA, binS, sameAt, reduceCtorEq, reduceIte, Int.reduceEq, Int.reduceLT, Int.reduceLE, Int.reduceNe, Nat.reduceEqDiff, Nat.reduceLT, Nat.reduceAdd, Nat.reduceMul, Nat.reduceSub, Nat.reduceLeDiff, Int.reduceBEq, Int.reduceBNe, Nat.reduceBEq, Nat.reduceBNe, Int.reduceToNat]
  refine text_spec _ _ _ (by omega) ?_
  generalize hy : w.take 20 = y
  have hyl : y.length ≤ 20 := by rw [← hy, List.length_take]; omega
  obtain ⟨f, hf⟩ : ∃ f : Nat, f = at'.toNat % (y.length + 1) := ⟨_, rfl⟩
  have hfy : f ≤ y.length := by rw [hf]; have := Nat.mod_lt at'.toNat (show 0 < y.length + 1 by omega); omega
  have c1 : IntKind.i64.wrap at' = at' := wrap_i64 (by omega) (by omega)
  have c2 : IntKind.i64.wrap ((y.length : Int) + 1) = ((y.length + 1 : Nat) : Int) := by rw [wrap_i64 (by omega) (by omega)]; rfl
  have c3 : at'.tmod ((y.length + 1 : Nat) : Int) = (f : Int) := by
    rw [hf]
    have : at' = (at'.toNat : Int) := by omega
    rw [this]; rfl
  have c4 : ((((y.length + 1 : Nat) : Int)) = 0) = False := by simp; omega
  simp only [c1, c2, c3, c4, zz, env0, aPure, aRead, aNew, aEff, aval, avals, aparts, aopt, wantedA, binA, isShift, binI, fillA, single, aRes, splice, mkv, unA, binS, sameAt, reduceCtorEq, reduceIte, Int.reduceEq, Int.reduceLT, Int.reduceLE, Int.reduceNe, Nat.reduceEqDiff, Nat.reduceLT, Nat.reduceAdd, Nat.reduceMul, Nat.reduceSub, Nat.reduceLeDiff, Int.reduceBEq, Int.reduceBNe, Nat.reduceBEq, Nat.reduceBNe, Int.reduceToNat]
  refine good_spec _ _ l hl (by omega) _ ?_
  intro b1 H1 hk1 hb1
  cases b1 with
  | false => simp only [zz, env0, aPure, aRead, aNew, aEff, aval, avals, aparts, aopt, wantedA, binA, isShift, binI, fillA, single, aRes, splice, mkv, unA, binS, sameAt, reduceCtorEq, reduceIte, Int.reduceEq, Int.reduceLT, Int.reduceLE, Int.reduceNe, Nat.reduceEqDiff, Nat.reduceLT, Nat.reduceAdd, Nat.reduceMul, Nat.reduceSub, Nat.reduceLeDiff, Int.reduceBEq, Int.reduceBNe, Nat.reduceBEq, Nat.reduceBNe, Int.reduceToNat]
  | true =>
  obtain ⟨hl30, hRl, hNl⟩ := hb1 rfl
  simp only [zz, env0, aPure, aRead, aNew, aEff, aval, avals, aparts, aopt, wantedA, binA, isShift, binI, fillA, single, aRes, splice, mkv, unA, binS, sameAt, reduceCtorEq, reduceIte, Int.reduceEq, Int.reduceLT, Int.reduceLE, Int.reduceNe, Nat.reduceEqDiff, Nat.reduceLT, Nat.reduceAdd, Nat.reduceMul, Nat.reduceSub, Nat.reduceLeDiff, Int.reduceBEq, Int.reduceBNe, Nat.reduceBEq, Nat.reduceBNe, Int.reduceToNat]
  refine good_spec _ _ m (Rows.keeps NdP.mono hk1 hm) (by omega) _ ?_
  intro b2 H2 hk2 hb2
  cases b2 with
  | false => simp only [zz, env0, aPure, aRead, aNew, aEff, aval, avals, aparts, aopt, wantedA, binA, isShift, binI, fillA, single, aRes, splice, mkv, unA, binS, sameAt, reduceCtorEq, reduceIte, Int.reduceEq, Int.reduceLT, Int.reduceLE, Int.reduceNe, Nat.reduceEqDiff, Nat.reduceLT, Nat.reduceAdd, Nat.reduceMul, Nat.reduceSub, Nat.reduceLeDiff, Int.reduceBEq, Int.reduceBNe, Nat.reduceBEq, Nat.reduceBNe, Int.reduceToNat]
  | true =>
  obtain ⟨hm30, hRm, hNm⟩ := hb2 rfl
  have hk12 := hk1.trans hk2
  have hmk1 : (0 : Int) ≤ ((y.length + 1 : Nat) : Int) := by omega
  have hmk3 : ((y.length + 1 : Nat) : Int) ≤ 1152921504606846976 := by omega
  have hmk4 : ((y.length + 1 : Nat) : Int) ≤ ((maxRoom : Nat) : Int) := by simp only [maxRoom]; omega
  simp only [c2, hmk1, hmk3, Int.natCast_one, Int.mul_one, hmk4, zz, env0, aPure, aRead, aNew, aEff, aval, avals, aparts, aopt, wantedA, binA, isShift, binI, fillA, single, aRes, splice, mkv, unA, binS, sameAt, reduceCtorEq, reduceIte, Int.reduceEq, Int.reduceLT, Int.reduceLE, Int.reduceNe, Nat.reduceEqDiff, Nat.reduceLT, Nat.reduceAdd, Nat.reduceMul, Nat.reduceSub, Nat.reduceLeDiff, Int.reduceBEq, Int.reduceBNe, Nat.reduceBEq, Nat.reduceBNe, Int.reduceToNat]
  generalize hia : (H2 ++ [some (Blk.cells 1 true (rows (y.length + 1) [.bool false]))]).length = ia
  generalize hH3 : H2 ++ [some (Blk.cells 1 true (rows (y.length + 1) [.bool false]))] ++ [some (Blk.cells 1 true (rows (y.length + 1) [.bool false]))] = H3
  have hiv : ia = H2.length + 1 := by rw [← hia]; simp
  have hk3 : Keeps H2 H3 := by rw [← hH3]; exact .p2 _ _ _
  have hwc : WR H3 H2.length 1 (.sl H2.length 0 (y.length + 1)) (y.length + 1) (bls (List.replicate (y.length + 1) false)) := by
    rw [← rows_bls, ← hH3]
    exact (WR.new H2 1 (y.length + 1) _ (by rw [rows_bls]; simp) (Nat.le_refl _)).keeps (.p1 _ _)
  have hwa : WR H3 H2.length 1 (.sl ia 0 (y.length + 1)) (y.length + 1) (bls (List.replicate (y.length + 1) false)) := by
    rw [← rows_bls, ← hH3, ← hia]
    exact WR.new _ 1 (y.length + 1) _ (by rw [rows_bls]; simp) (by simp)
  have hk23 := hk12.trans hk3
  generalize hic : H2.length = ic at hwc
  rw [hic] at hwa hiv
  have hH3l : H3.length = ic + 2 := by rw [← hH3]; simp [hic]
  have hN1 : 1 ≤ y.length + 1 := by omega
  refine Ends_fresh _ _ l y f (Rows.keeps NdP.mono hk23 hl) (by omega) (by omega) _ ?_
  intro v4 H4 ms hk4 hi4 hE4 hfr4
  have hlo4 := hi4.lenOf
  rw [nts_len] at hlo4
  have hlms := hE4.1.len
  simp only [hlo4, zz, env0, aPure, aRead, aNew, aEff, aval, avals, aparts, aopt, wantedA, binA, isShift, binI, fillA, single, aRes, splice, mkv, unA, binS, sameAt, reduceCtorEq, reduceIte, Int.reduceEq, Int.reduceLT, Int.reduceLE, Int.reduceNe, Nat.reduceEqDiff, Nat.reduceLT, Nat.reduceAdd, Nat.reduceMul, Nat.reduceSub, Nat.reduceLeDiff, Int.reduceBEq, Int.reduceBNe, Nat.reduceBEq, Nat.reduceBNe, Int.reduceToNat]
  -- the first list
  refine WC.mono (K := fun e env H' => e = .exit 0 ∧ ∃ (A C : List Bool) (a10 a11 a16 a17 a18 a19 a20 a21 a22 a23 : AV), KX ic ia H3 H' ∧ A.length = y.length + 1 ∧ C.length = y.length + 1 ∧
      WR H' ic 1 (.sl ic 0 (y.length + 1)) (y.length + 1) (bls C) ∧ WR H' ic 1 (.sl ia 0 (y.length + 1)) (y.length + 1) (bls A) ∧
      (∀ j, A[j]? = some true ↔ j ∈ ms) ∧ (∀ j, C[j]? = some true ↔ ∃ i, i ∈ ms ∧ den m y (m.length - 1) i j) ∧
      env = [va, vb, .str w, .int .u8 at', .bool false, .bool true, .str y, .int .i64 f, .sl ic 0 (y.length + 1), .sl ia 0 (y.length + 1), a10, a11, .junk, .bool false, v4, .int .i64 ms.length, a16, a17, a18, a19, a20, a21, a22, a23, .junk, .junk, .junk, .junk, .junk]) ?_ ?_
  · refine WCL (fun r env H' => ∃ (t : Nat) (A C : List Bool) (a10 a11 a17 a18 a19 a20 a21 a22 a23 : AV), t ≤ ms.length ∧ r = ms.length - t ∧ KX ic ia H3 H' ∧ Ints H' v4 (nts ms) ∧ A.length = y.length + 1 ∧ C.length = y.length + 1 ∧
        WR H' ic 1 (.sl ic 0 (y.length + 1)) (y.length + 1) (bls C) ∧ WR H' ic 1 (.sl ia 0 (y.length + 1)) (y.length + 1) (bls A) ∧
        (∀ j, A[j]? = some true ↔ j ∈ ms.take t) ∧ (∀ j, C[j]? = some true ↔ ∃ i, i ∈ ms.take t ∧ den m y (m.length - 1) i j) ∧
        env = [va, vb, .str w, .int .u8 at', .bool false, .bool true, .str y, .int .i64 f, .sl ic 0 (y.length + 1), .sl ia 0 (y.length + 1), a10, a11, .junk, .bool false, v4, .int .i64 ms.length, .int .i64 t, a17, a18, a19, a20, a21, a22, a23, .junk, .junk, .junk, .junk, .junk]) (n := ms.length)
      ⟨0, List.replicate (y.length + 1) false, List.replicate (y.length + 1) false, _, _, _, _, _, _, _, _, _, Nat.zero_le _, rfl, (KX.refl _ _ _).kp hk4, hi4, by simp, by simp, hwc.keeps hk4, hwa.keeps hk4, fun j => by
        simp only [List.take_zero, List.not_mem_nil, iff_false]
        intro h; rw [List.getElem?_replicate] at h; split at h <;> simp at h, fun j => by
        constructor
        · intro h; rw [List.getElem?_replicate] at h; split at h <;> simp at h
        · rintro ⟨i, h, _⟩; simp at h, rfl⟩ ?_
    rintro r env H' ⟨t, A, C, a10, a11, a17, a18, a19, a20, a21, a22, a23, htl, rfl, hkx, hi', hAl, hCl, hwc', hwa', hA, hC, rfl⟩
    simp only [zz, env0, aPure, aRead, aNew, aEff, aval, avals, aparts, aopt, wantedA, binA, isShift, binI, fillA, single, aRes, splice, mkv, unA, binS, sameAt, reduceCtorEq, reduceIte, Int.reduceEq, Int.reduceLT, Int.reduceLE, Int.reduceNe, Nat.reduceEqDiff, Nat.reduceLT, Nat.reduceAdd, Nat.reduceMul, Nat.reduceSub, Nat.reduceLeDiff, Int.reduceBEq, Int.reduceBNe, Nat.reduceBEq, Nat.reduceBNe, Int.reduceToNat]
    refine onB_of (fun hlt => ?_) (fun hlt => ?_)
    · have hlt : t < ms.length := by simpa using hlt
      obtain ⟨x, hx⟩ : ∃ x, ms[t]? = some x := ⟨ms[t], List.getElem?_eq_getElem hlt⟩
      have hxy : x ≤ y.length := hE4.1.2 x (List.mem_of_getElem? hx)
      obtain ⟨ix, ox, rfl, g1⟩ := hi'.int (nts_get hx)
      rw [nts_len] at *
      have r1 : (0 : Int) ≤ t := by omega
      have r2 : (t : Int) < ms.length := by omega
      have q1 : decide ((x : Int) < 0) = false := by simp
      have q2 : decide ((y.length : Int) < x) = false := by simp; omega
      have x1 : (0 : Int) ≤ x := by omega
      have x2 : (x : Int) < ((y.length + 1 : Nat) : Int) := by omega
      have hixf := hfr4 ix rfl
      obtain ⟨H5, hs5, hw5, he5⟩ := bls_set hwa' hAl (k := x) (by omega) true
      have hkx5 := hkx.e2 he5
      have hi5 := ints_e hi' he5 (fun j hj => by simp [avId] at hj; omega)
      have hwc5 := wr_e hwc' he5 (fun j hj => by simp [avId] at hj; omega)
      simp only [r1, r2, Nat.mul_one, g1, q1, q2, x1, x2, hs5, zz, env0, aPure, aRead, aNew, aEff, aval, avals, aparts, aopt, wantedA, binA, isShift, binI, fillA, single, aRes, splice, mkv, unA, binS, sameAt, reduceCtorEq, reduceIte, Int.reduceEq, Int.reduceLT, Int.reduceLE, Int.reduceNe, Nat.reduceEqDiff, Nat.reduceLT, Nat.reduceAdd, Nat.reduceMul, Nat.reduceSub, Nat.reduceLeDiff, Int.reduceBEq, Int.reduceBNe, Nat.reduceBEq, Nat.reduceBNe, Int.reduceToNat]
      have hkH : Keeps H H5 := hk12.trans (KX.base hk3 hkx5 (by omega) (by omega))
      refine Ends_fresh _ _ m y x (Rows.keeps NdP.mono hkH hm) (by omega) (by omega) _ ?_
      intro v6 H6 ms2 hk6 hi6 hE6 hfr6
      have hlo6 := hi6.lenOf
      rw [nts_len] at hlo6
      have hl6 := hE6.1.len
      have hdm : ∀ j, j ∈ ms2 ↔ den m y (m.length - 1) x j := fun j => by
        rw [hE6.2]
        constructor
        · rintro ⟨_, _, _, _, h⟩; exact h
        · intro h; exact ⟨hRm, hNm, by omega, by omega, h⟩
      have h56 := hkx5.1
      simp only [hlo6, zz, env0, aPure, aRead, aNew, aEff, aval, avals, aparts, aopt, wantedA, binA, isShift, binI, fillA, single, aRes, splice, mkv, unA, binS, sameAt, reduceCtorEq, reduceIte, Int.reduceEq, Int.reduceLT, Int.reduceLE, Int.reduceNe, Nat.reduceEqDiff, Nat.reduceLT, Nat.reduceAdd, Nat.reduceMul, Nat.reduceSub, Nat.reduceLeDiff, Int.reduceBEq, Int.reduceBNe, Nat.reduceBEq, Nat.reduceBNe, Int.reduceToNat]
      refine WC.mono (K := fun e env H' => e = .exit 2 ∧ ∃ (C : List Bool) (b11 b21 b22 b23 : AV), KX ic ia H3 H' ∧ Ints H' (.sl ix ox ms.length) (nts ms) ∧ C.length = y.length + 1 ∧
          WR H' ic 1 (.sl ic 0 (y.length + 1)) (y.length + 1) (bls C) ∧ WR H' ic 1 (.sl ia 0 (y.length + 1)) (y.length + 1) (bls (A.set x true)) ∧
          (∀ j, C[j]? = some true ↔ ∃ i, i ∈ ms.take (t + 1) ∧ den m y (m.length - 1) i j) ∧
          env = [va, vb, .str w, .int .u8 at', .bool false, .bool true, .str y, .int .i64 f, .sl ic 0 (y.length + 1), .sl ia 0 (y.length + 1), .int .i64 x, b11, .junk, .bool false, .sl ix ox ms.length, .int .i64 ms.length, .int .i64 t, .bool true, .bool false, v6, .int .i64 ms2.length, b21, b22, b23, .junk, .junk, .junk, .junk, .junk]) ?_ ?_
      · refine WCL (fun r env H' => ∃ (u : Nat) (C : List Bool) (b11 b22 b23 : AV), u ≤ ms2.length ∧ r = ms2.length - u ∧ KX ic ia H3 H' ∧ Ints H' (.sl ix ox ms.length) (nts ms) ∧ Ints H' v6 (nts ms2) ∧ C.length = y.length + 1 ∧
            WR H' ic 1 (.sl ic 0 (y.length + 1)) (y.length + 1) (bls C) ∧ WR H' ic 1 (.sl ia 0 (y.length + 1)) (y.length + 1) (bls (A.set x true)) ∧
            (∀ j, C[j]? = some true ↔ (∃ i, i ∈ ms.take t ∧ den m y (m.length - 1) i j) ∨ j ∈ ms2.take u) ∧
            env = [va, vb, .str w, .int .u8 at', .bool false, .bool true, .str y, .int .i64 f, .sl ic 0 (y.length + 1), .sl ia 0 (y.length + 1), .int .i64 x, b11, .junk, .bool false, .sl ix ox ms.length, .int .i64 ms.length, .int .i64 t, .bool true, .bool false, v6, .int .i64 ms2.length, .int .i64 u, b22, b23, .junk, .junk, .junk, .junk, .junk]) (n := ms2.length)
          ⟨0, C, _, _, _, Nat.zero_le _, rfl, hkx5.kp hk6, Rows.keeps IntP.mono hk6 hi5, hi6, hCl, hwc5.keeps hk6, hw5.keeps hk6, fun j => by rw [hC j]; simp, rfl⟩ ?_
        rintro r env H7 ⟨u, C7, b11, b22, b23, hul, rfl, hkx7, hi7, hi67, hCl7, hwc7, hwa7, hC7, rfl⟩
        simp only [zz, env0, aPure, aRead, aNew, aEff, aval, avals, aparts, aopt, wantedA, binA, isShift, binI, fillA, single, aRes, splice, mkv, unA, binS, sameAt, reduceCtorEq, reduceIte, Int.reduceEq, Int.reduceLT, Int.reduceLE, Int.reduceNe, Nat.reduceEqDiff, Nat.reduceLT, Nat.reduceAdd, Nat.reduceMul, Nat.reduceSub, Nat.reduceLeDiff, Int.reduceBEq, Int.reduceBNe, Nat.reduceBEq, Nat.reduceBNe, Int.reduceToNat]
        refine onB_of (fun hlt2 => ?_) (fun hlt2 => ?_)
        · have hlt2 : u < ms2.length := by simpa using hlt2
          obtain ⟨z, hz⟩ : ∃ z, ms2[u]? = some z := ⟨ms2[u], List.getElem?_eq_getElem hlt2⟩
          have hzy : z ≤ y.length := hE6.1.2 z (List.mem_of_getElem? hz)
          have hxz : x ≤ z := (den_le m y _ _ _ ((hdm z).1 (List.mem_of_getElem? hz))).1
          obtain ⟨iz, oz, rfl, g2⟩ := hi67.int (nts_get hz)
          rw [nts_len] at *
          have s1 : (0 : Int) ≤ u := by omega
          have s2 : (u : Int) < ms2.length := by omega
          have q3 : decide ((z : Int) < x) = false := by simp; omega
          have q4 : decide ((y.length : Int) < z) = false := by simp; omega
          have z1 : (0 : Int) ≤ z := by omega
          have z2 : (z : Int) < ((y.length + 1 : Nat) : Int) := by omega
          have hizf := hfr6 iz rfl
          obtain ⟨H8, hs8, hw8, he8⟩ := bls_set hwc7 hCl7 (k := z) (by omega) true
          have vu : IntKind.i64.wrap ((u : Int) + 1) = ((u + 1 : Nat) : Int) := by rw [wrap_i64 (by omega) (by omega)]; rfl
          simp only [s1, s2, Nat.mul_one, g2, q3, q4, z1, z2, hs8, vu, zz, env0, aPure, aRead, aNew, aEff, aval, avals, aparts, aopt, wantedA, binA, isShift, binI, fillA, single, aRes, splice, mkv, unA, binS, sameAt, reduceCtorEq, reduceIte, Int.reduceEq, Int.reduceLT, Int.reduceLE, Int.reduceNe, Nat.reduceEqDiff, Nat.reduceLT, Nat.reduceAdd, Nat.reduceMul, Nat.reduceSub, Nat.reduceLeDiff, Int.reduceBEq, Int.reduceBNe, Nat.reduceBEq, Nat.reduceBNe, Int.reduceToNat]
          refine ⟨ms2.length - (u + 1), by omega, u + 1, C7.set z true, _, _, _, hlt2, rfl, hkx7.e1 he8, ints_e hi7 he8 (fun j hj => by simp [avId] at hj; omega), ints_e hi67 he8 (fun j hj => by simp [avId] at hj; omega), by simpa using hCl7, hw8,
            wr_e hwa7 he8 (fun j hj => by simp [avId] at hj; omega), fun j => ?_, rfl⟩
          rw [set_true (by omega), hC7 j, mem_take_succ hz]
          constructor
          · rintro ((h | h) | h)
            · exact .inl h
            · exact .inr (.inl h)
            · exact .inr (.inr h)
          · rintro (h | h | h)
            · exact .inl (.inl h)
            · exact .inl (.inr h)
            · exact .inr h
        · have hue : u = ms2.length := by simp at hlt2; omega
          subst hue
          rw [List.take_length] at hC7
          simp only [zz, env0, aPure, aRead, aNew, aEff, aval, avals, aparts, aopt, wantedA, binA, isShift, binI, fillA, single, aRes, splice, mkv, unA, binS, sameAt, reduceCtorEq, reduceIte, Int.reduceEq, Int.reduceLT, Int.reduceLE, Int.reduceNe, Nat.reduceEqDiff, Nat.reduceLT, Nat.reduceAdd, Nat.reduceMul, Nat.reduceSub, Nat.reduceLeDiff, Int.reduceBEq, Int.reduceBNe, Nat.reduceBEq, Nat.reduceBNe, Int.reduceToNat]
          refine ⟨C7, _, _, _, _, hkx7, hi7, hCl7, hwc7, hwa7, fun j => ?_, rfl⟩
          rw [hC7 j]
          constructor
          · rintro (⟨i, h1, h2⟩ | h)
            · exact ⟨i, (mem_take_succ hx i).2 (.inl h1), h2⟩
            · exact ⟨x, (mem_take_succ hx x).2 (.inr rfl), (hdm j).1 h⟩
          · rintro ⟨i, h1, h2⟩
            rcases (mem_take_succ hx i).1 h1 with h | rfl
            · exact .inl ⟨i, h, h2⟩
            · exact .inr ((hdm j).2 h2)
      · rintro e env H7 ⟨rfl, C7, b11, b21, b22, b23, hkx7, hi7, hCl7, hwc7, hwa7, hC7, rfl⟩
        have vt : IntKind.i64.wrap ((t : Int) + 1) = ((t + 1 : Nat) : Int) := by rw [wrap_i64 (by omega) (by omega)]; rfl
        simp only [vt, zz, env0, aPure, aRead, aNew, aEff, aval, avals, aparts, aopt, wantedA, binA, isShift, binI, fillA, single, aRes, splice, mkv, unA, binS, sameAt, reduceCtorEq, reduceIte, Int.reduceEq, Int.reduceLT, Int.reduceLE, Int.reduceNe, Nat.reduceEqDiff, Nat.reduceLT, Nat.reduceAdd, Nat.reduceMul, Nat.reduceSub, Nat.reduceLeDiff, Int.reduceBEq, Int.reduceBNe, Nat.reduceBEq, Nat.reduceBNe, Int.reduceToNat]
        refine ⟨ms.length - (t + 1), by omega, t + 1, A.set x true, C7, _, _, _, _, _, _, _, _, _, hlt, rfl, hkx7, hi7, by simpa using hAl, hCl7, hwc7, hwa7, fun j => ?_, hC7, rfl⟩
        rw [set_true (by omega), hA j, mem_take_succ hx]
    · have hte : t = ms.length := by simp at hlt; omega
      subst hte
      rw [List.take_length] at hA hC
      simp only [zz, env0, aPure, aRead, aNew, aEff, aval, avals, aparts, aopt, wantedA, binA, isShift, binI, fillA, single, aRes, splice, mkv, unA, binS, sameAt, reduceCtorEq, reduceIte, Int.reduceEq, Int.reduceLT, Int.reduceLE, Int.reduceNe, Nat.reduceEqDiff, Nat.reduceLT, Nat.reduceAdd, Nat.reduceMul, Nat.reduceSub, Nat.reduceLeDiff, Int.reduceBEq, Int.reduceBNe, Nat.reduceBEq, Nat.reduceBNe, Int.reduceToNat]
      exact ⟨A, C, _, _, _, _, _, _, _, _, _, _, hkx, hAl, hCl, hwc', hwa', hA, hC, rfl⟩
  rintro e env H' ⟨rfl, A, C, a10, a11, a16, a17, a18, a19, a20, a21, a22, a23, hkx, hAl, hCl, hwc', hwa', hA, hC, rfl⟩
  have hkH : Keeps H H' := hk12.trans (KX.base hk3 hkx (by omega) (by omega))
  simp only [zz, env0, aPure, aRead, aNew, aEff, aval, avals, aparts, aopt, wantedA, binA, isShift, binI, fillA, single, aRes, splice, mkv, unA, binS, sameAt, reduceCtorEq, reduceIte, Int.reduceEq, Int.reduceLT, Int.reduceLE, Int.reduceNe, Nat.reduceEqDiff, Nat.reduceLT, Nat.reduceAdd, Nat.reduceMul, Nat.reduceSub, Nat.reduceLeDiff, Int.reduceBEq, Int.reduceBNe, Nat.reduceBEq, Nat.reduceBNe, Int.reduceToNat]
  refine Ends_fresh _ _ m y f (Rows.keeps NdP.mono hkH hm) (by omega) (by omega) _ ?_
  intro v9 H9 ns hk9 hi9 hE9 hfr9
  have hlo9 := hi9.lenOf
  rw [nts_len] at hlo9
  have hl9 := hE9.1.len
  have hxx := hkx.1
  simp only [hlo9, zz, env0, aPure, aRead, aNew, aEff, aval, avals, aparts, aopt, wantedA, binA, isShift, binI, fillA, single, aRes, splice, mkv, unA, binS, sameAt, reduceCtorEq, reduceIte, Int.reduceEq, Int.reduceLT, Int.reduceLE, Int.reduceNe, Nat.reduceEqDiff, Nat.reduceLT, Nat.reduceAdd, Nat.reduceMul, Nat.reduceSub, Nat.reduceLeDiff, Int.reduceBEq, Int.reduceBNe, Nat.reduceBEq, Nat.reduceBNe, Int.reduceToNat]
  -- the second list
  refine WC.mono (K := fun e env H' => e = .exit 4 ∧ ∃ (A : List Bool) (a12 a26 a27 a28 : AV), KX ic ia H3 H' ∧ A.length = y.length + 1 ∧
      WR H' ic 1 (.sl ic 0 (y.length + 1)) (y.length + 1) (bls C) ∧ WR H' ic 1 (.sl ia 0 (y.length + 1)) (y.length + 1) (bls A) ∧
      (∀ j, A[j]? = some true ↔ j ∈ ms ∨ j ∈ ns) ∧
      env = [va, vb, .str w, .int .u8 at', .bool false, .bool true, .str y, .int .i64 f, .sl ic 0 (y.length + 1), .sl ia 0 (y.length + 1), a10, a11, a12, .bool false, v4, .int .i64 ms.length, a16, a17, a18, a19, a20, a21, a22, a23, v9, .int .i64 ns.length, a26, a27, a28]) ?_ ?_
  · refine WCL (fun r env H' => ∃ (t : Nat) (A : List Bool) (a12 a27 a28 : AV), t ≤ ns.length ∧ r = ns.length - t ∧ KX ic ia H3 H' ∧ Ints H' v9 (nts ns) ∧ A.length = y.length + 1 ∧
        WR H' ic 1 (.sl ic 0 (y.length + 1)) (y.length + 1) (bls C) ∧ WR H' ic 1 (.sl ia 0 (y.length + 1)) (y.length + 1) (bls A) ∧
        (∀ j, A[j]? = some true ↔ j ∈ ms ∨ j ∈ ns.take t) ∧
        env = [va, vb, .str w, .int .u8 at', .bool false, .bool true, .str y, .int .i64 f, .sl ic 0 (y.length + 1), .sl ia 0 (y.length + 1), a10, a11, a12, .bool false, v4, .int .i64 ms.length, a16, a17, a18, a19, a20, a21, a22, a23, v9, .int .i64 ns.length, .int .i64 t, a27, a28]) (n := ns.length)
      ⟨0, A, _, _, _, Nat.zero_le _, rfl, hkx.kp hk9, hi9, hAl, hwc'.keeps hk9, hwa'.keeps hk9, fun j => by rw [hA j]; simp, rfl⟩ ?_
    rintro r env H7 ⟨t, A7, b12, b27, b28, htl, rfl, hkx7, hi7, hAl7, hwc7, hwa7, hA7, rfl⟩
    simp only [zz, env0, aPure, aRead, aNew, aEff, aval, avals, aparts, aopt, wantedA, binA, isShift, binI, fillA, single, aRes, splice, mkv, unA, binS, sameAt, reduceCtorEq, reduceIte, Int.reduceEq, Int.reduceLT, Int.reduceLE, Int.reduceNe, Nat.reduceEqDiff, Nat.reduceLT, Nat.reduceAdd, Nat.reduceMul, Nat.reduceSub, Nat.reduceLeDiff, Int.reduceBEq, Int.reduceBNe, Nat.reduceBEq, Nat.reduceBNe, Int.reduceToNat]
    refine onB_of (fun hlt => ?_) (fun hlt => ?_)
    · have hlt : t < ns.length := by simpa using hlt
      obtain ⟨z, hz⟩ : ∃ z, ns[t]? = some z := ⟨ns[t], List.getElem?_eq_getElem hlt⟩
      have hzy : z ≤ y.length := hE9.1.2 z (List.mem_of_getElem? hz)
      obtain ⟨iz, oz, rfl, g2⟩ := hi7.int (nts_get hz)
      rw [nts_len] at *
      have s1 : (0 : Int) ≤ t := by omega
      have s2 : (t : Int) < ns.length := by omega
      have q3 : decide ((z : Int) < 0) = false := by simp
      have q4 : decide ((y.length : Int) < z) = false := by simp; omega
      have z1 : (0 : Int) ≤ z := by omega
      have z2 : (z : Int) < ((y.length + 1 : Nat) : Int) := by omega
      have hizf := hfr9 iz rfl
      obtain ⟨H8, hs8, hw8, he8⟩ := bls_set hwa7 hAl7 (k := z) (by omega) true
      have vt : IntKind.i64.wrap ((t : Int) + 1) = ((t + 1 : Nat) : Int) := by rw [wrap_i64 (by omega) (by omega)]; rfl
      simp only [s1, s2, Nat.mul_one, g2, q3, q4, z1, z2, hs8, vt, zz, env0, aPure, aRead, aNew, aEff, aval, avals, aparts, aopt, wantedA, binA, isShift, binI, fillA, single, aRes, splice, mkv, unA, binS, sameAt, reduceCtorEq, reduceIte, Int.reduceEq, Int.reduceLT, Int.reduceLE, Int.reduceNe, Nat.reduceEqDiff, Nat.reduceLT, Nat.reduceAdd, Nat.reduceMul, Nat.reduceSub, Nat.reduceLeDiff, Int.reduceBEq, Int.reduceBNe, Nat.reduceBEq, Nat.reduceBNe, Int.reduceToNat]
      refine ⟨ns.length - (t + 1), by omega, t + 1, A7.set z true, _, _, _, hlt, rfl, hkx7.e2 he8, ints_e hi7 he8 (fun j hj => by simp [avId] at hj; omega), by simpa using hAl7,
        wr_e hwc7 he8 (fun j hj => by simp [avId] at hj; omega), hw8, fun j => ?_, rfl⟩
      rw [set_true (by omega), hA7 j, mem_take_succ hz, or_assoc]
    · have hte : t = ns.length := by simp at hlt; omega
      subst hte
      rw [List.take_length] at hA7
      simp only [zz, env0, aPure, aRead, aNew, aEff, aval, avals, aparts, aopt, wantedA, binA, isShift, binI, fillA, single, aRes, splice, mkv, unA, binS, sameAt, reduceCtorEq, reduceIte, Int.reduceEq, Int.reduceLT, Int.reduceLE, Int.reduceNe, Nat.reduceEqDiff, Nat.reduceLT, Nat.reduceAdd, Nat.reduceMul, Nat.reduceSub, Nat.reduceLeDiff, Int.reduceBEq, Int.reduceBNe, Nat.reduceBEq, Nat.reduceBNe, Int.reduceToNat]
      exact ⟨A7, _, _, _, _, hkx7, hAl7, hwc7, hwa7, hA7, rfl⟩
  rintro e env H7 ⟨rfl, A7, a12, a26, a27, a28, hkx7, hAl7, hwc7, hwa7, hA7, rfl⟩
  have hkH7 : Keeps H H7 := hk12.trans (KX.base hk3 hkx7 (by omega) (by omega))
  have hkm : ∀ n, n ∈ m → n.kids.length ≤ 1000 ∧ ∀ x, x ∈ n.kids → 0 ≤ x ∧ x ≤ 1000 := fun n hn => by
    obtain ⟨k, hk⟩ := List.mem_iff_getElem?.1 hn
    obtain ⟨_, _, r, hr⟩ := hRm
    obtain ⟨_, h2, h3⟩ := stk_kids hr hk
    have hkl : k < m.length := by
      rcases Nat.lt_or_ge k m.length with h | h
      · exact h
      · rw [List.getElem?_eq_none h] at hk; simp at hk
    exact ⟨by omega, fun x hx => by have := h3 x hx; omega⟩
  simp only [zz, env0, aPure, aRead, aNew, aEff, aval, avals, aparts, aopt, wantedA, binA, isShift, binI, fillA, single, aRes, splice, mkv, unA, binS, sameAt, reduceCtorEq, reduceIte, Int.reduceEq, Int.reduceLT, Int.reduceLE, Int.reduceNe, Nat.reduceEqDiff, Nat.reduceLT, Nat.reduceAdd, Nat.reduceMul, Nat.reduceSub, Nat.reduceLeDiff, Int.reduceBEq, Int.reduceBNe, Nat.reduceBEq, Nat.reduceBNe, Int.reduceToNat]
  refine pair_spec 3 ⟨by decide, by decide⟩ _ _ _ l m (Rows.keeps NdP.mono hkH7 hl) (Rows.keeps NdP.mono hkH7 hm) (by omega) (by omega) hkm _ ?_
  intro vp Hp hkp hNp
  have hpl : (pairT 3 l m).length < 9223372036854775808 := by simp [pairT]; omega
  simp only [zz, env0, aPure, aRead, aNew, aEff, aval, avals, aparts, aopt, wantedA, binA, isShift, binI, fillA, single, aRes, splice, mkv, unA, binS, sameAt, reduceCtorEq, reduceIte, Int.reduceEq, Int.reduceLT, Int.reduceLE, Int.reduceNe, Nat.reduceEqDiff, Nat.reduceLT, Nat.reduceAdd, Nat.reduceMul, Nat.reduceSub, Nat.reduceLeDiff, Int.reduceBEq, Int.reduceBNe, Nat.reduceBEq, Nat.reduceBNe, Int.reduceToNat]
  refine Ends_spec _ _ _ y f hNp hpl (by omega) _ ?_
  intro vq Hq qs hkq hiq hEq
  simp only [zz, env0, aPure, aRead, aNew, aEff, aval, avals, aparts, aopt, wantedA, binA, isShift, binI, fillA, single, aRes, splice, mkv, unA, binS, sameAt, reduceCtorEq, reduceIte, Int.reduceEq, Int.reduceLT, Int.reduceLE, Int.reduceNe, Nat.reduceEqDiff, Nat.reduceLT, Nat.reduceAdd, Nat.reduceMul, Nat.reduceSub, Nat.reduceLeDiff, Int.reduceBEq, Int.reduceBNe, Nat.reduceBEq, Nat.reduceBNe, Int.reduceToNat]
  have hkpq := hkp.trans hkq
  have hC' : Bls Hq (.sl ic 0 (y.length + 1)) C := by unfold Bls; rw [hCl]; exact (hwc7.keeps hkpq).row
  refine list_spec _ _ C hC' (by omega) _ ?_
  intro vr Hr hkr hir
  have hRp := pair_right (op := 3) (.inl rfl) hRl hRm (by omega)
  have hNp' := pair_noref (op := 3) (by decide) hNl hNm
  have heq1 : qs = trues C := ends_trues hEq (fun j => by
    rw [hC j, cat_den y hRl hRm]
    constructor
    · rintro ⟨i, h1, h2⟩
      obtain ⟨_, _, _, _, h3⟩ := (hE4.2 i).1 h1
      exact ⟨hRp, hNp', by omega, by omega, i, h3, h2⟩
    · rintro ⟨_, _, _, _, i, h1, h2⟩
      exact ⟨i, (hE4.2 i).2 ⟨hRl, hNl, by omega, by omega, h1⟩, h2⟩)
  have hql := hEq.1.len
  simp only [zz, env0, aPure, aRead, aNew, aEff, aval, avals, aparts, aopt, wantedA, binA, isShift, binI, fillA, single, aRes, splice, mkv, unA, binS, sameAt, reduceCtorEq, reduceIte, Int.reduceEq, Int.reduceLT, Int.reduceLE, Int.reduceNe, Nat.reduceEqDiff, Nat.reduceLT, Nat.reduceAdd, Nat.reduceMul, Nat.reduceSub, Nat.reduceLeDiff, Int.reduceBEq, Int.reduceBNe, Nat.reduceBEq, Nat.reduceBNe, Int.reduceToNat]
  refine ints_spec _ _ _ _ _ (by rw [nts_len]; omega) (Rows.keeps IntP.mono hkr hiq) hir _ ?_
  intro b3 hb3
  have hb3' : b3 = true := hb3.2 (by rw [heq1])
  subst hb3'
  have hkH8 : Keeps H Hr := hkH7.trans (hkpq.trans hkr)
  simp only [zz, env0, aPure, aRead, aNew, aEff, aval, avals, aparts, aopt, wantedA, binA, isShift, binI, fillA, single, aRes, splice, mkv, unA, binS, sameAt, reduceCtorEq, reduceIte, Int.reduceEq, Int.reduceLT, Int.reduceLE, Int.reduceNe, Nat.reduceEqDiff, Nat.reduceLT, Nat.reduceAdd, Nat.reduceMul, Nat.reduceSub, Nat.reduceLeDiff, Int.reduceBEq, Int.reduceBNe, Nat.reduceBEq, Nat.reduceBNe, Int.reduceToNat]
  refine pair_spec 4 ⟨by decide, by decide⟩ _ _ _ l m (Rows.keeps NdP.mono hkH8 hl) (Rows.keeps NdP.mono hkH8 hm) (by omega) (by omega) hkm _ ?_
  intro vp2 Hp2 hkp2 hNp2
  have hpl2 : (pairT 4 l m).length < 9223372036854775808 := by simp [pairT]; omega
  simp only [zz, env0, aPure, aRead, aNew, aEff, aval, avals, aparts, aopt, wantedA, binA, isShift, binI, fillA, single, aRes, splice, mkv, unA, binS, sameAt, reduceCtorEq, reduceIte, Int.reduceEq, Int.reduceLT, Int.reduceLE, Int.reduceNe, Nat.reduceEqDiff, Nat.reduceLT, Nat.reduceAdd, Nat.reduceMul, Nat.reduceSub, Nat.reduceLeDiff, Int.reduceBEq, Int.reduceBNe, Nat.reduceBEq, Nat.reduceBNe, Int.reduceToNat]
  refine Ends_spec _ _ _ y f hNp2 hpl2 (by omega) _ ?_
  intro vq2 Hq2 qs2 hkq2 hiq2 hEq2
  simp only [zz, env0, aPure, aRead, aNew, aEff, aval, avals, aparts, aopt, wantedA, binA, isShift, binI, fillA, single, aRes, splice, mkv, unA, binS, sameAt, reduceCtorEq, reduceIte, Int.reduceEq, Int.reduceLT, Int.reduceLE, Int.reduceNe, Nat.reduceEqDiff, Nat.reduceLT, Nat.reduceAdd, Nat.reduceMul, Nat.reduceSub, Nat.reduceLeDiff, Int.reduceBEq, Int.reduceBNe, Nat.reduceBEq, Nat.reduceBNe, Int.reduceToNat]
  have hA' : Bls Hq2 (.sl ia 0 (y.length + 1)) A7 := by unfold Bls; rw [hAl7]; exact (hwa7.keeps (hkpq.trans (hkr.trans (hkp2.trans hkq2)))).row
  refine list_spec _ _ A7 hA' (by omega) _ ?_
  intro vr2 Hr2 hkr2 hir2
  have hRp2 := pair_right (op := 4) (.inr rfl) hRl hRm (by omega)
  have hNp2' := pair_noref (op := 4) (by decide) hNl hNm
  have heq2 : qs2 = trues A7 := ends_trues hEq2 (fun j => by
    rw [hA7 j, alt_den y hRl hRm]
    constructor
    · rintro (h | h)
      · obtain ⟨_, _, _, _, h3⟩ := (hE4.2 j).1 h
        exact ⟨hRp2, hNp2', by omega, by omega, .inl h3⟩
      · obtain ⟨_, _, _, _, h3⟩ := (hE9.2 j).1 h
        exact ⟨hRp2, hNp2', by omega, by omega, .inr h3⟩
    · rintro ⟨_, _, _, _, h | h⟩
      · exact .inl ((hE4.2 j).2 ⟨hRl, hNl, by omega, by omega, h⟩)
      · exact .inr ((hE9.2 j).2 ⟨hRm, hNm, by omega, by omega, h⟩))
  have hql2 := hEq2.1.len
  simp only [zz, env0, aPure, aRead, aNew, aEff, aval, avals, aparts, aopt, wantedA, binA, isShift, binI, fillA, single, aRes, splice, mkv, unA, binS, sameAt, reduceCtorEq, reduceIte, Int.reduceEq, Int.reduceLT, Int.reduceLE, Int.reduceNe, Nat.reduceEqDiff, Nat.reduceLT, Nat.reduceAdd, Nat.reduceMul, Nat.reduceSub, Nat.reduceLeDiff, Int.reduceBEq, Int.reduceBNe, Nat.reduceBEq, Nat.reduceBNe, Int.reduceToNat]
  refine ints_spec _ _ _ _ _ (by rw [nts_len]; omega) (Rows.keeps IntP.mono hkr2 hiq2) hir2 _ ?_
  intro b4 hb4
  have hb4' : b4 = true := hb4.2 (by rw [heq2])
  subst hb4'
  simp only [zz, env0, aPure, aRead, aNew, aEff, aval, avals, aparts, aopt, wantedA, binA, isShift, binI, fillA, single, aRes, splice, mkv, unA, binS, sameAt, reduceCtorEq, reduceIte, Int.reduceEq, Int.reduceLT, Int.reduceLE, Int.reduceNe, Nat.reduceEqDiff, Nat.reduceLT, Nat.reduceAdd, Nat.reduceMul, Nat.reduceSub, Nat.reduceLeDiff, Int.reduceBEq, Int.reduceBNe, Nat.reduceBEq, Nat.reduceBNe, Int.reduceToNat]
end Go.Proofs.Ytnblhjpbpobglaa

/- LangTimes: the law's run. -/
set_option maxRecDepth 100000
set_option maxHeartbeats 1000000
set_option linter.unusedSimpArgs false
namespace Go.Proofs.Ytnblhjpbpobglaa
open Go.Am

/-- A round that stays may be left out. -/
theorem iter_less {r : Nat → Nat → Prop} (hr : ∀ i j, r i j → i ≤ j) : ∀ c i j, iterN r (c + 1) i j → j ≤ i + c → iterN r c i j := by
  intro c
  induction c with
  | zero =>
    rintro i j ⟨m, h1, h2⟩ h
    simp only [iterN] at h2 ⊢
    have := hr i m h1
    omega
  | succ c ih =>
    rintro i j ⟨m, h1, h2⟩ h
    by_cases e : m = i
    · subst e; exact h2
    · have := hr i m h1
      exact ⟨m, h1, ih m j h2 (by omega)⟩
theorem iter_down {r : Nat → Nat → Prop} (hr : ∀ i j, r i j → i ≤ j) (i j : Nat) : ∀ d c, iterN r (c + d) i j → j ≤ i + c → iterN r c i j := by
  intro d
  induction d with
  | zero => intro c h _; exact h
  | succ d ih => intro c h hj; exact ih c (iter_less hr (c + d) i j (by rw [Nat.add_assoc]; exact h) (by omega)) hj

def K9 : ACode := tls 9 a4.body
def K10 : ACode := tls 10 a4.body
theorem times_cut : a4.body = .seq (hdC (tls 0 a4.body)) (.seq (hdC (tls 1 a4.body)) (.seq (hdC (tls 2 a4.body)) (.seq (hdC (tls 3 a4.body)) (.seq (hdC (tls 4 a4.body)) (.seq (hdC (tls 5 a4.body)) (.seq (hdC (tls 6 a4.body)) (.seq (hdC (tls 7 a4.body)) (.seq (hdC (tls 8 a4.body)) (K9))))))))) := rfl

theorem times_run (H : AHeap) (va : AV) (l : List Nd) (w : List UInt8) (at' lo' more' : Int) (hl : Nds H va l) (hll : l.length ≤ maxLen) (hwl : w.length ≤ maxLen) (ha : 0 ≤ at' ∧ at' ≤ 255) (hlo : 0 ≤ lo' ∧ lo' ≤ 255) (hmo : 0 ≤ more' ∧ more' ≤ 255) :
    WF P0 4 [va, .str w, .int .u8 at', .int .u8 lo', .int .u8 more'] H (fun r _ => r = .bool true) := by
  have hmx : maxLen = 9223372036854775807 := rfl
  refine zWF rfl rfl rfl ?_
  rw [times_cut]
  simp only [a4, hdC, tls, tlC, zz, env0, aPure, aRead, aNew, aEff, aval, avals, aparts, aopt, wantedA, binA, isShift, binI, fillA, single, aRes, splice, mkv, unA, binS, sameAt, reduceCtorEq, reduceIte, Int.reduceEq, Int.reduceLT, Int.reduceLE, Int.reduceNe, Nat.reduceEqDiff, Nat.reduceLT, Nat.reduceAdd, Nat.reduceMul, Nat.reduceSub, Nat.reduceLeDiff, Int.reduceBEq, Int.reduceBNe, Nat.reduceBEq, Nat.reduceBNe, Int.reduceToNat]
  refine shown_sp _ _ ?_
  simp only [zz, env0, aPure, aRead, aNew, aEff, aval, avals, aparts, aopt, wantedA, binA, isShift, binI, fillA, single, aRes, splice, mkv, unA, binS, sameAt, reduceCtorEq, reduceIte, Int.reduceEq, Int.reduceLT, Int.reduceLE, Int.reduceNe, Nat.reduceEqDiff, Nat.reduceLT, Nat.reduceAdd, Nat.reduceMul, Nat.reduceSub, Nat.reduceLeDiff, Int.reduceBEq, Int.reduceBNe, Nat.reduceBEq, Nat.reduceBNe, Int.reduceToNat]
  refine text_spec _ _ _ (by omega) ?_
  generalize hy : w.take 20 = y
  have hyl : y.length ≤ 20 := by rw [← hy, List.length_take]; omega
  obtain ⟨f, hf⟩ : ∃ f : Nat, f = at'.toNat % (y.length + 1) := ⟨_, rfl⟩
  have hfy : f ≤ y.length := by rw [hf]; have := Nat.mod_lt at'.toNat (show 0 < y.length + 1 by omega); omega
  have c1 : IntKind.i64.wrap at' = at' := wrap_i64 (by omega) (by omega)
  have c2 : IntKind.i64.wrap ((y.length : Int) + 1) = ((y.length + 1 : Nat) : Int) := by rw [wrap_i64 (by omega) (by omega)]; rfl
  have c3 : at'.tmod ((y.length + 1 : Nat) : Int) = (f : Int) := by
    rw [hf]
    have : at' = (at'.toNat : Int) := by omega
    rw [this]; rfl
  have c4 : ((((y.length + 1 : Nat) : Int)) = 0) = False := by simp; omega
  obtain ⟨a, haa⟩ : ∃ a : Nat, a = lo'.toNat % 6 := ⟨_, rfl⟩
  obtain ⟨b, hbb⟩ : ∃ b : Nat, b = a + more'.toNat % 6 := ⟨_, rfl⟩
  have ha5 : a ≤ 5 := by omega
  have hb10 : b ≤ 10 := by omega
  have hab : a ≤ b := by omega
  have d1 : lo'.tmod 6 = (a : Int) := by
    rw [haa]
    have : lo' = (lo'.toNat : Int) := by omega
    rw [this]; rfl
  have d2 : more'.tmod 6 = ((more'.toNat % 6 : Nat) : Int) := by
    have : more' = (more'.toNat : Int) := by omega
    rw [this]; rfl
  have d3 : IntKind.i64.wrap (a : Int) = a := wrap_i64 (by omega) (by omega)
  have d4 : IntKind.i64.wrap ((more'.toNat % 6 : Nat) : Int) = ((more'.toNat % 6 : Nat) : Int) := wrap_i64 (by omega) (by omega)
  have d5 : IntKind.i64.wrap ((a : Int) + ((more'.toNat % 6 : Nat) : Int)) = (b : Int) := by rw [wrap_i64 (by omega) (by omega)]; omega
  simp only [c1, c2, c3, c4, d1, d2, d3, d4, d5, zz, env0, aPure, aRead, aNew, aEff, aval, avals, aparts, aopt, wantedA, binA, isShift, binI, fillA, single, aRes, splice, mkv, unA, binS, sameAt, reduceCtorEq, reduceIte, Int.reduceEq, Int.reduceLT, Int.reduceLE, Int.reduceNe, Nat.reduceEqDiff, Nat.reduceLT, Nat.reduceAdd, Nat.reduceMul, Nat.reduceSub, Nat.reduceLeDiff, Int.reduceBEq, Int.reduceBNe, Nat.reduceBEq, Nat.reduceBNe, Int.reduceToNat]
  refine good_spec _ _ l hl (by omega) _ ?_
  intro b1 H1 hk1 hb1
  cases b1 with
  | false => simp only [zz, env0, aPure, aRead, aNew, aEff, aval, avals, aparts, aopt, wantedA, binA, isShift, binI, fillA, single, aRes, splice, mkv, unA, binS, sameAt, reduceCtorEq, reduceIte, Int.reduceEq, Int.reduceLT, Int.reduceLE, Int.reduceNe, Nat.reduceEqDiff, Nat.reduceLT, Nat.reduceAdd, Nat.reduceMul, Nat.reduceSub, Nat.reduceLeDiff, Int.reduceBEq, Int.reduceBNe, Nat.reduceBEq, Nat.reduceBNe, Int.reduceToNat]
  | true =>
  obtain ⟨hl30, hRl, hNl⟩ := hb1 rfl
  have hmk1 : (0 : Int) ≤ ((y.length + 1 : Nat) : Int) := by omega
  have hmk3 : ((y.length + 1 : Nat) : Int) ≤ 1152921504606846976 := by omega
  have hmk4 : ((y.length + 1 : Nat) : Int) ≤ ((maxRoom : Nat) : Int) := by simp only [maxRoom]; omega
  simp only [c2, hmk1, hmk3, Int.natCast_one, Int.mul_one, hmk4, zz, env0, aPure, aRead, aNew, aEff, aval, avals, aparts, aopt, wantedA, binA, isShift, binI, fillA, single, aRes, splice, mkv, unA, binS, sameAt, reduceCtorEq, reduceIte, Int.reduceEq, Int.reduceLT, Int.reduceLE, Int.reduceNe, Nat.reduceEqDiff, Nat.reduceLT, Nat.reduceAdd, Nat.reduceMul, Nat.reduceSub, Nat.reduceLeDiff, Int.reduceBEq, Int.reduceBNe, Nat.reduceBEq, Nat.reduceBNe, Int.reduceToNat]
  generalize his : (H1 ++ [some (Blk.cells 1 true (rows (y.length + 1) [.bool false]))]).length = is
  generalize hH3 : H1 ++ [some (Blk.cells 1 true (rows (y.length + 1) [.bool false]))] ++ [some (Blk.cells 1 true [.int .i64 f])] = H3
  have hisv : is = H1.length + 1 := by rw [← his]; simp
  have hk3 : Keeps H1 H3 := by rw [← hH3]; exact .p2 _ _ _
  have hwa : WR H3 H1.length 1 (.sl H1.length 0 (y.length + 1)) (y.length + 1) (bls (List.replicate (y.length + 1) false)) := by
    rw [← rows_bls, ← hH3]
    exact (WR.new H1 1 (y.length + 1) _ (by rw [rows_bls]; simp) (Nat.le_refl _)).keeps (.p1 _ _)
  have hws : Ints H3 (.sl is 0 1) (nts [f]) := by
    have := WR.new (H1 ++ [some (Blk.cells 1 true (rows (y.length + 1) [.bool false]))]) 1 1 [.int .i64 f] rfl (b := 0) (Nat.zero_le _)
    rw [hH3, his] at this
    exact ints_of this.row
  generalize hia : H1.length = ia at hwa
  rw [hia] at hisv
  have hH3l : H3.length = ia + 2 := by rw [← hH3]; simp [hia]
  generalize hr : den l y (l.length - 1) = r
  have hrle : ∀ i j, r i j → i ≤ j ∧ (i ≤ y.length → j ≤ y.length) := fun i j h => by rw [← hr] at h; exact den_le _ _ _ _ _ h
  have hitb : ∀ c j, iterN r c f j → j ≤ y.length := fun c j h => (iterN_le hrle c f j h).2 hfy
  -- the rounds
  refine WC.mono (K := fun e env H' => e = .exit 0 ∧ ∃ (A : List Bool) (e12 e13 e14 e15 e16 e19 e20 e21 e22 e23 e24 e25 e26 e27 e28 e29 e30 : AV), Keeps H1 H' ∧ A.length = y.length + 1 ∧ WR H' ia 1 (.sl ia 0 (y.length + 1)) (y.length + 1) (bls A) ∧
      (∀ j, A[j]? = some true ↔ ∃ c, a ≤ c ∧ c ≤ b ∧ iterN r c f j) ∧
      env = [va, .str w, .int .u8 at', .int .u8 lo', .int .u8 more', .bool false, .bool true, .str y, .int .i64 f, .int .i64 a, .int .i64 b, .sl ia 0 (y.length + 1), e12, e13, e14, e15, e16, .junk, .bool false, e19, e20, e21, e22, e23, e24, e25, e26, e27, e28, e29, e30, .junk]) ?_ ?_
  · refine WCL (fun q env H' => ∃ (i : Nat) (A : List Bool) (ss : List Nat) (vs e14 e15 e16 e19 e20 e21 e22 e23 e24 e25 e26 e27 e28 e29 e30 : AV), i ≤ b + 1 ∧ q = b + 1 - i ∧ Keeps H1 H' ∧ A.length = y.length + 1 ∧ WR H' ia 1 (.sl ia 0 (y.length + 1)) (y.length + 1) (bls A) ∧
        Ints H' vs (nts ss) ∧ (∀ p, avId vs = some p → ia < p) ∧ ss.Pairwise (· < ·) ∧ (∀ j, j ∈ ss ↔ iterN r i f j) ∧ (∀ j, A[j]? = some true ↔ ∃ c, a ≤ c ∧ c < i ∧ iterN r c f j) ∧
        env = [va, .str w, .int .u8 at', .int .u8 lo', .int .u8 more', .bool false, .bool true, .str y, .int .i64 f, .int .i64 a, .int .i64 b, .sl ia 0 (y.length + 1), vs, .int .i64 i, e14, e15, e16, .junk, .bool false, e19, e20, e21, e22, e23, e24, e25, e26, e27, e28, e29, e30, .junk]) (n := b + 1)
      ⟨0, List.replicate (y.length + 1) false, [f], .sl is 0 1, _, _, _, _, _, _, _, _, _, _, _, _, _, _, _, Nat.zero_le _, rfl, hk3, by simp, hwa, hws, fun p hp => by simp [avId] at hp; omega, by simp, fun j => by simp [iterN]; exact eq_comm, fun j => by
        constructor
        · intro h; rw [List.getElem?_replicate] at h; split at h <;> simp at h
        · rintro ⟨c, _, h, _⟩; omega, rfl⟩ ?_
    rintro q env H' ⟨i, A, ss, vs, e14, e15, e16, e19, e20, e21, e22, e23, e24, e25, e26, e27, e28, e29, e30, hib, rfl, hkH, hAl, hwA, hiS, hfrS, hsS, hS, hA, rfl⟩
    simp only [zz, env0, aPure, aRead, aNew, aEff, aval, avals, aparts, aopt, wantedA, binA, isShift, binI, fillA, single, aRes, splice, mkv, unA, binS, sameAt, reduceCtorEq, reduceIte, Int.reduceEq, Int.reduceLT, Int.reduceLE, Int.reduceNe, Nat.reduceEqDiff, Nat.reduceLT, Nat.reduceAdd, Nat.reduceMul, Nat.reduceSub, Nat.reduceLeDiff, Int.reduceBEq, Int.reduceBNe, Nat.reduceBEq, Nat.reduceBNe, Int.reduceToNat]
    refine onB_of (fun hlt => ?_) (fun hlt => ?_)
    · have hlt : i ≤ b := by simp at hlt; omega
      have hlss := hiS.lenOf
      rw [nts_len] at hlss
      have hSl : Pls ss y.length := ⟨hsS, fun n hn => hitb i n ((hS n).1 hn)⟩
      have hSn := hSl.len
      have hvs := hiS
      have hib2 : (i : Int) ≤ b := by omega
      simp only [hib2, c2, hmk1, hmk3, Int.natCast_one, Int.mul_one, hmk4, hlss, zz, env0, aPure, aRead, aNew, aEff, aval, avals, aparts, aopt, wantedA, binA, isShift, binI, fillA, single, aRes, splice, mkv, unA, binS, sameAt, reduceCtorEq, reduceIte, Int.reduceEq, Int.reduceLT, Int.reduceLE, Int.reduceNe, Nat.reduceEqDiff, Nat.reduceLT, Nat.reduceAdd, Nat.reduceMul, Nat.reduceSub, Nat.reduceLeDiff, Int.reduceBEq, Int.reduceBNe, Nat.reduceBEq, Nat.reduceBNe, Int.reduceToNat]
      generalize hHn : H' ++ [some (Blk.cells 1 true (rows (y.length + 1) [.bool false]))] = Hn
      have hkn : Keeps H' Hn := by rw [← hHn]; exact .p1 _ _
      have hHnl : Hn.length = H'.length + 1 := by rw [← hHn]; simp
      have hwX : WR Hn H'.length 1 (.sl H'.length 0 (y.length + 1)) (y.length + 1) (bls (List.replicate (y.length + 1) false)) := by
        rw [← rows_bls, ← hHn]
        exact WR.new H' 1 (y.length + 1) _ (by rw [rows_bls]; simp) (Nat.le_refl _)
      generalize hinx : H'.length = nx at hwX
      rw [hinx] at hHnl
      have hanx : ia < nx := by have := (hwA.id rfl).2; omega
      have hS0 : ∀ p, avId vs = some p → p < nx := fun p hp => by obtain ⟨rw', cs', hc⟩ := RowAt.id hiS.ints hp; have := gb_lt hc; omega
      refine WC.mono (K := fun e env H5 => e = .exit 2 ∧ ∃ (X A : List Bool) (e15 e16 e22 e23 e24 e25 e26 e27 e28 e29 e30 : AV), KX nx ia Hn H5 ∧ X.length = y.length + 1 ∧ A.length = y.length + 1 ∧
          WR H5 nx 1 (.sl nx 0 (y.length + 1)) (y.length + 1) (bls X) ∧ WR H5 ia 1 (.sl ia 0 (y.length + 1)) (y.length + 1) (bls A) ∧
          (∀ j, X[j]? = some true ↔ ∃ k, k ∈ ss ∧ r k j) ∧ (∀ j, A[j]? = some true ↔ (∃ c, a ≤ c ∧ c < i ∧ iterN r c f j) ∨ a ≤ i ∧ j ∈ ss) ∧
          env = [va, .str w, .int .u8 at', .int .u8 lo', .int .u8 more', .bool false, .bool true, .str y, .int .i64 f, .int .i64 a, .int .i64 b, .sl ia 0 (y.length + 1), vs, .int .i64 i, .sl nx 0 (y.length + 1), e15, e16, .junk, .bool false, .bool true, vs, .int .i64 ss.length, e22, e23, e24, e25, e26, e27, e28, e29, e30, .junk]) ?_ ?_
      · refine WCL (fun q env H5 => ∃ (t : Nat) (X A : List Bool) (e15 e16 e23 e24 e25 e26 e27 e28 e29 e30 : AV), t ≤ ss.length ∧ q = ss.length - t ∧ KX nx ia Hn H5 ∧ Ints H5 vs (nts ss) ∧ X.length = y.length + 1 ∧ A.length = y.length + 1 ∧
            WR H5 nx 1 (.sl nx 0 (y.length + 1)) (y.length + 1) (bls X) ∧ WR H5 ia 1 (.sl ia 0 (y.length + 1)) (y.length + 1) (bls A) ∧
            (∀ j, X[j]? = some true ↔ ∃ k, k ∈ ss.take t ∧ r k j) ∧ (∀ j, A[j]? = some true ↔ (∃ c, a ≤ c ∧ c < i ∧ iterN r c f j) ∨ a ≤ i ∧ j ∈ ss.take t) ∧
            env = [va, .str w, .int .u8 at', .int .u8 lo', .int .u8 more', .bool false, .bool true, .str y, .int .i64 f, .int .i64 a, .int .i64 b, .sl ia 0 (y.length + 1), vs, .int .i64 i, .sl nx 0 (y.length + 1), e15, e16, .junk, .bool false, .bool true, vs, .int .i64 ss.length, .int .i64 t, e23, e24, e25, e26, e27, e28, e29, e30, .junk]) (n := ss.length)
          ⟨0, List.replicate (y.length + 1) false, A, _, _, _, _, _, _, _, _, _, _, Nat.zero_le _, rfl, KX.refl _ _ _, Rows.keeps IntP.mono hkn hiS, by simp, hAl, hwX, hwA.keeps hkn, fun j => by
            constructor
            · intro h; rw [List.getElem?_replicate] at h; split at h <;> simp at h
            · rintro ⟨k, h, _⟩; simp at h, fun j => by rw [hA j]; simp, rfl⟩ ?_
        rintro q env H5 ⟨t, X, A5, f15, f16, f23, f24, f25, f26, f27, f28, f29, f30, htl, rfl, hkx, hi5, hXl, hAl5, hwX5, hwA5, hX, hA5, rfl⟩
        simp only [zz, env0, aPure, aRead, aNew, aEff, aval, avals, aparts, aopt, wantedA, binA, isShift, binI, fillA, single, aRes, splice, mkv, unA, binS, sameAt, reduceCtorEq, reduceIte, Int.reduceEq, Int.reduceLT, Int.reduceLE, Int.reduceNe, Nat.reduceEqDiff, Nat.reduceLT, Nat.reduceAdd, Nat.reduceMul, Nat.reduceSub, Nat.reduceLeDiff, Int.reduceBEq, Int.reduceBNe, Nat.reduceBEq, Nat.reduceBNe, Int.reduceToNat]
        refine onB_of (fun hlt2 => ?_) (fun hlt2 => ?_)
        · have hlt2 : t < ss.length := by simpa using hlt2
          obtain ⟨x, hx⟩ : ∃ x, ss[t]? = some x := ⟨ss[t], List.getElem?_eq_getElem hlt2⟩
          have hxy : x ≤ y.length := hSl.2 x (List.mem_of_getElem? hx)
          obtain ⟨ix, ox, rfl, g1⟩ := hi5.int (nts_get hx)
          rw [nts_len] at *
          have r1 : (0 : Int) ≤ t := by omega
          have r2 : (t : Int) < ss.length := by omega
          have q1 : decide ((x : Int) < 0) = false := by simp
          have q2 : decide ((y.length : Int) < x) = false := by simp; omega
          have x1 : (0 : Int) ≤ x := by omega
          have x2 : (x : Int) < ((y.length + 1 : Nat) : Int) := by omega
          have hixf := hfrS ix rfl
          have hix0 := hS0 ix rfl
          have hm1 := mem_take_succ hx
          have vt : IntKind.i64.wrap ((t : Int) + 1) = ((t + 1 : Nat) : Int) := by rw [wrap_i64 (by omega) (by omega)]; rfl
          -- what comes behind: the list of places of one time more
          simp only [r1, r2, Nat.mul_one, g1, q1, q2, zz, env0, aPure, aRead, aNew, aEff, aval, avals, aparts, aopt, wantedA, binA, isShift, binI, fillA, single, aRes, splice, mkv, unA, binS, sameAt, reduceCtorEq, reduceIte, Int.reduceEq, Int.reduceLT, Int.reduceLE, Int.reduceNe, Nat.reduceEqDiff, Nat.reduceLT, Nat.reduceAdd, Nat.reduceMul, Nat.reduceSub, Nat.reduceLeDiff, Int.reduceBEq, Int.reduceBNe, Nat.reduceBEq, Nat.reduceBNe, Int.reduceToNat]
          by_cases hai : a ≤ i
          · have hd : decide ((a : Int) ≤ i) = true := by simp; omega
            obtain ⟨H6, hs6, hw6, he6⟩ := bls_set hwA5 hAl5 (k := x) (by omega) true
            have hkx6 := hkx.e2 he6
            have hi6 := ints_e hi5 he6 (fun j hj => by simp [avId] at hj; omega)
            have hwX6 := wr_e hwX5 he6 (fun j hj => by simp [avId] at hj; omega)
            generalize hA6e : A5.set x true = A6 at hw6
            have hwA6 := hw6
            have hAl6 : A6.length = y.length + 1 := by rw [← hA6e]; simpa using hAl5
            have hA6 : ∀ j, A6[j]? = some true ↔ (∃ c, a ≤ c ∧ c < i ∧ iterN r c f j) ∨ a ≤ i ∧ j ∈ ss.take (t + 1) := fun j => by
              rw [← hA6e, set_true (by omega), hA5 j, hm1]
              constructor
              · rintro ((h | h) | h)
                · exact .inl h
                · exact .inr ⟨h.1, .inl h.2⟩
                · exact .inr ⟨hai, .inr h⟩
              · rintro (h | ⟨h1, h2 | h2⟩)
                · exact .inl (.inl h)
                · exact .inl (.inr ⟨h1, h2⟩)
                · exact .inr h2
            simp only [hd, x1, x2, Nat.mul_one, hs6, zz, env0, aPure, aRead, aNew, aEff, aval, avals, aparts, aopt, wantedA, binA, isShift, binI, fillA, single, aRes, splice, mkv, unA, binS, sameAt, reduceCtorEq, reduceIte, Int.reduceEq, Int.reduceLT, Int.reduceLE, Int.reduceNe, Nat.reduceEqDiff, Nat.reduceLT, Nat.reduceAdd, Nat.reduceMul, Nat.reduceSub, Nat.reduceLeDiff, Int.reduceBEq, Int.reduceBNe, Nat.reduceBEq, Nat.reduceBNe, Int.reduceToNat]
            have hkH1 : Keeps H H6 := hk1.trans (KX.base (hkH.trans hkn) hkx6 (by have := hkH.1; omega) (by omega))
            refine Ends_fresh _ _ l y x (Rows.keeps NdP.mono hkH1 hl) (by omega) (by omega) _ ?_
            intro v7 H7 ms2 hk7 hi7 hE7 hfr7
            have hlo7 := hi7.lenOf
            rw [nts_len] at hlo7
            have hl7 := hE7.1.len
            have hdm : ∀ j, j ∈ ms2 ↔ r x j := fun j => by
              rw [hE7.2, ← hr]
              constructor
              · rintro ⟨_, _, _, _, h⟩; exact h
              · intro h; exact ⟨hRl, hNl, by omega, by omega, h⟩
            have hnl6 := hkx6.1
            simp only [hlo7, zz, env0, aPure, aRead, aNew, aEff, aval, avals, aparts, aopt, wantedA, binA, isShift, binI, fillA, single, aRes, splice, mkv, unA, binS, sameAt, reduceCtorEq, reduceIte, Int.reduceEq, Int.reduceLT, Int.reduceLE, Int.reduceNe, Nat.reduceEqDiff, Nat.reduceLT, Nat.reduceAdd, Nat.reduceMul, Nat.reduceSub, Nat.reduceLeDiff, Int.reduceBEq, Int.reduceBNe, Nat.reduceBEq, Nat.reduceBNe, Int.reduceToNat]
            refine WC.mono (K := fun e env H8 => e = .exit 4 ∧ ∃ (X : List Bool) (g16 g28 g29 g30 : AV), KX nx ia Hn H8 ∧ Ints H8 (.sl ix ox ss.length) (nts ss) ∧ X.length = y.length + 1 ∧
                WR H8 nx 1 (.sl nx 0 (y.length + 1)) (y.length + 1) (bls X) ∧ WR H8 ia 1 (.sl ia 0 (y.length + 1)) (y.length + 1) (bls A6) ∧
                (∀ j, X[j]? = some true ↔ ∃ k, k ∈ ss.take (t + 1) ∧ r k j) ∧
                env = [va, .str w, .int .u8 at', .int .u8 lo', .int .u8 more', .bool false, .bool true, .str y, .int .i64 f, .int .i64 a, .int .i64 b, .sl ia 0 (y.length + 1), .sl ix ox ss.length, .int .i64 i, .sl nx 0 (y.length + 1), .int .i64 x, g16, .junk, .bool false, .bool true, .sl ix ox ss.length, .int .i64 ss.length, .int .i64 t, .bool true, .bool false, .bool true, v7, .int .i64 ms2.length, g28, g29, g30, .junk]) ?_ ?_
            · refine WCL (fun q env H8 => ∃ (u : Nat) (X : List Bool) (g16 g29 g30 : AV), u ≤ ms2.length ∧ q = ms2.length - u ∧ KX nx ia Hn H8 ∧ Ints H8 (.sl ix ox ss.length) (nts ss) ∧ Ints H8 v7 (nts ms2) ∧ X.length = y.length + 1 ∧
                  WR H8 nx 1 (.sl nx 0 (y.length + 1)) (y.length + 1) (bls X) ∧ WR H8 ia 1 (.sl ia 0 (y.length + 1)) (y.length + 1) (bls A6) ∧
                  (∀ j, X[j]? = some true ↔ (∃ k, k ∈ ss.take t ∧ r k j) ∨ j ∈ ms2.take u) ∧
                  env = [va, .str w, .int .u8 at', .int .u8 lo', .int .u8 more', .bool false, .bool true, .str y, .int .i64 f, .int .i64 a, .int .i64 b, .sl ia 0 (y.length + 1), .sl ix ox ss.length, .int .i64 i, .sl nx 0 (y.length + 1), .int .i64 x, g16, .junk, .bool false, .bool true, .sl ix ox ss.length, .int .i64 ss.length, .int .i64 t, .bool true, .bool false, .bool true, v7, .int .i64 ms2.length, .int .i64 u, g29, g30, .junk]) (n := ms2.length)
                ⟨0, X, _, _, _, Nat.zero_le _, rfl, hkx6.kp hk7, Rows.keeps IntP.mono hk7 hi6, hi7, hXl, hwX6.keeps hk7, hwA6.keeps hk7, fun j => by rw [hX j]; simp, rfl⟩ ?_
              rintro q env H8 ⟨u, X8, g16, g29, g30, hul, rfl, hkx8, hi8, hi78, hXl8, hwX8, hwA8, hX8, rfl⟩
              simp only [zz, env0, aPure, aRead, aNew, aEff, aval, avals, aparts, aopt, wantedA, binA, isShift, binI, fillA, single, aRes, splice, mkv, unA, binS, sameAt, reduceCtorEq, reduceIte, Int.reduceEq, Int.reduceLT, Int.reduceLE, Int.reduceNe, Nat.reduceEqDiff, Nat.reduceLT, Nat.reduceAdd, Nat.reduceMul, Nat.reduceSub, Nat.reduceLeDiff, Int.reduceBEq, Int.reduceBNe, Nat.reduceBEq, Nat.reduceBNe, Int.reduceToNat]
              refine onB_of (fun hlt3 => ?_) (fun hlt3 => ?_)
              · have hlt3 : u < ms2.length := by simpa using hlt3
                obtain ⟨z, hz⟩ : ∃ z, ms2[u]? = some z := ⟨ms2[u], List.getElem?_eq_getElem hlt3⟩
                have hzy : z ≤ y.length := hE7.1.2 z (List.mem_of_getElem? hz)
                obtain ⟨iz, oz, rfl, g2⟩ := hi78.int (nts_get hz)
                rw [nts_len] at *
                have s1 : (0 : Int) ≤ u := by omega
                have s2 : (u : Int) < ms2.length := by omega
                have q3 : decide ((z : Int) < 0) = false := by simp
                have q4 : decide ((y.length : Int) < z) = false := by simp; omega
                have z1 : (0 : Int) ≤ z := by omega
                have z2 : (z : Int) < ((y.length + 1 : Nat) : Int) := by omega
                have hizf := hfr7 iz rfl
                obtain ⟨H9, hs9, hw9, he9⟩ := bls_set hwX8 hXl8 (k := z) (by omega) true
                have vu : IntKind.i64.wrap ((u : Int) + 1) = ((u + 1 : Nat) : Int) := by rw [wrap_i64 (by omega) (by omega)]; rfl
                simp only [s1, s2, Nat.mul_one, g2, q3, q4, z1, z2, hs9, vu, zz, env0, aPure, aRead, aNew, aEff, aval, avals, aparts, aopt, wantedA, binA, isShift, binI, fillA, single, aRes, splice, mkv, unA, binS, sameAt, reduceCtorEq, reduceIte, Int.reduceEq, Int.reduceLT, Int.reduceLE, Int.reduceNe, Nat.reduceEqDiff, Nat.reduceLT, Nat.reduceAdd, Nat.reduceMul, Nat.reduceSub, Nat.reduceLeDiff, Int.reduceBEq, Int.reduceBNe, Nat.reduceBEq, Nat.reduceBNe, Int.reduceToNat]
                refine ⟨ms2.length - (u + 1), by omega, u + 1, X8.set z true, _, _, _, hlt3, rfl, hkx8.e1 he9, ints_e hi8 he9 (fun j hj => by simp [avId] at hj; omega), ints_e hi78 he9 (fun j hj => by simp [avId] at hj; omega), by simpa using hXl8, hw9,
                  wr_e hwA8 he9 (fun j hj => by simp [avId] at hj; omega), fun j => ?_, rfl⟩
                rw [set_true (by omega), hX8 j, mem_take_succ hz, or_assoc]
              · have hue : u = ms2.length := by simp at hlt3; omega
                subst hue
                rw [List.take_length] at hX8
                simp only [zz, env0, aPure, aRead, aNew, aEff, aval, avals, aparts, aopt, wantedA, binA, isShift, binI, fillA, single, aRes, splice, mkv, unA, binS, sameAt, reduceCtorEq, reduceIte, Int.reduceEq, Int.reduceLT, Int.reduceLE, Int.reduceNe, Nat.reduceEqDiff, Nat.reduceLT, Nat.reduceAdd, Nat.reduceMul, Nat.reduceSub, Nat.reduceLeDiff, Int.reduceBEq, Int.reduceBNe, Nat.reduceBEq, Nat.reduceBNe, Int.reduceToNat]
                refine ⟨X8, _, _, _, _, hkx8, hi8, hXl8, hwX8, hwA8, fun j => ?_, rfl⟩
                rw [hX8 j]
                constructor
                · rintro (⟨k, h1, h2⟩ | h)
                  · exact ⟨k, (hm1 k).2 (.inl h1), h2⟩
                  · exact ⟨x, (hm1 x).2 (.inr rfl), (hdm j).1 h⟩
                · rintro ⟨k, h1, h2⟩
                  rcases (hm1 k).1 h1 with h | rfl
                  · exact .inl ⟨k, h, h2⟩
                  · exact .inr ((hdm j).2 h2)
            · rintro e env H8 ⟨rfl, X8, g16, g28, g29, g30, hkx8, hi8, hXl8, hwX8, hwA8, hX8, rfl⟩
              simp only [vt, zz, env0, aPure, aRead, aNew, aEff, aval, avals, aparts, aopt, wantedA, binA, isShift, binI, fillA, single, aRes, splice, mkv, unA, binS, sameAt, reduceCtorEq, reduceIte, Int.reduceEq, Int.reduceLT, Int.reduceLE, Int.reduceNe, Nat.reduceEqDiff, Nat.reduceLT, Nat.reduceAdd, Nat.reduceMul, Nat.reduceSub, Nat.reduceLeDiff, Int.reduceBEq, Int.reduceBNe, Nat.reduceBEq, Nat.reduceBNe, Int.reduceToNat]
              exact ⟨ss.length - (t + 1), by omega, t + 1, X8, A6, _, _, _, _, _, _, _, _, _, _, hlt2, rfl, hkx8, hi8, hXl8, hAl6, hwX8, hwA8, hX8, hA6, rfl⟩
          · have hd : decide ((a : Int) ≤ i) = false := by simp; omega
            have hA6 : ∀ j, A5[j]? = some true ↔ (∃ c, a ≤ c ∧ c < i ∧ iterN r c f j) ∨ a ≤ i ∧ j ∈ ss.take (t + 1) := fun j => by
              rw [hA5 j]
              simp [hai]
            simp only [hd, zz, env0, aPure, aRead, aNew, aEff, aval, avals, aparts, aopt, wantedA, binA, isShift, binI, fillA, single, aRes, splice, mkv, unA, binS, sameAt, reduceCtorEq, reduceIte, Int.reduceEq, Int.reduceLT, Int.reduceLE, Int.reduceNe, Nat.reduceEqDiff, Nat.reduceLT, Nat.reduceAdd, Nat.reduceMul, Nat.reduceSub, Nat.reduceLeDiff, Int.reduceBEq, Int.reduceBNe, Nat.reduceBEq, Nat.reduceBNe, Int.reduceToNat]
            have hkH1 : Keeps H H5 := hk1.trans (KX.base (hkH.trans hkn) hkx (by have := hkH.1; omega) (by omega))
            refine Ends_fresh _ _ l y x (Rows.keeps NdP.mono hkH1 hl) (by omega) (by omega) _ ?_
            intro v7 H7 ms2 hk7 hi7 hE7 hfr7
            have hlo7 := hi7.lenOf
            rw [nts_len] at hlo7
            have hl7 := hE7.1.len
            have hdm : ∀ j, j ∈ ms2 ↔ r x j := fun j => by
              rw [hE7.2, ← hr]
              constructor
              · rintro ⟨_, _, _, _, h⟩; exact h
              · intro h; exact ⟨hRl, hNl, by omega, by omega, h⟩
            have hnl6 := hkx.1
            simp only [hlo7, zz, env0, aPure, aRead, aNew, aEff, aval, avals, aparts, aopt, wantedA, binA, isShift, binI, fillA, single, aRes, splice, mkv, unA, binS, sameAt, reduceCtorEq, reduceIte, Int.reduceEq, Int.reduceLT, Int.reduceLE, Int.reduceNe, Nat.reduceEqDiff, Nat.reduceLT, Nat.reduceAdd, Nat.reduceMul, Nat.reduceSub, Nat.reduceLeDiff, Int.reduceBEq, Int.reduceBNe, Nat.reduceBEq, Nat.reduceBNe, Int.reduceToNat]
            refine WC.mono (K := fun e env H8 => e = .exit 4 ∧ ∃ (X : List Bool) (g16 g28 g29 g30 : AV), KX nx ia Hn H8 ∧ Ints H8 (.sl ix ox ss.length) (nts ss) ∧ X.length = y.length + 1 ∧
                WR H8 nx 1 (.sl nx 0 (y.length + 1)) (y.length + 1) (bls X) ∧ WR H8 ia 1 (.sl ia 0 (y.length + 1)) (y.length + 1) (bls A5) ∧
                (∀ j, X[j]? = some true ↔ ∃ k, k ∈ ss.take (t + 1) ∧ r k j) ∧
                env = [va, .str w, .int .u8 at', .int .u8 lo', .int .u8 more', .bool false, .bool true, .str y, .int .i64 f, .int .i64 a, .int .i64 b, .sl ia 0 (y.length + 1), .sl ix ox ss.length, .int .i64 i, .sl nx 0 (y.length + 1), .int .i64 x, g16, .junk, .bool false, .bool true, .sl ix ox ss.length, .int .i64 ss.length, .int .i64 t, .bool true, .bool false, .bool false, v7, .int .i64 ms2.length, g28, g29, g30, .junk]) ?_ ?_
            · refine WCL (fun q env H8 => ∃ (u : Nat) (X : List Bool) (g16 g29 g30 : AV), u ≤ ms2.length ∧ q = ms2.length - u ∧ KX nx ia Hn H8 ∧ Ints H8 (.sl ix ox ss.length) (nts ss) ∧ Ints H8 v7 (nts ms2) ∧ X.length = y.length + 1 ∧
                  WR H8 nx 1 (.sl nx 0 (y.length + 1)) (y.length + 1) (bls X) ∧ WR H8 ia 1 (.sl ia 0 (y.length + 1)) (y.length + 1) (bls A5) ∧
                  (∀ j, X[j]? = some true ↔ (∃ k, k ∈ ss.take t ∧ r k j) ∨ j ∈ ms2.take u) ∧
                  env = [va, .str w, .int .u8 at', .int .u8 lo', .int .u8 more', .bool false, .bool true, .str y, .int .i64 f, .int .i64 a, .int .i64 b, .sl ia 0 (y.length + 1), .sl ix ox ss.length, .int .i64 i, .sl nx 0 (y.length + 1), .int .i64 x, g16, .junk, .bool false, .bool true, .sl ix ox ss.length, .int .i64 ss.length, .int .i64 t, .bool true, .bool false, .bool false, v7, .int .i64 ms2.length, .int .i64 u, g29, g30, .junk]) (n := ms2.length)
                ⟨0, X, _, _, _, Nat.zero_le _, rfl, hkx.kp hk7, Rows.keeps IntP.mono hk7 hi5, hi7, hXl, hwX5.keeps hk7, hwA5.keeps hk7, fun j => by rw [hX j]; simp, rfl⟩ ?_
              rintro q env H8 ⟨u, X8, g16, g29, g30, hul, rfl, hkx8, hi8, hi78, hXl8, hwX8, hwA8, hX8, rfl⟩
              simp only [zz, env0, aPure, aRead, aNew, aEff, aval, avals, aparts, aopt, wantedA, binA, isShift, binI, fillA, single, aRes, splice, mkv, unA, binS, sameAt, reduceCtorEq, reduceIte, Int.reduceEq, Int.reduceLT, Int.reduceLE, Int.reduceNe, Nat.reduceEqDiff, Nat.reduceLT, Nat.reduceAdd, Nat.reduceMul, Nat.reduceSub, Nat.reduceLeDiff, Int.reduceBEq, Int.reduceBNe, Nat.reduceBEq, Nat.reduceBNe, Int.reduceToNat]
              refine onB_of (fun hlt3 => ?_) (fun hlt3 => ?_)
              · have hlt3 : u < ms2.length := by simpa using hlt3
                obtain ⟨z, hz⟩ : ∃ z, ms2[u]? = some z := ⟨ms2[u], List.getElem?_eq_getElem hlt3⟩
                have hzy : z ≤ y.length := hE7.1.2 z (List.mem_of_getElem? hz)
                obtain ⟨iz, oz, rfl, g2⟩ := hi78.int (nts_get hz)
                rw [nts_len] at *
                have s1 : (0 : Int) ≤ u := by omega
                have s2 : (u : Int) < ms2.length := by omega
                have q3 : decide ((z : Int) < 0) = false := by simp
                have q4 : decide ((y.length : Int) < z) = false := by simp; omega
                have z1 : (0 : Int) ≤ z := by omega
                have z2 : (z : Int) < ((y.length + 1 : Nat) : Int) := by omega
                have hizf := hfr7 iz rfl
                obtain ⟨H9, hs9, hw9, he9⟩ := bls_set hwX8 hXl8 (k := z) (by omega) true
                have vu : IntKind.i64.wrap ((u : Int) + 1) = ((u + 1 : Nat) : Int) := by rw [wrap_i64 (by omega) (by omega)]; rfl
                simp only [s1, s2, Nat.mul_one, g2, q3, q4, z1, z2, hs9, vu, zz, env0, aPure, aRead, aNew, aEff, aval, avals, aparts, aopt, wantedA, binA, isShift, binI, fillA, single, aRes, splice, mkv, unA, binS, sameAt, reduceCtorEq, reduceIte, Int.reduceEq, Int.reduceLT, Int.reduceLE, Int.reduceNe, Nat.reduceEqDiff, Nat.reduceLT, Nat.reduceAdd, Nat.reduceMul, Nat.reduceSub, Nat.reduceLeDiff, Int.reduceBEq, Int.reduceBNe, Nat.reduceBEq, Nat.reduceBNe, Int.reduceToNat]
                refine ⟨ms2.length - (u + 1), by omega, u + 1, X8.set z true, _, _, _, hlt3, rfl, hkx8.e1 he9, ints_e hi8 he9 (fun j hj => by simp [avId] at hj; omega), ints_e hi78 he9 (fun j hj => by simp [avId] at hj; omega), by simpa using hXl8, hw9,
                  wr_e hwA8 he9 (fun j hj => by simp [avId] at hj; omega), fun j => ?_, rfl⟩
                rw [set_true (by omega), hX8 j, mem_take_succ hz, or_assoc]
              · have hue : u = ms2.length := by simp at hlt3; omega
                subst hue
                rw [List.take_length] at hX8
                simp only [zz, env0, aPure, aRead, aNew, aEff, aval, avals, aparts, aopt, wantedA, binA, isShift, binI, fillA, single, aRes, splice, mkv, unA, binS, sameAt, reduceCtorEq, reduceIte, Int.reduceEq, Int.reduceLT, Int.reduceLE, Int.reduceNe, Nat.reduceEqDiff, Nat.reduceLT, Nat.reduceAdd, Nat.reduceMul, Nat.reduceSub, Nat.reduceLeDiff, Int.reduceBEq, Int.reduceBNe, Nat.reduceBEq, Nat.reduceBNe, Int.reduceToNat]
                refine ⟨X8, _, _, _, _, hkx8, hi8, hXl8, hwX8, hwA8, fun j => ?_, rfl⟩
                rw [hX8 j]
                constructor
                · rintro (⟨k, h1, h2⟩ | h)
                  · exact ⟨k, (hm1 k).2 (.inl h1), h2⟩
                  · exact ⟨x, (hm1 x).2 (.inr rfl), (hdm j).1 h⟩
                · rintro ⟨k, h1, h2⟩
                  rcases (hm1 k).1 h1 with h | rfl
                  · exact .inl ⟨k, h, h2⟩
                  · exact .inr ((hdm j).2 h2)
            · rintro e env H8 ⟨rfl, X8, g16, g28, g29, g30, hkx8, hi8, hXl8, hwX8, hwA8, hX8, rfl⟩
              simp only [vt, zz, env0, aPure, aRead, aNew, aEff, aval, avals, aparts, aopt, wantedA, binA, isShift, binI, fillA, single, aRes, splice, mkv, unA, binS, sameAt, reduceCtorEq, reduceIte, Int.reduceEq, Int.reduceLT, Int.reduceLE, Int.reduceNe, Nat.reduceEqDiff, Nat.reduceLT, Nat.reduceAdd, Nat.reduceMul, Nat.reduceSub, Nat.reduceLeDiff, Int.reduceBEq, Int.reduceBNe, Nat.reduceBEq, Nat.reduceBNe, Int.reduceToNat]
              exact ⟨ss.length - (t + 1), by omega, t + 1, X8, A5, _, _, _, _, _, _, _, _, _, _, hlt2, rfl, hkx8, hi8, hXl8, hAl5, hwX8, hwA8, hX8, hA6, rfl⟩
        · have hte : t = ss.length := by simp at hlt2; omega
          subst hte
          rw [List.take_length] at hX hA5
          simp only [zz, env0, aPure, aRead, aNew, aEff, aval, avals, aparts, aopt, wantedA, binA, isShift, binI, fillA, single, aRes, splice, mkv, unA, binS, sameAt, reduceCtorEq, reduceIte, Int.reduceEq, Int.reduceLT, Int.reduceLE, Int.reduceNe, Nat.reduceEqDiff, Nat.reduceLT, Nat.reduceAdd, Nat.reduceMul, Nat.reduceSub, Nat.reduceLeDiff, Int.reduceBEq, Int.reduceBNe, Nat.reduceBEq, Nat.reduceBNe, Int.reduceToNat]
          exact ⟨X, A5, _, _, _, _, _, _, _, _, _, _, _, hkx, hXl, hAl5, hwX5, hwA5, hX, hA5, rfl⟩
      · rintro e env H5 ⟨rfl, X, A5, f15, f16, f22, f23, f24, f25, f26, f27, f28, f29, f30, hkx, hXl, hAl5, hwX5, hwA5, hX, hA5, rfl⟩
        have hXB : Bls H5 (.sl nx 0 (y.length + 1)) X := by unfold Bls; rw [hXl]; exact hwX5.row
        have hkb := KX.base (hkH.trans hkn) hkx (by have := hkH.1; omega) (by omega)
        simp only [zz, env0, aPure, aRead, aNew, aEff, aval, avals, aparts, aopt, wantedA, binA, isShift, binI, fillA, single, aRes, splice, mkv, unA, binS, sameAt, reduceCtorEq, reduceIte, Int.reduceEq, Int.reduceLT, Int.reduceLE, Int.reduceNe, Nat.reduceEqDiff, Nat.reduceLT, Nat.reduceAdd, Nat.reduceMul, Nat.reduceSub, Nat.reduceLeDiff, Int.reduceBEq, Int.reduceBNe, Nat.reduceBEq, Nat.reduceBNe, Int.reduceToNat]
        refine list_fresh _ _ X hXB (by omega) _ ?_
        intro vl Hl hkl hil hfrl
        have vi : IntKind.i64.wrap ((i : Int) + 1) = ((i + 1 : Nat) : Int) := by rw [wrap_i64 (by omega) (by omega)]; rfl
        have hxl := hkx.1
        simp only [vi, zz, env0, aPure, aRead, aNew, aEff, aval, avals, aparts, aopt, wantedA, binA, isShift, binI, fillA, single, aRes, splice, mkv, unA, binS, sameAt, reduceCtorEq, reduceIte, Int.reduceEq, Int.reduceLT, Int.reduceLE, Int.reduceNe, Nat.reduceEqDiff, Nat.reduceLT, Nat.reduceAdd, Nat.reduceMul, Nat.reduceSub, Nat.reduceLeDiff, Int.reduceBEq, Int.reduceBNe, Nat.reduceBEq, Nat.reduceBNe, Int.reduceToNat]
        refine ⟨b + 1 - (i + 1), by omega, i + 1, A5, trues X, vl, _, _, _, _, _, _, _, _, _, _, _, _, _, _, _, by omega, rfl, hkb.trans hkl, hAl5, hwA5.keeps hkl, hil, fun p hp => by have := hfrl p hp; omega, trues_sorted X, fun j => ?_, fun j => ?_, rfl⟩
        · rw [trues_mem, hX j, iterN_snoc]
          constructor
          · rintro ⟨k, h1, h2⟩; exact ⟨k, (hS k).1 h1, h2⟩
          · rintro ⟨k, h1, h2⟩; exact ⟨k, (hS k).2 h1, h2⟩
        · rw [hA5 j, hS j]
          constructor
          · rintro (⟨c, h1, h2, h3⟩ | ⟨h1, h2⟩)
            · exact ⟨c, h1, by omega, h3⟩
            · exact ⟨i, h1, by omega, h2⟩
          · rintro ⟨c, h1, h2, h3⟩
            rcases Nat.lt_or_ge c i with h | h
            · exact .inl ⟨c, h1, h, h3⟩
            · have : c = i := by omega
              subst this; exact .inr ⟨h1, h3⟩
    · have hie : i = b + 1 := by simp at hlt; omega
      subst hie
      simp only [zz, env0, aPure, aRead, aNew, aEff, aval, avals, aparts, aopt, wantedA, binA, isShift, binI, fillA, single, aRes, splice, mkv, unA, binS, sameAt, reduceCtorEq, reduceIte, Int.reduceEq, Int.reduceLT, Int.reduceLE, Int.reduceNe, Nat.reduceEqDiff, Nat.reduceLT, Nat.reduceAdd, Nat.reduceMul, Nat.reduceSub, Nat.reduceLeDiff, Int.reduceBEq, Int.reduceBNe, Nat.reduceBEq, Nat.reduceBNe, Int.reduceToNat]
      refine ⟨A, _, _, _, _, _, _, _, _, _, _, _, _, _, _, _, _, _, hkH, hAl, hwA, fun j => ?_, rfl⟩
      rw [hA j]
      constructor
      · rintro ⟨c, h1, h2, h3⟩; exact ⟨c, h1, by omega, h3⟩
      · rintro ⟨c, h1, h2, h3⟩; exact ⟨c, h1, by omega, h3⟩
  · rintro e env H5 ⟨rfl, A, e12, e13, e14, e15, e16, e19, e20, e21, e22, e23, e24, e25, e26, e27, e28, e29, e30, hkH, hAl, hwA, hA, rfl⟩
    have hkH5 := hk1.trans hkH
    have hwl' : ∀ n, (wrapT l n).length < 9223372036854775808 := fun n => by simp [wrapT]; omega
    have hrepd : ∀ (lo hi : Int) (g j : Nat), den (wrapT l (repN lo hi)) y ((wrapT l (repN lo hi)).length - 1) g j ↔ ∃ c : Nat, lo ≤ c ∧ (hi = -1 ∨ (c : Int) ≤ hi) ∧ iterN r c g j := fun lo hi g j => by
      rw [rep_den y hRl rfl, hr]; exact Iff.rfl
    have hrR : ∀ (lo hi : Int), 0 ≤ lo ∧ lo ≤ 4096 → (hi = -1 ∨ 1 ≤ hi ∧ lo ≤ hi ∧ hi ≤ 4096) → RightT (wrapT l (repN lo hi)) ∧ NoRef (wrapT l (repN lo hi)) := fun lo hi h1 h2 =>
      ⟨wrap_right hRl (by omega) (repN_shaped _ h1 h2), wrap_noref hNl (by simp [repN])⟩
    simp only [zz, env0, aPure, aRead, aNew, aEff, aval, avals, aparts, aopt, wantedA, binA, isShift, binI, fillA, single, aRes, splice, mkv, unA, binS, sameAt, reduceCtorEq, reduceIte, Int.reduceEq, Int.reduceLT, Int.reduceLE, Int.reduceNe, Nat.reduceEqDiff, Nat.reduceLT, Nat.reduceAdd, Nat.reduceMul, Nat.reduceSub, Nat.reduceLeDiff, Int.reduceBEq, Int.reduceBNe, Nat.reduceBEq, Nat.reduceBNe, Int.reduceToNat]
    rw [show K9 = .seq (hdC K9) K10 from rfl, zWC_seq]
    refine WC.mono (K := fun e env H' => e = .normal ∧ Keeps H H' ∧ ∃ e31, env = [va, .str w, .int .u8 at', .int .u8 lo', .int .u8 more', .bool false, .bool true, .str y, .int .i64 f, .int .i64 a, .int .i64 b, .sl ia 0 (y.length + 1), e12, e13, e14, e15, e16, .junk, .bool false, e19, e20, e21, e22, e23, e24, e25, e26, e27, e28, e29, e30, e31]) ?_ ?_
    · by_cases hb0 : 0 < b
      · have hd : decide ((0 : Int) < b) = true := by simp; omega
        simp only [K9, hdC, tls, tlC, a4, hd, zz, env0, aPure, aRead, aNew, aEff, aval, avals, aparts, aopt, wantedA, binA, isShift, binI, fillA, single, aRes, splice, mkv, unA, binS, sameAt, reduceCtorEq, reduceIte, Int.reduceEq, Int.reduceLT, Int.reduceLE, Int.reduceNe, Nat.reduceEqDiff, Nat.reduceLT, Nat.reduceAdd, Nat.reduceMul, Nat.reduceSub, Nat.reduceLeDiff, Int.reduceBEq, Int.reduceBNe, Nat.reduceBEq, Nat.reduceBNe, Int.reduceToNat]
        refine wrap_spec _ _ .nilsl l (repN a b) (Rows.keeps NdP.mono hkH5 hl) (by omega) (repN_ok ⟨by omega, by omega⟩ ⟨by omega, by omega⟩) Rows.nil _ ?_
        intro vw Hw hkw hNw
        simp only [hd, zz, env0, aPure, aRead, aNew, aEff, aval, avals, aparts, aopt, wantedA, binA, isShift, binI, fillA, single, aRes, splice, mkv, unA, binS, sameAt, reduceCtorEq, reduceIte, Int.reduceEq, Int.reduceLT, Int.reduceLE, Int.reduceNe, Nat.reduceEqDiff, Nat.reduceLT, Nat.reduceAdd, Nat.reduceMul, Nat.reduceSub, Nat.reduceLeDiff, Int.reduceBEq, Int.reduceBNe, Nat.reduceBEq, Nat.reduceBNe, Int.reduceToNat]
        refine Ends_spec _ _ _ y f hNw (hwl' _) (by omega) _ ?_
        intro vq Hq qs hkq hiq hEq
        have hkwq := hkw.trans hkq
        have hAB : Bls Hq (.sl ia 0 (y.length + 1)) A := by unfold Bls; rw [hAl]; exact (hwA.keeps hkwq).row
        simp only [hd, zz, env0, aPure, aRead, aNew, aEff, aval, avals, aparts, aopt, wantedA, binA, isShift, binI, fillA, single, aRes, splice, mkv, unA, binS, sameAt, reduceCtorEq, reduceIte, Int.reduceEq, Int.reduceLT, Int.reduceLE, Int.reduceNe, Nat.reduceEqDiff, Nat.reduceLT, Nat.reduceAdd, Nat.reduceMul, Nat.reduceSub, Nat.reduceLeDiff, Int.reduceBEq, Int.reduceBNe, Nat.reduceBEq, Nat.reduceBNe, Int.reduceToNat]
        refine list_spec _ _ A hAB (by omega) _ ?_
        intro vr Hr hkr hir
        have hql := hEq.1.len
        have heq : qs = trues A := ends_trues hEq (fun j => by
          rw [hA j, hrepd]
          have h0 := hrR (a : Int) (b : Int) ⟨by omega, by omega⟩ (.inr ⟨by omega, by omega, by omega⟩)
          constructor
          · rintro ⟨c, h1, h2, h3⟩
            exact ⟨h0.1, h0.2, by omega, by omega, c, by omega, .inr (by omega), h3⟩
          · rintro ⟨_, _, _, _, c, h1, h2, h3⟩
            exact ⟨c, by omega, by omega, h3⟩)
        simp only [hd, zz, env0, aPure, aRead, aNew, aEff, aval, avals, aparts, aopt, wantedA, binA, isShift, binI, fillA, single, aRes, splice, mkv, unA, binS, sameAt, reduceCtorEq, reduceIte, Int.reduceEq, Int.reduceLT, Int.reduceLE, Int.reduceNe, Nat.reduceEqDiff, Nat.reduceLT, Nat.reduceAdd, Nat.reduceMul, Nat.reduceSub, Nat.reduceLeDiff, Int.reduceBEq, Int.reduceBNe, Nat.reduceBEq, Nat.reduceBNe, Int.reduceToNat]
        refine ints_spec _ _ _ _ _ (by rw [nts_len]; omega) (Rows.keeps IntP.mono hkr hiq) hir _ ?_
        intro b3 hb3
        have hb3' : b3 = true := hb3.2 (by rw [heq])
        subst hb3'
        simp only [hd, zz, env0, aPure, aRead, aNew, aEff, aval, avals, aparts, aopt, wantedA, binA, isShift, binI, fillA, single, aRes, splice, mkv, unA, binS, sameAt, reduceCtorEq, reduceIte, Int.reduceEq, Int.reduceLT, Int.reduceLE, Int.reduceNe, Nat.reduceEqDiff, Nat.reduceLT, Nat.reduceAdd, Nat.reduceMul, Nat.reduceSub, Nat.reduceLeDiff, Int.reduceBEq, Int.reduceBNe, Nat.reduceBEq, Nat.reduceBNe, Int.reduceToNat]
        exact ⟨hkH5.trans (hkwq.trans hkr), _, rfl⟩
      · have hd : decide ((0 : Int) < b) = false := by simp; omega
        simp only [K9, hdC, tls, tlC, a4, hd, zz, env0, aPure, aRead, aNew, aEff, aval, avals, aparts, aopt, wantedA, binA, isShift, binI, fillA, single, aRes, splice, mkv, unA, binS, sameAt, reduceCtorEq, reduceIte, Int.reduceEq, Int.reduceLT, Int.reduceLE, Int.reduceNe, Nat.reduceEqDiff, Nat.reduceLT, Nat.reduceAdd, Nat.reduceMul, Nat.reduceSub, Nat.reduceLeDiff, Int.reduceBEq, Int.reduceBNe, Nat.reduceBEq, Nat.reduceBNe, Int.reduceToNat]
        exact ⟨hkH5, _, rfl⟩
    · rintro e env H6 ⟨rfl, hk6, e31, rfl⟩
      have w1 : IntKind.i64.wrap ((a : Int) + (y.length : Int)) = ((a + y.length : Nat) : Int) := by rw [wrap_i64 (by omega) (by omega)]; omega
      have w2 : IntKind.i64.wrap (((a + y.length : Nat) : Int) + 1) = ((a + y.length + 1 : Nat) : Int) := by rw [wrap_i64 (by omega) (by omega)]; omega
      simp only [K10, hdC, tls, tlC, a4, zz, env0, aPure, aRead, aNew, aEff, aval, avals, aparts, aopt, wantedA, binA, isShift, binI, fillA, single, aRes, splice, mkv, unA, binS, sameAt, reduceCtorEq, reduceIte, Int.reduceEq, Int.reduceLT, Int.reduceLE, Int.reduceNe, Nat.reduceEqDiff, Nat.reduceLT, Nat.reduceAdd, Nat.reduceMul, Nat.reduceSub, Nat.reduceLeDiff, Int.reduceBEq, Int.reduceBNe, Nat.reduceBEq, Nat.reduceBNe, Int.reduceToNat]
      refine wrap_spec _ _ .nilsl l (repN a (-1)) (Rows.keeps NdP.mono hk6 hl) (by omega) (repN_ok ⟨by omega, by omega⟩ ⟨by omega, by omega⟩) Rows.nil _ ?_
      intro vw Hw hkw hNw
      simp only [zz, env0, aPure, aRead, aNew, aEff, aval, avals, aparts, aopt, wantedA, binA, isShift, binI, fillA, single, aRes, splice, mkv, unA, binS, sameAt, reduceCtorEq, reduceIte, Int.reduceEq, Int.reduceLT, Int.reduceLE, Int.reduceNe, Nat.reduceEqDiff, Nat.reduceLT, Nat.reduceAdd, Nat.reduceMul, Nat.reduceSub, Nat.reduceLeDiff, Int.reduceBEq, Int.reduceBNe, Nat.reduceBEq, Nat.reduceBNe, Int.reduceToNat]
      refine Ends_spec _ _ _ y f hNw (hwl' _) (by omega) _ ?_
      intro vq Hq qs hkq hiq hEq
      have hkq' := hk6.trans (hkw.trans hkq)
      simp only [w1, w2, zz, env0, aPure, aRead, aNew, aEff, aval, avals, aparts, aopt, wantedA, binA, isShift, binI, fillA, single, aRes, splice, mkv, unA, binS, sameAt, reduceCtorEq, reduceIte, Int.reduceEq, Int.reduceLT, Int.reduceLE, Int.reduceNe, Nat.reduceEqDiff, Nat.reduceLT, Nat.reduceAdd, Nat.reduceMul, Nat.reduceSub, Nat.reduceLeDiff, Int.reduceBEq, Int.reduceBNe, Nat.reduceBEq, Nat.reduceBNe, Int.reduceToNat]
      refine wrap_spec _ _ .nilsl l (repN a ((a + y.length + 1 : Nat) : Int)) (Rows.keeps NdP.mono hkq' hl) (by omega) (repN_ok ⟨by omega, by omega⟩ ⟨by omega, by omega⟩) Rows.nil _ ?_
      intro vw2 Hw2 hkw2 hNw2
      simp only [zz, env0, aPure, aRead, aNew, aEff, aval, avals, aparts, aopt, wantedA, binA, isShift, binI, fillA, single, aRes, splice, mkv, unA, binS, sameAt, reduceCtorEq, reduceIte, Int.reduceEq, Int.reduceLT, Int.reduceLE, Int.reduceNe, Nat.reduceEqDiff, Nat.reduceLT, Nat.reduceAdd, Nat.reduceMul, Nat.reduceSub, Nat.reduceLeDiff, Int.reduceBEq, Int.reduceBNe, Nat.reduceBEq, Nat.reduceBNe, Int.reduceToNat]
      refine Ends_spec _ _ _ y f hNw2 (hwl' _) (by omega) _ ?_
      intro vq2 Hq2 qs2 hkq2 hiq2 hEq2
      have hql := hEq.1.len
      have heq : qs = qs2 := sorted_ext hEq.1.1 hEq2.1.1 (fun j => by
        rw [hEq.2 j, hEq2.2 j, hrepd, hrepd]
        have h0 := hrR (a : Int) (-1) ⟨by omega, by omega⟩ (.inl rfl)
        have h1 := hrR (a : Int) ((a + y.length + 1 : Nat) : Int) ⟨by omega, by omega⟩ (.inr ⟨by omega, by omega, by omega⟩)
        constructor
        · rintro ⟨_, _, p1, p2, c, h3, _, h4⟩
          refine ⟨h1.1, h1.2, p1, p2, ?_⟩
          by_cases hc : c ≤ a + y.length + 1
          · exact ⟨c, h3, .inr (by omega), h4⟩
          · have hj := hitb c j h4
            have hce : c = (a + y.length) + (c - (a + y.length)) := by omega
            rw [hce] at h4
            exact ⟨a + y.length, by omega, .inr (by omega), iter_down (fun i j h => (hrle i j h).1) _ _ _ _ h4 (by show j ≤ f + (a + y.length); omega)⟩
        · rintro ⟨_, _, p1, p2, c, h3, _, h4⟩
          exact ⟨h0.1, h0.2, p1, p2, c, h3, .inl rfl, h4⟩)
      simp only [zz, env0, aPure, aRead, aNew, aEff, aval, avals, aparts, aopt, wantedA, binA, isShift, binI, fillA, single, aRes, splice, mkv, unA, binS, sameAt, reduceCtorEq, reduceIte, Int.reduceEq, Int.reduceLT, Int.reduceLE, Int.reduceNe, Nat.reduceEqDiff, Nat.reduceLT, Nat.reduceAdd, Nat.reduceMul, Nat.reduceSub, Nat.reduceLeDiff, Int.reduceBEq, Int.reduceBNe, Nat.reduceBEq, Nat.reduceBNe, Int.reduceToNat]
      refine ints_spec _ _ _ _ _ (by rw [nts_len]; omega) (Rows.keeps IntP.mono (hkw2.trans hkq2) hiq) hiq2 _ ?_
      intro b3 hb3
      have hb3' : b3 = true := hb3.2 (by rw [heq])
      subst hb3'
      simp only [zz, env0, aPure, aRead, aNew, aEff, aval, avals, aparts, aopt, wantedA, binA, isShift, binI, fillA, single, aRes, splice, mkv, unA, binS, sameAt, reduceCtorEq, reduceIte, Int.reduceEq, Int.reduceLT, Int.reduceLE, Int.reduceNe, Nat.reduceEqDiff, Nat.reduceLT, Nat.reduceAdd, Nat.reduceMul, Nat.reduceSub, Nat.reduceLeDiff, Int.reduceBEq, Int.reduceBNe, Nat.reduceBEq, Nat.reduceBNe, Int.reduceToNat]
end Go.Proofs.Ytnblhjpbpobglaa

/- LangTimes: the statement, from the law's run. -/
set_option maxRecDepth 100000
set_option linter.unusedVariables false
namespace Go.Proofs.Ytnblhjpbpobglaa
open Go.Am Go.ChangeShapes Go.WideShapes Go.ChangeAt Go.RowKit

theorem own : ownKnob Try.prog.godebug = none := by kernel_rfl
theorem laidOut : laidOutB Try.prog = true := by kernel_rfl

theorem law_shapes : shapesArgs Try.prog 20 Try.f4.params.toList = some [.slice 9 ndShp, .str, .int .u8, .int .u8, .int .u8] := by kernel_rfl

theorem law_all (H : AHeap) (avs : List AV) (h : FitsArgs H [.slice 9 ndShp, .str, .int .u8, .int .u8, .int .u8] avs) : ∃ n H', aCall prog orc1 n 4 avs H = some (.bool true, H') := by
  simp only [FitsArgs] at h
  obtain ⟨a0, _, rfl, h0, a1, _, rfl, h1, a2, _, rfl, h2, a3, _, rfl, h3, a4, _, rfl, h4, rfl⟩ := h
  obtain ⟨l0, g0, k0⟩ := fits_nds h0
  obtain ⟨s1, e1, k1⟩ := fits_str h1
  simp only [List.cons.injEq, and_true] at e1
  subst e1
  simp only [Fits] at h2
  obtain ⟨n2, e2, u2, v2⟩ := h2
  simp only [List.cons.injEq, and_true] at e2
  subst e2
  have u2 : (0 : Int) ≤ n2 := u2
  have v2 : n2 ≤ 255 := v2
  simp only [Fits] at h3
  obtain ⟨n3, e3, u3, v3⟩ := h3
  simp only [List.cons.injEq, and_true] at e3
  subst e3
  have u3 : (0 : Int) ≤ n3 := u3
  have v3 : n3 ≤ 255 := v3
  simp only [Fits] at h4
  obtain ⟨n4, e4, u4, v4⟩ := h4
  simp only [List.cons.injEq, and_true] at e4
  subst e4
  have u4 : (0 : Int) ≤ n4 := u4
  have v4 : n4 ≤ 255 := v4
  obtain ⟨m, r, HF, h, rfl⟩ := times_run H a0 l0 s1 n2 n3 n4 g0 k0 k1 ⟨u2, v2⟩ ⟨u3, v3⟩ ⟨u4, v4⟩
  exact ⟨m, HF, h⟩

theorem law_lifted (os : Os) (started : os.Started) (H : Type) (enc : TypeId × Value → H) :
    ReturnsInHanded {} Try.checked os 4 .any (Rows.langTimesSpec.pre6 enc Try.prog Try.f4 Rows.langTimesRow.domain false) (Rows.langTimesSpec.post enc Try.prog Try.f4 false Rows.langTimesRow.fresh Rows.langTimesRow.handsOn Rows.langTimesRow.again) := by
  refine returnsInHanded_of_change (C := Try.checked) own started (by kernel_rfl) Try.func4
    (ChangeSpec.witness6 (enc := enc) (C := Try.checked) false ⟨#[], #[.slice none 0 0, .string ⟨#[]⟩, .int .u8 0, .int .u8 0, .int .u8 0], []⟩ 8 (by kernel_rfl) (by kernel_rfl) (by kernel_rfl) (by kernel_rfl)) ?_
  intro W base args ds gs before hval hW _ _
  exact law_calls laidOut sound law_shapes (by
      have : Try.f4.params.toList.all (fun t => Try.prog.readableRec t && decide (t < Try.prog.types.size)) = true := by kernel_rfl
      intro t ht
      have := List.all_eq_true.1 this t ht
      simpa using this) rfl (tb := 4) (by kernel_rfl) (by kernel_rfl) (fun ds hds => by
      match ds, hds with
      | [d0, d1, d2, d3, d4], _ => rfl) hval hW (fun H avs hF => law_all H avs hF)

theorem law_row : Rows.LangTimesSaid :=
  OpenClaim.holds_of_wide 4 Try.f4 rfl rfl rfl rfl rfl rfl rfl ⟨rfl, rfl, rfl, rfl, rfl⟩ rfl rfl rfl rfl rfl (by kernel_rfl) Try.func4 (by kernel_rfl)
    (of_decide_eq_true (by kernel_rfl)) (by unfold Func.isWrapper; first | (rw [if_pos (by decide +kernel)]; kernel_rfl) | (rw [if_neg (by decide +kernel)]; exact ⟨rfl, rfl⟩))
    (fun os started H enc _ => law_lifted os started H enc)
end Go.Proofs.Ytnblhjpbpobglaa
