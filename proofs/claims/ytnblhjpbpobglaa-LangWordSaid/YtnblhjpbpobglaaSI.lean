/- norm.tree and Expand without names; lang.plain. -/
import Derived.Test.YtnblhjpbpobglaaSH
set_option maxRecDepth 100000
set_option linter.unusedSimpArgs false
namespace Go.Proofs.Ytnblhjpbpobglaa
open Go.Am

theorem name0_spec (H : AHeap) (bx d : Nat) (o outv : AV) (s : List UInt8) (hbx : getB H bx = some (.cells 3 true [.map d, o, outv])) (hd : getB H d = some (.map [])) (K : AV → AHeap → Prop)
    (hK : K (.tup [.int .i64 0, .int .i64 60]) H) : WF P0 69 [.ptr bx 0, .str s] H K := by
  have l0 : loadA H bx 0 1 = some [.map d] := load_one hbx rfl
  refine zWF rfl rfl rfl ?_
  simp only [a69, l0, hd, keyOk, findI, zz, env0, aPure, aRead, aNew, aEff, aval, avals, aparts, aopt, wantedA, binA, isShift, binI, fillA, single, aRes, splice, mkv, unA, binS, sameAt, reduceCtorEq, reduceIte, Int.reduceEq, Int.reduceLT, Int.reduceLE, Int.reduceNe, Nat.reduceEqDiff, Nat.reduceLT, Nat.reduceAdd, Nat.reduceMul, Nat.reduceSub, Nat.reduceLeDiff, Int.reduceBEq, Int.reduceBNe, Nat.reduceBEq, Nat.reduceBNe, Int.reduceToNat]
  exact hK

def upto (i n : Nat) : List Int := (List.range i).map Int.ofNat ++ List.replicate (n - i) 0
theorem upto_len {i n : Nat} (h : i ≤ n) : (upto i n).length = n := by simp [upto]; omega
theorem upto_ren {i n : Nat} {k : Int} (h0 : 0 ≤ k) (h1 : k < i) : ren (upto i n) k = k := by
  simp only [ren, upto, List.getD_eq_getElem?_getD]
  rw [List.getElem?_append_left (by simp; omega), List.getElem?_map, List.getElem?_range (by omega)]
  simp; omega
theorem upto_set {i n : Nat} (h : i < n) : (upto i n).set i i = upto (i + 1) n := by
  simp only [upto]
  rw [List.set_append_right _ _ (by simp), List.length_map, List.length_range, Nat.sub_self]
  have : n - i = (n - (i + 1)) + 1 := by omega
  rw [this, List.replicate_succ, List.set_cons_zero, List.range_succ, List.map_append, List.append_assoc]
  rfl

theorem stk_kids {l : List Nd} {a : List Int} (h : Stk l a) {k : Nat} {n : Nd} (hn : l[k]? = some n) : Shaped n ∧ n.kids.length ≤ k ∧ ∀ x, x ∈ n.kids → 0 ≤ x ∧ x < k := by
  have hk : k < l.length := by
    rcases Nat.lt_or_ge k l.length with h | h
    · exact h
    · rw [List.getElem?_eq_none h] at hn; simp at hn
  obtain ⟨s, hs⟩ := stk_take h (k + 1) hk
  have e : l.take (k + 1) = l.take k ++ [n] := by
    rw [List.take_succ_eq_append_getElem hk]; congr 2
    rw [List.getElem?_eq_getElem hk] at hn; simpa using hn
  rw [e] at hs
  obtain ⟨st, _, h1, h2⟩ := stk_inv hs
  obtain ⟨h3, h4⟩ := stk_len h1
  have hl : (l.take k).length = k := by rw [List.length_take]; omega
  rw [hl] at h3 h4
  rw [List.length_append] at h3
  exact ⟨h2, by omega, fun x hx => h4 x (by simp [hx])⟩

theorem tree0_spec (H : AHeap) (bx d : Nat) (o v : AV) (l : List Nd) (hbx : getB H bx = some (.cells 3 true [.map d, o, .nilsl])) (hd : getB H d = some (.map [])) (hN : Nds H v l) (hR : RightT l) (K : AV → AHeap → Prop)
    (hK1 : (∃ n, n ∈ l ∧ n.op = 6) → ∀ H' e, Else H H' (some bx) → e ≠ 0 → K (.tup [.int .i64 0, .int .i64 e]) H')
    (hK2 : (∀ n, n ∈ l → n.op ≠ 6) → ∀ H' outv r, Else H H' (some bx) → getB H' bx = some (.cells 3 true [.map d, o, outv]) → Nds H' outv l → K (.tup [.int .i64 r, .int .i64 0]) H') :
    WF P0 58 [.ptr bx 0, v] H K := by
  obtain ⟨hl1, hl2, root, hstk⟩ := hR
  have hla := hN.lenOf
  have hne : d ≠ bx := fun e => by subst e; rw [hbx] at hd; simp at hd
  refine zWF rfl rfl rfl ?_
  have hmk1 : (0 : Int) ≤ l.length := by omega
  have hmk2 : (l.length : Int) * 8 ≤ ((maxRoom : Nat) : Int) := by simp only [maxRoom]; omega
  have hmk3 : (l.length : Int) ≤ 1152921504606846976 := by omega
  simp only [a58, hla, hmk1, hmk2, hmk3, zz, env0, aPure, aRead, aNew, aEff, aval, avals, aparts, aopt, wantedA, binA, isShift, binI, fillA, single, aRes, splice, mkv, unA, binS, sameAt, reduceCtorEq, reduceIte, Int.reduceEq, Int.reduceLT, Int.reduceLE, Int.reduceNe, Nat.reduceEqDiff, Nat.reduceLT, Nat.reduceAdd, Nat.reduceMul, Nat.reduceSub, Nat.reduceLeDiff, Int.reduceBEq, Int.reduceBNe, Nat.reduceBEq, Nat.reduceBNe, Int.reduceToNat]
  have hbl := gb_lt hbx
  have hrows : rows l.length [.int .i64 0] = (List.replicate l.length (0 : Int)).map (AV.int .i64) := by
    simp only [rows]
    generalize l.length = q
    induction q with
    | zero => rfl
    | succ q ih => simp [List.replicate_succ, ih]
  have hat0 := WR.new H 1 l.length (rows l.length [.int .i64 0]) (by rw [hrows]; simp) (Nat.le_refl _)
  refine WCL (fun r env H' => Else H H' (some bx) ∧ ∃ (i : Nat) (outv a5 a6 a7 a11 a12 a13 : AV) (rs : List (List AV)), i ≤ l.length ∧ r = l.length - i ∧ (∀ k n, k < i → l[k]? = some n → n.op ≠ 6) ∧
      getB H' bx = some (.cells 3 true [.map d, o, outv]) ∧ WR H' (H.length + 1) 9 outv i rs.flatten ∧ rs.length = i ∧ (∀ k n, k < i → l[k]? = some n → ∃ kv, rs[k]? = some (ndRow n kv) ∧ Ints H' kv n.kids ∧ avId kv ≠ some H.length) ∧
      WR H' H.length 1 (.sl H.length 0 l.length) l.length ((upto i l.length).map (AV.int .i64)) ∧
      env = [.ptr bx 0, v, .int .i64 0, .int .i64 0, .sl H.length 0 l.length, a5, a6, a7, v, .int .i64 l.length, .int .i64 i, a11, a12, a13]) (n := l.length)
    ⟨⟨by simp, fun i c _ hc => gb_push _ hc⟩, 0, .nilsl, _, _, _, _, _, _, [], Nat.zero_le _, rfl, fun k n h => by omega, gb_push _ hbx, .nil, rfl, fun k n h => by omega, (by rw [show (upto 0 l.length).map (AV.int .i64) = rows l.length [.int .i64 0] from hrows.symm]; exact hat0), rfl⟩ ?_
  rintro r env H' ⟨he, i, outv, a5, a6, a7, a11, a12, a13, rs, hil, rfl, hno, hbx', hout, hrl, hrs, hat, rfl⟩
  simp only [zz, env0, aPure, aRead, aNew, aEff, aval, avals, aparts, aopt, wantedA, binA, isShift, binI, fillA, single, aRes, splice, mkv, unA, binS, sameAt, reduceCtorEq, reduceIte, Int.reduceEq, Int.reduceLT, Int.reduceLE, Int.reduceNe, Nat.reduceEqDiff, Nat.reduceLT, Nat.reduceAdd, Nat.reduceMul, Nat.reduceSub, Nat.reduceLeDiff, Int.reduceBEq, Int.reduceBNe, Nat.reduceBEq, Nat.reduceBNe, Int.reduceToNat]
  refine onB_of (fun hlt => ?_) (fun hlt => ?_)
  · have hlt : i < l.length := by simpa using hlt
    obtain ⟨n, hn⟩ : ∃ n, l[i]? = some n := ⟨l[i], List.getElem?_eq_getElem (by omega)⟩
    have hN' : Nds H' v l := nds_sz (fun j rw cs hc => he.2 j _ (fun e => by simp only [Option.some.injEq] at e; subst e; rw [hbx] at hc; simp at hc) hc)
      (fun j rw cs hc => he.2 j _ (fun e => by simp only [Option.some.injEq] at e; subst e; rw [hbx] at hc; simp at hc) hc) hN
    have hd' : getB H' d = some (.map []) := he.2 d _ (fun e => by simp only [Option.some.injEq] at e; exact hne e.symm) hd
    obtain ⟨b, o9, kv, rfl, hok, hkv, hld⟩ := hN'.nd hn
    obtain ⟨hsh, hkl, hkr⟩ := stk_kids hstk hn
    have p1 : (0 : Int) ≤ i := by omega
    have p2 : (i : Int) < l.length := by omega
    have h9 := hld 0 9 (by omega)
    simp only [Nat.add_zero, List.drop_zero, ndRow, List.take_succ_cons, List.take_zero] at h9
    obtain ⟨f1, f2, f3, f4⟩ := hkv.flat
    simp only [p1, p2, h9, f1, zz, env0, aPure, aRead, aNew, aEff, aval, avals, aparts, aopt, wantedA, binA, isShift, binI, fillA, single, aRes, splice, mkv, unA, binS, sameAt, reduceCtorEq, reduceIte, Int.reduceEq, Int.reduceLT, Int.reduceLE, Int.reduceNe, Nat.reduceEqDiff, Nat.reduceLT, Nat.reduceAdd, Nat.reduceMul, Nat.reduceSub, Nat.reduceLeDiff, Int.reduceBEq, Int.reduceBNe, Nat.reduceBEq, Nat.reduceBNe, Int.reduceToNat]
    refine onB_of (fun h6 => ?_) (fun h6 => ?_)
    · have h6' : n.op = 6 := by simpa using h6
      simp only [h6, zz, env0, aPure, aRead, aNew, aEff, aval, avals, aparts, aopt, wantedA, binA, isShift, binI, fillA, single, aRes, splice, mkv, unA, binS, sameAt, reduceCtorEq, reduceIte, Int.reduceEq, Int.reduceLT, Int.reduceLE, Int.reduceNe, Nat.reduceEqDiff, Nat.reduceLT, Nat.reduceAdd, Nat.reduceMul, Nat.reduceSub, Nat.reduceLeDiff, Int.reduceBEq, Int.reduceBNe, Nat.reduceBEq, Nat.reduceBNe, Int.reduceToNat]
      refine name0_spec _ bx d o outv _ (gb_push _ hbx') (gb_push _ hd') _ ?_
      obtain ⟨i4, q4, e4, H4, hs4, hw4, he4, _⟩ := (hat.keeps (Keeps.p1 H' (some (.cells 9 true (ndRow n kv))))).store (k := i) (vs := [.int .i64 0]) (by simp; omega) (by omega) rfl
      simp only [AV.sl.injEq] at e4
      obtain ⟨rfl, rfl, _⟩ := e4
      simp only [Nat.zero_add, ndRow] at hs4
      simp only [p1, p2, Nat.mul_one, hs4, zz, env0, aPure, aRead, aNew, aEff, aval, avals, aparts, aopt, wantedA, binA, isShift, binI, fillA, single, aRes, splice, mkv, unA, binS, sameAt, reduceCtorEq, reduceIte, Int.reduceEq, Int.reduceLT, Int.reduceLE, Int.reduceNe, Nat.reduceEqDiff, Nat.reduceLT, Nat.reduceAdd, Nat.reduceMul, Nat.reduceSub, Nat.reduceLeDiff, Int.reduceBEq, Int.reduceBNe, Nat.reduceBEq, Nat.reduceBNe, Int.reduceToNat]
      exact hK1 ⟨n, List.mem_of_getElem? hn, h6'⟩ _ 60 ⟨by have h1 := he.1; have h2 := he4.1; simp at h2; omega, fun j c hj hc => he4.2 j c (fun e => by simp only [Option.some.injEq] at e; subst e; have := gb_lt hc; omega) (gb_push _ (he.2 j c hj hc))⟩ (by decide)
    · have h6' : n.op ≠ 6 := by simpa using h6
      simp only [h6, zz, env0, aPure, aRead, aNew, aEff, aval, avals, aparts, aopt, wantedA, binA, isShift, binI, fillA, single, aRes, splice, mkv, unA, binS, sameAt, reduceCtorEq, reduceIte, Int.reduceEq, Int.reduceLT, Int.reduceLE, Int.reduceNe, Nat.reduceEqDiff, Nat.reduceLT, Nat.reduceAdd, Nat.reduceMul, Nat.reduceSub, Nat.reduceLeDiff, Int.reduceBEq, Int.reduceBNe, Nat.reduceBEq, Nat.reduceBNe, Int.reduceToNat]
      have hlen := upto_len (i := i) (n := l.length) (by omega)
      refine put_spec _ (H.length + 1) bx (.map d) o outv _ kv n (upto i l.length) i rs.flatten (gb_push _ hbx') (hout.keeps (.p1 _ _)) (by have := he.1; simp; omega) hok (Rows.keeps IntP.mono (.p1 _ _) hkv)
        (ints_of (by rw [hlen]; exact (hat.keeps (.p1 _ _)).row)) (fun k hk => by have := hkr k hk; rw [hlen]; omega) (by omega) _ (fun h => absurd h (by omega)) ?_
      intro _ H2 outv' kv' he2 hbx2 hout2 hkv2 hid2 hidk
      have hkids : n.kids.map (ren (upto i l.length)) = n.kids := by
        conv => rhs; rw [← List.map_id n.kids]
        apply List.map_congr_left
        intro k hk
        have := hkr k hk
        exact upto_ren this.1 (by omega)
      rw [hkids] at hkv2
      have hidat : avId outv ≠ some H.length := fun e => by have := (hout.id e).1; omega
      have hat2 : WR H2 H.length 1 (.sl H.length 0 l.length) l.length ((upto i l.length).map (AV.int .i64)) := (hat.keeps (Keeps.p1 H' _)).keep (fun j q hj hq => by
        simp [avId] at hj; subst hj
        exact he2.2 _ _ (by omega) hidat hq)
      obtain ⟨i4, q4, e4, H4, hs4, hw4, he4, hl4⟩ := hat2.store (k := i) (vs := [.int .i64 i]) (by simp; omega) (by omega) rfl
      simp only [AV.sl.injEq] at e4
      obtain ⟨rfl, rfl, _⟩ := e4
      simp only [Nat.zero_add] at hs4
      have v2 : IntKind.i64.wrap ((i : Int) + 1) = ((i + 1 : Nat) : Int) := by rw [wrap_i64 (by omega) (by omega)]; rfl
      simp only [p1, p2, Nat.mul_one, hs4, v2, zz, env0, aPure, aRead, aNew, aEff, aval, avals, aparts, aopt, wantedA, binA, isShift, binI, fillA, single, aRes, splice, mkv, unA, binS, sameAt, reduceCtorEq, reduceIte, Int.reduceEq, Int.reduceLT, Int.reduceLE, Int.reduceNe, Nat.reduceEqDiff, Nat.reduceLT, Nat.reduceAdd, Nat.reduceMul, Nat.reduceSub, Nat.reduceLeDiff, Int.reduceBEq, Int.reduceBNe, Nat.reduceBEq, Nat.reduceBNe, Int.reduceToNat]
      have hkeep1 : ∀ j rw cs, getB H' j = some (.cells 1 rw cs) → j ≠ H.length → getB H4 j = some (.cells 1 rw cs) := fun j rw cs hc hj => he4.2 j _ (fun e => hj (by simpa using e.symm)) (he2.2 j _ (fun e => by subst e; rw [hbx'] at hc; simp at hc)
        (fun e => by obtain ⟨rw', cs', hc'⟩ := RowAt.id hout.row e; rw [hc'] at hc; simp at hc) (gb_push _ hc))
      refine ⟨l.length - (i + 1), by omega, ?_, i + 1, outv', _, _, _, _, _, _, rs ++ [ndRow n kv'], by omega, rfl, ?_, ?_, ?_, by simp [hrl], ?_, ?_, rfl⟩
      · refine ⟨by have h1 := he.1; have h2 := he2.1; simp at h2; omega, fun j c hj hc => he4.2 j c (fun e => by simp only [Option.some.injEq] at e; subst e; have := gb_lt hc; omega) (he2.2 j c (fun e => hj (by rw [e])) (fun e => by have h1 := (hout.id e).1; have h2 := gb_lt hc; omega) (gb_push _ (he.2 j c hj hc)))⟩
      · intro k m hk hm
        rcases Nat.lt_or_ge k i with h | h
        · exact hno k m h hm
        · have : k = i := by omega
          subst this; rw [hn] at hm; simp only [Option.some.injEq] at hm; subst hm; exact h6'
      · exact he4.2 bx _ (fun e => by simp only [Option.some.injEq] at e; omega) hbx2
      · rw [List.flatten_append]
        refine WR.keep ?_ (fun j q hj hq => he4.2 j q (fun e => ?_) hq)
        · simpa using hout2
        · simp only [Option.some.injEq] at e
          subst e
          have := (hout2.id hj).1; omega
      · intro k m hk hm
        rcases Nat.lt_or_ge k i with h | h
        · obtain ⟨kv1, g1, g2, g3⟩ := hrs k m h hm
          refine ⟨kv1, by rw [List.getElem?_append_left (by omega)]; exact g1, ?_, g3⟩
          refine ints_else g2 (fun j b hj hb => ?_)
          obtain ⟨rw', cs', hc'⟩ := RowAt.id g2.ints hj
          rw [hc'] at hb; simp only [Option.some.injEq] at hb; subst hb
          exact hkeep1 j rw' cs' hc' (fun e => g3 (by rw [hj, e]))
        · have : k = i := by omega
          subst this; rw [hn] at hm; simp only [Option.some.injEq] at hm; subst hm
          have hkn : avId kv' ≠ some H.length := fun e => by have h1 := hidk _ e; have h2 := he.1; simp at h1; omega
          refine ⟨kv', by rw [List.getElem?_append_right (by omega), hrl]; simp, ?_, hkn⟩
          exact ints_else hkv2 (fun j b hj hb => he4.2 j b (fun e => hkn (by rw [hj]; exact e.symm)) hb)
      · rw [splice_ints _ _ _ (by rw [hlen]; omega), upto_set hlt] at hw4
        exact hw4
  · have hie : i = l.length := by simp at hlt; omega
    subst hie
    have hlen := upto_len (Nat.le_refl l.length)
    have hI : Ints H' (.sl H.length 0 l.length) (upto l.length l.length) := ints_of (by rw [hlen]; exact hat.row)
    obtain ⟨x, hx⟩ : ∃ x, (upto l.length l.length)[l.length - 1]? = some x := ⟨_, List.getElem?_eq_getElem (by omega)⟩
    obtain ⟨j, q, e, g⟩ := hI.int hx
    rw [hlen] at e
    simp only [AV.sl.injEq] at e
    obtain ⟨rfl, rfl, _⟩ := e
    have v1 : IntKind.i64.wrap ((l.length : Int) - 1) = ((l.length - 1 : Nat) : Int) := by rw [wrap_i64 (by omega) (by omega)]; omega
    have p1 : (0 : Int) ≤ ((l.length - 1 : Nat) : Int) := by omega
    have p2 : ((l.length - 1 : Nat) : Int) < l.length := by omega
    rw [Nat.zero_add] at g
    simp only [hla, v1, p1, p2, Nat.mul_one, g, zz, env0, aPure, aRead, aNew, aEff, aval, avals, aparts, aopt, wantedA, binA, isShift, binI, fillA, single, aRes, splice, mkv, unA, binS, sameAt, reduceCtorEq, reduceIte, Int.reduceEq, Int.reduceLT, Int.reduceLE, Int.reduceNe, Nat.reduceEqDiff, Nat.reduceLT, Nat.reduceAdd, Nat.reduceMul, Nat.reduceSub, Nat.reduceLeDiff, Int.reduceBEq, Int.reduceBNe, Nat.reduceBEq, Nat.reduceBNe, Int.reduceToNat]
    refine hK2 (fun n hn => by obtain ⟨k, hk⟩ := List.mem_iff_getElem?.1 hn; exact hno k n (by
      rcases Nat.lt_or_ge k l.length with h | h
      · exact h
      · rw [List.getElem?_eq_none h] at hk; simp at hk) hk) _ _ _ he hbx' ?_
    refine ⟨rs, hout.row, hrl, fun k m hm => ?_⟩
    have hkl : k < l.length := by
      rcases Nat.lt_or_ge k l.length with h | h
      · exact h
      · rw [List.getElem?_eq_none h] at hm; simp at hm
    obtain ⟨kv1, g1, g2, _⟩ := hrs k m hkl hm
    obtain ⟨_, _, _, _, hok, _⟩ := hN.nd hm
    exact ⟨_, g1, rfl, hok, kv1, rfl, g2⟩

def NoRef (l : List Nd) : Prop := ∀ n, n ∈ l → n.op ≠ 6

theorem expand0_spec (H : AHeap) (v : AV) (l : List Nd) (hN : Nds H v l) (hbig : l.length < 9223372036854775808) (K : AV → AHeap → Prop)
    (hK1 : ¬ (RightT l ∧ NoRef l) → ∀ H' e, Keeps H H' → e ≠ 0 → K (.tup [.nilsl, .int .i64 e]) H')
    (hK2 : RightT l ∧ NoRef l → ∀ H' v', Keeps H H' → Nds H' v' l → K (.tup [v', .int .i64 0]) H') :
    WF P0 41 [v, .nilsl] H K := by
  refine zWF rfl rfl rfl ?_
  simp only [a41, zz, env0, aPure, aRead, aNew, aEff, aval, avals, aparts, aopt, wantedA, binA, isShift, binI, fillA, single, aRes, splice, mkv, unA, binS, sameAt, reduceCtorEq, reduceIte, Int.reduceEq, Int.reduceLT, Int.reduceLE, Int.reduceNe, Nat.reduceEqDiff, Nat.reduceLT, Nat.reduceAdd, Nat.reduceMul, Nat.reduceSub, Nat.reduceLeDiff, Int.reduceBEq, Int.reduceBNe, Nat.reduceBEq, Nat.reduceBNe, Int.reduceToNat]
  refine right_spec _ _ l hN hbig _ ?_
  intro b H1 hk1 hb
  cases b with
  | false =>
    simp only [zz, env0, aPure, aRead, aNew, aEff, aval, avals, aparts, aopt, wantedA, binA, isShift, binI, fillA, single, aRes, splice, mkv, unA, binS, sameAt, reduceCtorEq, reduceIte, Int.reduceEq, Int.reduceLT, Int.reduceLE, Int.reduceNe, Nat.reduceEqDiff, Nat.reduceLT, Nat.reduceAdd, Nat.reduceMul, Nat.reduceSub, Nat.reduceLeDiff, Int.reduceBEq, Int.reduceBNe, Nat.reduceBEq, Nat.reduceBNe, Int.reduceToNat]
    exact hK1 (fun h => by have := hb.2 h.1; simp at this) _ 1 hk1 (by decide)
  | true =>
    have hR := hb.1 rfl
    simp only [zz, env0, aPure, aRead, aNew, aEff, aval, avals, aparts, aopt, wantedA, binA, isShift, binI, fillA, single, aRes, splice, mkv, unA, binS, sameAt, reduceCtorEq, reduceIte, Int.reduceEq, Int.reduceLT, Int.reduceLE, Int.reduceNe, Nat.reduceEqDiff, Nat.reduceLT, Nat.reduceAdd, Nat.reduceMul, Nat.reduceSub, Nat.reduceLeDiff, Int.reduceBEq, Int.reduceBNe, Nat.reduceBEq, Nat.reduceBNe, Int.reduceToNat]
    refine normRight0_spec _ _ ?_
    intro H2 hk2
    simp only [zz, env0, aPure, aRead, aNew, aEff, aval, avals, aparts, aopt, wantedA, binA, isShift, binI, fillA, single, aRes, splice, mkv, unA, binS, sameAt, reduceCtorEq, reduceIte, Int.reduceEq, Int.reduceLT, Int.reduceLE, Int.reduceNe, Nat.reduceEqDiff, Nat.reduceLT, Nat.reduceAdd, Nat.reduceMul, Nat.reduceSub, Nat.reduceLeDiff, Int.reduceBEq, Int.reduceBNe, Nat.reduceBEq, Nat.reduceBNe, Int.reduceToNat]
    refine WC_unroll ?_
    simp only [zz, env0, aPure, aRead, aNew, aEff, aval, avals, aparts, aopt, wantedA, binA, isShift, binI, fillA, single, aRes, splice, mkv, unA, binS, sameAt, reduceCtorEq, reduceIte, Int.reduceEq, Int.reduceLT, Int.reduceLE, Int.reduceNe, Nat.reduceEqDiff, Nat.reduceLT, Nat.reduceAdd, Nat.reduceMul, Nat.reduceSub, Nat.reduceLeDiff, Int.reduceBEq, Int.reduceBNe, Nat.reduceBEq, Nat.reduceBNe, Int.reduceToNat]
    have hH : Keeps H (H2 ++ [some (Blk.map [])] ++ [some (Blk.map [])]) := (hk1.trans hk2).trans (.p2 _ _ _)
    refine tree0_spec _ _ H2.length (.map (H2 ++ [some (Blk.map [])]).length) v l (gb_new _ _) (gb_push _ (gb_push _ (gb_new _ _))) (Rows.keeps NdP.mono (hH.trans (.p1 _ _)) hN) hR _ ?_ ?_
    · intro hex H3 e he3 hne
      have hne' : (e != 0) = true := by simpa [bne_iff_ne] using hne
      simp only [hne', zz, env0, aPure, aRead, aNew, aEff, aval, avals, aparts, aopt, wantedA, binA, isShift, binI, fillA, single, aRes, splice, mkv, unA, binS, sameAt, reduceCtorEq, reduceIte, Int.reduceEq, Int.reduceLT, Int.reduceLE, Int.reduceNe, Nat.reduceEqDiff, Nat.reduceLT, Nat.reduceAdd, Nat.reduceMul, Nat.reduceSub, Nat.reduceLeDiff, Int.reduceBEq, Int.reduceBNe, Nat.reduceBEq, Nat.reduceBNe, Int.reduceToNat]
      refine hK1 (fun h => by obtain ⟨n, h1, h2⟩ := hex; exact h.2 n h1 h2) _ e ?_ hne
      exact Else.keeps (hH.trans (.p1 _ _)) he3 (fun i hi => by simp only [Option.some.injEq] at hi; have := hH.1; omega)
    · intro hno H3 outv r he3 hbx hout
      have l2 : loadA H3 (H2 ++ [some (Blk.map [])] ++ [some (Blk.map [])]).length 2 1 = some [outv] := load_one hbx rfl
      simp only [l2, zz, env0, aPure, aRead, aNew, aEff, aval, avals, aparts, aopt, wantedA, binA, isShift, binI, fillA, single, aRes, splice, mkv, unA, binS, sameAt, reduceCtorEq, reduceIte, Int.reduceEq, Int.reduceLT, Int.reduceLE, Int.reduceNe, Nat.reduceEqDiff, Nat.reduceLT, Nat.reduceAdd, Nat.reduceMul, Nat.reduceSub, Nat.reduceLeDiff, Int.reduceBEq, Int.reduceBNe, Nat.reduceBEq, Nat.reduceBNe, Int.reduceToNat]
      refine hK2 ⟨hR, hno⟩ _ _ ?_ hout
      exact Else.keeps (hH.trans (.p1 _ _)) he3 (fun i hi => by simp only [Option.some.injEq] at hi; have := hH.1; omega)

theorem plain_spec (H : AHeap) (v : AV) (l : List Nd) (hN : Nds H v l) (hbig : l.length < 9223372036854775808) (K : AV → AHeap → Prop)
    (hK : ∀ b H', Keeps H H' → (b = true ↔ RightT l ∧ NoRef l) → K (.bool b) H') : WF P0 29 [v] H K := by
  refine zWF rfl rfl rfl ?_
  simp only [a29, zz, env0, aPure, aRead, aNew, aEff, aval, avals, aparts, aopt, wantedA, binA, isShift, binI, fillA, single, aRes, splice, mkv, unA, binS, sameAt, reduceCtorEq, reduceIte, Int.reduceEq, Int.reduceLT, Int.reduceLE, Int.reduceNe, Nat.reduceEqDiff, Nat.reduceLT, Nat.reduceAdd, Nat.reduceMul, Nat.reduceSub, Nat.reduceLeDiff, Int.reduceBEq, Int.reduceBNe, Nat.reduceBEq, Nat.reduceBNe, Int.reduceToNat]
  refine expand0_spec _ _ l hN hbig _ ?_ ?_
  · intro h H1 e hk he
    have he' : (e == 0) = false := by simpa using he
    simp only [he', zz, env0, aPure, aRead, aNew, aEff, aval, avals, aparts, aopt, wantedA, binA, isShift, binI, fillA, single, aRes, splice, mkv, unA, binS, sameAt, reduceCtorEq, reduceIte, Int.reduceEq, Int.reduceLT, Int.reduceLE, Int.reduceNe, Nat.reduceEqDiff, Nat.reduceLT, Nat.reduceAdd, Nat.reduceMul, Nat.reduceSub, Nat.reduceLeDiff, Int.reduceBEq, Int.reduceBNe, Nat.reduceBEq, Nat.reduceBNe, Int.reduceToNat]
    exact hK _ _ hk (by simp [h])
  · intro h H1 v' hk _
    simp only [zz, env0, aPure, aRead, aNew, aEff, aval, avals, aparts, aopt, wantedA, binA, isShift, binI, fillA, single, aRes, splice, mkv, unA, binS, sameAt, reduceCtorEq, reduceIte, Int.reduceEq, Int.reduceLT, Int.reduceLE, Int.reduceNe, Nat.reduceEqDiff, Nat.reduceLT, Nat.reduceAdd, Nat.reduceMul, Nat.reduceSub, Nat.reduceLeDiff, Int.reduceBEq, Int.reduceBNe, Nat.reduceBEq, Nat.reduceBNe, Int.reduceToNat]
    exact hK _ _ hk (by simp [h])
end Go.Proofs.Ytnblhjpbpobglaa
