/- LangWord: the law's run. -/
import Derived.Test.YtnblhjpbpobglaaSQ
set_option maxRecDepth 100000
set_option linter.unusedSimpArgs false
namespace Go.Proofs.Ytnblhjpbpobglaa
open Go.Am

theorem shown_spec (H : AHeap) (K : AV → AHeap → Prop) (hK : K (.bool true) H) : WF P0 10 [] H K := WF_orc rfl rfl hK

theorem bytes_of (bs : List UInt8) : bytesOf (bs.map fun b => AV.int .u8 b.toNat) = some bs := by
  induction bs with
  | nil => rfl
  | cons b l ih => simp [bytesOf, ih]
theorem bytes_flat (bs : List UInt8) : (bs.map fun b => [AV.int .u8 b.toNat]).flatten = bs.map fun b => AV.int .u8 b.toNat := by
  induction bs with
  | nil => rfl
  | cons b l ih => simp [ih]
theorem rows_bytes {H : AHeap} {v : AV} {bs : List UInt8} (h : Go.Am.Rows 1 ByteP H v bs) : RowAt H 1 v bs.length (bs.map fun b => AV.int .u8 b.toNat) := by
  obtain ⟨rs, h1, h2, h3⟩ := h
  have e : rs = bs.map fun x => [.int .u8 x.toNat] := by
    apply List.ext_getElem?
    intro k
    rw [List.getElem?_map]
    cases hx : bs[k]? with
    | none =>
      rw [List.getElem?_eq_none_iff] at hx
      simp [List.getElem?_eq_none (show rs.length ≤ k by omega)]
    | some x => obtain ⟨r, a, b, c⟩ := h3 k x hx; rw [a, c]; rfl
  rw [e, bytes_flat] at h1; exact h1
/-- string(v). -/
theorem row_str {H : AHeap} {i o n : Nat} {bs : List UInt8} (h : RowAt H 1 (.sl i o n) n (bs.map fun b => AV.int .u8 b.toNat)) : loadA H i o n = some (bs.map fun b => AV.int .u8 b.toNat) := by
  rcases h with ⟨h, _⟩ | ⟨i', o', rw, cs, e, h2, h3, h4⟩
  · rcases h with h | h <;> simp at h
  · simp only [AV.sl.injEq] at e
    obtain ⟨rfl, rfl, _⟩ := e
    rw [load_of h2, if_pos (by omega)]
    rw [Nat.mul_one] at h4; rw [h4]
theorem row_byte {H : AHeap} {v : AV} {n : Nat} {bs : List UInt8} (h : RowAt H 1 v n (bs.map fun b => AV.int .u8 b.toNat)) {k : Nat} {c : UInt8} (hc : bs[k]? = some c) : ∃ i o, v = .sl i o n ∧ k < n ∧ loadA H i (o + k) 1 = some [.int .u8 c.toNat] := by
  have hl := h.len
  rw [List.length_map] at hl
  have hk : k < bs.length := by
    rcases Nat.lt_or_ge k bs.length with h | h
    · exact h
    · rw [List.getElem?_eq_none h] at hc; simp at hc
  obtain ⟨i, o, rfl, g⟩ := h.elem (k := k) (by omega)
  refine ⟨i, o, rfl, by omega, ?_⟩
  have := g 0 1 (by omega)
  simp only [Nat.mul_one, Nat.add_zero] at this
  rw [this, List.drop_eq_getElem_cons (by simpa using hk)]
  rw [List.getElem?_eq_getElem hk] at hc
  simp only [Option.some.injEq] at hc
  simp [hc]

theorem shl_one (k : Nat) (h : k < 64) : shiftI .shl .u64 1 k = some (.int .u64 (2 ^ k)) := by
  have hp := pow_lt64 k h
  simp only [shiftI, IntKind.bits]
  rw [if_neg (by omega)]
  have : min (k : Int).toNat 64 = k := by simp; omega
  rw [this, Int.one_mul, wrap_u64 (Int.le_of_lt hp.1) hp.2]

theorem word_run (H : AHeap) (vb : AV) (b w : List UInt8) (at' : Int) (hb : Go.Am.Rows 1 ByteP H vb b) (_hbl : b.length ≤ maxLen) (hwl : w.length ≤ maxLen) (ha : 0 ≤ at' ∧ at' ≤ 255) :
    WF P0 7 [vb, .str w, .int .u8 at'] H (fun r _ => r = .bool true) := by
  have hrb := rows_bytes hb
  have hlb := hrb.lenOf
  have hz := hrb.szOk
  refine zWF rfl rfl rfl ?_
  simp only [a7, zz, env0, aPure, aRead, aNew, aEff, aval, avals, aparts, aopt, wantedA, binA, isShift, binI, fillA, single, aRes, splice, mkv, unA, binS, sameAt, reduceCtorEq, reduceIte, Int.reduceEq, Int.reduceLT, Int.reduceLE, Int.reduceNe, Nat.reduceEqDiff, Nat.reduceLT, Nat.reduceAdd, Nat.reduceMul, Nat.reduceSub, Nat.reduceLeDiff, Int.reduceBEq, Int.reduceBNe, Nat.reduceBEq, Nat.reduceBNe, Int.reduceToNat]
  refine shown_spec _ _ ?_
  generalize hn : min b.length 15 = n
  have hmin : (if (15 : Int) < b.length then (15 : Int) else b.length) = (n : Int) := by split <;> omega
  obtain ⟨vx, hsx, hrx, hidx⟩ := sliceA_hi hrb (l := n) (by omega)
  rw [Nat.mul_one, ← List.map_take] at hrx
  generalize hx : b.take n = x at hrx
  have hxl : x.length = n := by rw [← hx, List.length_take]; omega
  simp only [hlb, hz, hmin, hsx, zz, env0, aPure, aRead, aNew, aEff, aval, avals, aparts, aopt, wantedA, binA, isShift, binI, fillA, single, aRes, splice, mkv, unA, binS, sameAt, reduceCtorEq, reduceIte, Int.reduceEq, Int.reduceLT, Int.reduceLE, Int.reduceNe, Nat.reduceEqDiff, Nat.reduceLT, Nat.reduceAdd, Nat.reduceMul, Nat.reduceSub, Nat.reduceLeDiff, Int.reduceBEq, Int.reduceBNe, Nat.reduceBEq, Nat.reduceBNe, Int.reduceToNat]
  refine z_call_aft rfl ?_
  refine text_spec _ _ _ (by have : maxLen = 9223372036854775807 := rfl; omega) ?_
  generalize hy : w.take 20 = y
  have hyl : y.length ≤ 20 := by rw [← hy, List.length_take]; omega
  have hlx := hrx.lenOf
  simp only [hz, hmin, hsx, hlx, zz, env0, aPure, aRead, aNew, aEff, aval, avals, aparts, aopt, wantedA, binA, isShift, binI, fillA, single, aRes, splice, mkv, unA, binS, sameAt, reduceCtorEq, reduceIte, Int.reduceEq, Int.reduceLT, Int.reduceLE, Int.reduceNe, Nat.reduceEqDiff, Nat.reduceLT, Nat.reduceAdd, Nat.reduceMul, Nat.reduceSub, Nat.reduceLeDiff, Int.reduceBEq, Int.reduceBNe, Nat.reduceBEq, Nat.reduceBNe, Int.reduceToNat]
  refine onB_of (fun hlt => ?_) (fun hge => ?_)
  · simp only [zz, env0, aPure, aRead, aNew, aEff, aval, avals, aparts, aopt, wantedA, binA, isShift, binI, fillA, single, aRes, splice, mkv, unA, binS, sameAt, reduceCtorEq, reduceIte, Int.reduceEq, Int.reduceLT, Int.reduceLE, Int.reduceNe, Nat.reduceEqDiff, Nat.reduceLT, Nat.reduceAdd, Nat.reduceMul, Nat.reduceSub, Nat.reduceLeDiff, Int.reduceBEq, Int.reduceBNe, Nat.reduceBEq, Nat.reduceBNe, Int.reduceToNat]
  have hn2 : 2 ≤ n := by simp at hge; omega
  have hn15 : n ≤ 15 := by omega
  simp only [hge, hlx, zz, env0, aPure, aRead, aNew, aEff, aval, avals, aparts, aopt, wantedA, binA, isShift, binI, fillA, single, aRes, splice, mkv, unA, binS, sameAt, reduceCtorEq, reduceIte, Int.reduceEq, Int.reduceLT, Int.reduceLE, Int.reduceNe, Nat.reduceEqDiff, Nat.reduceLT, Nat.reduceAdd, Nat.reduceMul, Nat.reduceSub, Nat.reduceLeDiff, Int.reduceBEq, Int.reduceBNe, Nat.reduceBEq, Nat.reduceBNe, Int.reduceToNat]
  -- the loop
  have hrx0 : RowAt H 1 vx n (x.map fun b => AV.int .u8 b.toNat) := hrx
  refine WC.mono (K := fun e env H' => e = .exit 0 ∧ ∃ vl vk a9 a10 a11 a20 a21, Keeps H H' ∧ WR H' H.length 9 vl n ((x.map fun c => ndRow (bnd c) .nilsl).flatten) ∧ WR H' H.length 1 vk n ((nts (List.range n)).map (AV.int .i64)) ∧
      env = [vb, .str w, .int .u8 at', .bool false, .bool true, vx, .str y, vl, vk, a9, a10, a11, .junk, .junk, .junk, .junk, .junk, .bool false, vx, .int .i64 n, a20, a21]) ?_ ?_
  · refine WCL (fun r env H' => ∃ (t : Nat) (vl vk a9 a10 a11 a21 : AV), t ≤ n ∧ r = n - t ∧ Keeps H H' ∧ WR H' H.length 9 vl t (((x.take t).map fun c => ndRow (bnd c) .nilsl).flatten) ∧ WR H' H.length 1 vk t ((nts (List.range t)).map (AV.int .i64)) ∧
        env = [vb, .str w, .int .u8 at', .bool false, .bool true, vx, .str y, vl, vk, a9, a10, a11, .junk, .junk, .junk, .junk, .junk, .bool false, vx, .int .i64 n, .int .i64 t, a21]) (n := n)
      ⟨0, .nilsl, .nilsl, _, _, _, _, Nat.zero_le _, rfl, .refl _, .nil, .nil, rfl⟩ ?_
    rintro r env H' ⟨t, vl, vk, a9, a10, a11, a21, ht, rfl, hk, hl, hkk, rfl⟩
    simp only [zz, env0, aPure, aRead, aNew, aEff, aval, avals, aparts, aopt, wantedA, binA, isShift, binI, fillA, single, aRes, splice, mkv, unA, binS, sameAt, reduceCtorEq, reduceIte, Int.reduceEq, Int.reduceLT, Int.reduceLE, Int.reduceNe, Nat.reduceEqDiff, Nat.reduceLT, Nat.reduceAdd, Nat.reduceMul, Nat.reduceSub, Nat.reduceLeDiff, Int.reduceBEq, Int.reduceBNe, Nat.reduceBEq, Nat.reduceBNe, Int.reduceToNat]
    refine onB_of (fun hlt => ?_) (fun hlt => ?_)
    · have hlt : t < n := by simpa using hlt
      obtain ⟨c, hc⟩ : ∃ c, x[t]? = some c := ⟨x[t], List.getElem?_eq_getElem (by omega)⟩
      obtain ⟨ix, ox, rfl, _, g1⟩ := row_byte (hrx.keeps hk) hc
      have r1 : (0 : Int) ≤ t := by omega
      have r2 : (t : Int) < n := by omega
      have hc256 : c.toNat < 256 := c.toNat_lt
      have hq : IntKind.u8.wrap ((c.toNat : Int).tdiv 64) = ((c.toNat / 64 : Nat) : Int) := by
        have : (c.toNat : Int).tdiv 64 = ((c.toNat / 64 : Nat) : Int) := rfl
        rw [this, wrap_u8 (by omega) (by omega)]
      have hr : (c.toNat : Int).tmod 64 = ((c.toNat % 64 : Nat) : Int) := rfl
      have hsh := shl_one (c.toNat % 64) (by omega)
      have vt : IntKind.i64.wrap ((t : Int) + 1) = ((t + 1 : Nat) : Int) := by rw [wrap_i64 (by omega) (by omega)]; rfl
      have htk : x.take (t + 1) = x.take t ++ [c] := by
        rw [List.take_succ_eq_append_getElem (by omega)]; congr 2
        rw [List.getElem?_eq_getElem (by omega)] at hc; simpa using hc
      -- what comes behind the set
      have next : ∀ (H3 : AHeap), Keeps H' H3 → ∃ vl' H4, appendA (H3 ++ [some (.cells 9 true (ndRow (bnd c) .nilsl))]) 9 96 vl (.sl H3.length 0 1) = some (vl', H4) ∧ 
          ∃ vk' H5, appendA (H4 ++ [some (.cells 1 true [.int .i64 t])]) 1 8 vk (.sl H4.length 0 1) = some (vk', H5) ∧
          Keeps H H5 ∧ WR H5 H.length 9 vl' (t + 1) (((x.take (t + 1)).map fun c => ndRow (bnd c) .nilsl).flatten) ∧ WR H5 H.length 1 vk' (t + 1) ((nts (List.range (t + 1))).map (AV.int .i64)) := fun H3 hk3 => by
        obtain ⟨vl', H4, h1, h2, h3, h4⟩ := (hl.keeps (hk3.trans (Keeps.p1 H3 (some (.cells 9 true (ndRow (bnd c) .nilsl)))))).append (bytes := 96) (by have := hk.1; have := hk3.1; simp; omega) (src_new H3 9 1 _ rfl) rfl rfl (by simp only [maxRoom]; omega)
        refine ⟨vl', H4, h1, ?_⟩
        have hkk4 : WR H4 H.length 1 vk t ((nts (List.range t)).map (AV.int .i64)) := (hkk.keeps (hk3.trans (Keeps.p1 H3 _))).keep (fun i q hi hq => h3.2 i q (fun e => by
          obtain ⟨rw1, cs1, e1⟩ := RowAt.id hl.row e
          obtain ⟨rw2, cs2, e2⟩ := RowAt.id hkk.row hi
          rw [e1] at e2; simp at e2) hq)
        have hk4 : Keeps H H4 := Else.keeps (hk.trans (hk3.trans (.p1 _ _))) h3 (fun i hi => (hl.id hi).1)
        obtain ⟨vk', H5, h5, h6, h7, h8⟩ := (hkk4.keeps (Keeps.p1 H4 (some (.cells 1 true [.int .i64 t])))).append (bytes := 8) (by have := hk4.1; simp; omega) (src_new H4 1 1 [.int .i64 t] rfl) rfl rfl (by simp only [maxRoom]; omega)
        refine ⟨vk', H5, h5, Else.keeps (hk4.trans (.p1 _ _)) h7 (fun i hi => (hkk4.id hi).1), ?_, ?_⟩
        · rw [htk, List.map_append, List.flatten_append]
          refine (h2.keeps (.p1 _ _)).keep (fun i q hi hq => h7.2 i q (fun e => ?_) hq) |> fun h => by simpa using h
          have e1 := (hkk4.id e).2
          rcases h2 with ⟨rfl | rfl, _⟩ | ⟨i1, o1, cs1, rfl, _, e2, _⟩
          · simp [avId] at hi
          · simp [avId] at hi
          · simp only [avId, Option.some.injEq] at hi
            subst hi
            obtain ⟨rw', cs', e3⟩ := RowAt.id hkk4.row e
            rw [e2] at e3; simp at e3
        · rw [List.range_succ, nts, List.map_append, List.map_append]; simpa [nts] using h6
      have hcase : c.toNat / 64 = 0 ∨ c.toNat / 64 = 1 ∨ c.toNat / 64 = 2 ∨ c.toNat / 64 = 3 := by omega
      rcases hcase with h | h | h | h
      · rw [h] at hq
        obtain ⟨vl', H4, n1, vk', H5, n2, n3, n4, n5⟩ := next (H' ++ [some (Blk.cells 4 true [.int .u64 (2 ^ (c.toNat % 64)), .int .u64 0, .int .u64 0, .int .u64 0])]) (.p1 _ _)
        have hrow : ndRow (bnd c) .nilsl = [.int .u8 2, .int .u64 (2 ^ (c.toNat % 64)), .int .u64 0, .int .u64 0, .int .u64 0, .nilsl, .int .i64 0, .int .i64 0, .str []] := by simp [ndRow, bnd, h]
        rw [hrow] at n1
        simp only [hlt, r1, r2, Nat.mul_one, g1, hq, hr, hsh, n1, n2, vt, zz, env0, aPure, aRead, aNew, aEff, aval, avals, aparts, aopt, wantedA, binA, isShift, binI, fillA, single, aRes, splice, mkv, unA, binS, sameAt, reduceCtorEq, reduceIte, Int.reduceEq, Int.reduceLT, Int.reduceLE, Int.reduceNe, Nat.reduceEqDiff, Nat.reduceLT, Nat.reduceAdd, Nat.reduceMul, Nat.reduceSub, Nat.reduceLeDiff, Int.reduceBEq, Int.reduceBNe, Nat.reduceBEq, Nat.reduceBNe, Int.reduceToNat]
        exact ⟨n - (t + 1), by omega, t + 1, vl', vk', _, _, _, _, by omega, rfl, n3, n4, n5, rfl⟩
      · rw [h] at hq
        obtain ⟨vl', H4, n1, vk', H5, n2, n3, n4, n5⟩ := next (H' ++ [some (Blk.cells 4 true [.int .u64 0, .int .u64 (2 ^ (c.toNat % 64)), .int .u64 0, .int .u64 0])]) (.p1 _ _)
        have hrow : ndRow (bnd c) .nilsl = [.int .u8 2, .int .u64 0, .int .u64 (2 ^ (c.toNat % 64)), .int .u64 0, .int .u64 0, .nilsl, .int .i64 0, .int .i64 0, .str []] := by simp [ndRow, bnd, h]
        rw [hrow] at n1
        simp only [hlt, r1, r2, Nat.mul_one, g1, hq, hr, hsh, n1, n2, vt, zz, env0, aPure, aRead, aNew, aEff, aval, avals, aparts, aopt, wantedA, binA, isShift, binI, fillA, single, aRes, splice, mkv, unA, binS, sameAt, reduceCtorEq, reduceIte, Int.reduceEq, Int.reduceLT, Int.reduceLE, Int.reduceNe, Nat.reduceEqDiff, Nat.reduceLT, Nat.reduceAdd, Nat.reduceMul, Nat.reduceSub, Nat.reduceLeDiff, Int.reduceBEq, Int.reduceBNe, Nat.reduceBEq, Nat.reduceBNe, Int.reduceToNat]
        exact ⟨n - (t + 1), by omega, t + 1, vl', vk', _, _, _, _, by omega, rfl, n3, n4, n5, rfl⟩
      · rw [h] at hq
        obtain ⟨vl', H4, n1, vk', H5, n2, n3, n4, n5⟩ := next (H' ++ [some (Blk.cells 4 true [.int .u64 0, .int .u64 0, .int .u64 (2 ^ (c.toNat % 64)), .int .u64 0])]) (.p1 _ _)
        have hrow : ndRow (bnd c) .nilsl = [.int .u8 2, .int .u64 0, .int .u64 0, .int .u64 (2 ^ (c.toNat % 64)), .int .u64 0, .nilsl, .int .i64 0, .int .i64 0, .str []] := by simp [ndRow, bnd, h]
        rw [hrow] at n1
        simp only [hlt, r1, r2, Nat.mul_one, g1, hq, hr, hsh, n1, n2, vt, zz, env0, aPure, aRead, aNew, aEff, aval, avals, aparts, aopt, wantedA, binA, isShift, binI, fillA, single, aRes, splice, mkv, unA, binS, sameAt, reduceCtorEq, reduceIte, Int.reduceEq, Int.reduceLT, Int.reduceLE, Int.reduceNe, Nat.reduceEqDiff, Nat.reduceLT, Nat.reduceAdd, Nat.reduceMul, Nat.reduceSub, Nat.reduceLeDiff, Int.reduceBEq, Int.reduceBNe, Nat.reduceBEq, Nat.reduceBNe, Int.reduceToNat]
        exact ⟨n - (t + 1), by omega, t + 1, vl', vk', _, _, _, _, by omega, rfl, n3, n4, n5, rfl⟩
      · rw [h] at hq
        obtain ⟨vl', H4, n1, vk', H5, n2, n3, n4, n5⟩ := next (H' ++ [some (Blk.cells 4 true [.int .u64 0, .int .u64 0, .int .u64 0, .int .u64 (2 ^ (c.toNat % 64))])]) (.p1 _ _)
        have hrow : ndRow (bnd c) .nilsl = [.int .u8 2, .int .u64 0, .int .u64 0, .int .u64 0, .int .u64 (2 ^ (c.toNat % 64)), .nilsl, .int .i64 0, .int .i64 0, .str []] := by simp [ndRow, bnd, h]
        rw [hrow] at n1
        simp only [hlt, r1, r2, Nat.mul_one, g1, hq, hr, hsh, n1, n2, vt, zz, env0, aPure, aRead, aNew, aEff, aval, avals, aparts, aopt, wantedA, binA, isShift, binI, fillA, single, aRes, splice, mkv, unA, binS, sameAt, reduceCtorEq, reduceIte, Int.reduceEq, Int.reduceLT, Int.reduceLE, Int.reduceNe, Nat.reduceEqDiff, Nat.reduceLT, Nat.reduceAdd, Nat.reduceMul, Nat.reduceSub, Nat.reduceLeDiff, Int.reduceBEq, Int.reduceBNe, Nat.reduceBEq, Nat.reduceBNe, Int.reduceToNat]
        exact ⟨n - (t + 1), by omega, t + 1, vl', vk', _, _, _, _, by omega, rfl, n3, n4, n5, rfl⟩
    · have hte : t = n := by simp at hlt; omega
      subst hte
      rw [← hxl, List.take_length] at hl
      simp only [zz, env0, aPure, aRead, aNew, aEff, aval, avals, aparts, aopt, wantedA, binA, isShift, binI, fillA, single, aRes, splice, mkv, unA, binS, sameAt, reduceCtorEq, reduceIte, Int.reduceEq, Int.reduceLT, Int.reduceLE, Int.reduceNe, Nat.reduceEqDiff, Nat.reduceLT, Nat.reduceAdd, Nat.reduceMul, Nat.reduceSub, Nat.reduceLeDiff, Int.reduceBEq, Int.reduceBNe, Nat.reduceBEq, Nat.reduceBNe, Int.reduceToNat]
      rw [hxl] at hl
      exact ⟨vl, vk, _, _, _, _, _, hk, hl, hkk, rfl⟩
  · rintro e env H' ⟨rfl, vl, vk, a9, a10, a11, a20, a21, hk, hl, hkk, rfl⟩
    have hvx : ∃ ix ox, vx = .sl ix ox n := by
      rcases hrx.lenL with ⟨_, h⟩ | ⟨_, h⟩ | h
      · omega
      · omega
      · exact h
    obtain ⟨ix, ox, rfl⟩ := hvx
    obtain ⟨f1, f2, f3, f4⟩ := hkk.row.flat
    obtain ⟨vl', H4, hap, hw4, he4, hid4⟩ := (hl.keeps (Keeps.p1 H' (some (.cells 9 true (ndRow (catNd n) vk))))).append (bytes := 96) (by have := hk.1; simp; omega) (src_new H' 9 1 _ rfl) rfl (by simp [ndRow, one_int, one_str, f1]) (by simp only [maxRoom]; omega)
    have hk4 : Keeps H H4 := Else.keeps (hk.trans (.p1 _ _)) he4 (fun i hi => (hl.id hi).1)
    have hkk4 : WR H4 H.length 1 vk n ((nts (List.range n)).map (AV.int .i64)) := (hkk.keeps (Keeps.p1 H' _)).keep (fun i q hi hq => he4.2 i q (fun e => by
      obtain ⟨rw1, cs1, e1⟩ := RowAt.id hl.row e
      obtain ⟨rw2, cs2, e2⟩ := RowAt.id hkk.row hi
      rw [e1] at e2; simp at e2) hq)
    have hN : Nds H4 vl' (wordT x) := by
      refine ⟨(x.map fun c => ndRow (bnd c) .nilsl) ++ [ndRow (catNd n) vk], ?_, by simp [wordT], fun k m hm => ?_⟩
      · have e : (wordT x).length = n + 1 := by simp [wordT, hxl]
        rw [e, List.flatten_append]
        have := hw4.row
        simpa using this
      · rcases Nat.lt_or_ge k x.length with h | h
        · rw [wordT, List.getElem?_append_left (by simpa using h)] at hm
          simp only [List.getElem?_map, List.getElem?_eq_getElem h, Option.map_some, Option.some.injEq] at hm
          subst hm
          refine ⟨ndRow (bnd x[k]) .nilsl, ?_, rfl, bnd_ok _, .nilsl, rfl, Rows.nil⟩
          rw [List.getElem?_append_left (by simpa using h)]
          simp [h]
        · have hk' : k = x.length := by
            rcases Nat.lt_or_ge k (x.length + 1) with h' | h'
            · omega
            · rw [List.getElem?_eq_none (by simp [wordT]; omega)] at hm; simp at hm
          subst hk'
          rw [wordT, List.getElem?_append_right (by simp)] at hm
          simp at hm
          subst hm
          refine ⟨ndRow (catNd n) vk, by rw [List.getElem?_append_right (by simp)]; simp, rfl, ?_, vk, by rw [hxl], ?_⟩
          · refine ⟨⟨by simp [catNd], by simp [catNd]⟩, ⟨by simp [catNd], by simp [catNd]⟩, ⟨by simp [catNd], by simp [catNd]⟩, ⟨by simp [catNd], by simp [catNd]⟩, ⟨by simp [catNd], by simp [catNd]⟩, fun k hk => ?_, ⟨by simp [catNd], by simp [catNd]⟩, ⟨by simp [catNd], by simp [catNd]⟩, ?_, by simp [catNd]⟩
            · simp only [catNd, nts_mem] at hk
              obtain ⟨m, h1, rfl⟩ := hk
              have := List.mem_range.1 h1
              exact ⟨by omega, by omega⟩
            · simp only [catNd, nts_len, List.length_range]; omega
          · refine ints_of ?_
            have e : (catNd x.length).kids.length = n := by simp [catNd, nts_len, hxl]
            rw [e, catNd, hxl]
            exact hkk4.row
    obtain ⟨hR, hNo⟩ := word_right x (by omega) (by omega)
    have hlw : (wordT x).length < 9223372036854775808 := by simp [wordT]; omega
    -- the place
    obtain ⟨f, hf⟩ : ∃ f : Nat, f = at'.toNat % (y.length + 1) := ⟨_, rfl⟩
    have hfy : f ≤ y.length := by rw [hf]; have := Nat.mod_lt at'.toNat (show 0 < y.length + 1 by omega); omega
    have c1 : IntKind.i64.wrap at' = at' := wrap_i64 (by omega) (by omega)
    have c2 : IntKind.i64.wrap ((y.length : Int) + 1) = ((y.length + 1 : Nat) : Int) := by rw [wrap_i64 (by omega) (by omega)]; rfl
    have c3 : at'.tmod ((y.length + 1 : Nat) : Int) = (f : Int) := by
      rw [hf]
      have : at' = (at'.toNat : Int) := by omega
      rw [this]; rfl
    have c4 : ((((y.length + 1 : Nat) : Int)) = 0) = False := by simp; omega
    have c5 : IntKind.i64.wrap ((f : Int) + n) = ((f + n : Nat) : Int) := by rw [wrap_i64 (by omega) (by omega)]; omega
    have hstr : ∀ H5, Keeps H H5 → loadA H5 ix ox n = some (x.map fun b => AV.int .u8 b.toNat) := fun H5 hk5 => row_str (hrx.keeps hk5)
    have hby := bytes_of x
    have s4 := hstr H4 hk4
    simp only [ndRow, catNd] at hap
    have hadd : (x.length + y.length ≤ 1152921504606846976) = True := by simp; omega
    have hcases : (f + n ≤ y.length ∧ (y.take (f + n)).drop f = x ∧ x <+: y.drop f) ∨ (f + n ≤ y.length ∧ (y.take (f + n)).drop f ≠ x ∧ ¬ x <+: y.drop f) ∨ (¬ f + n ≤ y.length ∧ ¬ x <+: y.drop f) := by
      have e : (y.take (f + n)).drop f = (y.drop f).take n := by rw [List.drop_take]; congr 1; omega
      rw [e]
      have hp : x <+: y.drop f ↔ (y.drop f).take n = x := by
        rw [List.prefix_iff_eq_take, hxl]; exact eq_comm
      by_cases h1 : f + n ≤ y.length
      · by_cases h2 : (y.drop f).take n = x
        · exact .inl ⟨h1, h2, hp.2 h2⟩
        · exact .inr (.inl ⟨h1, h2, fun h => h2 (hp.1 h)⟩)
      · refine .inr (.inr ⟨h1, fun h => ?_⟩)
        have := h.length_le
        simp at this; omega
    have hx0 : ∀ j, (RightT (wordT x) ∧ NoRef (wordT x) ∧ (0 : Int) ≤ f ∧ (f : Int) ≤ y.length ∧ den (wordT x) y ((wordT x).length - 1) ((f : Int).toNat) j) ↔ j = f + n ∧ x <+: y.drop f := fun j => by
      rw [word_den, hxl]
      constructor
      · rintro ⟨_, _, _, _, h⟩; simpa using h
      · intro h; exact ⟨hR, hNo, by omega, by omega, by simpa using h⟩
    have hlong : ∀ (nn : Int) (ok : Bool) (ms6 : List Nat), EndsL (wordT x) (x ++ y) 0 ms6 → LongT 0 ms6 nn ok → nn = (n : Int) ∧ ok = true := fun nn ok ms6 hE hL => by
      have hm : ∀ j, j ∈ ms6 ↔ j = n := fun j => by
        rw [hE.2 j, word_den, hxl]
        constructor
        · rintro ⟨_, _, _, _, h, _⟩; simpa using h
        · rintro rfl; exact ⟨hR, hNo, by omega, by omega, by simp, by simp⟩
      cases ok with
      | true =>
        obtain ⟨m, h1, h2, _⟩ := hL.1 rfl
        rw [hm] at h1; subst h1; exact ⟨h2, rfl⟩
      | false =>
        have := (hL.2 rfl).2 n ((hm n).2 rfl)
        omega
    have his1 : IsT (wordT x) x := ⟨hR, hNo, by rw [word_den]; exact ⟨by omega, by simp⟩⟩
    have his2 : ¬ IsT (wordT x) (x.drop 1) := fun h => by
      have := (word_den _ _ _ _).1 h.2.2
      simp at this; omega
    have hrx1 : ∀ H5, Keeps H H5 → loadA H5 ix (ox + 1) (n - 1) = some ((x.drop 1).map fun b => AV.int .u8 b.toNat) := fun H5 hk5 => by
      obtain ⟨v', h1, h2, _⟩ := sliceA_lo (hrx.keeps hk5) (l := 1) (by omega)
      simp [sliceA, slLen, bound] at h1
      rw [if_pos (by omega)] at h1
      simp at h1
      subst h1
      rw [Nat.one_mul, ← List.map_drop] at h2
      exact row_str h2
    have hby1 := bytes_of (x.drop 1)
    have hsl1 : sliceA 1 (.sl ix ox n) (some (.int .i64 1)) none none = some (.sl ix (ox + 1) (n - 1)) := by
      have h1n : (1 : Int) ≤ n := by omega
      simp [sliceA, slLen, bound, h1n]
    have hzx : ∀ H5, Keeps H H5 → szOk H5 1 (.sl ix ox n) = true := fun H5 hk5 => (hrx.keeps hk5).szOk
    have hnn : ((n : Int) == n) = true := by simp
    rcases hcases with ⟨d1, d2, d3⟩ | ⟨d1, d2, d3⟩ | ⟨d1, d3⟩
    · have g1 : decide (((f + n : Nat) : Int) ≤ y.length) = true := by simp; omega
      have g2 : sliceS y (some (.int .i64 f)) (some (.int .i64 ((f + n : Nat) : Int))) = some (.str ((y.take (f + n)).drop f)) := slice_mid y f (f + n) (by omega) d1
      simp only [f2, f3, hap, c1, c2, c3, c4, c5, hlx, g1, g2, s4, hby, d2, zz, env0, aPure, aRead, aNew, aEff, aval, avals, aparts, aopt, wantedA, binA, isShift, binI, fillA, single, aRes, splice, mkv, unA, binS, sameAt, reduceCtorEq, reduceIte, Int.reduceEq, Int.reduceLT, Int.reduceLE, Int.reduceNe, Nat.reduceEqDiff, Nat.reduceLT, Nat.reduceAdd, Nat.reduceMul, Nat.reduceSub, Nat.reduceLeDiff, Int.reduceBEq, Int.reduceBNe, Nat.reduceBEq, Nat.reduceBNe, Int.reduceToNat]
      refine Ends_spec _ _ (wordT x) y f hN hlw (by omega) _ ?_
      intro v1 H5 ms hk5 hi5 hE5
      have hms : ms = [f + n] := one_place hE5.1 (fun j => by rw [hE5.2 j, hx0 j]; exact ⟨fun h => h.1, fun h => ⟨h, d3⟩⟩)
      subst hms
      have s5 := hstr H5 (hk4.trans hk5)
      simp only [s5, hby, hadd, zz, env0, aPure, aRead, aNew, aEff, aval, avals, aparts, aopt, wantedA, binA, isShift, binI, fillA, single, aRes, splice, mkv, unA, binS, sameAt, reduceCtorEq, reduceIte, Int.reduceEq, Int.reduceLT, Int.reduceLE, Int.reduceNe, Nat.reduceEqDiff, Nat.reduceLT, Nat.reduceAdd, Nat.reduceMul, Nat.reduceSub, Nat.reduceLeDiff, Int.reduceBEq, Int.reduceBNe, Nat.reduceBEq, Nat.reduceBNe, Int.reduceToNat]
      refine Longest_spec _ _ (wordT x) (x ++ y) 0 (Rows.keeps NdP.mono hk5 hN) hlw (by simp; omega) _ ?_
      intro nn ok H6 ms6 hk6 hE6 hL6
      obtain ⟨rfl, rfl⟩ := hlong nn ok ms6 hE6 hL6
      have hk6' : Keeps H H6 := (hk4.trans hk5).trans hk6
      have s6 := hstr H6 hk6'
      have hN6 : Nds H6 vl' (wordT x) := Rows.keeps NdP.mono (hk5.trans hk6) hN
      obtain ⟨ie, oe, rfl, ge⟩ := (Rows.keeps IntP.mono hk6 hi5).int (nts_get (show [f + n][0]? = some (f + n) from rfl))
      have hle := hi5.lenOf
      simp only [nts_len, List.length_cons, List.length_nil, Nat.zero_add] at hle ge
      rw [Nat.add_zero] at ge
      simp only [hle, nts_len, ge, hlx, c5, s6, hby, Int.natCast_one, zz, env0, aPure, aRead, aNew, aEff, aval, avals, aparts, aopt, wantedA, binA, isShift, binI, fillA, single, aRes, splice, mkv, unA, binS, sameAt, reduceCtorEq, reduceIte, Int.reduceEq, Int.reduceLT, Int.reduceLE, Int.reduceNe, Nat.reduceEqDiff, Nat.reduceLT, Nat.reduceAdd, Nat.reduceMul, Nat.reduceSub, Nat.reduceLeDiff, Int.reduceBEq, Int.reduceBNe, Nat.reduceBEq, Nat.reduceBNe, Int.reduceToNat]
      refine Is_spec _ _ (wordT x) x hN6 hlw (by omega) _ ?_
      intro b1 H7 hk7 hb1
      have : b1 = true := hb1.2 his1
      subst this
      have s7 := hrx1 H7 (hk6'.trans hk7)
      have z7 := hzx H7 (hk6'.trans hk7)
      simp only [hle, nts_len, hlx, hnn, hsl1, s7, hby1, z7, zz, env0, aPure, aRead, aNew, aEff, aval, avals, aparts, aopt, wantedA, binA, isShift, binI, fillA, single, aRes, splice, mkv, unA, binS, sameAt, reduceCtorEq, reduceIte, Int.reduceEq, Int.reduceLT, Int.reduceLE, Int.reduceNe, Nat.reduceEqDiff, Nat.reduceLT, Nat.reduceAdd, Nat.reduceMul, Nat.reduceSub, Nat.reduceLeDiff, Int.reduceBEq, Int.reduceBNe, Nat.reduceBEq, Nat.reduceBNe, Int.reduceToNat]
      refine Is_spec _ _ (wordT x) (x.drop 1) (Rows.keeps NdP.mono hk7 hN6) hlw (by simp; omega) _ ?_
      intro b2 H8 hk8 hb2
      have : b2 = false := by
        cases b2 with
        | false => rfl
        | true => exact absurd (hb2.1 rfl) his2
      subst this
      simp only [zz, env0, aPure, aRead, aNew, aEff, aval, avals, aparts, aopt, wantedA, binA, isShift, binI, fillA, single, aRes, splice, mkv, unA, binS, sameAt, reduceCtorEq, reduceIte, Int.reduceEq, Int.reduceLT, Int.reduceLE, Int.reduceNe, Nat.reduceEqDiff, Nat.reduceLT, Nat.reduceAdd, Nat.reduceMul, Nat.reduceSub, Nat.reduceLeDiff, Int.reduceBEq, Int.reduceBNe, Nat.reduceBEq, Nat.reduceBNe, Int.reduceToNat]
    · have g1 : decide (((f + n : Nat) : Int) ≤ y.length) = true := by simp; omega
      have g2 : sliceS y (some (.int .i64 f)) (some (.int .i64 ((f + n : Nat) : Int))) = some (.str ((y.take (f + n)).drop f)) := slice_mid y f (f + n) (by omega) d1
      have g3 : ((y.take (f + n)).drop f == x) = false := by simpa using d2
      simp only [f2, f3, hap, c1, c2, c3, c4, c5, hlx, g1, g2, s4, hby, g3, zz, env0, aPure, aRead, aNew, aEff, aval, avals, aparts, aopt, wantedA, binA, isShift, binI, fillA, single, aRes, splice, mkv, unA, binS, sameAt, reduceCtorEq, reduceIte, Int.reduceEq, Int.reduceLT, Int.reduceLE, Int.reduceNe, Nat.reduceEqDiff, Nat.reduceLT, Nat.reduceAdd, Nat.reduceMul, Nat.reduceSub, Nat.reduceLeDiff, Int.reduceBEq, Int.reduceBNe, Nat.reduceBEq, Nat.reduceBNe, Int.reduceToNat]
      refine Ends_spec _ _ (wordT x) y f hN hlw (by omega) _ ?_
      intro v1 H5 ms hk5 hi5 hE5
      have hms : ms = [] := List.eq_nil_iff_forall_not_mem.2 (fun j hj => d3 ((hx0 j).1 ((hE5.2 j).1 hj)).2)
      subst hms
      have s5 := hstr H5 (hk4.trans hk5)
      simp only [s5, hby, hadd, zz, env0, aPure, aRead, aNew, aEff, aval, avals, aparts, aopt, wantedA, binA, isShift, binI, fillA, single, aRes, splice, mkv, unA, binS, sameAt, reduceCtorEq, reduceIte, Int.reduceEq, Int.reduceLT, Int.reduceLE, Int.reduceNe, Nat.reduceEqDiff, Nat.reduceLT, Nat.reduceAdd, Nat.reduceMul, Nat.reduceSub, Nat.reduceLeDiff, Int.reduceBEq, Int.reduceBNe, Nat.reduceBEq, Nat.reduceBNe, Int.reduceToNat]
      refine Longest_spec _ _ (wordT x) (x ++ y) 0 (Rows.keeps NdP.mono hk5 hN) hlw (by simp; omega) _ ?_
      intro nn ok H6 ms6 hk6 hE6 hL6
      obtain ⟨rfl, rfl⟩ := hlong nn ok ms6 hE6 hL6
      have hk6' : Keeps H H6 := (hk4.trans hk5).trans hk6
      have s6 := hstr H6 hk6'
      have hN6 : Nds H6 vl' (wordT x) := Rows.keeps NdP.mono (hk5.trans hk6) hN
      have hle := hi5.lenOf
      simp only [nts_len, List.length_nil] at hle
      simp only [hle, nts_len, hlx, c5, s6, hby, Int.natCast_one, zz, env0, aPure, aRead, aNew, aEff, aval, avals, aparts, aopt, wantedA, binA, isShift, binI, fillA, single, aRes, splice, mkv, unA, binS, sameAt, reduceCtorEq, reduceIte, Int.reduceEq, Int.reduceLT, Int.reduceLE, Int.reduceNe, Nat.reduceEqDiff, Nat.reduceLT, Nat.reduceAdd, Nat.reduceMul, Nat.reduceSub, Nat.reduceLeDiff, Int.reduceBEq, Int.reduceBNe, Nat.reduceBEq, Nat.reduceBNe, Int.reduceToNat]
      refine Is_spec _ _ (wordT x) x hN6 hlw (by omega) _ ?_
      intro b1 H7 hk7 hb1
      have : b1 = true := hb1.2 his1
      subst this
      have s7 := hrx1 H7 (hk6'.trans hk7)
      have z7 := hzx H7 (hk6'.trans hk7)
      simp only [hle, nts_len, hlx, hnn, hsl1, s7, hby1, z7, zz, env0, aPure, aRead, aNew, aEff, aval, avals, aparts, aopt, wantedA, binA, isShift, binI, fillA, single, aRes, splice, mkv, unA, binS, sameAt, reduceCtorEq, reduceIte, Int.reduceEq, Int.reduceLT, Int.reduceLE, Int.reduceNe, Nat.reduceEqDiff, Nat.reduceLT, Nat.reduceAdd, Nat.reduceMul, Nat.reduceSub, Nat.reduceLeDiff, Int.reduceBEq, Int.reduceBNe, Nat.reduceBEq, Nat.reduceBNe, Int.reduceToNat]
      refine Is_spec _ _ (wordT x) (x.drop 1) (Rows.keeps NdP.mono hk7 hN6) hlw (by simp; omega) _ ?_
      intro b2 H8 hk8 hb2
      have : b2 = false := by
        cases b2 with
        | false => rfl
        | true => exact absurd (hb2.1 rfl) his2
      subst this
      simp only [zz, env0, aPure, aRead, aNew, aEff, aval, avals, aparts, aopt, wantedA, binA, isShift, binI, fillA, single, aRes, splice, mkv, unA, binS, sameAt, reduceCtorEq, reduceIte, Int.reduceEq, Int.reduceLT, Int.reduceLE, Int.reduceNe, Nat.reduceEqDiff, Nat.reduceLT, Nat.reduceAdd, Nat.reduceMul, Nat.reduceSub, Nat.reduceLeDiff, Int.reduceBEq, Int.reduceBNe, Nat.reduceBEq, Nat.reduceBNe, Int.reduceToNat]
    · have g1 : decide (((f + n : Nat) : Int) ≤ y.length) = false := by simp; omega
      simp only [f2, f3, hap, c1, c2, c3, c4, c5, hlx, g1, zz, env0, aPure, aRead, aNew, aEff, aval, avals, aparts, aopt, wantedA, binA, isShift, binI, fillA, single, aRes, splice, mkv, unA, binS, sameAt, reduceCtorEq, reduceIte, Int.reduceEq, Int.reduceLT, Int.reduceLE, Int.reduceNe, Nat.reduceEqDiff, Nat.reduceLT, Nat.reduceAdd, Nat.reduceMul, Nat.reduceSub, Nat.reduceLeDiff, Int.reduceBEq, Int.reduceBNe, Nat.reduceBEq, Nat.reduceBNe, Int.reduceToNat]
      refine Ends_spec _ _ (wordT x) y f hN hlw (by omega) _ ?_
      intro v1 H5 ms hk5 hi5 hE5
      have hms : ms = [] := List.eq_nil_iff_forall_not_mem.2 (fun j hj => d3 ((hx0 j).1 ((hE5.2 j).1 hj)).2)
      subst hms
      have s5 := hstr H5 (hk4.trans hk5)
      simp only [s5, hby, hadd, zz, env0, aPure, aRead, aNew, aEff, aval, avals, aparts, aopt, wantedA, binA, isShift, binI, fillA, single, aRes, splice, mkv, unA, binS, sameAt, reduceCtorEq, reduceIte, Int.reduceEq, Int.reduceLT, Int.reduceLE, Int.reduceNe, Nat.reduceEqDiff, Nat.reduceLT, Nat.reduceAdd, Nat.reduceMul, Nat.reduceSub, Nat.reduceLeDiff, Int.reduceBEq, Int.reduceBNe, Nat.reduceBEq, Nat.reduceBNe, Int.reduceToNat]
      refine Longest_spec _ _ (wordT x) (x ++ y) 0 (Rows.keeps NdP.mono hk5 hN) hlw (by simp; omega) _ ?_
      intro nn ok H6 ms6 hk6 hE6 hL6
      obtain ⟨rfl, rfl⟩ := hlong nn ok ms6 hE6 hL6
      have hk6' : Keeps H H6 := (hk4.trans hk5).trans hk6
      have s6 := hstr H6 hk6'
      have hN6 : Nds H6 vl' (wordT x) := Rows.keeps NdP.mono (hk5.trans hk6) hN
      have hle := hi5.lenOf
      simp only [nts_len, List.length_nil] at hle
      simp only [hle, nts_len, hlx, c5, s6, hby, Int.natCast_one, zz, env0, aPure, aRead, aNew, aEff, aval, avals, aparts, aopt, wantedA, binA, isShift, binI, fillA, single, aRes, splice, mkv, unA, binS, sameAt, reduceCtorEq, reduceIte, Int.reduceEq, Int.reduceLT, Int.reduceLE, Int.reduceNe, Nat.reduceEqDiff, Nat.reduceLT, Nat.reduceAdd, Nat.reduceMul, Nat.reduceSub, Nat.reduceLeDiff, Int.reduceBEq, Int.reduceBNe, Nat.reduceBEq, Nat.reduceBNe, Int.reduceToNat]
      refine Is_spec _ _ (wordT x) x hN6 hlw (by omega) _ ?_
      intro b1 H7 hk7 hb1
      have : b1 = true := hb1.2 his1
      subst this
      have s7 := hrx1 H7 (hk6'.trans hk7)
      have z7 := hzx H7 (hk6'.trans hk7)
      simp only [hle, nts_len, hlx, hnn, hsl1, s7, hby1, z7, zz, env0, aPure, aRead, aNew, aEff, aval, avals, aparts, aopt, wantedA, binA, isShift, binI, fillA, single, aRes, splice, mkv, unA, binS, sameAt, reduceCtorEq, reduceIte, Int.reduceEq, Int.reduceLT, Int.reduceLE, Int.reduceNe, Nat.reduceEqDiff, Nat.reduceLT, Nat.reduceAdd, Nat.reduceMul, Nat.reduceSub, Nat.reduceLeDiff, Int.reduceBEq, Int.reduceBNe, Nat.reduceBEq, Nat.reduceBNe, Int.reduceToNat]
      refine Is_spec _ _ (wordT x) (x.drop 1) (Rows.keeps NdP.mono hk7 hN6) hlw (by simp; omega) _ ?_
      intro b2 H8 hk8 hb2
      have : b2 = false := by
        cases b2 with
        | false => rfl
        | true => exact absurd (hb2.1 rfl) his2
      subst this
      simp only [zz, env0, aPure, aRead, aNew, aEff, aval, avals, aparts, aopt, wantedA, binA, isShift, binI, fillA, single, aRes, splice, mkv, unA, binS, sameAt, reduceCtorEq, reduceIte, Int.reduceEq, Int.reduceLT, Int.reduceLE, Int.reduceNe, Nat.reduceEqDiff, Nat.reduceLT, Nat.reduceAdd, Nat.reduceMul, Nat.reduceSub, Nat.reduceLeDiff, Int.reduceBEq, Int.reduceBNe, Nat.reduceBEq, Nat.reduceBNe, Int.reduceToNat]
end Go.Proofs.Ytnblhjpbpobglaa
