/- lang: ends. -/
import Derived.Test.YtnblhjpbpobglaaSM
set_option maxRecDepth 100000
set_option linter.unusedSimpArgs false
namespace Go.Proofs.Ytnblhjpbpobglaa
open Go.Am

theorem wr_ints {H : AHeap} {b : Nat} {v : AV} {xs : List Int} (h : WR H b 1 v xs.length (xs.map (AV.int .i64))) : Ints H v xs := ints_of h.row

theorem ends_spec {l : List Nd} {w : List UInt8} {v : AV} (hR : RightT l) (hw : w.length ≤ 1000000) : ∀ a, a < l.length → EndsAt l w v a := by
  intro a
  induction a using Nat.strongRecOn with
  | _ a ih =>
  intro ha H vf ns K hN hf hp hK
  obtain ⟨hl1, hl2, root, hstk⟩ := hR
  obtain ⟨n, hn⟩ : ∃ n, l[a]? = some n := ⟨l[a], List.getElem?_eq_getElem ha⟩
  obtain ⟨hsh, hkl, hkr⟩ := stk_kids hstk hn
  have hlf := hf.lenOf
  rw [nts_len] at hlf
  obtain ⟨q1, q2, q3, q4⟩ := hN.flat
  obtain ⟨b9, o9, kv, rfl, hok, hkv, hld⟩ := hN.nd hn
  have p1 : (0 : Int) ≤ a := by omega
  have p2 : (a : Int) < l.length := by omega
  have h9 := hld 0 9 (by omega)
  simp only [Nat.add_zero, List.drop_zero, ndRow, List.take_succ_cons, List.take_zero] at h9
  obtain ⟨f1, f2, f3, f4⟩ := hkv.flat
  have hlt9 : b9 < H.length := by
    rcases Nat.lt_or_ge b9 H.length with h | h
    · exact h
    · have : getB H b9 = none := by unfold getB; rw [List.getElem?_eq_none h]; rfl
      simp [loadA, this] at h9
  have hden := den_eq l w a n hn
  refine zWF rfl rfl rfl ?_
  simp only [a31, p1, p2, hlt9, h9, f1, zz, env0, aPure, aRead, aNew, aEff, aval, avals, aparts, aopt, wantedA, binA, isShift, binI, fillA, single, aRes, splice, mkv, unA, binS, sameAt, reduceCtorEq, reduceIte, Int.reduceEq, Int.reduceLT, Int.reduceLE, Int.reduceNe, Nat.reduceEqDiff, Nat.reduceLT, Nat.reduceAdd, Nat.reduceMul, Nat.reduceSub, Nat.reduceLeDiff, Int.reduceBEq, Int.reduceBNe, Nat.reduceBEq, Nat.reduceBNe, Int.reduceToNat]
  generalize hH2 : H ++ [some (Blk.cells 2 true [.sl b9 o9 l.length, AV.str w])] ++ [some (Blk.cells 9 true [AV.int IntKind.u8 n.op, AV.int IntKind.u64 n.s0, AV.int IntKind.u64 n.s1, AV.int IntKind.u64 n.s2, AV.int IntKind.u64 n.s3, kv, AV.int IntKind.i64 n.lo, AV.int IntKind.i64 n.hi, AV.str n.name])] = H2
  have hk2 : Keeps H H2 := by rw [← hH2]; exact .p2 _ _ _
  generalize hnb : (H ++ [some (Blk.cells 2 true [.sl b9 o9 l.length, AV.str w])]).length = nb
  have hbm : getB H2 H.length = some (Blk.cells 2 true [.sl b9 o9 l.length, AV.str w]) := by rw [← hH2]; exact gb_push _ (gb_new _ _)
  have hbn : getB H2 nb = some (Blk.cells 9 true [AV.int IntKind.u8 n.op, AV.int IntKind.u64 n.s0, AV.int IntKind.u64 n.s1, AV.int IntKind.u64 n.s2, AV.int IntKind.u64 n.s3, kv, AV.int IntKind.i64 n.lo, AV.int IntKind.i64 n.hi, AV.str n.name]) := by
    rw [← hH2, ← hnb]; exact gb_new _ _
  have fm : ∀ H', Keeps H2 H' → loadA H' H.length 0 2 = some [.sl b9 o9 l.length, .str w] := fun H' hk => load_at (hk.get hbm) (by simp)
  have fm1 : ∀ H', Keeps H2 H' → loadA H' H.length 1 1 = some [.str w] := fun H' hk => load_one (hk.get hbm) rfl
  have f5 : ∀ H', Keeps H2 H' → loadA H' nb 5 1 = some [kv] := fun H' hk => load_one (hk.get hbn) rfl
  have fs : ∀ H', Keeps H2 H' → loadA H' nb 1 4 = some [AV.int IntKind.u64 n.s0, AV.int IntKind.u64 n.s1, AV.int IntKind.u64 n.s2, AV.int IntKind.u64 n.s3] := fun H' hk => load_at (hk.get hbn) (by simp)
  have fn : ∀ H', Keeps H2 H' → loadA H' nb 0 9 = some (ndRow n kv) := fun H' hk => load_at (hk.get hbn) (by simp)
  have hlk := hkv.lenOf
  have hnl := hp.len
  have hcase : n.op = 2 ∨ n.op = 3 ∨ n.op = 4 ∨ n.op = 5 ∨ (n.op ≠ 2 ∧ n.op ≠ 3 ∧ n.op ≠ 4 ∧ n.op ≠ 5) := by omega
  have hkid : ∀ k, k ∈ n.kids → ∃ m : Nat, k = m ∧ m < a ∧ kidDen l w a k = den l w m := fun k hk => by
    have := hkr k hk
    refine ⟨k.toNat, by omega, by omega, ?_⟩
    unfold kidDen; rw [if_pos (by omega)]
  rcases hcase with ho | ho | ho | ho | ⟨o2, o3, o4, o5⟩
  · -- Bytes
    have ho' : (n.op == 2) = true := by simp [ho]
    simp only [ho', hlf, zz, env0, aPure, aRead, aNew, aEff, aval, avals, aparts, aopt, wantedA, binA, isShift, binI, fillA, single, aRes, splice, mkv, unA, binS, sameAt, reduceCtorEq, reduceIte, Int.reduceEq, Int.reduceLT, Int.reduceLE, Int.reduceNe, Nat.reduceEqDiff, Nat.reduceLT, Nat.reduceAdd, Nat.reduceMul, Nat.reduceSub, Nat.reduceLeDiff, Int.reduceBEq, Int.reduceBNe, Nat.reduceBEq, Nat.reduceBNe, Int.reduceToNat]
    refine WC.mono (K := fun e env H' => e = .exit 1 ∧ ∃ vo bl a7 a15 a16 a17, Keeps H2 H' ∧ Ints H' vo (nts bl) ∧ Pls bl w.length ∧ (∀ j, j ∈ bl ↔ ∃ i, i ∈ ns ∧ den l w a i j) ∧
      env = [.agg [.sl b9 o9 l.length, .str w], .int .i64 a, vf, .ptr H.length 0, .nilsl, .ptr nb 0, vo, a7, .junk, .junk, .junk, .int .u8 n.op, .bool true, vf, .int .i64 ns.length, a15, a16, a17, .junk, .junk, .junk, .junk, .junk, .junk, .junk, .junk, .junk, .junk, .junk]) ?_ ?_
    · refine WCL (fun r env H' => ∃ (t : Nat) (vo a7 a16 a17 : AV) (bl : List Nat), t ≤ ns.length ∧ r = ns.length - t ∧ Keeps H2 H' ∧ WR H' H2.length 1 vo bl.length ((nts bl).map (AV.int .i64)) ∧ Pls bl w.length ∧
          (∀ j, j ∈ bl ↔ ∃ i, i ∈ ns.take t ∧ den l w a i j) ∧
          env = [.agg [.sl b9 o9 l.length, .str w], .int .i64 a, vf, .ptr H.length 0, .nilsl, .ptr nb 0, vo, a7, .junk, .junk, .junk, .int .u8 n.op, .bool true, vf, .int .i64 ns.length, .int .i64 t, a16, a17, .junk, .junk, .junk, .junk, .junk, .junk, .junk, .junk, .junk, .junk, .junk]) (n := ns.length)
        ⟨0, .nilsl, _, _, _, [], Nat.zero_le _, rfl, .refl _, .nil, ⟨.nil, by simp⟩, by simp, rfl⟩ ?_
      rintro r env H' ⟨t, vo, a7, a16, a17, bl, ht, rfl, hk, hwo, hpb, hdb, rfl⟩
      simp only [zz, env0, aPure, aRead, aNew, aEff, aval, avals, aparts, aopt, wantedA, binA, isShift, binI, fillA, single, aRes, splice, mkv, unA, binS, sameAt, reduceCtorEq, reduceIte, Int.reduceEq, Int.reduceLT, Int.reduceLE, Int.reduceNe, Nat.reduceEqDiff, Nat.reduceLT, Nat.reduceAdd, Nat.reduceMul, Nat.reduceSub, Nat.reduceLeDiff, Int.reduceBEq, Int.reduceBNe, Nat.reduceBEq, Nat.reduceBNe, Int.reduceToNat]
      refine onB_of (fun hlt => ?_) (fun hlt => ?_)
      · have hlt : t < ns.length := by simpa using hlt
        obtain ⟨x, hx⟩ : ∃ x, ns[t]? = some x := ⟨ns[t], List.getElem?_eq_getElem hlt⟩
        have hf' : Ints H' vf (nts ns) := Rows.keeps IntP.mono (hk2.trans hk) hf
        obtain ⟨ix, ox, rfl, g1⟩ := hf'.int (nts_get hx)
        rw [nts_len] at *
        have r1 : (0 : Int) ≤ t := by omega
        have r2 : (t : Int) < ns.length := by omega
        have m1 := fm1 _ hk
        have m2 := fs _ hk
        have htk : ns.take (t + 1) = ns.take t ++ [x] := by
          rw [List.take_succ_eq_append_getElem hlt]; congr 2
          rw [List.getElem?_eq_getElem hlt] at hx; simpa using hx
        have hxw : x ≤ w.length := hp.2 x (List.mem_of_getElem? hx)
        have vt : IntKind.i64.wrap ((t : Int) + 1) = ((t + 1 : Nat) : Int) := by rw [wrap_i64 (by omega) (by omega)]; rfl
        have vx : IntKind.i64.wrap ((x : Int) + 1) = ((x + 1 : Nat) : Int) := by rw [wrap_i64 (by omega) (by omega)]; rfl
        have skip : (¬ ∃ c, w[x]? = some c ∧ ndHas n c) → ∀ H4, Keeps H' H4 → (Keeps H2 H4 ∧ WR H4 H2.length 1 vo bl.length ((nts bl).map (AV.int .i64)) ∧ (∀ j, j ∈ bl ↔ ∃ i, i ∈ ns.take (t + 1) ∧ den l w a i j)) := fun hno H4 hk4 => by
          refine ⟨hk.trans hk4, hwo.keeps hk4, fun j => ?_⟩
          rw [hdb j, htk]
          constructor
          · rintro ⟨i, h1, h2⟩; exact ⟨i, by simp [h1], h2⟩
          · rintro ⟨i, h1, h2⟩
            simp only [List.mem_append, List.mem_cons, List.not_mem_nil, or_false] at h1
            rcases h1 with h1 | rfl
            · exact ⟨i, h1, h2⟩
            · rw [hden, if_pos ho] at h2; exact absurd h2.1 hno
        simp only [r1, r2, Nat.mul_one, g1, m1, m2, zz, env0, aPure, aRead, aNew, aEff, aval, avals, aparts, aopt, wantedA, binA, isShift, binI, fillA, single, aRes, splice, mkv, unA, binS, sameAt, reduceCtorEq, reduceIte, Int.reduceEq, Int.reduceLT, Int.reduceLE, Int.reduceNe, Nat.reduceEqDiff, Nat.reduceLT, Nat.reduceAdd, Nat.reduceMul, Nat.reduceSub, Nat.reduceLeDiff, Int.reduceBEq, Int.reduceBNe, Nat.reduceBEq, Nat.reduceBNe, Int.reduceToNat]
        refine onG_t (fun hlx => ?_) (fun hlx => ?_)
        · have hlx' : x < w.length := by simpa using hlx
          obtain ⟨c, hc⟩ : ∃ c, w[x]? = some c := ⟨w[x], List.getElem?_eq_getElem hlx'⟩
          have r3 : (0 : Int) ≤ x := by omega
          simp only [hlx, m1, m2, r3, hc, zz, env0, aPure, aRead, aNew, aEff, aval, avals, aparts, aopt, wantedA, binA, isShift, binI, fillA, single, aRes, splice, mkv, unA, binS, sameAt, reduceCtorEq, reduceIte, Int.reduceEq, Int.reduceLT, Int.reduceLE, Int.reduceNe, Nat.reduceEqDiff, Nat.reduceLT, Nat.reduceAdd, Nat.reduceMul, Nat.reduceSub, Nat.reduceLeDiff, Int.reduceBEq, Int.reduceBNe, Nat.reduceBEq, Nat.reduceBNe, Int.reduceToNat]
          refine has_spec _ _ _ _ _ c hok.s0 hok.s1 hok.s2 hok.s3 _ ?_
          intro b H4 hk4 hb
          cases b with
          | false =>
            obtain ⟨s1, s2, s3⟩ := skip (fun ⟨c', h1, h2⟩ => by rw [hc] at h1; simp only [Option.some.injEq] at h1; subst h1; have := hb.2 h2; simp at this) H4 hk4
            simp only [hlx, vt, zz, env0, aPure, aRead, aNew, aEff, aval, avals, aparts, aopt, wantedA, binA, isShift, binI, fillA, single, aRes, splice, mkv, unA, binS, sameAt, reduceCtorEq, reduceIte, Int.reduceEq, Int.reduceLT, Int.reduceLE, Int.reduceNe, Nat.reduceEqDiff, Nat.reduceLT, Nat.reduceAdd, Nat.reduceMul, Nat.reduceSub, Nat.reduceLeDiff, Int.reduceBEq, Int.reduceBNe, Nat.reduceBEq, Nat.reduceBNe, Int.reduceToNat]
            exact ⟨ns.length - (t + 1), by omega, t + 1, vo, _, _, _, bl, by omega, rfl, s1, s2, hpb, s3, rfl⟩
          | true =>
            have hbl := hpb.len
            obtain ⟨v', H5, hap, hw5, he5, hid5⟩ := ((hwo.keeps hk4).keeps (Keeps.p1 H4 (some (.cells 1 true [.int .i64 ((x + 1 : Nat) : Int)])))).append (bytes := 8) (by have := hk.1; have := hk4.1; simp; omega) (src_new H4 1 1 [.int .i64 ((x + 1 : Nat) : Int)] rfl) rfl rfl (by simp only [maxRoom]; omega)
            simp only [hlx, vt, vx, hap, zz, env0, aPure, aRead, aNew, aEff, aval, avals, aparts, aopt, wantedA, binA, isShift, binI, fillA, single, aRes, splice, mkv, unA, binS, sameAt, reduceCtorEq, reduceIte, Int.reduceEq, Int.reduceLT, Int.reduceLE, Int.reduceNe, Nat.reduceEqDiff, Nat.reduceLT, Nat.reduceAdd, Nat.reduceMul, Nat.reduceSub, Nat.reduceLeDiff, Int.reduceBEq, Int.reduceBNe, Nat.reduceBEq, Nat.reduceBNe, Int.reduceToNat]
            have hk5 : Keeps H2 H5 := Else.keeps ((hk.trans hk4).trans (.p1 _ _)) he5 (fun i hi => (hwo.id hi).1)
            have hdx : ∀ j, den l w a x j ↔ j = x + 1 := fun j => by
              rw [hden, if_pos ho]
              exact ⟨fun h => h.2, fun h => ⟨⟨c, hc, hb.1 rfl⟩, h⟩⟩
            have hltx : ∀ y, y ∈ bl → y < x + 1 := fun y hy => by
              obtain ⟨i, h1, h2⟩ := (hdb y).1 hy
              rw [hden, if_pos ho] at h2
              have hix : i < x := by
                obtain ⟨s, hs⟩ := List.mem_iff_getElem?.1 h1
                have hst : s < t := by
                  rcases Nat.lt_or_ge s t with h | h
                  · exact h
                  · rw [List.getElem?_eq_none (by rw [List.length_take]; omega)] at hs; simp at hs
                rw [List.getElem?_take_of_lt hst] at hs
                have := List.pairwise_iff_getElem.1 hp.1 s t (by omega) hlt hst
                rw [List.getElem?_eq_getElem (by omega)] at hs
                rw [List.getElem?_eq_getElem hlt] at hx
                simp only [Option.some.injEq] at hs hx
                omega
              omega
            refine ⟨ns.length - (t + 1), by omega, t + 1, v', _, _, _, bl ++ [x + 1], by omega, rfl, hk5, ?_, ⟨?_, ?_⟩, ?_, rfl⟩
            · have e : (bl ++ [x + 1]).length = bl.length + 1 := by simp
              rw [e]
              simpa [nts] using hw5
            · rw [List.pairwise_append]
              refine ⟨hpb.1, by simp, fun y hy z hz => ?_⟩
              simp only [List.mem_cons, List.not_mem_nil, or_false] at hz
              subst hz; exact hltx y hy
            · intro y hy
              simp only [List.mem_append, List.mem_cons, List.not_mem_nil, or_false] at hy
              rcases hy with hy | rfl
              · exact hpb.2 y hy
              · omega
            · intro j
              rw [htk, List.mem_append, hdb j]
              constructor
              · rintro (⟨i, h1, h2⟩ | h)
                · exact ⟨i, by simp [h1], h2⟩
                · simp only [List.mem_cons, List.not_mem_nil, or_false] at h
                  exact ⟨x, by simp, (hdx j).2 h⟩
              · rintro ⟨i, h1, h2⟩
                simp only [List.mem_append, List.mem_cons, List.not_mem_nil, or_false] at h1
                rcases h1 with h1 | rfl
                · exact .inl ⟨i, h1, h2⟩
                · right; simp [(hdx j).1 h2]
        · have hno : ¬ ∃ c, w[x]? = some c ∧ ndHas n c := fun ⟨c, h1, _⟩ => by
            have : ¬ x < w.length := by simpa using hlx
            rw [List.getElem?_eq_none (by omega)] at h1; simp at h1
          obtain ⟨s1, s2, s3⟩ := skip hno H' (.refl _)
          simp only [hlx, vt, zz, env0, aPure, aRead, aNew, aEff, aval, avals, aparts, aopt, wantedA, binA, isShift, binI, fillA, single, aRes, splice, mkv, unA, binS, sameAt, reduceCtorEq, reduceIte, Int.reduceEq, Int.reduceLT, Int.reduceLE, Int.reduceNe, Nat.reduceEqDiff, Nat.reduceLT, Nat.reduceAdd, Nat.reduceMul, Nat.reduceSub, Nat.reduceLeDiff, Int.reduceBEq, Int.reduceBNe, Nat.reduceBEq, Nat.reduceBNe, Int.reduceToNat]
          exact ⟨ns.length - (t + 1), by omega, t + 1, vo, _, _, _, bl, by omega, rfl, s1, s2, hpb, s3, rfl⟩
      · have hte : t = ns.length := by simp at hlt; omega
        subst hte
        rw [List.take_length] at hdb
        simp only [zz, env0, aPure, aRead, aNew, aEff, aval, avals, aparts, aopt, wantedA, binA, isShift, binI, fillA, single, aRes, splice, mkv, unA, binS, sameAt, reduceCtorEq, reduceIte, Int.reduceEq, Int.reduceLT, Int.reduceLE, Int.reduceNe, Nat.reduceEqDiff, Nat.reduceLT, Nat.reduceAdd, Nat.reduceMul, Nat.reduceSub, Nat.reduceLeDiff, Int.reduceBEq, Int.reduceBNe, Nat.reduceBEq, Nat.reduceBNe, Int.reduceToNat]
        exact ⟨vo, bl, _, _, _, _, hk, wr_ints (by rw [nts_len]; exact hwo), hpb, hdb, rfl⟩
    · rintro e env H' ⟨rfl, vo, bl, a7, a15, a16, a17, hk, hio, hpb, hdb, rfl⟩
      simp only [zz, env0, aPure, aRead, aNew, aEff, aval, avals, aparts, aopt, wantedA, binA, isShift, binI, fillA, single, aRes, splice, mkv, unA, binS, sameAt, reduceCtorEq, reduceIte, Int.reduceEq, Int.reduceLT, Int.reduceLE, Int.reduceNe, Nat.reduceEqDiff, Nat.reduceLT, Nat.reduceAdd, Nat.reduceMul, Nat.reduceSub, Nat.reduceLeDiff, Int.reduceBEq, Int.reduceBNe, Nat.reduceBEq, Nat.reduceBNe, Int.reduceToNat]
      exact hK _ _ bl (hk2.trans hk) hio hpb hdb
  · -- Cat
    have ho' : (n.op == 3) = true := by simp [ho]
    have e2 : (n.op == 2) = false := by simp [ho]
    simp only [e2, ho', f5 H2 (.refl _), hlk, zz, env0, aPure, aRead, aNew, aEff, aval, avals, aparts, aopt, wantedA, binA, isShift, binI, fillA, single, aRes, splice, mkv, unA, binS, sameAt, reduceCtorEq, reduceIte, Int.reduceEq, Int.reduceLT, Int.reduceLE, Int.reduceNe, Nat.reduceEqDiff, Nat.reduceLT, Nat.reduceAdd, Nat.reduceMul, Nat.reduceSub, Nat.reduceLeDiff, Int.reduceBEq, Int.reduceBNe, Nat.reduceBEq, Nat.reduceBNe, Int.reduceToNat]
    refine WC.mono (K := fun e env H' => e = .exit 3 ∧ ∃ vf' ms a8 a21 a22, Keeps H2 H' ∧ Ints H' vf' (nts ms) ∧ Pls ms w.length ∧ (∀ j, j ∈ ms ↔ ∃ i, i ∈ ns ∧ den l w a i j) ∧
      env = [.agg [.sl b9 o9 l.length, .str w], .int .i64 a, vf', .ptr H.length 0, .nilsl, .ptr nb 0, .junk, .junk, a8, .junk, .junk, .int .u8 n.op, .bool false, .junk, .junk, .junk, .junk, .junk, .bool true, kv, .int .i64 n.kids.length, a21, a22, .junk, .junk, .junk, .junk, .junk, .junk]) ?_ ?_
    · refine WCL (fun r env H' => ∃ (t : Nat) (vf' a8 a22 : AV) (ms : List Nat), t ≤ n.kids.length ∧ r = n.kids.length - t ∧ Keeps H2 H' ∧ Ints H' vf' (nts ms) ∧ Pls ms w.length ∧
          (∀ j, j ∈ ms ↔ ∃ i, i ∈ ns ∧ chain ((n.kids.take t).map (kidDen l w a)) i j) ∧
          env = [.agg [.sl b9 o9 l.length, .str w], .int .i64 a, vf', .ptr H.length 0, .nilsl, .ptr nb 0, .junk, .junk, a8, .junk, .junk, .int .u8 n.op, .bool false, .junk, .junk, .junk, .junk, .junk, .bool true, kv, .int .i64 n.kids.length, .int .i64 t, a22, .junk, .junk, .junk, .junk, .junk, .junk]) (n := n.kids.length)
        ⟨0, vf, _, _, ns, Nat.zero_le _, rfl, .refl _, Rows.keeps IntP.mono hk2 hf, hp, fun j => by simp [chain], rfl⟩ ?_
      rintro r env H' ⟨t, vf', a8, a22, ms, ht, rfl, hk, hi, hpm, hdm, rfl⟩
      simp only [zz, env0, aPure, aRead, aNew, aEff, aval, avals, aparts, aopt, wantedA, binA, isShift, binI, fillA, single, aRes, splice, mkv, unA, binS, sameAt, reduceCtorEq, reduceIte, Int.reduceEq, Int.reduceLT, Int.reduceLE, Int.reduceNe, Nat.reduceEqDiff, Nat.reduceLT, Nat.reduceAdd, Nat.reduceMul, Nat.reduceSub, Nat.reduceLeDiff, Int.reduceBEq, Int.reduceBNe, Nat.reduceBEq, Nat.reduceBNe, Int.reduceToNat]
      refine onB_of (fun hlt => ?_) (fun hlt => ?_)
      · have hlt : t < n.kids.length := by simpa using hlt
        obtain ⟨x, hx⟩ : ∃ x, n.kids[t]? = some x := ⟨n.kids[t], List.getElem?_eq_getElem hlt⟩
        obtain ⟨m, rfl, hma, hkd⟩ := hkid x (List.mem_of_getElem? hx)
        obtain ⟨ik, ok, rfl, g1⟩ := (Rows.keeps IntP.mono (hk2.trans hk) hkv).int hx
        have r1 : (0 : Int) ≤ t := by omega
        have r2 : (t : Int) < n.kids.length := by omega
        have m1 := fm _ hk
        have htk : n.kids.take (t + 1) = n.kids.take t ++ [(m : Int)] := by
          rw [List.take_succ_eq_append_getElem hlt]; congr 2
          rw [List.getElem?_eq_getElem hlt] at hx; simpa using hx
        have vt : IntKind.i64.wrap ((t : Int) + 1) = ((t + 1 : Nat) : Int) := by rw [wrap_i64 (by omega) (by omega)]; rfl
        simp only [r1, r2, Nat.mul_one, g1, m1, zz, env0, aPure, aRead, aNew, aEff, aval, avals, aparts, aopt, wantedA, binA, isShift, binI, fillA, single, aRes, splice, mkv, unA, binS, sameAt, reduceCtorEq, reduceIte, Int.reduceEq, Int.reduceLT, Int.reduceLE, Int.reduceNe, Nat.reduceEqDiff, Nat.reduceLT, Nat.reduceAdd, Nat.reduceMul, Nat.reduceSub, Nat.reduceLeDiff, Int.reduceBEq, Int.reduceBNe, Nat.reduceBEq, Nat.reduceBNe, Int.reduceToNat]
        refine ih m hma (by omega) _ _ ms _ (Rows.keeps NdP.mono (hk2.trans hk) hN) hi hpm ?_
        intro v2 H4 ms2 hk4 hi2 hp2 hd2
        simp only [vt, zz, env0, aPure, aRead, aNew, aEff, aval, avals, aparts, aopt, wantedA, binA, isShift, binI, fillA, single, aRes, splice, mkv, unA, binS, sameAt, reduceCtorEq, reduceIte, Int.reduceEq, Int.reduceLT, Int.reduceLE, Int.reduceNe, Nat.reduceEqDiff, Nat.reduceLT, Nat.reduceAdd, Nat.reduceMul, Nat.reduceSub, Nat.reduceLeDiff, Int.reduceBEq, Int.reduceBNe, Nat.reduceBEq, Nat.reduceBNe, Int.reduceToNat]
        refine ⟨n.kids.length - (t + 1), by omega, t + 1, v2, _, _, ms2, by omega, rfl, hk.trans hk4, hi2, hp2, fun j => ?_, rfl⟩
        rw [hd2 j, htk, List.map_append, List.map_cons, List.map_nil]
        constructor
        · rintro ⟨i, h1, h2⟩
          obtain ⟨i0, h3, h4⟩ := (hdm i).1 h1
          exact ⟨i0, h3, (chain_snoc _ _ _ _).2 ⟨i, h4, by rw [hkd]; exact h2⟩⟩
        · rintro ⟨i0, h3, h4⟩
          obtain ⟨i, h5, h6⟩ := (chain_snoc _ _ _ _).1 h4
          exact ⟨i, (hdm i).2 ⟨i0, h3, h5⟩, by rw [hkd] at h6; exact h6⟩
      · have hte : t = n.kids.length := by simp at hlt; omega
        subst hte
        rw [List.take_length] at hdm
        simp only [zz, env0, aPure, aRead, aNew, aEff, aval, avals, aparts, aopt, wantedA, binA, isShift, binI, fillA, single, aRes, splice, mkv, unA, binS, sameAt, reduceCtorEq, reduceIte, Int.reduceEq, Int.reduceLT, Int.reduceLE, Int.reduceNe, Nat.reduceEqDiff, Nat.reduceLT, Nat.reduceAdd, Nat.reduceMul, Nat.reduceSub, Nat.reduceLeDiff, Int.reduceBEq, Int.reduceBNe, Nat.reduceBEq, Nat.reduceBNe, Int.reduceToNat]
        refine ⟨vf', ms, _, _, _, hk, hi, hpm, fun j => ?_, rfl⟩
        rw [hdm j]
        simp only [hden, ho]
        simp
    · rintro e env H' ⟨rfl, vf', ms, a8, a21, a22, hk, hi, hpm, hdm, rfl⟩
      simp only [zz, env0, aPure, aRead, aNew, aEff, aval, avals, aparts, aopt, wantedA, binA, isShift, binI, fillA, single, aRes, splice, mkv, unA, binS, sameAt, reduceCtorEq, reduceIte, Int.reduceEq, Int.reduceLT, Int.reduceLE, Int.reduceNe, Nat.reduceEqDiff, Nat.reduceLT, Nat.reduceAdd, Nat.reduceMul, Nat.reduceSub, Nat.reduceLeDiff, Int.reduceBEq, Int.reduceBNe, Nat.reduceBEq, Nat.reduceBNe, Int.reduceToNat]
      exact hK _ _ ms (hk2.trans hk) hi hpm hdm
  · -- Alt
    have ho' : (n.op == 4) = true := by simp [ho]
    have e2 : (n.op == 2) = false := by simp [ho]
    have e3 : (n.op == 3) = false := by simp [ho]
    simp only [e2, e3, ho', f5 H2 (.refl _), hlk, zz, env0, aPure, aRead, aNew, aEff, aval, avals, aparts, aopt, wantedA, binA, isShift, binI, fillA, single, aRes, splice, mkv, unA, binS, sameAt, reduceCtorEq, reduceIte, Int.reduceEq, Int.reduceLT, Int.reduceLE, Int.reduceNe, Nat.reduceEqDiff, Nat.reduceLT, Nat.reduceAdd, Nat.reduceMul, Nat.reduceSub, Nat.reduceLeDiff, Int.reduceBEq, Int.reduceBNe, Nat.reduceBEq, Nat.reduceBNe, Int.reduceToNat]
    refine WC.mono (K := fun e env H' => e = .exit 5 ∧ ∃ vo ms a10 a26 a27, Keeps H2 H' ∧ Ints H' vo (nts ms) ∧ Pls ms w.length ∧ (∀ j, j ∈ ms ↔ ∃ i, i ∈ ns ∧ den l w a i j) ∧
      env = [.agg [.sl b9 o9 l.length, .str w], .int .i64 a, vf, .ptr H.length 0, .nilsl, .ptr nb 0, .junk, .junk, .junk, vo, a10, .int .u8 n.op, .bool false, .junk, .junk, .junk, .junk, .junk, .bool false, .junk, .junk, .junk, .junk, .bool true, kv, .int .i64 n.kids.length, a26, a27, .junk]) ?_ ?_
    · refine WCL (fun r env H' => ∃ (t : Nat) (vo a10 a27 : AV) (ms : List Nat), t ≤ n.kids.length ∧ r = n.kids.length - t ∧ Keeps H2 H' ∧ Ints H' vo (nts ms) ∧ Pls ms w.length ∧
          (∀ j, j ∈ ms ↔ ∃ i, i ∈ ns ∧ ∃ k, k ∈ n.kids.take t ∧ kidDen l w a k i j) ∧
          env = [.agg [.sl b9 o9 l.length, .str w], .int .i64 a, vf, .ptr H.length 0, .nilsl, .ptr nb 0, .junk, .junk, .junk, vo, a10, .int .u8 n.op, .bool false, .junk, .junk, .junk, .junk, .junk, .bool false, .junk, .junk, .junk, .junk, .bool true, kv, .int .i64 n.kids.length, .int .i64 t, a27, .junk]) (n := n.kids.length)
        ⟨0, .nilsl, _, _, [], Nat.zero_le _, rfl, .refl _, Rows.nil, ⟨.nil, by simp⟩, fun j => by simp, rfl⟩ ?_
      rintro r env H' ⟨t, vo, a10, a27, ms, ht, rfl, hk, hi, hpm, hdm, rfl⟩
      simp only [zz, env0, aPure, aRead, aNew, aEff, aval, avals, aparts, aopt, wantedA, binA, isShift, binI, fillA, single, aRes, splice, mkv, unA, binS, sameAt, reduceCtorEq, reduceIte, Int.reduceEq, Int.reduceLT, Int.reduceLE, Int.reduceNe, Nat.reduceEqDiff, Nat.reduceLT, Nat.reduceAdd, Nat.reduceMul, Nat.reduceSub, Nat.reduceLeDiff, Int.reduceBEq, Int.reduceBNe, Nat.reduceBEq, Nat.reduceBNe, Int.reduceToNat]
      refine onB_of (fun hlt => ?_) (fun hlt => ?_)
      · have hlt : t < n.kids.length := by simpa using hlt
        obtain ⟨x, hx⟩ : ∃ x, n.kids[t]? = some x := ⟨n.kids[t], List.getElem?_eq_getElem hlt⟩
        obtain ⟨m, rfl, hma, hkd⟩ := hkid x (List.mem_of_getElem? hx)
        obtain ⟨ik, ok, rfl, g1⟩ := (Rows.keeps IntP.mono (hk2.trans hk) hkv).int hx
        have r1 : (0 : Int) ≤ t := by omega
        have r2 : (t : Int) < n.kids.length := by omega
        have m1 := fm _ hk
        have htk : n.kids.take (t + 1) = n.kids.take t ++ [(m : Int)] := by
          rw [List.take_succ_eq_append_getElem hlt]; congr 2
          rw [List.getElem?_eq_getElem hlt] at hx; simpa using hx
        have vt : IntKind.i64.wrap ((t : Int) + 1) = ((t + 1 : Nat) : Int) := by rw [wrap_i64 (by omega) (by omega)]; rfl
        simp only [r1, r2, Nat.mul_one, g1, m1, zz, env0, aPure, aRead, aNew, aEff, aval, avals, aparts, aopt, wantedA, binA, isShift, binI, fillA, single, aRes, splice, mkv, unA, binS, sameAt, reduceCtorEq, reduceIte, Int.reduceEq, Int.reduceLT, Int.reduceLE, Int.reduceNe, Nat.reduceEqDiff, Nat.reduceLT, Nat.reduceAdd, Nat.reduceMul, Nat.reduceSub, Nat.reduceLeDiff, Int.reduceBEq, Int.reduceBNe, Nat.reduceBEq, Nat.reduceBNe, Int.reduceToNat]
        refine ih m hma (by omega) _ _ ns _ (Rows.keeps NdP.mono (hk2.trans hk) hN) (Rows.keeps IntP.mono (hk2.trans hk) hf) hp ?_
        intro v2 H4 ms2 hk4 hi2 hp2 hd2
        have hl1 := hp2.len
        have hl2 := hpm.len
        simp only [zz, env0, aPure, aRead, aNew, aEff, aval, avals, aparts, aopt, wantedA, binA, isShift, binI, fillA, single, aRes, splice, mkv, unA, binS, sameAt, reduceCtorEq, reduceIte, Int.reduceEq, Int.reduceLT, Int.reduceLE, Int.reduceNe, Nat.reduceEqDiff, Nat.reduceLT, Nat.reduceAdd, Nat.reduceMul, Nat.reduceSub, Nat.reduceLeDiff, Int.reduceBEq, Int.reduceBNe, Nat.reduceBEq, Nat.reduceBNe, Int.reduceToNat]
        refine merge_spec _ _ _ (nts ms) (nts ms2) (Rows.keeps IntP.mono hk4 hi) hi2 (by rw [nts_len]; omega) (by rw [nts_len]; omega) _ ?_
        intro v3 H5 hk5 hw5
        rw [← mergeN_nts, nts_len] at hw5
        simp only [vt, zz, env0, aPure, aRead, aNew, aEff, aval, avals, aparts, aopt, wantedA, binA, isShift, binI, fillA, single, aRes, splice, mkv, unA, binS, sameAt, reduceCtorEq, reduceIte, Int.reduceEq, Int.reduceLT, Int.reduceLE, Int.reduceNe, Nat.reduceEqDiff, Nat.reduceLT, Nat.reduceAdd, Nat.reduceMul, Nat.reduceSub, Nat.reduceLeDiff, Int.reduceBEq, Int.reduceBNe, Nat.reduceBEq, Nat.reduceBNe, Int.reduceToNat]
        refine ⟨n.kids.length - (t + 1), by omega, t + 1, v3, _, _, mergeN ms ms2, by omega, rfl, hk.trans (hk4.trans hk5), ints_of (by rw [nts_len]; exact hw5.row), ⟨mergeN_sorted _ _, fun x hx => ?_⟩, fun j => ?_, rfl⟩
        · rcases (mergeN_mem _ _ _).1 hx with h | h
          · exact hpm.2 x h
          · exact hp2.2 x h
        rw [mergeN_mem, hdm j, hd2 j, htk]
        constructor
        · rintro (⟨i, h1, k, h2, h3⟩ | ⟨i, h1, h2⟩)
          · exact ⟨i, h1, k, by simp [h2], h3⟩
          · exact ⟨i, h1, m, by simp, by rw [hkd]; exact h2⟩
        · rintro ⟨i, h1, k, h2, h3⟩
          simp only [List.mem_append, List.mem_cons, List.not_mem_nil, or_false] at h2
          rcases h2 with h2 | rfl
          · exact .inl ⟨i, h1, k, h2, h3⟩
          · exact .inr ⟨i, h1, by rw [hkd] at h3; exact h3⟩
      · have hte : t = n.kids.length := by simp at hlt; omega
        subst hte
        rw [List.take_length] at hdm
        simp only [zz, env0, aPure, aRead, aNew, aEff, aval, avals, aparts, aopt, wantedA, binA, isShift, binI, fillA, single, aRes, splice, mkv, unA, binS, sameAt, reduceCtorEq, reduceIte, Int.reduceEq, Int.reduceLT, Int.reduceLE, Int.reduceNe, Nat.reduceEqDiff, Nat.reduceLT, Nat.reduceAdd, Nat.reduceMul, Nat.reduceSub, Nat.reduceLeDiff, Int.reduceBEq, Int.reduceBNe, Nat.reduceBEq, Nat.reduceBNe, Int.reduceToNat]
        refine ⟨vo, ms, _, _, _, hk, hi, hpm, fun j => ?_, rfl⟩
        rw [hdm j]
        simp only [hden, ho]
        simp
    · rintro e env H' ⟨rfl, vo, ms, a10, a26, a27, hk, hi, hpm, hdm, rfl⟩
      simp only [zz, env0, aPure, aRead, aNew, aEff, aval, avals, aparts, aopt, wantedA, binA, isShift, binI, fillA, single, aRes, splice, mkv, unA, binS, sameAt, reduceCtorEq, reduceIte, Int.reduceEq, Int.reduceLT, Int.reduceLE, Int.reduceNe, Nat.reduceEqDiff, Nat.reduceLT, Nat.reduceAdd, Nat.reduceMul, Nat.reduceSub, Nat.reduceLeDiff, Int.reduceBEq, Int.reduceBNe, Nat.reduceBEq, Nat.reduceBNe, Int.reduceToNat]
      exact hK _ _ ms (hk2.trans hk) hi hpm hdm
  · -- Rep
    have ho' : (n.op == 5) = true := by simp [ho]
    have e2 : (n.op == 2) = false := by simp [ho]
    have e3 : (n.op == 3) = false := by simp [ho]
    have e4 : (n.op == 4) = false := by simp [ho]
    have m1 := fm _ (.refl _)
    have m2 := fn _ (.refl _)
    rw [ndRow] at m2
    simp only [e2, e3, e4, ho', m1, m2, zz, env0, aPure, aRead, aNew, aEff, aval, avals, aparts, aopt, wantedA, binA, isShift, binI, fillA, single, aRes, splice, mkv, unA, binS, sameAt, reduceCtorEq, reduceIte, Int.reduceEq, Int.reduceLT, Int.reduceLE, Int.reduceNe, Nat.reduceEqDiff, Nat.reduceLT, Nat.reduceAdd, Nat.reduceMul, Nat.reduceSub, Nat.reduceLeDiff, Int.reduceBEq, Int.reduceBNe, Nat.reduceBEq, Nat.reduceBNe, Int.reduceToNat]
    have hs5 : n.kids.length = 1 ∧ 0 ≤ n.lo ∧ n.lo ≤ 4096 ∧ (n.hi = -1 ∨ 1 ≤ n.hi ∧ n.lo ≤ n.hi ∧ n.hi ≤ 4096) := by
      rcases hsh with h | h | h | h | h
      · omega
      · omega
      · omega
      · exact ⟨h.2.2.1, h.2.2.2.1, h.2.2.2.2.1, h.2.2.2.2.2.1⟩
      · omega
    obtain ⟨x, hx⟩ : ∃ x, n.kids = [x] := by
      match hh : n.kids, hs5.1 with
      | [x], _ => exact ⟨x, rfl⟩
    obtain ⟨m, rfl, hma, hkd⟩ := hkid x (by rw [hx]; simp)
    refine times_spec (ih m hma (by omega)) hw _ kv vf n ns (Rows.keeps NdP.mono hk2 hN) ⟨q1, q2, q3⟩ (Rows.keeps IntP.mono hk2 hkv) hx ⟨hs5.2.1, hs5.2.2.1⟩ hs5.2.2.2 (Rows.keeps IntP.mono hk2 hf) hp _ ?_
    intro v2 H4 ms2 hk4 hi2 hp2 hd2
    simp only [zz, env0, aPure, aRead, aNew, aEff, aval, avals, aparts, aopt, wantedA, binA, isShift, binI, fillA, single, aRes, splice, mkv, unA, binS, sameAt, reduceCtorEq, reduceIte, Int.reduceEq, Int.reduceLT, Int.reduceLE, Int.reduceNe, Nat.reduceEqDiff, Nat.reduceLT, Nat.reduceAdd, Nat.reduceMul, Nat.reduceSub, Nat.reduceLeDiff, Int.reduceBEq, Int.reduceBNe, Nat.reduceBEq, Nat.reduceBNe, Int.reduceToNat]
    refine hK _ _ ms2 (hk2.trans hk4) hi2 hp2 (fun j => ?_)
    rw [hd2 j]
    simp only [hden, ho, hx]
    simp [hkd]
  · have e2 : (n.op == 2) = false := by simp [o2]
    have e3 : (n.op == 3) = false := by simp [o3]
    have e4 : (n.op == 4) = false := by simp [o4]
    have e5 : (n.op == 5) = false := by simp [o5]
    simp only [e2, e3, e4, e5, zz, env0, aPure, aRead, aNew, aEff, aval, avals, aparts, aopt, wantedA, binA, isShift, binI, fillA, single, aRes, splice, mkv, unA, binS, sameAt, reduceCtorEq, reduceIte, Int.reduceEq, Int.reduceLT, Int.reduceLE, Int.reduceNe, Nat.reduceEqDiff, Nat.reduceLT, Nat.reduceAdd, Nat.reduceMul, Nat.reduceSub, Nat.reduceLeDiff, Int.reduceBEq, Int.reduceBNe, Nat.reduceBEq, Nat.reduceBNe, Int.reduceToNat]
    refine hK _ _ ns hk2 (Rows.keeps IntP.mono hk2 hf) hp (fun j => ?_)
    simp only [hden, o2, o3, o4, o5, if_false]
    simp
end Go.Proofs.Ytnblhjpbpobglaa
