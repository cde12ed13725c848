/- norm: Right of no names, put, name of none, tree, Expand without names; lang.plain. -/
import Derived.Test.YtnblhjpbpobglaaSE
import Derived.Test.YtnblhjpbpobglaaSG
set_option maxRecDepth 100000
set_option linter.unusedSimpArgs false
namespace Go.Proofs.Ytnblhjpbpobglaa
open Go.Am

theorem normRight0_spec (H : AHeap) (K : AV → AHeap → Prop) (hK : ∀ H', Keeps H H' → K (.bool true) H') : WF P0 57 [.nilsl] H K := by
  refine zWF rfl rfl rfl ?_
  simp only [a57, zz, env0, aPure, aRead, aNew, aEff, aval, avals, aparts, aopt, wantedA, binA, isShift, binI, fillA, single, aRes, splice, mkv, unA, binS, sameAt, reduceCtorEq, reduceIte, Int.reduceEq, Int.reduceLT, Int.reduceLE, Int.reduceNe, Nat.reduceEqDiff, Nat.reduceLT, Nat.reduceAdd, Nat.reduceMul, Nat.reduceSub, Nat.reduceLeDiff, Int.reduceBEq, Int.reduceBNe, Nat.reduceBEq, Nat.reduceBNe, Int.reduceToNat]
  refine WC_unroll ?_
  simp only [zz, env0, aPure, aRead, aNew, aEff, aval, avals, aparts, aopt, wantedA, binA, isShift, binI, fillA, single, aRes, splice, mkv, unA, binS, sameAt, reduceCtorEq, reduceIte, Int.reduceEq, Int.reduceLT, Int.reduceLE, Int.reduceNe, Nat.reduceEqDiff, Nat.reduceLT, Nat.reduceAdd, Nat.reduceMul, Nat.reduceSub, Nat.reduceLeDiff, Int.reduceBEq, Int.reduceBNe, Nat.reduceBEq, Nat.reduceBNe, Int.reduceToNat]
  exact hK _ (.p1 _ _)

/-- All blocks but two. -/
def Else2 (H H' : AHeap) (x : Nat) (y : Option Nat) : Prop := H.length ≤ H'.length ∧ ∀ i b, i ≠ x → y ≠ some i → getB H i = some b → getB H' i = some b

theorem else_trans {H1 H2 H3 : AHeap} {x : Option Nat} (h : Else H1 H2 x) (k : Else H2 H3 x) : Else H1 H3 x := ⟨Nat.le_trans h.1 k.1, fun i b hi hb => k.2 i b hi (h.2 i b hi hb)⟩
theorem else_refl (H : AHeap) (x : Option Nat) : Else H H x := ⟨Nat.le_refl _, fun _ _ _ h => h⟩

def ren (ats : List Int) (k : Int) : Int := ats.getD k.toNat 0

theorem put_spec (H : AHeap) (b bx : Nat) (d o outv va kv : AV) (n : Nd) (ats : List Int) (m : Nat) (cells : List AV) (hbx : getB H bx = some (.cells 3 true [d, o, outv])) (hout : WR H b 9 outv m cells)
    (hb : b ≤ H.length) (_hok : n.Ok) (hkv : Ints H kv n.kids) (hat : Ints H va ats) (hkids : ∀ k, k ∈ n.kids → 0 ≤ k ∧ k < ats.length) (hkl : n.kids.length ≤ 1000000) (K : AV → AHeap → Prop)
    (hlong : 1024 ≤ m → ∀ H', Keeps H H' → K (.tup [.int .i64 0, .int .i64 3]) H')
    (hK : m < 1024 → ∀ H' outv' kv', Else2 H H' bx (avId outv) → getB H' bx = some (.cells 3 true [d, o, outv']) → WR H' b 9 outv' (m + 1) (cells ++ ndRow n kv') → Ints H' kv' (n.kids.map (ren ats)) →
      (∀ i, avId outv' = some i → avId outv = some i ∨ H.length ≤ i) → (∀ i, avId kv' = some i → H.length ≤ i) → K (.tup [.int .i64 m, .int .i64 0]) H') :
    WF P0 70 [.ptr bx 0, .agg (ndRow n kv), va] H K := by
  have hlo := hout.lenOf
  have hlt := gb_lt hbx
  have l2 : loadA H bx 2 1 = some [outv] := load_one hbx rfl
  refine zWF rfl rfl rfl ?_
  simp only [a70, ndRow, hlt, l2, hlo, zz, env0, aPure, aRead, aNew, aEff, aval, avals, aparts, aopt, wantedA, binA, isShift, binI, fillA, single, aRes, splice, mkv, unA, binS, sameAt, reduceCtorEq, reduceIte, Int.reduceEq, Int.reduceLT, Int.reduceLE, Int.reduceNe, Nat.reduceEqDiff, Nat.reduceLT, Nat.reduceAdd, Nat.reduceMul, Nat.reduceSub, Nat.reduceLeDiff, Int.reduceBEq, Int.reduceBNe, Nat.reduceBEq, Nat.reduceBNe, Int.reduceToNat]
  refine onB_of (fun h => ?_) (fun h => ?_)
  · simp only [zz, env0, aPure, aRead, aNew, aEff, aval, avals, aparts, aopt, wantedA, binA, isShift, binI, fillA, single, aRes, splice, mkv, unA, binS, sameAt, reduceCtorEq, reduceIte, Int.reduceEq, Int.reduceLT, Int.reduceLE, Int.reduceNe, Nat.reduceEqDiff, Nat.reduceLT, Nat.reduceAdd, Nat.reduceMul, Nat.reduceSub, Nat.reduceLeDiff, Int.reduceBEq, Int.reduceBNe, Nat.reduceBEq, Nat.reduceBNe, Int.reduceToNat]
    exact hlong (by simp at h; omega) _ (.p1 _ _)
  · have hm : m < 1024 := by simp at h; omega
    simp only [h, zz, env0, aPure, aRead, aNew, aEff, aval, avals, aparts, aopt, wantedA, binA, isShift, binI, fillA, single, aRes, splice, mkv, unA, binS, sameAt, reduceCtorEq, reduceIte, Int.reduceEq, Int.reduceLT, Int.reduceLE, Int.reduceNe, Nat.reduceEqDiff, Nat.reduceLT, Nat.reduceAdd, Nat.reduceMul, Nat.reduceSub, Nat.reduceLeDiff, Int.reduceBEq, Int.reduceBNe, Nat.reduceBEq, Nat.reduceBNe, Int.reduceToNat]
    refine clone_spec _ _ _ (Rows.keeps IntP.mono (.p1 _ _) hkv) (by omega) _ ?_
    intro v1 H2 hk2 hw1
    have hbox := hk2.get (gb_new H _)
    obtain ⟨f1, f2, f3, f4⟩ := hw1.row.flat
    have hst := store_of hbox 5 [v1]
    have hl1 := hw1.lenOf
    have hH1 : (H ++ [some (Blk.cells 9 true (ndRow n kv))]).length = H.length + 1 := by simp
    have hnb : H.length < H2.length := by have := hk2.1; simp at this; omega
    have hid1 : ∀ i, avId v1 = some i → H.length + 1 ≤ i := fun i hi => by have := (hw1.id hi).1; simp at this; omega
    have hset : ∀ q, getB (H2.set H.length q) H.length = q := fun q => gb_set q hnb
    generalize hH3 : H2.set H.length (some (Blk.cells 9 true (ndRow n v1))) = H3
    have hbox3 : getB H3 H.length = some (.cells 9 true (ndRow n v1)) := by rw [← hH3]; exact hset _
    have he3 : Else H2 H3 (some H.length) := ⟨by rw [← hH3]; simp, fun i c hi hc => by rw [← hH3, gb_set_ne _ (fun e => hi (by rw [e]))]; exact hc⟩
    have hw3 : WR H3 (H.length + 1) 1 v1 n.kids.length (n.kids.map (AV.int .i64)) := by
      rw [← hH1]; exact hw1.keep (fun i q hi hq => he3.2 i q (fun e => by simp only [Option.some.injEq] at e; have := hid1 i hi; omega) hq)
    have hk3 : Keeps H H3 := ⟨by have h1 := hk2.1; have h2 := he3.1; simp at h1; omega, fun i c hc => he3.2 i c (fun e => by simp only [Option.some.injEq] at e; have := gb_lt hc; omega) (hk2.get (gb_push _ hc))⟩
    have hst' : storeA H2 H.length 5 [v1] = some H3 := by
      rw [hst, if_pos (by simp), if_pos (by simp [f1]), ← hH3]
      rfl
    have l5 : loadA H3 H.length 5 1 = some [v1] := load_one hbox3 rfl
    simp only [f2, hst', l5, hl1, zz, env0, aPure, aRead, aNew, aEff, aval, avals, aparts, aopt, wantedA, binA, isShift, binI, fillA, single, aRes, splice, mkv, unA, binS, sameAt, reduceCtorEq, reduceIte, Int.reduceEq, Int.reduceLT, Int.reduceLE, Int.reduceNe, Nat.reduceEqDiff, Nat.reduceLT, Nat.reduceAdd, Nat.reduceMul, Nat.reduceSub, Nat.reduceLeDiff, Int.reduceBEq, Int.reduceBNe, Nat.reduceBEq, Nat.reduceBNe, Int.reduceToNat]
    refine WCL (fun r env H' => Else H3 H' (avId v1) ∧ ∃ (k : Nat) (a6 a7 a12 : AV), k ≤ n.kids.length ∧ r = n.kids.length - k ∧
        WR H' (H.length + 1) 1 v1 n.kids.length (((n.kids.take k).map (ren ats) ++ n.kids.drop k).map (AV.int .i64)) ∧
        env = [.ptr bx 0, .agg (ndRow n kv), va, .ptr H.length 0, .int .i64 0, .int .i64 0, a6, a7, .bool false, v1, .int .i64 n.kids.length, .int .i64 k, a12]) (n := n.kids.length)
      ⟨else_refl _ _, 0, _, _, _, Nat.zero_le _, rfl, by simpa using hw3, rfl⟩ ?_
    rintro r env H' ⟨he, k, a6, a7, a12, hkn, rfl, hw, rfl⟩
    have hbox' : getB H' H.length = some (.cells 9 true (ndRow n v1)) := he.2 _ _ (fun e => by have := hid1 _ e; omega) hbox3
    have l5' : loadA H' H.length 5 1 = some [v1] := load_one hbox' rfl
    have hold : ∀ i c, getB H i = some c → getB H' i = some c := fun i c hc => he.2 i c (fun e => by have := hid1 _ e; have := gb_lt hc; omega) (hk3.get hc)
    simp only [zz, env0, aPure, aRead, aNew, aEff, aval, avals, aparts, aopt, wantedA, binA, isShift, binI, fillA, single, aRes, splice, mkv, unA, binS, sameAt, reduceCtorEq, reduceIte, Int.reduceEq, Int.reduceLT, Int.reduceLE, Int.reduceNe, Nat.reduceEqDiff, Nat.reduceLT, Nat.reduceAdd, Nat.reduceMul, Nat.reduceSub, Nat.reduceLeDiff, Int.reduceBEq, Int.reduceBNe, Nat.reduceBEq, Nat.reduceBNe, Int.reduceToNat]
    refine onB_of (fun hlt3 => ?_) (fun hlt3 => ?_)
    · have hlt3 : k < n.kids.length := by simpa using hlt3
      obtain ⟨x, hx⟩ : ∃ x, n.kids[k]? = some x := ⟨n.kids[k], List.getElem?_eq_getElem hlt3⟩
      have hxr := hkids x (List.mem_of_getElem? hx)
      have hlen : ((n.kids.take k).map (ren ats) ++ n.kids.drop k).length = n.kids.length := by simp; omega
      have hI : Ints H' v1 ((n.kids.take k).map (ren ats) ++ n.kids.drop k) := ints_of (by rw [hlen]; exact hw.row)
      have hx2 : ((n.kids.take k).map (ren ats) ++ n.kids.drop k)[k]? = some x := by
        rw [List.getElem?_append_right (by simp; omega), List.getElem?_drop, ← hx]; congr 1; simp; omega
      obtain ⟨i, q, rfl, g1⟩ := hI.int hx2
      obtain ⟨y, hy⟩ : ∃ y, ats[x.toNat]? = some y := ⟨ats[x.toNat]'(by omega), List.getElem?_eq_getElem (by omega)⟩
      have hat' : Ints H' va ats := ints_else hat (fun i c _ hc => hold i c hc)
      obtain ⟨j, p, rfl, g2⟩ := hat'.int hy
      obtain ⟨i4, q4, e4, H4, hs4, hw4, he4, _⟩ := hw.store (k := k) (vs := [.int .i64 y]) (by simp; omega) (by omega) rfl
      rw [hlen] at e4
      simp only [AV.sl.injEq] at e4
      obtain ⟨rfl, rfl, _⟩ := e4
      have p1 : (0 : Int) ≤ k := by omega
      have p2 : (k : Int) < ((n.kids.take k).map (ren ats) ++ n.kids.drop k).length := by rw [hlen]; omega
      have v2 : IntKind.i64.wrap ((k : Int) + 1) = ((k + 1 : Nat) : Int) := by rw [wrap_i64 (by omega) (by omega)]; rfl
      simp only [Nat.mul_one, g1, p1, p2, l5', g2, hxr.1, hxr.2, hs4, v2, zz, env0, aPure, aRead, aNew, aEff, aval, avals, aparts, aopt, wantedA, binA, isShift, binI, fillA, single, aRes, splice, mkv, unA, binS, sameAt, reduceCtorEq, reduceIte, Int.reduceEq, Int.reduceLT, Int.reduceLE, Int.reduceNe, Nat.reduceEqDiff, Nat.reduceLT, Nat.reduceAdd, Nat.reduceMul, Nat.reduceSub, Nat.reduceLeDiff, Int.reduceBEq, Int.reduceBNe, Nat.reduceBEq, Nat.reduceBNe, Int.reduceToNat]
      refine ⟨n.kids.length - (k + 1), by omega, else_trans he he4, k + 1, _, _, _, hlt3, rfl, ?_, rfl⟩
      rw [splice_ints _ _ _ (by rw [hlen]; omega)] at hw4
      have e : ((n.kids.take k).map (ren ats) ++ n.kids.drop k).set k y = (n.kids.take (k + 1)).map (ren ats) ++ n.kids.drop (k + 1) := by
        rw [List.set_append_right _ _ (by simp; omega), List.take_succ_eq_append_getElem hlt3, List.map_append, List.append_assoc]
        congr 1
        have : k - ((n.kids.take k).map (ren ats)).length = 0 := by simp; omega
        rw [this, List.drop_eq_getElem_cons hlt3]
        rw [List.getElem?_eq_getElem hlt3] at hx
        simp only [Option.some.injEq] at hx
        rw [hx]
        have hren : ren ats x = y := by simp [ren, List.getD_eq_getElem?_getD, hy]
        simp [hren]
      rw [e] at hw4; exact hw4
    · have hke : k = n.kids.length := by simp at hlt3; omega
      subst hke
      rw [List.take_length, List.drop_length, List.append_nil] at hw
      have hbx' := hold _ _ hbx
      have l2' : loadA H' bx 2 1 = some [outv] := load_one hbx' rfl
      have l9 : loadA H' H.length 0 9 = some (ndRow n v1) := load_at hbox' (by simp [ndRow])
      have hout' : WR H' b 9 outv m cells := hout.keep (fun i q _ hq => hold i q hq)
      have hlen' : H.length + 1 ≤ H'.length := by have h1 := he.1; have h2 := he3.1; have h3 := hk2.1; simp at h3; omega
      obtain ⟨v', H4, ha, hw4, he4, hid4⟩ := (hout'.keeps (Keeps.p1 H' (some (.cells 9 true (ndRow n v1))))).append (bytes := 96) (by simp; omega) (src_new H' 9 1 (ndRow n v1) rfl) rfl (by simp [ndRow, one_int, one_str, f1]) (by simp only [maxRoom]; omega)
      have hidv : ∀ i, avId outv = some i → i ≠ bx := fun i hi e => by
        subst e
        obtain ⟨rw', cs', hc⟩ := RowAt.id hout.row hi
        rw [hbx] at hc; simp at hc
      have hbx4 : getB H4 bx = some (.cells 3 true [d, o, outv]) := he4.2 _ _ (fun e => hidv _ e rfl) (gb_push _ hbx')
      obtain ⟨w1, w2, w3, w4⟩ := hw4.row.flat
      have hst4 := store_of hbx4 2 [v']
      rw [if_pos (by simp), if_pos (by simp [w1])] at hst4
      have hlo4 := hw4.lenOf
      have hbx5 : getB (H4.set bx (some (.cells 3 true (splice [d, o, outv] 2 [v'])))) bx = some (.cells 3 true [d, o, v']) := gb_set _ (gb_lt hbx4)
      have hl5 : loadA (H4.set bx (some (.cells 3 true (splice [d, o, outv] 2 [v'])))) bx 2 1 = some [v'] := load_one hbx5 rfl
      have hsp : splice [d, o, outv] 2 [v'] = [d, o, v'] := rfl
      rw [hsp] at hst4 hbx5 hl5
      simp only [ndRow] at l9 ha
      have hw5 : IntKind.i64.wrap ((((m + 1 : Nat) : Int)) - 1) = (m : Int) := by rw [wrap_i64 (by omega) (by omega)]; omega
      simp only [l2', l9, f1, f2, f3, ha, w2, hst4, hl5, hlo4, hw5, zz, env0, aPure, aRead, aNew, aEff, aval, avals, aparts, aopt, wantedA, binA, isShift, binI, fillA, single, aRes, splice, mkv, unA, binS, sameAt, reduceCtorEq, reduceIte, Int.reduceEq, Int.reduceLT, Int.reduceLE, Int.reduceNe, Nat.reduceEqDiff, Nat.reduceLT, Nat.reduceAdd, Nat.reduceMul, Nat.reduceSub, Nat.reduceLeDiff, Int.reduceBEq, Int.reduceBNe, Nat.reduceBEq, Nat.reduceBNe, Int.reduceToNat]
      have hkeep : ∀ i q, i ≠ bx → avId outv ≠ some i → getB H' i = some q → getB (H4.set bx (some (.cells 3 true [d, o, v']))) i = some q := fun i q h1 h2 h3 => by
        rw [gb_set_ne _ (Ne.symm h1)]
        exact he4.2 i q h2 (gb_push _ h3)
      have hsz : ∀ i cs rw, getB H' i = some (.cells 1 rw cs) → i ≠ bx ∧ avId outv ≠ some i := fun i cs rw hc => by
        refine ⟨fun e => ?_, fun e => ?_⟩
        · subst e; rw [hbx'] at hc; simp at hc
        · obtain ⟨rw', cs', hc'⟩ := RowAt.id hout'.row e
          rw [hc'] at hc; simp at hc
      refine hK hm _ v' v1 ⟨by rw [List.length_set]; have := he4.1; simp at this; omega, fun i q h1 h2 h3 => hkeep i q h1 h2 (hold i q h3)⟩ hbx5 ?_ ?_ ?_ (fun i hi => by have := hid1 i hi; omega)
      · refine hw4.keep (fun i q hi hq => ?_)
        rw [gb_set_ne _ (fun e => ?_)]
        · exact hq
        · subst e
          rcases hid4 _ hi with h | h
          · exact hidv _ h rfl
          · simp at h; omega
      · have hI : Ints H' v1 (n.kids.map (ren ats)) := ints_of (by rw [List.length_map]; exact hw.row)
        refine ints_else hI (fun i q hi hq => ?_)
        obtain ⟨rw', cs', hc'⟩ := RowAt.id hw.row hi
        have := hsz i cs' rw' hc'
        exact hkeep i q this.1 this.2 hq
      · intro i hi
        rcases hid4 _ hi with h | h
        · exact .inl h
        · right; simp at h; omega
end Go.Proofs.Ytnblhjpbpobglaa
