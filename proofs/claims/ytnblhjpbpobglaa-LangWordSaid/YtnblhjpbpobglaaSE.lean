/- syntax.Right. -/
import Derived.Test.YtnblhjpbpobglaaSD
set_option maxRecDepth 100000
set_option linter.unusedSimpArgs false
namespace Go.Proofs.Ytnblhjpbpobglaa
open Go.Am

/-- Which nodes are open behind some nodes. -/
inductive Stk : List Nd → List Int → Prop
  | nil : Stk [] []
  | snoc {l : List Nd} {st : List Int} {n : Nd} : Stk l (st ++ n.kids) → Shaped n → Stk (l ++ [n]) (st ++ [(l.length : Int)])

def RightT (l : List Nd) : Prop := 1 ≤ l.length ∧ l.length ≤ 1024 ∧ ∃ r, Stk l [r]

theorem stk_inv {l : List Nd} {n : Nd} {s : List Int} (h : Stk (l ++ [n]) s) : ∃ st, s = st ++ [(l.length : Int)] ∧ Stk l (st ++ n.kids) ∧ Shaped n := by
  generalize hL : l ++ [n] = L at h
  cases h with
  | nil => simp at hL
  | snoc h1 h2 =>
    have := List.append_inj' hL rfl
    obtain ⟨rfl, h3⟩ := this
    simp only [List.cons.injEq, and_true] at h3
    subst h3
    exact ⟨_, rfl, h1, h2⟩

theorem stk_det : ∀ {l : List Nd} {a b : List Int}, Stk l a → Stk l b → a = b := by
  intro l a b ha
  induction ha generalizing b with
  | nil => intro hb; generalize hL : ([] : List Nd) = L at hb; cases hb with
    | nil => rfl
    | snoc _ _ => simp at hL
  | snoc h1 h2 ih =>
    intro hb
    obtain ⟨st, rfl, h3, h4⟩ := stk_inv hb
    have := ih h3
    have := List.append_cancel_right this
    rw [this]

theorem stk_take {l : List Nd} {a : List Int} (h : Stk l a) : ∀ k, k ≤ l.length → ∃ s, Stk (l.take k) s := by
  induction h with
  | nil => intro k hk; simp at hk; subst hk; exact ⟨_, .nil⟩
  | @snoc l st n h1 h2 ih =>
    intro k hk
    simp only [List.length_append, List.length_cons, List.length_nil, Nat.zero_add] at hk
    rcases Nat.lt_or_ge l.length k with h | h
    · have : k = (l ++ [n]).length := by simp; omega
      rw [this, List.take_length]; exact ⟨_, .snoc h1 h2⟩
    · obtain ⟨s, hs⟩ := ih k h
      exact ⟨s, by rw [List.take_append_of_le_length h]; exact hs⟩

theorem stk_len {l : List Nd} {a : List Int} (h : Stk l a) : a.length ≤ l.length ∧ ∀ x, x ∈ a → 0 ≤ x ∧ x < l.length := by
  induction h with
  | nil => simp
  | snoc h1 h2 ih =>
    obtain ⟨i1, i2⟩ := ih
    simp only [List.length_append, List.length_cons, List.length_nil] at i1 ⊢
    refine ⟨by omega, fun x hx => ?_⟩
    simp only [List.mem_append, List.mem_cons, List.not_mem_nil, or_false] at hx
    rcases hx with hx | rfl
    · have := i2 x (by simp [hx]); omega
    · omega

theorem right_spec (H : AHeap) (v : AV) (l : List Nd) (hN : Nds H v l) (hbig : l.length < 9223372036854775808) (K : AV → AHeap → Prop)
   (hK : ∀ b H', Keeps H H' → (b = true ↔ RightT l) → K (.bool b) H') : WF P0 56 [v] H K := by
  have hla := hN.lenOf
  refine zWF rfl rfl rfl ?_
  simp only [a56, hla, zz, env0, aPure, aRead, aNew, aEff, aval, avals, aparts, aopt, wantedA, binA, isShift, binI, fillA, single, aRes, splice, mkv, unA, binS, sameAt, reduceCtorEq, reduceIte, Int.reduceEq, Int.reduceLT, Int.reduceLE, Int.reduceNe, Nat.reduceEqDiff, Nat.reduceLT, Nat.reduceAdd, Nat.reduceMul, Nat.reduceSub, Nat.reduceLeDiff, Int.reduceBEq, Int.reduceBNe, Nat.reduceBEq, Nat.reduceBNe, Int.reduceToNat]
  refine onG_f (fun h1 => ?_) (fun h1 => ?_)
  · simp only [h1, hla, zz, env0, aPure, aRead, aNew, aEff, aval, avals, aparts, aopt, wantedA, binA, isShift, binI, fillA, single, aRes, splice, mkv, unA, binS, sameAt, reduceCtorEq, reduceIte, Int.reduceEq, Int.reduceLT, Int.reduceLE, Int.reduceNe, Nat.reduceEqDiff, Nat.reduceLT, Nat.reduceAdd, Nat.reduceMul, Nat.reduceSub, Nat.reduceLeDiff, Int.reduceBEq, Int.reduceBNe, Nat.reduceBEq, Nat.reduceBNe, Int.reduceToNat]
    refine onB_of (fun h2 => ?_) (fun h2 => ?_)
    · simp only [zz, env0, aPure, aRead, aNew, aEff, aval, avals, aparts, aopt, wantedA, binA, isShift, binI, fillA, single, aRes, splice, mkv, unA, binS, sameAt, reduceCtorEq, reduceIte, Int.reduceEq, Int.reduceLT, Int.reduceLE, Int.reduceNe, Nat.reduceEqDiff, Nat.reduceLT, Nat.reduceAdd, Nat.reduceMul, Nat.reduceSub, Nat.reduceLeDiff, Int.reduceBEq, Int.reduceBNe, Nat.reduceBEq, Nat.reduceBNe, Int.reduceToNat]
      refine hK _ _ (.refl _) ?_
      simp at h2
      simp [RightT]; omega
    · simp only [h2, hla, zz, env0, aPure, aRead, aNew, aEff, aval, avals, aparts, aopt, wantedA, binA, isShift, binI, fillA, single, aRes, splice, mkv, unA, binS, sameAt, reduceCtorEq, reduceIte, Int.reduceEq, Int.reduceLT, Int.reduceLE, Int.reduceNe, Nat.reduceEqDiff, Nat.reduceLT, Nat.reduceAdd, Nat.reduceMul, Nat.reduceSub, Nat.reduceLeDiff, Int.reduceBEq, Int.reduceBNe, Nat.reduceBEq, Nat.reduceBNe, Int.reduceToNat]
      have hl1 : 1 ≤ l.length := by simp at h1; omega
      have hl2 : l.length ≤ 1024 := by simp at h2; omega
      refine WCL (fun r env H' => Keeps H H' ∧ ∃ (k : Nat) (op : List Int) (vo a3 a4 a5 a10 a11 a12 : AV), k ≤ l.length ∧ r = l.length - k ∧ Stk (l.take k) op ∧ WR H' H.length 1 vo op.length (op.map (AV.int .i64)) ∧
          env = [v, .bool false, vo, a3, a4, a5, .bool false, v, .int .i64 l.length, .int .i64 k, a10, a11, a12]) (n := l.length)
        ⟨.refl _, 0, [], .nilsl, _, _, _, _, _, _, Nat.zero_le _, rfl, .nil, .nil, rfl⟩ ?_
      rintro r env H' ⟨hk, k, op, vo, a3, a4, a5, a10, a11, a12, hkl, rfl, hst, hvo, rfl⟩
      simp only [zz, env0, aPure, aRead, aNew, aEff, aval, avals, aparts, aopt, wantedA, binA, isShift, binI, fillA, single, aRes, splice, mkv, unA, binS, sameAt, reduceCtorEq, reduceIte, Int.reduceEq, Int.reduceLT, Int.reduceLE, Int.reduceNe, Nat.reduceEqDiff, Nat.reduceLT, Nat.reduceAdd, Nat.reduceMul, Nat.reduceSub, Nat.reduceLeDiff, Int.reduceBEq, Int.reduceBNe, Nat.reduceBEq, Nat.reduceBNe, Int.reduceToNat]
      refine onB_of (fun hlt => ?_) (fun hlt => ?_)
      · have hlt : k < l.length := by simpa using hlt
        obtain ⟨n, hn⟩ : ∃ n, l[k]? = some n := ⟨l[k], List.getElem?_eq_getElem (by omega)⟩
        obtain ⟨i, o, kv, rfl, hok, hkv, hld⟩ := (Rows.keeps NdP.mono hk hN).nd hn
        have hk0 : (0 : Int) ≤ k := by omega
        have hk1 : (k : Int) < l.length := by omega
        have h9 := hld 0 9 (by omega)
        simp only [Nat.add_zero, List.drop_zero, ndRow, List.take_succ_cons, List.take_zero] at h9
        obtain ⟨f1, f2, f3, f4⟩ := hkv.flat
        simp only [hk0, hk1, h9, f1, zz, env0, aPure, aRead, aNew, aEff, aval, avals, aparts, aopt, wantedA, binA, isShift, binI, fillA, single, aRes, splice, mkv, unA, binS, sameAt, reduceCtorEq, reduceIte, Int.reduceEq, Int.reduceLT, Int.reduceLE, Int.reduceNe, Nat.reduceEqDiff, Nat.reduceLT, Nat.reduceAdd, Nat.reduceMul, Nat.reduceSub, Nat.reduceLeDiff, Int.reduceBEq, Int.reduceBNe, Nat.reduceBEq, Nat.reduceBNe, Int.reduceToNat]
        refine shaped_spec _ _ _ hok (Rows.keeps IntP.mono (.p1 _ _) hkv) _ ?_
        intro b H2 hk2 hb
        have hbox := hk2.get (gb_new H' _)
        have hvo2 := WR.keeps hk2 (hvo.keeps (.p1 H' _))
        have hlo := hvo2.lenOf
        have hlk := hkv.lenOf
        have hb5 : loadA H2 H'.length 5 1 = some [kv] := load_one hbox rfl
        have hsh : k + 1 ≤ l.length := hlt
        have htk : l.take (k + 1) = l.take k ++ [n] := by
          rw [List.take_succ_eq_append_getElem hlt]; congr 2
          rw [List.getElem?_eq_getElem hlt] at hn; simpa using hn
        have hlen : (l.take k).length = k := by rw [List.length_take]; omega
        have stop : (¬ (Shaped n ∧ ∃ st, op = st ++ n.kids)) → ∀ H3, Keeps H H3 → K (.bool false) H3 := fun hno H3 hk3 => by
          refine hK _ _ hk3 ?_
          simp only [Bool.false_eq_true, false_iff]
          rintro ⟨_, _, r, hr⟩
          obtain ⟨s, hs⟩ := stk_take hr (k + 1) hlt
          rw [htk] at hs
          obtain ⟨st, _, h5, h6⟩ := stk_inv hs
          exact hno ⟨h6, st, stk_det hst h5⟩
        have hkH2 : Keeps H H2 := hk.trans ((Keeps.p1 _ _).trans hk2)
        cases b with
        | false =>
          simp only [zz, env0, aPure, aRead, aNew, aEff, aval, avals, aparts, aopt, wantedA, binA, isShift, binI, fillA, single, aRes, splice, mkv, unA, binS, sameAt, reduceCtorEq, reduceIte, Int.reduceEq, Int.reduceLT, Int.reduceLE, Int.reduceNe, Nat.reduceEqDiff, Nat.reduceLT, Nat.reduceAdd, Nat.reduceMul, Nat.reduceSub, Nat.reduceLeDiff, Int.reduceBEq, Int.reduceBNe, Nat.reduceBEq, Nat.reduceBNe, Int.reduceToNat]
          exact stop (fun h => by have := hb.2 h.1; simp at this) _ hkH2
        | true =>
          have hshp := hb.1 rfl
          simp only [hlo, hlk, hb5, zz, env0, aPure, aRead, aNew, aEff, aval, avals, aparts, aopt, wantedA, binA, isShift, binI, fillA, single, aRes, splice, mkv, unA, binS, sameAt, reduceCtorEq, reduceIte, Int.reduceEq, Int.reduceLT, Int.reduceLE, Int.reduceNe, Nat.reduceEqDiff, Nat.reduceLT, Nat.reduceAdd, Nat.reduceMul, Nat.reduceSub, Nat.reduceLeDiff, Int.reduceBEq, Int.reduceBNe, Nat.reduceBEq, Nat.reduceBNe, Int.reduceToNat]
          refine onB_of (fun h => ?_) (fun h => ?_)
          · simp only [zz, env0, aPure, aRead, aNew, aEff, aval, avals, aparts, aopt, wantedA, binA, isShift, binI, fillA, single, aRes, splice, mkv, unA, binS, sameAt, reduceCtorEq, reduceIte, Int.reduceEq, Int.reduceLT, Int.reduceLE, Int.reduceNe, Nat.reduceEqDiff, Nat.reduceLT, Nat.reduceAdd, Nat.reduceMul, Nat.reduceSub, Nat.reduceLeDiff, Int.reduceBEq, Int.reduceBNe, Nat.reduceBEq, Nat.reduceBNe, Int.reduceToNat]
            refine stop (fun h => ?_) _ hkH2
            obtain ⟨_, st, rfl⟩ := h
            simp at h; omega
          · have hle : n.kids.length ≤ op.length := by simp at h; omega
            have hopl : op.length ≤ 1024 := by have := (stk_len hst).1; rw [hlen] at this; omega
            have hw : IntKind.i64.wrap ((op.length : Int) - n.kids.length) = ((op.length - n.kids.length : Nat) : Int) := by rw [wrap_i64 (by omega) (by omega)]; omega
            obtain ⟨w1, hs1, hr1, _⟩ := sliceA_lo hvo2.row (l := op.length - n.kids.length) (by omega)
            have hz := hvo2.row.szOk
            simp only [hlo, hlk, hb5, hw, hz, hs1, zz, env0, aPure, aRead, aNew, aEff, aval, avals, aparts, aopt, wantedA, binA, isShift, binI, fillA, single, aRes, splice, mkv, unA, binS, sameAt, reduceCtorEq, reduceIte, Int.reduceEq, Int.reduceLT, Int.reduceLE, Int.reduceNe, Nat.reduceEqDiff, Nat.reduceLT, Nat.reduceAdd, Nat.reduceMul, Nat.reduceSub, Nat.reduceLeDiff, Int.reduceBEq, Int.reduceBNe, Nat.reduceBEq, Nat.reduceBNe, Int.reduceToNat]
            refine equal_spec _ _ _ (op.drop (op.length - n.kids.length)) n.kids (by simp; omega) ?_ (Rows.keeps IntP.mono ((Keeps.p1 _ _).trans hk2) hkv) _ ?_
            · refine ints_of ?_
              have e : (op.drop (op.length - n.kids.length)).length = op.length - (op.length - n.kids.length) := by simp
              rw [e, List.map_drop]; simpa using hr1
            intro b2 hb2
            cases b2 with
            | false =>
              simp only [zz, env0, aPure, aRead, aNew, aEff, aval, avals, aparts, aopt, wantedA, binA, isShift, binI, fillA, single, aRes, splice, mkv, unA, binS, sameAt, reduceCtorEq, reduceIte, Int.reduceEq, Int.reduceLT, Int.reduceLE, Int.reduceNe, Nat.reduceEqDiff, Nat.reduceLT, Nat.reduceAdd, Nat.reduceMul, Nat.reduceSub, Nat.reduceLeDiff, Int.reduceBEq, Int.reduceBNe, Nat.reduceBEq, Nat.reduceBNe, Int.reduceToNat]
              refine stop (fun h => ?_) _ hkH2
              obtain ⟨_, st, rfl⟩ := h
              have := hb2.2 (by simp)
              simp at this
            | true =>
              have hop : op = op.take (op.length - n.kids.length) ++ n.kids := by
                have := hb2.1 rfl
                conv => lhs; rw [← List.take_append_drop (op.length - n.kids.length) op, this]
              obtain ⟨w2, hs2, hr2, hid2⟩ := hvo2.sliceHi (l := op.length - n.kids.length) (by omega)
              have hw3 : IntKind.i64.wrap ((k : Int) + 1) = ((k + 1 : Nat) : Int) := by rw [wrap_i64 (by omega) (by omega)]; rfl
              obtain ⟨v', H4, ha, hw4, he4, hid4⟩ := (hr2.keeps (Keeps.p1 H2 (some (.cells 1 true [.int .i64 k])))).append (bytes := 8) (by have := hkH2.1; simp; omega) (src_new H2 1 1 [.int .i64 k] rfl) rfl rfl (by simp only [maxRoom]; omega)
              simp only [hz, hs2, ha, hw3, zz, env0, aPure, aRead, aNew, aEff, aval, avals, aparts, aopt, wantedA, binA, isShift, binI, fillA, single, aRes, splice, mkv, unA, binS, sameAt, reduceCtorEq, reduceIte, Int.reduceEq, Int.reduceLT, Int.reduceLE, Int.reduceNe, Nat.reduceEqDiff, Nat.reduceLT, Nat.reduceAdd, Nat.reduceMul, Nat.reduceSub, Nat.reduceLeDiff, Int.reduceBEq, Int.reduceBNe, Nat.reduceBEq, Nat.reduceBNe, Int.reduceToNat]
              have hkH4 : Keeps H H4 := Else.keeps (hkH2.trans (.p1 _ _)) he4 (fun i hi => (hr2.id hi).1)
              refine ⟨l.length - (k + 1), by omega, hkH4, k + 1, op.take (op.length - n.kids.length) ++ [(k : Int)], v', _, _, _, _, _, _, hlt, rfl, ?_, ?_, rfl⟩
              · rw [htk]
                have := Stk.snoc (by rw [← hop]; exact hst) hshp
                rwa [hlen] at this
              · have e : (op.take (op.length - n.kids.length) ++ [(k : Int)]).length = op.length - n.kids.length + 1 := by simp
                rw [e, List.map_append, List.map_take]
                simpa using hw4
      · have hkn : k = l.length := by
          have : ¬ ((k : Int) < l.length) := by simpa using hlt
          omega
        subst hkn
        rw [List.take_length] at hst
        have hlo := hvo.lenOf
        simp only [hlo, zz, env0, aPure, aRead, aNew, aEff, aval, avals, aparts, aopt, wantedA, binA, isShift, binI, fillA, single, aRes, splice, mkv, unA, binS, sameAt, reduceCtorEq, reduceIte, Int.reduceEq, Int.reduceLT, Int.reduceLE, Int.reduceNe, Nat.reduceEqDiff, Nat.reduceLT, Nat.reduceAdd, Nat.reduceMul, Nat.reduceSub, Nat.reduceLeDiff, Int.reduceBEq, Int.reduceBNe, Nat.reduceBEq, Nat.reduceBNe, Int.reduceToNat]
        refine hK _ _ hk ?_
        simp only [ieq, decide_eq_true_eq]
        constructor
        · intro h
          refine ⟨hl1, hl2, ?_⟩
          match op, h with
          | [r], _ => exact ⟨r, hst⟩
        · rintro ⟨_, _, r, hr⟩
          rw [stk_det hst hr]; rfl
  · simp only [h1, zz, env0, aPure, aRead, aNew, aEff, aval, avals, aparts, aopt, wantedA, binA, isShift, binI, fillA, single, aRes, splice, mkv, unA, binS, sameAt, reduceCtorEq, reduceIte, Int.reduceEq, Int.reduceLT, Int.reduceLE, Int.reduceNe, Nat.reduceEqDiff, Nat.reduceLT, Nat.reduceAdd, Nat.reduceMul, Nat.reduceSub, Nat.reduceLeDiff, Int.reduceBEq, Int.reduceBNe, Nat.reduceBEq, Nat.reduceBNe, Int.reduceToNat]
    refine hK _ _ (.refl _) ?_
    simp at h1
    simp [RightT]; omega
end Go.Proofs.Ytnblhjpbpobglaa
