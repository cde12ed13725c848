/- Operations that change memory: what compact code says is what the machine does. -/
import Derived.Test.YtnblhjpbpobglaaAmM
namespace Go.Am

/-- A call, in compact code. -/
def AOp.isCall : AOp → Bool
  | .call _ _ | .callv _ _ => true
  | _ => false

section
variable {c : Ctx} {env vals : List AV} {Φ : Phi} {ρ : Operand → Value} {w : World} {H : AHeap}

theorem clear_cells {zs : List Value} (hne : zs.length ≠ 0) (n : Nat) : (Builtin.zeroCells zs.toArray n).toList = (List.replicate n zs).flatten := by
  rw [← range_mod zs n hne]
  simp [Builtin.zeroCells]

/-- A map that is written. -/
theorem map_step (S : Sim Φ (getB H) w) {i : Nat} {es es' : List (AV × AV)} (hB : getB H i = some (.map es)) {l : Loc} (hl : Φ i = some l) {en : Array MapEntry} {cl : Nat}
    (h1 : Rs Φ (es'.map (·.1)) (en.toList.map (·.key))) (h2 : Rs Φ (es'.map (·.2)) (en.toList.map (·.val))) :
    Sim Φ (getB (H.set i (some (.map es')))) { w with heap := w.heap.setIfInBounds l.b (.map en cl) } ∧
      Ext Φ (getB H) w Φ (getB (H.set i (some (.map es')))) { w with heap := w.heap.setIfInBounds l.b (.map en cl) } := by
  obtain ⟨l', hl', hok⟩ := S.ok i _ hB
  rw [hl] at hl'; simp only [Option.some.injEq] at hl'; subst hl'
  obtain ⟨q1, q2, en0, cl0, q3, q4, q5⟩ := hok
  rw [getB_set H i _ (getB_lt hB)]
  refine write_step S hB hl q2 rfl rfl rfl (by simp) (fun b hb => by simp [Ne.symm hb]) ?_
  exact ⟨by simpa using q1, q2, en, cl, by simp [q1], h1, h2⟩

theorem Rs.set {a : List AV} {x : List Value} (h : Rs Φ a x) (i : Nat) {b : AV} {y : Value} (hb : R Φ b y) : Rs Φ (a.set i b) (x.set i y) := by
  refine Rs.mk (by simp [h.len]) fun k c hk => ?_
  by_cases e : i = k
  · subst e
    have hlt : i < a.length := by
      rcases Nat.lt_or_ge i a.length with h | h
      · exact h
      · rw [List.getElem?_eq_none (by simp; omega)] at hk; simp at hk
    rw [List.getElem?_set_self hlt] at hk
    simp only [Option.some.injEq] at hk; subst hk
    exact ⟨y, by rw [List.getElem?_set_self (by rw [h.len]; exact hlt)], hb⟩
  · rw [List.getElem?_set_ne e] at hk
    obtain ⟨v, hv, hR⟩ := h.get hk
    exact ⟨v, by rw [List.getElem?_set_ne e]; exact hv, hR⟩

theorem Rs.erase {a : List AV} {x : List Value} (h : Rs Φ a x) (i : Nat) : Rs Φ (a.eraseIdx i) (x.eraseIdx i) := by
  refine Rs.mk (by simp [List.length_eraseIdx, h.len]) fun k c hk => ?_
  rw [List.getElem?_eraseIdx] at hk
  split at hk
  · rename_i hlt
    obtain ⟨v, hv, hR⟩ := h.get hk
    exact ⟨v, by rw [List.getElem?_eraseIdx, if_pos hlt]; exact hv, hR⟩
  · rename_i hlt
    obtain ⟨v, hv, hR⟩ := h.get hk
    exact ⟨v, by rw [List.getElem?_eraseIdx, if_neg hlt]; exact hv, hR⟩

theorem map_erase {α β : Type} (f : α → β) : ∀ (l : List α) (i : Nat), (l.map f).eraseIdx i = (l.eraseIdx i).map f
  | [], _ => rfl
  | _ :: _, 0 => rfl
  | x :: r, i + 1 => by simp [map_erase f r i]

theorem keyEq_same {kk : EqK} {a b : AV} {x y : Value} (ha : R Φ a x) (hb : R Φ b y) (h : keyEq kk a b = some true) (n : Nat) : Instr.sameBits n y x = true := by
  unfold keyEq at h
  split at h
  · simp only [R] at ha hb; subst ha; subst hb
    split at h <;> simp at h
    rename_i hk; subst hk; subst h
    simp [Instr.sameBits]
  · simp only [R] at ha hb; subst ha; subst hb
    simp at h; subst h
    simp only [Instr.sameBits]
    rw [beq_toListBytes]; simp
  · simp only [R] at ha hb; subst ha; subst hb
    simp at h; subst h
    simp [Instr.sameBits]
  · simp at h

theorem findI_key {kk : EqK} {k : AV} : ∀ (es : List (AV × AV)) (i j : Nat), findI kk k es i = some (some j) → ∃ e, i ≤ j ∧ es[j - i]? = some e ∧ keyEq kk k e.1 = some true
  | [], i, j, h => by simp [findI] at h
  | (a, b) :: r, i, j, h => by
    simp only [findI] at h
    split at h
    · rename_i hq
      simp only [Option.some.injEq] at h; subst h
      exact ⟨(a, b), Nat.le_refl _, by simp, hq⟩
    · obtain ⟨e, h1, h2, h3⟩ := findI_key r (i + 1) j h
      refine ⟨e, by omega, ?_, h3⟩
      rw [show j - i = (j - (i + 1)) + 1 by omega]
      simpa using h2
    · simp at h

theorem run_setObj_map {P : Program} {r : Nat} {en0 : Array MapEntry} {cl0 : Nat} {o : Obj} (h : w.heap[r]? = some (.map en0 cl0)) :
    (setObj r o).run P w = .ok () { w with heap := w.heap.setIfInBounds r o } := by
  simp [setObj, Sem.run, h]

theorem mapset_ok (S : Sim Φ (getB H) w) {t kt et : TypeId} {kk : EqK} (hu : c.P.underlying t = some (.map kt et)) (hkk : keyP c.P kt = some kk) {i : Nat} {kv vv : AV} {mv kx vx : Value} {es : List (AV × AV)}
    (hm : R Φ (.map i) mv) (hk : R Φ kv kx) (hv : R Φ vv vx) (hB : getB H i = some (.map es)) {r : Option Nat} (hf : findI kk kv es 0 = some r) :
    ∃ w', (Instr.mapUpdate t mv kx vx).run c.P w = .ok () w' ∧
      Sim Φ (getB (H.set i (some (.map (match r with | some j => es.set j (kv, vv) | none => es ++ [(kv, vv)]))))) w' ∧
      Ext Φ (getB H) w Φ (getB (H.set i (some (.map (match r with | some j => es.set j (kv, vv) | none => es ++ [(kv, vv)]))))) w' := by
  simp only [R] at hm
  obtain ⟨l, hl, rfl⟩ := hm
  obtain ⟨l', hl', hok⟩ := S.ok i _ hB
  rw [hl] at hl'; simp only [Option.some.injEq] at hl'; subst hl'
  obtain ⟨q1, q2, en, cl, q3, q4, q5⟩ := hok
  obtain ⟨kd, hkd, hkdd⟩ := keyP_desc hkk
  have hg : (getObj l.b).run c.P w = .ok (.map en cl) w := by simp [getObj, Sem.run, q3]
  obtain ⟨hn1, hn2⟩ := findI_now hkdd hk es en.toList 0 q4 hf
  cases r with
  | none =>
    simp only [Option.bind_none] at hn1
    obtain ⟨s1, s2⟩ := map_step S (es' := es ++ [(kv, vv)]) hB hl (en := en.push { key := kx, val := vx, born := cl }) (cl := cl + 1)
      (by simpa using q4.append (.cons hk .nil)) (by simpa using q5.append (.cons hv .nil))
    refine ⟨_, ?_, s1, s2⟩
    simp only [Instr.mapUpdate, Sem.run_bind, run_underlying hu, Result.andThen_ok, hg, checkKey_ok hkd hkdd _ 9999, Instr.findKey, run_underlying hkd, hn1, Sem.run_pure, run_setObj_map q3]
  | some j =>
    simp only [Option.bind_some, Nat.sub_zero] at hn1
    have hj := (hn2 j rfl).2
    simp only [Nat.sub_zero] at hj
    obtain ⟨e, _, he1, he2⟩ := findI_key es 0 j hf
    simp only [Nat.sub_zero] at he1
    obtain ⟨ky, hky1, hky2⟩ := q4.get (k := j) (c := e.1) (by simp [he1])
    have hen : ∃ e', en.toList[j]? = some e' ∧ e'.key = ky := by
      simp only [List.getElem?_map, Option.map_eq_some_iff] at hky1
      exact hky1
    obtain ⟨e', hen1, hen2⟩ := hen
    rw [hen1] at hn1
    simp only [Option.map_some] at hn1
    have hsb : Instr.sameBits 10000 e'.key kx = true := by rw [hen2]; exact keyEq_same hk hky2 he2 _
    have hjen : j < en.size := by have := q4.len; simp at this; omega
    have hmod : (en.modify j fun x => { x with key := kx, val := vx }).toList.map (·.key) = (en.toList.map (·.key)).set j kx ∧
        (en.modify j fun x => { x with key := kx, val := vx }).toList.map (·.val) = (en.toList.map (·.val)).set j vx := by
      constructor
      · apply List.ext_getElem?; intro q
        by_cases e : j = q
        · subst e; simp [hjen]
        · simp [e]
      · apply List.ext_getElem?; intro q
        by_cases e : j = q
        · subst e; simp [hjen]
        · simp [e]
    obtain ⟨s1, s2⟩ := map_step S (es' := es.set j (kv, vv)) hB hl (en := en.modify j fun x => { x with key := kx, val := vx }) (cl := cl)
      (by rw [hmod.1, List.map_set]; exact q4.set j hk) (by rw [hmod.2, List.map_set]; exact q5.set j hv)
    refine ⟨_, ?_, s1, s2⟩
    have hgk : (((en[j]?).map (·.key)).getD kx) = e'.key := by
      have : en[j]? = some e' := by simpa using hen1
      simp [this]
    simp only [Instr.mapUpdate, Sem.run_bind, run_underlying hu, Result.andThen_ok, hg, checkKey_ok hkd hkdd _ 9999, Instr.findKey, run_underlying hkd, hn1, Sem.run_pure, hgk, Instr.keyThatStays, hsb, if_true, run_setObj_map q3]

theorem delete_ok (S : Sim Φ (getB H) w) {t kt et u ty : TypeId} {kk : EqK} (hu : c.P.underlying t = some (.map kt et)) (hkk : keyP c.P kt = some kk) {i : Nat} {kv : AV} {mv kx : Value} {es : List (AV × AV)}
    (hm : R Φ (.map i) mv) (hk : R Φ kv kx) (hB : getB H i = some (.map es)) {r : Option Nat} (hf : findI kk kv es 0 = some r) :
    ∃ w', (Builtin.delete_ #[t, u] ty #[mv, kx]).run c.P w = .ok (.tuple #[]) w' ∧
      Sim Φ (getB (match r with | some j => H.set i (some (.map (es.eraseIdx j))) | none => H)) w' ∧
      Ext Φ (getB H) w Φ (getB (match r with | some j => H.set i (some (.map (es.eraseIdx j))) | none => H)) w' := by
  simp only [R] at hm
  obtain ⟨l, hl, rfl⟩ := hm
  obtain ⟨l', hl', hok⟩ := S.ok i _ hB
  rw [hl] at hl'; simp only [Option.some.injEq] at hl'; subst hl'
  obtain ⟨q1, q2, en, cl, q3, q4, q5⟩ := hok
  obtain ⟨kd, hkd, hkdd⟩ := keyP_desc hkk
  have hg : (getObj l.b).run c.P w = .ok (.map en cl) w := by simp [getObj, Sem.run, q3]
  obtain ⟨hn1, hn2⟩ := findI_now hkdd hk es en.toList 0 q4 hf
  cases r with
  | none =>
    simp only [Option.bind_none] at hn1
    have hsame : ({ w with heap := w.heap.setIfInBounds l.b (.map en cl) } : World) = w := by
      have : w.heap.setIfInBounds l.b (.map en cl) = w.heap := by
        apply Array.ext_getElem?; intro q
        by_cases e : l.b = q
        · subst e; rw [Array.getElem?_setIfInBounds_self_of_lt q1, q3]
        · rw [Array.getElem?_setIfInBounds_ne e]
      rw [this]
    refine ⟨w, ?_, S, Ext.refl _ _ _⟩
    simp [Builtin.delete_, run_underlying hu, hg, checkKey_ok hkd hkdd _ 9999, Instr.findKey, run_underlying hkd, hn1, run_setObj_map q3, hsame]
  | some j =>
    simp only [Option.bind_some, Nat.sub_zero] at hn1
    have hj := (hn2 j rfl).2
    simp only [Nat.sub_zero] at hj
    have hel : en.toList.length = es.length := by have := q4.len; simpa using this
    obtain ⟨e', hen1⟩ : ∃ e', en.toList[j]? = some e' := ⟨_, List.getElem?_eq_getElem (by omega)⟩
    rw [hen1] at hn1
    simp only [Option.map_some] at hn1
    obtain ⟨s1, s2⟩ := map_step S (es' := es.eraseIdx j) hB hl (en := en.eraseIdxIfInBounds j) (cl := cl)
      (by have := q4.erase j; simpa [map_erase] using this) (by have := q5.erase j; simpa [map_erase] using this)
    refine ⟨_, ?_, s1, s2⟩
    simp [Builtin.delete_, run_underlying hu, hg, checkKey_ok hkd hkdd _ 9999, Instr.findKey, run_underlying hkd, hn1, run_setObj_map q3]

/-- Every operation that changes memory, but calls. -/
theorem eff_ok (O : HO c env vals Φ ρ) (S : Sim Φ (getB H) w) (o : Oper) {call : CallT} {ao : AOp} {v : AV} {H' : AHeap} (h : trOp c o.op = some ao) (hc : ao.isCall = false)
    (hv : aEff call env vals H ao = some (v, H')) (hfree : ∀ i, H.length ≤ i → i < H'.length → Φ i = none) : EffOk c.P Φ H w ρ o v H' ∧ H.length ≤ H'.length := by
  obtain ⟨dst, op, ty, pos, after, guard⟩ := o
  simp only at h
  cases op with
  | store t a x =>
    simp only [trOp] at h
    split at h <;> simp only [Option.some.injEq, reduceCtorEq] at h
    rename_i n p q hn hp hq; subst h
    simp only [aEff] at hv
    split at hv
    · rename_i i k u hi hu
      split at hv
      · rename_i hlen
        split at hv <;> simp only [Option.some.injEq, Prod.mk.injEq, reduceCtorEq] at hv
        rename_i H1 hst
        obtain ⟨rfl, rfl⟩ := hv
        have h1 := O _ _ _ hp hi
        have h2 := O _ _ _ hq hu
        simp only [R] at h1
        obtain ⟨l, hl, hpv⟩ := h1
        have hnj : u.isJunk = false := by
          cases u <;> first | rfl | skip
          unfold storeA at hst
          split at hst
          · split at hst
            · rename_i hcc
              simp [AV.cells, AV.one] at hcc
            · simp at hst
          · simp at hst
        have hcR := R.cells h2 hnj
        obtain ⟨s1, s2, s3, s4⟩ := store_world S hst hcR hl
        refine ⟨⟨Φ, .skip, _, ?_, .inr ⟨rfl, rfl⟩, s2, s3, fun i hi => absurd rfl hi⟩, by omega⟩
        have hsz : (ρ x).cells.size = n := by rw [← hlen, ← hcR.len]; simp
        simp [execOp, Instr.storeAt, hpv, Instr.sureAddr, storeVar, run_size hn, hsz, s1 c.P]
      · simp at hv
    · simp at hv
  | mapUpdate t m k x =>
    simp only [trOp] at h
    split at h
    · rename_i kt et p q r hu hp hq hr
      split at h <;> simp only [Option.some.injEq, reduceCtorEq] at h
      rename_i kk hkk; subst h
      simp only [aEff] at hv
      split at hv
      · rename_i i kv vv hm hk hx
        split at hv
        · split at hv
          · rename_i es hB
            have hm' := O _ _ _ hp hm
            have hk' := O _ _ _ hq hk
            have hx' := O _ _ _ hr hx
            split at hv <;> simp only [Option.some.injEq, Prod.mk.injEq, reduceCtorEq] at hv
            · rename_i j hf
              obtain ⟨rfl, rfl⟩ := hv
              obtain ⟨w', h1, h2, h3⟩ := mapset_ok S hu hkk hm' hk' hx' hB hf
              exact ⟨⟨Φ, .skip, w', by simp [execOp, h1], .inr ⟨rfl, rfl⟩, h2, h3, fun i hi => absurd rfl hi⟩, by simp⟩
            · rename_i hf
              obtain ⟨rfl, rfl⟩ := hv
              obtain ⟨w', h1, h2, h3⟩ := mapset_ok S hu hkk hm' hk' hx' hB hf
              exact ⟨⟨Φ, .skip, w', by simp [execOp, h1], .inr ⟨rfl, rfl⟩, h2, h3, fun i hi => absurd rfl hi⟩, by simp⟩
          · simp at hv
        · simp at hv
      · simp at hv
    · simp at h
  | insert t m k x =>
    simp only [trOp] at h
    split at h
    · rename_i kt et p q r hu hp hq hr
      split at h <;> simp only [Option.some.injEq, reduceCtorEq] at h
      rename_i kk hkk; subst h
      simp only [aEff] at hv
      split at hv
      · rename_i i kv vv hm hk hx
        split at hv
        · split at hv
          · rename_i es hB
            have hm' := O _ _ _ hp hm
            have hk' := O _ _ _ hq hk
            have hx' := O _ _ _ hr hx
            split at hv <;> simp only [Option.some.injEq, Prod.mk.injEq, reduceCtorEq] at hv
            · rename_i j hf
              obtain ⟨rfl, rfl⟩ := hv
              obtain ⟨w', h1, h2, h3⟩ := mapset_ok S hu hkk hm' hk' hx' hB hf
              exact ⟨⟨Φ, .skip, w', by simp [execOp, h1], .inr ⟨rfl, rfl⟩, h2, h3, fun i hi => absurd rfl hi⟩, by simp⟩
            · rename_i hf
              obtain ⟨rfl, rfl⟩ := hv
              obtain ⟨w', h1, h2, h3⟩ := mapset_ok S hu hkk hm' hk' hx' hB hf
              exact ⟨⟨Φ, .skip, w', by simp [execOp, h1], .inr ⟨rfl, rfl⟩, h2, h3, fun i hi => absurd rfl hi⟩, by simp⟩
          · simp at hv
        · simp at hv
      · simp at hv
    · simp at h
  | call k =>
    simp only [trOp, trCall] at h
    obtain ⟨callee, args, ats⟩ := k
    split at h
    · split at h <;> simp only [Option.some.injEq, reduceCtorEq] at h
      subst h; simp [AOp.isCall] at hc
    · split at h <;> simp only [Option.some.injEq, reduceCtorEq] at h
      subst h; simp [AOp.isCall] at hc
    · simp at h
    · rename_i b hcal
      simp only at hcal; subst hcal
      split at h
      · exfalso; revert h; (repeat' split) <;> intro h <;> simp only [Option.some.injEq, reduceCtorEq] at h <;> subst h <;> simp [aEff] at hv
      · exfalso; revert h; (repeat' split) <;> intro h <;> simp only [Option.some.injEq, reduceCtorEq] at h <;> subst h <;> simp [aEff] at hv
      · -- append
        rename_i s x t u hargs hats
        have ea : args = #[s, x] := by apply Array.ext'; simpa using hargs
        have et : ats = #[t, u] := by apply Array.ext'; simpa using hats
        subst ea; subst et
        split at h
        · rename_i e e' p q he hu hp hq
          split at h
          · rename_i sz m z0 hsz hby hz0
            split at h <;> simp only [Option.some.injEq, reduceCtorEq] at h
            rename_i hm0; subst h
            simp only [aEff] at hv
            split at hv
            · rename_i a y ha hy
              have ht : c.P.underlying t = some (.slice e) := by
                unfold elemP at he; split at he <;> simp at he; subst he; assumption
              have hyR := O _ _ _ hq hy
              split at hv
              · rename_i hns
                have hstr : ∀ s, y = .str s → sz = 1 := by
                  intro s e; subst e; simp [AV.isStr] at hns
                have hlen : H.length ≤ H'.length := by
                  unfold appendA at hv
                  split at hv
                  · simp at hv
                  · (repeat' split at hv) <;> simp only [Option.some.injEq, Prod.mk.injEq, reduceCtorEq] at hv <;> (obtain ⟨_, rfl⟩ := hv) <;> simp
                obtain ⟨Φ', v', w', h1, h2, h3, h4, h5⟩ := append_ok (ty := ty) S ht hu (.inl ⟨_, rfl⟩) hsz hby hm0 hz0 (O _ _ _ hp ha) hyR hstr hv hfree
                exact ⟨⟨Φ', .value v', w', by simp [execOp, resolve, invoke, builtin, h1], .inl ⟨v', rfl, h2⟩, h3, h4, h5⟩, hlen⟩
              · simp at hv
            · simp at hv
          · simp at h
        · rename_i e p q he hu hp hq
          split at h
          · rename_i m z0 hsz hby hue hz0
            split at h <;> simp only [Option.some.injEq, reduceCtorEq] at h
            rename_i hm0; subst h
            simp only [aEff] at hv
            split at hv
            · rename_i a y ha hy
              have ht : c.P.underlying t = some (.slice e) := by
                unfold elemP at he; split at he <;> simp at he; subst he; assumption
              split at hv
              · have hlen : H.length ≤ H'.length := by
                  unfold appendA at hv
                  split at hv
                  · simp at hv
                  · (repeat' split at hv) <;> simp only [Option.some.injEq, Prod.mk.injEq, reduceCtorEq] at hv <;> (obtain ⟨_, rfl⟩ := hv) <;> simp
                obtain ⟨Φ', v', w', h1, h2, h3, h4, h5⟩ := append_ok (ty := ty) S ht hu (.inr rfl) hsz hby hm0 hz0 (O _ _ _ hp ha) (O _ _ _ hq hy) (fun _ _ => rfl) hv hfree
                exact ⟨⟨Φ', .value v', w', by simp [execOp, resolve, invoke, builtin, h1], .inl ⟨v', rfl, h2⟩, h3, h4, h5⟩, hlen⟩
              · simp at hv
            · simp at hv
          · simp at h
        · simp at h
      · -- copy
        rename_i d s t u hargs hats
        have ea : args = #[d, s] := by apply Array.ext'; simpa using hargs
        have et : ats = #[t, u] := by apply Array.ext'; simpa using hats
        subst ea; subst et
        split at h
        · rename_i e e' p q he hu hp hq
          split at h <;> simp only [Option.some.injEq, reduceCtorEq] at h
          rename_i sz hsz; subst h
          have ht : c.P.underlying t = some (.slice e) := by
            unfold elemP at he; split at he <;> simp at he; subst he; assumption
          simp only [aEff] at hv
          split at hv
          · rename_i a y ha hy
            split at hv
            · simp at hv
            · rename_i hns
              have h1 := O _ _ _ hp ha
              have h2 := O _ _ _ hq hy
              unfold copyA at hv
              split at hv
              · -- into a slice
                rename_i k xs i o n hsrc
                obtain ⟨vs, hvR, hvl, hlen, hfc, hfcd⟩ := src_ok S hsrc h2 (fun s e => by subst e; simp [AV.isStr] at hns)
                split at hv <;> simp only [Option.some.injEq, Prod.mk.injEq, reduceCtorEq] at hv
                rename_i H1 hst
                obtain ⟨rfl, rfl⟩ := hv
                simp only [R] at h1
                obtain ⟨l, b0, cc, hl, hpv, hncc, hcap⟩ := h1
                have hmin : Nat.min k n = min k n := rfl
                have hf := hfc c.P (min k n) (Nat.min_le_left _ _)
                obtain ⟨s1, s2, s3, s4⟩ := store_world S hst (hvR.take (min k n * sz)) hl
                rcases hcap with h0 | ⟨rfl, _⟩
                · have hn0 : n = 0 := by omega
                  subst hn0
                  have e0 : min k 0 = 0 := by omega
                  rw [e0] at hf s2 s3 hst ⊢
                  simp only [Nat.zero_mul, List.take_zero] at hf s2 s3
                  refine ⟨⟨Φ, .value (.int .i64 (0 : Nat)), w, ?_, .inl ⟨_, rfl, by simp only [R]⟩, by simpa [World.setCells] using s2, by simpa [World.setCells] using s3, fun i hi => absurd rfl hi⟩, by omega⟩
                  simp [execOp, resolve, invoke, builtin, Builtin.copy_, run_underlying ht, hpv, hlen c.P, run_size hsz, hf, storeCells, goInt]
                · refine ⟨⟨Φ, .value (.int .i64 (min k n : Nat)), _, ?_, .inl ⟨_, rfl, by simp only [R]⟩, s2, s3, fun i hi => absurd rfl hi⟩, by omega⟩
                  simp [execOp, resolve, invoke, builtin, Builtin.copy_, run_underlying ht, hpv, hlen c.P, run_size hsz, hmin, hf, s1 c.P, goInt]
              · rename_i xs hsrc
                simp only [Option.some.injEq, Prod.mk.injEq] at hv
                obtain ⟨rfl, rfl⟩ := hv
                obtain ⟨vs, hvR, hvl, hlen, hfc, hfcd⟩ := src_ok S hsrc h2 (fun s e => by subst e; simp [AV.isStr] at hns)
                have hf := hfc c.P 0 (Nat.zero_le _)
                simp only [Nat.zero_mul, List.take_zero] at hf
                simp only [R] at h1
                refine ⟨⟨Φ, .value (.int .i64 0), w, ?_, .inl ⟨_, rfl, by simp only [R]⟩, S, Ext.refl _ _ _, fun i hi => absurd rfl hi⟩, Nat.le_refl _⟩
                simp [execOp, resolve, invoke, builtin, Builtin.copy_, run_underlying ht, h1, hlen c.P, run_size hsz, hf, goInt]
              · rename_i xs hsrc
                simp only [Option.some.injEq, Prod.mk.injEq] at hv
                obtain ⟨rfl, rfl⟩ := hv
                obtain ⟨vs, hvR, hvl, hlen, hfc, hfcd⟩ := src_ok S hsrc h2 (fun s e => by subst e; simp [AV.isStr] at hns)
                have hf := hfc c.P 0 (Nat.zero_le _)
                simp only [Nat.zero_mul, List.take_zero] at hf
                simp only [R] at h1
                obtain ⟨b0, h1⟩ := h1
                refine ⟨⟨Φ, .value (.int .i64 0), w, ?_, .inl ⟨_, rfl, by simp only [R]⟩, S, Ext.refl _ _ _, fun i hi => absurd rfl hi⟩, Nat.le_refl _⟩
                simp [execOp, resolve, invoke, builtin, Builtin.copy_, run_underlying ht, h1, hlen c.P, run_size hsz, hf, goInt, storeCells]
              · simp at hv
          · simp at hv
        · simp at h
      · -- clear
        rename_i x t hargs hats
        have ea : args = #[x] := by apply Array.ext'; simpa using hargs
        have et : ats = #[t] := by apply Array.ext'; simpa using hats
        subst ea; subst et
        split at h
        · rename_i e p hu hp
          split at h <;> simp only [Option.some.injEq, reduceCtorEq] at h
          rename_i z hz; subst h
          obtain ⟨zi, zv, hi, hzv, hzl, hzne, hzR⟩ := zeroP_info hz
          simp only [aEff] at hv
          split at hv
          · rename_i a ha
            have h1 := O _ _ _ hp ha
            unfold clearA at hv
            split at hv
            · simp only [Option.some.injEq, Prod.mk.injEq] at hv
              obtain ⟨rfl, rfl⟩ := hv
              simp only [R] at h1
              refine ⟨⟨Φ, .value (.tuple #[]), w, ?_, .inl ⟨_, rfl, by simp only [R]; exact ⟨[], rfl, .nil⟩⟩, S, Ext.refl _ _ _, fun i hi => absurd rfl hi⟩, Nat.le_refl _⟩
              simp [execOp, resolve, invoke, builtin, Builtin.clear_, run_underlying hu, h1]
            · simp only [Option.some.injEq, Prod.mk.injEq] at hv
              obtain ⟨rfl, rfl⟩ := hv
              simp only [R] at h1
              obtain ⟨b0, h1⟩ := h1
              refine ⟨⟨Φ, .value (.tuple #[]), w, ?_, .inl ⟨_, rfl, by simp only [R]; exact ⟨[], rfl, .nil⟩⟩, S, Ext.refl _ _ _, fun i hi => absurd rfl hi⟩, Nat.le_refl _⟩
              simp [execOp, resolve, invoke, builtin, Builtin.clear_, run_underlying hu, h1]
            · rename_i i o n
              simp only [R] at h1
              obtain ⟨l, b0, cc, hl, hpv, hncc, hcap⟩ := h1
              split at hv
              · rename_i hn0
                simp only [Option.some.injEq, Prod.mk.injEq] at hv
                obtain ⟨rfl, rfl⟩ := hv
                subst hn0
                refine ⟨⟨Φ, .value (.tuple #[]), w, ?_, .inl ⟨_, rfl, by simp only [R]; exact ⟨[], rfl, .nil⟩⟩, S, Ext.refl _ _ _, fun i hi => absurd rfl hi⟩, Nat.le_refl _⟩
                simp [execOp, resolve, invoke, builtin, Builtin.clear_, run_underlying hu, hpv]
              · rename_i hn0
                split at hv <;> simp only [Option.some.injEq, Prod.mk.injEq, reduceCtorEq] at hv
                rename_i H1 hst
                obtain ⟨rfl, rfl⟩ := hv
                rcases hcap with h0 | ⟨rfl, _⟩
                · exact absurd h0 (by omega)
                · obtain ⟨s1, s2, s3, s4⟩ := store_world S hst (rows_R (hzR Φ) n) hl
                  have hzc : (Builtin.zeroCells zv.cells n).toList = (List.replicate n zv.cells.toList).flatten := by
                    have := clear_cells (zs := zv.cells.toList) (by rw [(hzR Φ).len, hzl]; exact hzne) n
                    simpa using this
                  refine ⟨⟨Φ, .value (.tuple #[]), _, ?_, .inl ⟨_, rfl, by simp only [R]; exact ⟨[], rfl, .nil⟩⟩, s2, s3, fun i hi => absurd rfl hi⟩, by omega⟩
                  have hs := s1 c.P
                  rw [← hzc] at hs ⊢
                  cases n with
                  | zero => exact absurd rfl hn0
                  | succ n => simp [execOp, resolve, invoke, builtin, Builtin.clear_, run_underlying hu, hpv, run_zero hi hzv, hs]
            · simp at hv
          · simp at hv
        · simp at h
      · exfalso; revert h; (repeat' split) <;> intro h <;> simp only [Option.some.injEq, reduceCtorEq] at h <;> subst h <;> simp [aEff] at hv
      · exfalso; revert h; (repeat' split) <;> intro h <;> simp only [Option.some.injEq, reduceCtorEq] at h <;> subst h <;> simp [aEff] at hv
      · -- delete
        rename_i m x t u hargs hats
        have ea : args = #[m, x] := by apply Array.ext'; simpa using hargs
        have et : ats = #[t, u] := by apply Array.ext'; simpa using hats
        subst ea; subst et
        split at h
        · rename_i kt et p q hu hp hq
          split at h <;> simp only [Option.some.injEq, reduceCtorEq] at h
          rename_i kk hkk; subst h
          obtain ⟨kd, hkd, hkdd⟩ := keyP_desc hkk
          simp only [aEff] at hv
          split at hv
          · rename_i i kv hm hk
            have hm' := O _ _ _ hp hm
            have hk' := O _ _ _ hq hk
            split at hv
            · split at hv
              · rename_i es hB
                split at hv <;> simp only [Option.some.injEq, Prod.mk.injEq, reduceCtorEq] at hv
                · rename_i j hf
                  obtain ⟨rfl, rfl⟩ := hv
                  obtain ⟨w', h1, h2, h3⟩ := delete_ok (u := u) (ty := ty) S hu hkk hm' hk' hB hf
                  exact ⟨⟨Φ, .value (.tuple #[]), w', by simp [execOp, resolve, invoke, builtin, h1], .inl ⟨_, rfl, by simp only [R]; exact ⟨[], rfl, .nil⟩⟩, h2, h3, fun i hi => absurd rfl hi⟩, by simp⟩
                · rename_i hf
                  obtain ⟨rfl, rfl⟩ := hv
                  obtain ⟨w', h1, h2, h3⟩ := delete_ok (u := u) (ty := ty) S hu hkk hm' hk' hB hf
                  exact ⟨⟨Φ, .value (.tuple #[]), w', by simp [execOp, resolve, invoke, builtin, h1], .inl ⟨_, rfl, by simp only [R]; exact ⟨[], rfl, .nil⟩⟩, h2, h3, fun i hi => absurd rfl hi⟩, Nat.le_refl _⟩
              · simp at hv
            · simp at hv
          · rename_i kv hm hk
            have hm' := O _ _ _ hp hm
            simp only [R] at hm'
            split at hv <;> simp only [Option.some.injEq, Prod.mk.injEq, reduceCtorEq] at hv
            obtain ⟨rfl, rfl⟩ := hv
            refine ⟨⟨Φ, .value (.tuple #[]), w, ?_, .inl ⟨_, rfl, by simp only [R]; exact ⟨[], rfl, .nil⟩⟩, S, Ext.refl _ _ _, fun i hi => absurd rfl hi⟩, Nat.le_refl _⟩
            simp [execOp, resolve, invoke, builtin, Builtin.delete_, run_underlying hu, hm', checkKey_ok hkd hkdd _ 9999]
          · simp at hv
        · simp at h
      · simp at h
  | binOp op t x y yt =>
    exfalso
    cases op
    case eql => simp only [trOp, trEq] at h; (repeat' split at h) <;> simp only [Option.some.injEq, reduceCtorEq] at h <;> subst h <;> simp [aEff] at hv
    case neq => simp only [trOp, trEq] at h; (repeat' split at h) <;> simp only [Option.some.injEq, reduceCtorEq] at h <;> subst h <;> simp [aEff] at hv
    all_goals (simp only [trOp] at h; (repeat' split at h) <;> simp only [Option.some.injEq, reduceCtorEq] at h <;> subst h <;> simp [aEff] at hv)
  | makeFunc f first caps =>
    exfalso
    cases f <;> simp only [trOp, reduceCtorEq] at h
    (repeat' split at h) <;> simp only [Option.some.injEq, reduceCtorEq] at h
    subst h; simp [aEff] at hv
  | makeMap t r =>
    exfalso
    cases r <;> simp only [trOp, Option.some.injEq, reduceCtorEq] at h
    subst h; simp [aEff] at hv
  | _ =>
    exfalso
    simp only [trOp, reduceCtorEq] at h
    all_goals ((repeat' split at h) <;> simp only [Option.some.injEq, reduceCtorEq] at h <;> subst h <;> simp [aEff] at hv)

end
end Go.Am
