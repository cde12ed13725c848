/- append, copy, clear: what compact code says is what the machine does. -/
import Derived.Test.YtnblhjpbpobglaaAmL
namespace Go.Am

section
variable {c : Ctx} {env vals : List AV} {Φ : Phi} {ρ : Operand → Value} {w : World} {H : AHeap}

/-- What is appended or copied. -/
theorem src_ok (S : Sim Φ (getB H) w) {sz n : Nat} {x : AV} {cs : List AV} {v : Value} (h : cellsOfSrc H sz x = some (n, cs)) (hR : R Φ x v) (hstr : ∀ s, x = .str s → sz = 1) :
    ∃ vs : List Value, Rs Φ cs vs ∧ vs.length = n * sz ∧
      (∀ P : Program, (Builtin.lenOf v).run P w = .ok n w) ∧
      (∀ (P : Program) (m : Nat), m ≤ n → (Builtin.firstCells sz m v).run P w = .ok (vs.take (m * sz)).toArray w) ∧
      (∀ (P : Program) (m : Nat), m ≤ n → (Builtin.firstCells sz m v).run P w.drew = .ok (vs.take (m * sz)).toArray w.drew) := by
  cases x <;> simp only [cellsOfSrc, reduceCtorEq] at h
  case nilsl =>
    simp only [Option.some.injEq, Prod.mk.injEq] at h
    obtain ⟨rfl, rfl⟩ := h
    simp only [R] at hR; subst hR
    exact ⟨[], .nil, by simp, by simp [Builtin.lenOf], by simp [Builtin.firstCells], by simp [Builtin.firstCells]⟩
  case esl =>
    simp only [Option.some.injEq, Prod.mk.injEq] at h
    obtain ⟨rfl, rfl⟩ := h
    simp only [R] at hR
    obtain ⟨a, rfl⟩ := hR
    refine ⟨[], .nil, by simp, by simp [Builtin.lenOf], fun P m hm => ?_, fun P m hm => ?_⟩
    · have : m = 0 := by omega
      subst this; simp [Builtin.firstCells, loadCells, loadCellsFrom]
    · have : m = 0 := by omega
      subst this; simp [Builtin.firstCells, loadCells, loadCellsFrom]
  case str s =>
    simp only [Option.some.injEq, Prod.mk.injEq] at h
    obtain ⟨rfl, rfl⟩ := h
    have h1 := hstr s rfl
    subst h1
    simp only [R] at hR; subst hR
    have hsz : (ByteArray.mk s.toArray).size = s.length := by simp [ByteArray.size]
    have key : ∀ (P : Program) (w : World) (m : Nat), m ≤ s.length → (Builtin.firstCells 1 m (.string ⟨s.toArray⟩)).run P w = .ok ((s.map fun b => Value.int .u8 b.toNat).take (m * 1)).toArray w := by
      intro P w m hm
      simp only [Builtin.firstCells, Sem.run_pure, ByteArray.extract_mk]
      congr 1
      apply Array.ext'
      simp [List.map_take]
    refine ⟨s.map fun b => .int .u8 b.toNat, ?_, by simp, by intro P; simp [Builtin.lenOf, hsz], fun P m hm => key P w m hm, fun P m hm => key P w.drew m hm⟩
    refine Rs.mk (by simp [ofBytes]) fun k x hk => ?_
    simp only [ofBytes, List.getElem?_map, Option.map_eq_some_iff] at hk
    obtain ⟨b, hb, rfl⟩ := hk
    exact ⟨.int .u8 b.toNat, by simp [hb], by simp only [R]⟩
  case sl j o n' =>
    split at h
    · rename_i sz' rw' cs0 hB
      split at h <;> simp only [Option.some.injEq, reduceCtorEq, Prod.mk.injEq] at h
      rename_i hc
      obtain ⟨rfl, hle⟩ := hc
      obtain ⟨rfl, rfl⟩ := h
      simp only [R] at hR
      obtain ⟨l, a, cc, hl, rfl, hlc, hcap⟩ := hR
      have hload : loadA H j o (n' * sz') = some ((cs0.drop o).take (n' * sz')) := by simp [loadA, hB, hle]
      obtain ⟨h1, vs, h2, h3, h4⟩ := loadA_cells S hload hl
      have cell : ∀ (w' : World) (hw : ∀ a, w'.cell? a = w.cell? a) (P : Program) (m : Nat), m ≤ n' → (Builtin.firstCells sz' m (.slice (some a) n' cc)).run P w' = .ok (vs.take (m * sz')).toArray w' := by
        intro w' hw P m hm
        rcases hcap with h0 | ⟨rfl, _⟩
        · have hm0 : m = 0 := by omega
          subst hm0; simp [Builtin.firstCells, loadCells, loadCellsFrom]
        · refine run_firstCells_some w' sz' m _ n' cc (vs.take (m * sz')) ?_ (fun k v hk => ?_)
          · have := Nat.mul_le_mul_right sz' hm
            simp; omega
          · rw [hw]
            refine h4 k v ?_
            rcases Nat.lt_or_ge k (m * sz') with h | h
            · rwa [List.getElem?_take_of_lt h] at hk
            · rw [List.getElem?_eq_none (by simp; omega)] at hk; simp at hk
      exact ⟨vs, h2, h3, by intro P; simp [Builtin.lenOf], cell w (fun _ => rfl), cell w.drew (fun _ => rfl)⟩
    · simp at h

theorem run_append_in {P : Program} {t u ty e : TypeId} {d : TypeDesc} {sz : Nat} (ht : P.underlying t = some (.slice e)) (hu : P.underlying u = some d) (hd : (∃ e, d = .slice e) ∨ d = .string) (hs : (sizeOf e).run P w = .ok sz w)
    {base : Option Addr} {sLen sCap n : Nat} {x : Value} {vs : List Value} (hl : (Builtin.lenOf x).run P w = .ok n w) (hf : (Builtin.firstCells sz n x).run P w = .ok vs.toArray w) (hle : sLen + n ≤ sCap) :
    (Builtin.append_ #[t, u] ty #[.slice base sLen sCap, x]).run P w =
      (match base with
        | some a => ((storeCells (a.add (sLen * sz)) vs).run P w).andThen fun _ w' => .ok (.slice base (sLen + n) sCap) w'
        | none => .ok (.slice base (sLen + n) sCap) w) := by
  rcases hd with ⟨e', rfl⟩ | rfl
  · cases base <;> simp [Builtin.append_, run_underlying ht, run_underlying hu, hs, hl, hle, hf]
  · cases base <;> simp [Builtin.append_, run_underlying ht, run_underlying hu, hs, hl, hle, hf]

theorem run_append_out {P : Program} {t u ty e : TypeId} {d : TypeDesc} {i : TypeInfo} {z : Value} (ht : P.underlying t = some (.slice e)) (hu : P.underlying u = some d) (hd : (∃ e, d = .slice e) ∨ d = .string)
    (hi : P.info? e = some i) (hz : i.zero = some z) (hb0 : i.bytes ≠ 0)
    {base : Option Addr} {sLen sCap n : Nat} {x : Value} {vs olds : List Value} (hl : (Builtin.lenOf x).run P w = .ok n w) (hf : (Builtin.firstCells i.size n x).run P w.drew = .ok vs.toArray w.drew)
    (ho : (Builtin.firstCells i.size sLen (.slice base sLen sCap)).run P w.drew = .ok olds.toArray w.drew) (hlt : sCap < sLen + n) (hfit : (sLen + n) * i.bytes ≤ 140737488355328) :
    (Builtin.append_ #[t, u] ty #[.slice base sLen sCap, x]).run P w =
      .ok (.slice (some ⟨w.heap.size, 0, none⟩) (sLen + n) (grownCap w (sLen + n) sCap e))
        (w.drew.alloc (.cells (olds.toArray ++ vs.toArray ++ Builtin.zeroCells z.cells (grownCap w (sLen + n) sCap e - (sLen + n))) e)) := by
  have hn : ¬ (sLen + n ≤ sCap) := by omega
  have h48 : ¬ (281474976710656 < Builtin.nextslicecap (sLen + n) sCap * i.bytes) := by
    have := growslice_fits hlt hfit; omega
  rcases hd with ⟨e', rfl⟩ | rfl
  · simp [Builtin.append_, run_underlying ht, run_underlying hu, sizeOf, typeInfo, zeroValue, hi, hz, hl, hn, hb0, h48, Question.forced, hf, ho, newRow, grownCap]
    congr 2
    apply Array.ext'
    simp [List.append_assoc]
  · simp [Builtin.append_, run_underlying ht, run_underlying hu, sizeOf, typeInfo, zeroValue, hi, hz, hl, hn, hb0, h48, Question.forced, hf, ho, newRow, grownCap]
    congr 2
    apply Array.ext'
    simp [List.append_assoc]

theorem append_ok (S : Sim Φ (getB H) w) {t u ty e : TypeId} {d : TypeDesc} {sz m : Nat} (ht : c.P.underlying t = some (.slice e)) (hu : c.P.underlying u = some d) (hd : (∃ e, d = .slice e) ∨ d = .string)
    (hsz : sizeP c.P e = some sz) (hby : bytesP c.P e = some m) (hm0 : m ≠ 0) {z0 : List AV} (hz0 : zeroP c.P e = some z0) {a x v : AV} {p q : Value} {H' : AHeap}
    (ha : R Φ a p) (hx : R Φ x q) (hstr : ∀ s, x = .str s → sz = 1) (h : appendA H sz m a x = some (v, H')) (hfree : ∀ i, H.length ≤ i → i < H'.length → Φ i = none) :
    ∃ Φ' v' w', (Builtin.append_ #[t, u] ty #[p, q]).run c.P w = .ok v' w' ∧ R Φ' v v' ∧ Sim Φ' (getB H') w' ∧ Ext Φ (getB H) w Φ' (getB H') w' ∧ (∀ i, Φ' i ≠ Φ i → H.length ≤ i ∧ i < H'.length) := by
  obtain ⟨zi, zv, hi, hzv, hzl, hzne, hzR⟩ := zeroP_info hz0
  obtain ⟨i', hi', hszi, hsz0⟩ := sizeP_info hsz
  rw [hi] at hi'; simp only [Option.some.injEq] at hi'; subst hi'
  have hbytes : zi.bytes = m := by unfold bytesP at hby; rw [hi] at hby; simpa using hby
  unfold appendA at h
  split at h
  · simp at h
  · rename_i k xs hsrc
    obtain ⟨vs, hvR, hvl, hlen, hfc, hfcd⟩ := src_ok S hsrc hx hstr
    have hfull : vs.take (k * sz) = vs := List.take_of_length_le (by omega)
    have hf := hfc c.P k (Nat.le_refl _)
    have hfd := hfcd c.P k (Nat.le_refl _)
    rw [hfull] at hf hfd
    -- nothing is appended
    have none_case : ∀ (base : Option Addr) (n cc : Nat), k = 0 → n ≤ cc → p = .slice base n cc →
        (Builtin.append_ #[t, u] ty #[p, q]).run c.P w = .ok p w := by
      intro base n cc hk hle hp
      subst hk
      have hv0 : vs = [] := by simpa using hvl
      subst hv0
      rw [hp, run_append_in ht hu hd (run_size hsz) (hlen c.P) hf (by omega)]
      cases base <;> simp [storeCells]
    -- a new row
    have new_case : ∀ (base : Option Addr) (n cc : Nat) (cs0 : List AV) (olds : List Value), p = .slice base n cc → cc < n + k → (n + k) * m ≤ maxRoom →
        Rs Φ cs0 olds → olds.length = n * sz → (∀ P : Program, (Builtin.firstCells sz n (.slice base n cc)).run P w.drew = .ok olds.toArray w.drew) →
        ∃ v' w' l, (Builtin.append_ #[t, u] ty #[p, q]).run c.P w = .ok v' w' ∧ NewAt w w' ∧ l.b = w.heap.size ∧ l.rw = true ∧
          ∀ i Φ', (∀ j l, Φ j = some l → Φ' j = some l) → Φ' i = some l → BlkOk Φ' w' l (.cells sz true (cs0 ++ xs)) ∧ R Φ' (.sl i 0 (n + k)) v' := by
      intro base n cc cs0 olds hp hlt hroom hoR hol hof
      have hrun := run_append_out (P := c.P) (ty := ty) (w := w) ht hu hd hi hzv (by rw [hbytes]; exact hm0) (base := base) (sLen := n) (sCap := cc) (n := k) (x := q) (vs := vs) (olds := olds) (hlen c.P)
        (by rw [hszi]; exact hfd) (by rw [hszi]; exact hof c.P) hlt (by rw [hbytes]; exact hroom)
      have hcap : n + k ≤ grownCap w (n + k) cc e := by simp [grownCap, Question.cut]
      have hzs : zv.cells.size = sz := by rw [← Array.length_toList, (hzR Φ).len, hzl, hszi]
      refine ⟨_, _, ⟨w.heap.size, 0, (olds.toArray ++ vs.toArray ++ Builtin.zeroCells zv.cells (grownCap w (n + k) cc e - (n + k))).size, sz, true⟩, by rw [hp]; exact hrun,
        NewAt.drew (NewAt.alloc w.drew _), rfl, rfl, fun j Φ' hm' hj => ⟨?_, ?_⟩⟩
      · refine fresh_ok (alloc_new w.drew _) (.inl rfl) (vs := olds ++ vs) (rest := (Builtin.zeroCells zv.cells (grownCap w (n + k) cc e - (n + k))).toList) ?_ ((Rs.mono hm' _ hoR).append (Rs.mono hm' _ hvR)) sz
        simp
      · simp only [R]
        refine ⟨_, _, _, hj, rfl, hcap, .inr ⟨rfl, fun _ => ?_⟩⟩
        simp only [Array.size_append, List.size_toArray, size_zeroCells, hzs, hol, hvl]
        rw [← Nat.add_mul, ← Nat.add_mul]
        rw [show n + k + (grownCap w (n + k) cc e - (n + k)) = grownCap w (n + k) cc e by omega]
        omega
    have new_fin : ∀ (cs1 : List AV) (nn : Nat) (G1 : Nat → Option Blk), (∀ i b, G1 i = some b → getB H i = some b) → v = .sl H.length 0 nn → getB H' = upd G1 H.length (some (.cells sz true cs1)) → H'.length = H.length + 1 →
        (∃ v' w' l, (Builtin.append_ #[t, u] ty #[p, q]).run c.P w = .ok v' w' ∧ NewAt w w' ∧ l.b = w.heap.size ∧ l.rw = true ∧
          ∀ i Φ', (∀ j l, Φ j = some l → Φ' j = some l) → Φ' i = some l → BlkOk Φ' w' l (.cells sz true cs1) ∧ R Φ' (.sl i 0 nn) v') →
        ∃ Φ' v' w', (Builtin.append_ #[t, u] ty #[p, q]).run c.P w = .ok v' w' ∧ R Φ' v v' ∧ Sim Φ' (getB H') w' ∧ Ext Φ (getB H) w Φ' (getB H') w' ∧ (∀ i, Φ' i ≠ Φ i → H.length ≤ i ∧ i < H'.length) := by
      intro cs1 nn G1 hG1 hv hgH hlH ⟨v', w', l, hrun, hN, hlb, hlr, hall⟩
      have hnone : Φ H.length = none := hfree _ (Nat.le_refl _) (by omega)
      have mono : ∀ j q, Φ j = some q → upd Φ H.length (some l) j = some q := by
        intro j q hj
        rw [upd_other (fun e => by subst e; rw [hnone] at hj; simp at hj)]; exact hj
      obtain ⟨hok, hRv⟩ := hall H.length (upd Φ H.length (some l)) mono (upd_self _ _ _)
      obtain ⟨s1, s2⟩ := new_step S hN hlb hlr hnone hok
      have hsub : ∀ i b, getB H' i = some b → upd (getB H) H.length (some (.cells sz true cs1)) i = some b := by
        intro i b hb
        rw [hgH] at hb
        by_cases e : i = H.length
        · subst e; rw [upd_self] at hb ⊢; exact hb
        · rw [upd_other e] at hb ⊢; exact hG1 i b hb
      refine ⟨upd Φ H.length (some l), v', w', hrun, by rw [hv]; exact hRv, s1.less hsub, s2.less hsub, fun i hne => ?_⟩
      by_cases e : i = H.length
      · subst e; exact ⟨Nat.le_refl _, by omega⟩
      · exact absurd (upd_other e) hne
    split at h
    · -- of nil
      simp only [R] at ha
      split at h
      · rename_i hk
        simp only [Option.some.injEq, Prod.mk.injEq] at h
        obtain ⟨rfl, rfl⟩ := h
        exact ⟨Φ, p, w, none_case none 0 0 hk (Nat.le_refl _) ha, by simpa only [R] using ha, S, Ext.refl _ _ _, fun i hi => absurd rfl hi⟩
      · rename_i hk
        split at h <;> simp only [Option.some.injEq, Prod.mk.injEq, reduceCtorEq] at h
        rename_i hroom
        obtain ⟨rfl, rfl⟩ := h
        have := new_case none 0 0 [] [] ha (by omega) (by simpa using hroom) .nil (by simp) (by intro P; simp [Builtin.firstCells])
        simp only [Nat.zero_add, List.nil_append] at this
        exact new_fin xs k (getB H) (fun _ _ h => h) rfl (getB_append _ _) (by simp) this
    · -- of an empty slice
      simp only [R] at ha
      obtain ⟨a0, ha⟩ := ha
      split at h
      · rename_i hk
        simp only [Option.some.injEq, Prod.mk.injEq] at h
        obtain ⟨rfl, rfl⟩ := h
        exact ⟨Φ, p, w, none_case (some a0) 0 0 hk (Nat.le_refl _) ha, by simp only [R]; exact ⟨a0, ha⟩, S, Ext.refl _ _ _, fun i hi => absurd rfl hi⟩
      · rename_i hk
        split at h <;> simp only [Option.some.injEq, Prod.mk.injEq, reduceCtorEq] at h
        rename_i hroom
        obtain ⟨rfl, rfl⟩ := h
        have := new_case (some a0) 0 0 [] [] ha (by omega) (by simpa using hroom) .nil (by simp) (by intro P; simp [Builtin.firstCells, loadCells, loadCellsFrom])
        simp only [Nat.zero_add, List.nil_append] at this
        exact new_fin xs k (getB H) (fun _ _ h => h) rfl (getB_append _ _) (by simp) this
    · -- of a slice
      rename_i i o n
      have ha0 := ha
      simp only [R] at ha
      obtain ⟨l, b0, cc, hl, hp, hncc, hcap⟩ := ha
      split at h
      · rename_i hk
        simp only [Option.some.injEq, Prod.mk.injEq] at h
        obtain ⟨rfl, rfl⟩ := h
        exact ⟨Φ, p, w, none_case (some b0) n cc hk hncc hp, ha0, S, Ext.refl _ _ _, fun i hi => absurd rfl hi⟩
      · rename_i hk
        split at h
        · rename_i sz' cs0 hB
          split at h <;> simp only [Option.some.injEq, Prod.mk.injEq, reduceCtorEq] at h
          rename_i hc
          obtain ⟨rfl, hle, hroom, hone⟩ := hc
          obtain ⟨rfl, rfl⟩ := h
          obtain ⟨l', hl', hok⟩ := S.ok i _ hB
          rw [hl] at hl'; simp only [Option.some.injEq] at hl'; subst hl'
          obtain ⟨q1, q2, q3, q4, q5⟩ := hok
          obtain ⟨q6, q7⟩ := q5 rfl
          have hload : loadA H i o (n * sz') = some ((cs0.drop o).take (n * sz')) := by simp [loadA, hB, hle]
          obtain ⟨e1, olds, e2, e3, e4⟩ := loadA_cells S hload hl
          by_cases hroomy : n + k ≤ cc
          · -- there is room
            rcases hcap with h0 | ⟨rfl, hlim⟩
            · exact absurd h0 (by omega)
            · have hlim' := hlim q3
              rw [q2] at hlim'
              have hmul : (n + k) * sz' ≤ cc * sz' := Nat.mul_le_mul_right _ hroomy
              have hnk : (n + k) * sz' = n * sz' + k * sz' := Nat.add_mul _ _ _
              have hin : ∀ j, j < vs.length → l.base + o + n * sz' + j < l.lim := by intro j hj; omega
              have hsome : ∀ j, j < vs.length → (w.cell? ⟨l.b, l.base + o + n * sz' + j, none⟩).isSome = true := by
                intro j hj; obtain ⟨v, hv⟩ := (q7 _ (hin j hj)).1; simp [hv]
              have hone' : ∀ v ∈ vs, v.oneCell' = true := by
                intro v hv
                obtain ⟨kk, hkk, rfl⟩ := List.getElem_of_mem hv
                have hk' : kk < xs.length := by have := hvR.len; omega
                obtain ⟨uu, hu', hRu⟩ := hvR.get (k := kk) (c := xs[kk]) (by simp [hk'])
                rw [List.getElem?_eq_getElem hkk] at hu'
                simp only [Option.some.injEq] at hu'
                rw [hu']
                exact hRu.one (List.all_eq_true.1 hone _ (List.getElem_mem hk'))
              have hst := run_storeCells_cells (P := c.P) l.b (l.base + o + n * sz') vs 0 w (by simpa using hsome) (fun j hj => by simpa using (q7 _ (hin j hj)).2) hone'
              have hrun := run_append_in (P := c.P) (ty := ty) (w := w) ht hu hd (run_size hsz) (base := some ⟨l.b, l.base + o, none⟩) (sLen := n) (sCap := cc) (hlen c.P) hf hroomy
              simp only [add_flat] at hrun
              rw [hst] at hrun
              simp only [Nat.add_zero, Result.andThen_ok] at hrun
              obtain ⟨f1, f2, f3, f4, f5⟩ := setCells_facts l.b vs (l.base + o + n * sz') w
              have hnone : Φ H.length = none := hfree _ (Nat.le_refl _) (by simp)
              have mono : ∀ j q, Φ j = some q → upd Φ H.length (some ⟨l.b, l.base + o, l.lim, l.sz, true⟩) j = some q := by
                intro j q hj
                rw [upd_other (fun e => by subst e; rw [hnone] at hj; simp at hj)]; exact hj
              have hcell : ∀ kk, kk < l.lim → ∃ v, (w.setCells l.b (l.base + o + n * sz') vs).cell? ⟨l.b, kk, none⟩ = some v := by
                intro kk hkk
                by_cases hr : l.base + o + n * sz' ≤ kk ∧ kk < l.base + o + n * sz' + vs.length
                · have := World.cell?_setCells_in l.b vs (l.base + o + n * sz') w hsome (kk - (l.base + o + n * sz')) (by omega)
                  rw [show l.base + o + n * sz' + (kk - (l.base + o + n * sz')) = kk by omega] at this
                  exact ⟨_, this⟩
                · rw [World.cell?_setCells_out l.b vs _ w ⟨l.b, kk, none⟩ (fun _ _ => by simp only; omega)]
                  exact (q7 kk hkk).1
              have hlx : xs.length = k * sz' := by rw [← hvR.len]; exact hvl
              have hnew : BlkOk (upd Φ H.length (some ⟨l.b, l.base + o, l.lim, l.sz, true⟩)) (w.setCells l.b (l.base + o + n * sz') vs) ⟨l.b, l.base + o, l.lim, l.sz, true⟩ (.cells sz' true ((cs0.drop o).take (n * sz') ++ xs)) := by
                refine ⟨by rw [f4]; exact q1, q2, rfl, fun kk x hkx => ?_, fun _ => ⟨by simp only [List.length_append, e1, hlx]; omega, fun kk hkk => ⟨hcell kk hkk, by rw [World.frozen?_setCells]; exact (q7 kk hkk).2⟩⟩⟩
                by_cases hkn : kk < n * sz'
                · rw [List.getElem?_append_left (by omega)] at hkx
                  obtain ⟨uu, hu1, hu2⟩ := e2.get hkx
                  have := e4 kk uu hu1
                  rw [add_flat] at this
                  refine ⟨uu, ?_, R.mono mono _ hu2⟩
                  rw [World.cell?_setCells_out l.b vs _ w _ (fun _ _ => by simp only; omega)]
                  exact this
                · rw [List.getElem?_append_right (by omega), e1] at hkx
                  obtain ⟨uu, hu1, hu2⟩ := hvR.get hkx
                  have hlt : kk - n * sz' < vs.length := by
                    rcases Nat.lt_or_ge (kk - n * sz') vs.length with h | h
                    · exact h
                    · rw [List.getElem?_eq_none h] at hu1; simp at hu1
                  have := World.cell?_setCells_in l.b vs (l.base + o + n * sz') w hsome (kk - n * sz') hlt
                  rw [show l.base + o + n * sz' + (kk - n * sz') = l.base + o + kk by omega] at this
                  rw [List.getElem?_eq_getElem hlt] at hu1
                  exact ⟨uu, by rw [this, hu1], R.mono mono _ hu2⟩
              obtain ⟨s1, s2⟩ := move_step S hB hl q3 hnone (l' := ⟨l.b, l.base + o, l.lim, l.sz, true⟩) rfl rfl f1 f2 f3 f4 f5 hnew
              have hg : getB (H.set i none ++ [some (.cells sz' true ((cs0.drop o).take (n * sz') ++ xs))]) = upd (upd (getB H) i none) H.length (some (.cells sz' true ((cs0.drop o).take (n * sz') ++ xs))) := by
                rw [getB_append, getB_set H i none (getB_lt hB)]; simp
              refine ⟨_, _, _, by rw [hp]; exact hrun, ?_, by rw [hg]; exact s1, by rw [hg]; exact s2, fun j hne => ?_⟩
              · simp only [R]
                exact ⟨_, _, cc, upd_self _ _ _, rfl, hroomy, .inr ⟨rfl, fun _ => by simp only [q2]; omega⟩⟩
              · by_cases e : j = H.length
                · subst e; exact ⟨Nat.le_refl _, by simp⟩
                · exact absurd (upd_other e) hne
          · -- it grows
            have hof : ∀ P : Program, (Builtin.firstCells sz' n (.slice (some b0) n cc)).run P w.drew = .ok olds.toArray w.drew := by
              intro P
              rcases hcap with h0 | ⟨rfl, _⟩
              · have hn0 : n = 0 := by omega
                subst hn0
                have : olds = [] := by simpa using e3
                subst this
                simp [Builtin.firstCells, loadCells, loadCellsFrom]
              · exact run_firstCells_some w.drew sz' n _ n cc olds e3 (fun kk v hk => e4 kk v hk)
            have := new_case (some b0) n cc _ olds hp (by omega) hroom e2 e3 hof
            refine new_fin _ (n + k) (upd (getB H) i none) (fun j b hj => ?_) (by simp) ?_ (by simp) this
            · by_cases e : j = i
              · subst e; rw [upd_self] at hj; simp at hj
              · rwa [upd_other e] at hj
            · rw [getB_append, getB_set H i none (getB_lt hB)]; simp
        · simp at h
    · simp at h
end
end Go.Am
