/- All operations that touch no memory: what compact code says is what the machine does. -/
import Derived.Test.YtnblhjpbpobglaaAmH
namespace Go.Am

section
variable {c : Ctx} {env vals : List AV} {Φ : Phi} {ρ : Operand → Value} {w : World}

theorem getD_toList_get {α : Type} {l : List α} {k : Nat} {v : α} (h : l[k]? = some v) : l.toArray[k]? = some v := by simpa using h

/-- Every operation that touches no memory. -/
theorem pure_ok (H : HO c env vals Φ ρ) (o : Oper) {ao : AOp} {v : AV} (h : trOp c o.op = some ao) (hv : aPure env vals ao = some v) : Yields c Φ ρ w o v := by
  obtain ⟨dst, op, ty, pos, after, guard⟩ := o
  simp only at h
  cases op with
  | move x =>
    simp only [trOp] at h
    split at h <;> simp only [Option.some.injEq, reduceCtorEq] at h
    rename_i a ha; subst h
    exact ⟨_, rfl, H _ _ _ ha hv⟩
  | assign x =>
    simp only [trOp] at h
    split at h <;> simp only [Option.some.injEq, reduceCtorEq] at h
    rename_i a ha; subst h
    exact ⟨_, rfl, H _ _ _ ha hv⟩
  | pick x y z =>
    simp only [trOp] at h
    split at h <;> simp only [Option.some.injEq, reduceCtorEq] at h
    rename_i p q r hp hq hr; subst h
    simp only [aPure] at hv
    split at hv
    · rename_i t ht
      have h1 := H _ _ _ hp ht
      simp only [R] at h1
      cases t with
      | true => exact ⟨ρ y, by simp [execOp, h1, asBool], H _ _ _ hq hv⟩
      | false => exact ⟨ρ z, by simp [execOp, h1, asBool], H _ _ _ hr hv⟩
    · simp at hv
  | alloc e => simp only [trOp] at h; split at h <;> simp only [Option.some.injEq, reduceCtorEq] at h; subst h; simp [aPure] at hv
  | box e x => simp only [trOp] at h; split at h <;> simp only [Option.some.injEq, reduceCtorEq] at h; subst h; simp [aPure] at hv
  | build t parts =>
    simp only [trOp] at h
    split at h
    · rename_i z fs hz hu
      obtain ⟨i, zv, hi, hzv, hlen, _, hR⟩ := zeroP_info hz
      split at h
      · rename_i ps hps
        split at h
        · rename_i hall
          simp only [Option.some.injEq] at h; subst h
          simp only [aPure] at hv
          split at hv
          · rename_i as has
            split at hv
            · rename_i cs hcs
              simp only [Option.some.injEq] at hv; subst hv
              have hm : ∃ places : Array (Nat × Nat), (fs.mapM (fun (f : Field) => (do pure (f.offset, ← sizeOf f.type) : Sem (Nat × Nat)))).run c.P w = .ok places w ∧
                  ∀ j : Nat, places[j]? = (match fs[j]? with | some f => (match c.P.info? f.type with | some k => some (f.offset, k.size) | none => none) | none => none) := by
                have gen : ∀ l : List Field, (∀ f ∈ l, (c.P.info? f.type).isSome) → ∃ ps : List (Nat × Nat), (l.mapM (fun (f : Field) => (do pure (f.offset, ← sizeOf f.type) : Sem (Nat × Nat)))).run c.P w = .ok ps w ∧
                    ∀ j : Nat, ps[j]? = (match l[j]? with | some f => (match c.P.info? f.type with | some k => some (f.offset, k.size) | none => none) | none => none) := by
                  intro l
                  induction l with
                  | nil => intro _; exact ⟨[], by simp, by simp⟩
                  | cons f l ih =>
                    intro hl
                    obtain ⟨ps, h1, h2⟩ := ih (fun g hg => hl g (by simp [hg]))
                    have hf := hl f (by simp)
                    rw [Option.isSome_iff_exists] at hf
                    obtain ⟨k, hk⟩ := hf
                    have hs : (sizeOf f.type).run c.P w = .ok k.size w := by simp [sizeOf, run_info hk]
                    refine ⟨(f.offset, k.size) :: ps, by simp only [List.mapM_cons, Sem.run_bind, hs, Result.andThen_ok, Sem.run_pure, h1], fun j => ?_⟩
                    cases j with
                    | zero => simp [hk]
                    | succ j => simpa using h2 j
                obtain ⟨ps, h1, h2⟩ := gen fs.toList (fun f hf => by
                  have := Array.all_eq_true_iff_forall_mem.1 hall f (by simpa using hf)
                  simpa using this)
                refine ⟨ps.toArray, ?_, fun j => by simpa using h2 j⟩
                rw [← Array.toArray_toList (xs := fs)]
                simp only [List.mapM_toArray, Sem.run_map, h1, Result.andThen_ok]
              obtain ⟨places, hpl, hplj⟩ := hm
              obtain ⟨vs, hvs, hRv⟩ := fill_ok (fun j => places[j]?) H parts.toList (by rw [show (fun j => places[j]?) = _ from funext hplj]; exact hps) has hcs (hR Φ)
              refine ⟨.agg vs.toArray, ?_, by simp only [R]; exact ⟨vs, rfl, hRv⟩⟩
              have hparts : (parts.map fun p => (p.1, ρ p.2)).toList = parts.toList.map fun p => (p.1, ρ p.2) := by simp
              have hzz : (zv.cells.toList).toArray = zv.cells := by simp
              rw [hzz] at hvs
              simp only [execOp, Instr.build, Sem.run_bind, run_zero hi hzv, Result.andThen_ok, run_underlying hu, hpl, hparts, hvs, Sem.run_pure]
            · simp at hv
          · simp at hv
        · simp at h
      · simp at h
    · rename_i z n e hz hu
      obtain ⟨i, zv, hi, hzv, hlen, _, hR⟩ := zeroP_info hz
      split at h
      · rename_i m hm
        split at h
        · rename_i ps hps
          simp only [Option.some.injEq] at h; subst h
          simp only [aPure] at hv
          split at hv
          · rename_i as has
            split at hv
            · rename_i cs hcs
              simp only [Option.some.injEq] at hv; subst hv
              obtain ⟨vs, hvs, hRv⟩ := fill_ok (fun j => some (j * m, m)) H parts.toList hps has hcs (hR Φ)
              refine ⟨.agg vs.toArray, ?_, by simp only [R]; exact ⟨vs, rfl, hRv⟩⟩
              have hparts : (parts.map fun p => (p.1, ρ p.2)).toList = parts.toList.map fun p => (p.1, ρ p.2) := by simp
              have hzz : (zv.cells.toList).toArray = zv.cells := by simp
              rw [hzz] at hvs
              simp only [execOp, Instr.build, Sem.run_bind, run_zero hi hzv, Result.andThen_ok, run_underlying hu, run_size hm, hparts, hvs, Sem.run_pure]
            · simp at hv
          · simp at hv
        · simp at h
      · simp at h
    · simp at h
  | buildSlice t n parts =>
    simp only [trOp] at h
    (repeat' split at h) <;> simp only [Option.some.injEq, reduceCtorEq] at h
    subst h; simp [aPure] at hv
  | load t a => simp only [trOp] at h; (repeat' split at h) <;> simp only [Option.some.injEq, reduceCtorEq] at h; subst h; simp [aPure] at hv
  | store t a x => simp only [trOp] at h; (repeat' split at h) <;> simp only [Option.some.injEq, reduceCtorEq] at h; subst h; simp [aPure] at hv
  | nilCheck x =>
    simp only [trOp] at h
    split at h <;> simp only [Option.some.injEq, reduceCtorEq] at h
    rename_i a ha; subst h
    simp only [aPure] at hv
    split at hv <;> simp only [Option.some.injEq, reduceCtorEq] at hv
    rename_i i k hk; subst hv
    have h1 := H _ _ _ ha hk
    have h2 := h1
    simp only [R] at h1
    obtain ⟨l, _, hl⟩ := h1
    exact ⟨ρ x, by simp [execOp, hl], h2⟩
  | binOp op t x y yt =>
    cases op
    case eql => simp only [trOp] at h; exact eq_ok H (neg := false) rfl t yt _ rfl h hv
    case neq => simp only [trOp] at h; exact eq_ok H (neg := true) rfl t yt _ rfl h hv
    all_goals
      simp only [trOp] at h
      split at h <;> simp only [Option.some.injEq, reduceCtorEq] at h
      rename_i a b ha hb; subst h
      exact bin_ok H t yt _ rfl ha hb hv
  | unOp op t x =>
    simp only [trOp] at h
    split at h <;> simp only [Option.some.injEq, reduceCtorEq] at h
    rename_i a ha; subst h
    simp only [aPure] at hv
    split at hv
    · rename_i u hu
      obtain ⟨v', h1, h2⟩ := unA_ok (c := c) (w := w) (H _ _ _ ha hu) hv
      exact ⟨v', by simp [execOp, h1], h2⟩
    · simp at hv
  | convert s d x =>
    simp only [trOp] at h
    split at h
    · rename_i k1 k a hu1 hu2 ha
      simp only [Option.some.injEq] at h; subst h
      simp only [aPure] at hv
      split at hv <;> simp only [Option.some.injEq, reduceCtorEq] at hv
      rename_i kk n hn; subst hv
      have h1 := H _ _ _ ha hn
      simp only [R] at h1
      exact ⟨.int k (k.wrap n), by simp [execOp, convert, run_underlying hu1, run_underlying hu2, h1, Conv.intToInt], by simp only [R]⟩
    · rename_i a hu1 hu2 ha
      simp only [Option.some.injEq] at h; subst h
      simp only [aPure] at hv
      split at hv <;> simp only [Option.some.injEq, reduceCtorEq] at hv
      rename_i s hn; subst hv
      have h1 := H _ _ _ ha hn
      simp only [R] at h1
      exact ⟨_, by simp [execOp, convert, run_underlying hu1, run_underlying hu2, h1]; rfl, by simp only [R]⟩
    · split at h <;> simp only [Option.some.injEq, reduceCtorEq] at h
      subst h; simp [aPure] at hv
    · split at h <;> simp only [Option.some.injEq, reduceCtorEq] at h
      subst h; simp [aPure] at hv
    · simp at h
  | sliceToArrayPointer t x => simp [trOp] at h
  | makeInterface t x =>
    simp only [trOp] at h
    split at h
    · simp at h
    · rename_i d a hd hu ha
      simp only [Option.some.injEq] at h; subst h
      simp only [aPure] at hv
      split at hv <;> simp only [Option.some.injEq, reduceCtorEq] at hv
      rename_i u _ hu'; subst hv
      refine ⟨.iface t (ρ x), ?_, by simp only [R]; exact ⟨_, rfl, H _ _ _ ha hu'⟩⟩
      simp only [execOp, Instr.makeInterface, Sem.run_bind, run_underlying hu, Result.andThen_ok]
      cases d <;> first | rfl | exact absurd rfl (hd _)
    · simp at h
  | makeFunc f first caps =>
    cases f with
    | func f =>
      simp only [trOp] at h
      split at h <;> simp only [Option.some.injEq, reduceCtorEq] at h
      rename_i a b ha hb; subst h
      simp only [aPure] at hv
      split at hv <;> simp only [Option.some.injEq, reduceCtorEq] at hv
      rename_i p q hp hq; subst hv
      refine ⟨_, rfl, ?_⟩
      simp only [R]
      exact ⟨first.toList.map ρ, caps.toList.map ρ, by rw [← List.map_toArray, ← List.map_toArray, Array.toArray_toList, Array.toArray_toList], H.list ha hp, H.list hb hq⟩
    | _ => simp [trOp] at h
  | makeMap t r =>
    cases r with
    | none => simp only [trOp, Option.some.injEq] at h; subst h; simp [aPure] at hv
    | some r => simp [trOp] at h
  | makeChan t x => simp [trOp] at h
  | makeSlice t l k => simp only [trOp] at h; (repeat' split at h) <;> simp only [Option.some.injEq, reduceCtorEq] at h; subst h; simp [aPure] at hv
  | slice t x lo hi mx =>
    simp only [trOp] at h
    split at h
    · rename_i a l hh hu ha hl hhi hmx
      simp only [Option.some.injEq] at h; subst h
      simp only [aPure] at hv
      split at hv
      · rename_i s l' h' hs hl' hh'
        have h1 := H _ _ _ ha hs
        simp only [R] at h1
        have hm : mx = none := by cases mx with
          | none => rfl
          | some m => simp only [trOptd] at hmx; split at hmx <;> simp at hmx
        subst hm
        obtain ⟨v', hr, hR⟩ := sliceS_ok (w := w) hu (H.opt hl hl') (H.opt hhi hh') hv
        refine ⟨v', ?_, hR⟩
        simp only [execOp, Instr.sliceAt, Sem.run_bind, run_underlying hu, Result.andThen_ok, h1, Option.map_none, hr, Sem.run_pure]
      · simp at hv
    · split at h
      · simp at h
      · split at h <;> simp only [Option.some.injEq, reduceCtorEq] at h
        subst h; simp [aPure] at hv
    · simp at h
  | fieldAddr s x f =>
    simp only [trOp] at h
    split at h
    · rename_i fs a hu ha
      split at h
      · rename_i fd hfd
        split at h <;> simp only [Option.some.injEq, reduceCtorEq] at h
        rename_i n hn; subst h
        simp only [aPure] at hv
        split at hv <;> simp only [Option.some.injEq, reduceCtorEq] at hv
        rename_i i k hk; subst hv
        have h1 := H _ _ _ ha hk
        simp only [R] at h1
        obtain ⟨l, hl, hx⟩ := h1
        obtain ⟨j, hj, hjn, hjz⟩ := sizeP_info hn
        refine ⟨.pointer (some ⟨l.b, l.base + (k + fd.offset), none⟩), ?_, by simp only [R]; exact ⟨l, hl, rfl⟩⟩
        simp only [execOp, Instr.fieldAt, Sem.run_bind, run_underlying hu, Result.andThen_ok, hfd, hx, Instr.sureAddr, Sem.run_pure, fieldPlace, run_size hn, if_neg hjz, Addr.add]
        by_cases h0 : fd.offset = 0
        · simp [h0]
        · simp [h0, Nat.add_assoc]
      · simp at h
    · simp at h
  | field s x f =>
    simp only [trOp] at h
    split at h
    · rename_i fs a hu ha
      split at h
      · rename_i fd hfd
        split at h
        · rename_i n g hn hg
          split at h <;> simp only [Option.some.injEq, reduceCtorEq] at h
          subst h
          simp only [aPure] at hv
          split at hv
          · rename_i cs hcs
            split at hv
            · have h1 := H _ _ _ ha hcs
              simp only [R] at h1
              obtain ⟨vs, hx, hR⟩ := h1
              obtain ⟨v', hr, hRv⟩ := run_part' (w := w) hn hg hR fd.offset hv
              exact ⟨v', by simp [execOp, Instr.field, run_underlying hu, hfd, hx, asAgg, hr], hRv⟩
            · simp at hv
          · simp at hv
        · simp at h
      · simp at h
    · simp at h
  | indexAddr t x i =>
    simp only [trOp] at h
    split at h
    · rename_i e a b hu ha hb
      split at h <;> simp only [Option.some.injEq, reduceCtorEq] at h
      rename_i n hn; subst h
      simp only [aPure] at hv
      split at hv
      · rename_i j o m kk k hs hk
        split at hv <;> simp only [Option.some.injEq, reduceCtorEq] at hv
        rename_i hc; subst hv
        have h1 := H _ _ _ ha hs
        have h2 := H _ _ _ hb hk
        simp only [R] at h1 h2
        obtain ⟨l, aa, cc, hl, hx, hle, hcap⟩ := h1
        have hc0 : cc ≠ 0 := by omega
        rcases hcap with h0 | ⟨rfl, _⟩
        · exact absurd h0 hc0
        · refine ⟨.pointer (some ⟨l.b, l.base + (o + k.toNat * n), none⟩), ?_, by simp only [R]; exact ⟨l, hl, rfl⟩⟩
          simp only [execOp, Instr.indexAt, Sem.run_bind, h2, asIntOf, Sem.run_pure, run_underlying hu, Result.andThen_ok, hx, run_size hn, Sem.run_ite, hc.1, hc.2, and_self, if_true, Addr.add]
          by_cases h0 : k.toNat * n = 0
          · simp [h0]
          · simp [h0, Nat.add_assoc]
      · simp at hv
    · rename_i len e a b hu ha hb
      split at h <;> simp only [Option.some.injEq, reduceCtorEq] at h
      rename_i n hn; subst h
      simp only [aPure] at hv
      split at hv
      · rename_i j o kk k hs hk
        split at hv <;> simp only [Option.some.injEq, reduceCtorEq] at hv
        rename_i hc; subst hv
        have h1 := H _ _ _ ha hs
        have h2 := H _ _ _ hb hk
        simp only [R] at h1 h2
        obtain ⟨l, hl, hx⟩ := h1
        refine ⟨.pointer (some ⟨l.b, l.base + (o + k.toNat * n), none⟩), ?_, by simp only [R]; exact ⟨l, hl, rfl⟩⟩
        simp only [execOp, Instr.indexAt, Sem.run_bind, h2, asIntOf, Sem.run_pure, run_underlying hu, Result.andThen_ok, hx, Instr.sureAddr, run_size hn, Sem.run_ite, hc.1, hc.2, and_self, if_true, Addr.add]
        by_cases h0 : k.toNat * n = 0
        · simp [h0]
        · simp [h0, Nat.add_assoc]
      · simp at hv
    · simp at h
  | index t x i =>
    simp only [trOp] at h
    split at h
    · rename_i a b hu ha hb
      simp only [Option.some.injEq] at h; subst h
      simp only [aPure] at hv
      split at hv
      · rename_i s kk k hs hk
        split at hv
        · rename_i h0
          split at hv <;> simp only [Option.some.injEq, reduceCtorEq] at hv
          rename_i ch hch; subst hv
          have h1 := H _ _ _ ha hs
          have h2 := H _ _ _ hb hk
          simp only [R] at h1 h2
          have hlt : k.toNat < s.length := by
            rcases Nat.lt_or_ge k.toNat s.length with h | h
            · exact h
            · rw [List.getElem?_eq_none h] at hch; simp at hch
          have hget : (⟨s.toArray⟩ : ByteArray)[k.toNat]? = some ch := by
            rw [ByteArray.getElem?_lt' _ _ (by simpa [ByteArray.size] using hlt)]
            rw [List.getElem?_eq_getElem hlt] at hch
            simp only [Option.some.injEq] at hch
            rw [← hch]
            rfl
          exact ⟨.int .u8 ch.toNat, by simp [execOp, Instr.index, h2, asIntOf, run_underlying hu, h1, h0, hget], by simp only [R]⟩
        · simp at hv
      · simp at hv
    · rename_i len e a b hu ha hb
      split at h
      · rename_i n g hn hg
        split at h <;> simp only [Option.some.injEq, reduceCtorEq] at h
        subst h
        simp only [aPure] at hv
        split at hv
        · rename_i cs kk k hs hk
          split at hv
          · rename_i hc
            have h1 := H _ _ _ ha hs
            have h2 := H _ _ _ hb hk
            simp only [R] at h1 h2
            obtain ⟨vs, hx, hR⟩ := h1
            obtain ⟨v', hr, hRv⟩ := run_part' (w := w) hn hg hR (k.toNat * n) hv
            exact ⟨v', by simp [execOp, Instr.index, h2, asIntOf, run_underlying hu, hx, hc.1, hc.2.1, run_size hn, hr], hRv⟩
          · simp at hv
        · simp at hv
      · simp at h
    · simp at h
  | lookup t m k ok => simp only [trOp] at h; (repeat' split at h) <;> simp only [Option.some.injEq, reduceCtorEq] at h <;> subst h <;> simp [aPure] at hv
  | mapUpdate t m k x => simp only [trOp] at h; (repeat' split at h) <;> simp only [Option.some.injEq, reduceCtorEq] at h <;> subst h <;> simp [aPure] at hv
  | insert t m k x => simp only [trOp] at h; (repeat' split at h) <;> simp only [Option.some.injEq, reduceCtorEq] at h <;> subst h <;> simp [aPure] at hv
  | extract x k =>
    simp only [trOp] at h
    split at h <;> simp only [Option.some.injEq, reduceCtorEq] at h
    rename_i a ha; subst h
    simp only [aPure] at hv
    split at hv
    · rename_i vs hvs
      have h1 := H _ _ _ ha hvs
      simp only [R] at h1
      obtain ⟨xs, hx, hR⟩ := h1
      obtain ⟨u, hu, hRu⟩ := hR.get hv
      exact ⟨u, by simp [execOp, Instr.extract, hx, hu], hRu⟩
    · simp at hv
  | call k =>
    simp only [trOp, trCall] at h
    obtain ⟨callee, args, ats⟩ := k
    split at h
    · split at h <;> simp only [Option.some.injEq, reduceCtorEq] at h
      subst h; simp [aPure] at hv
    · split at h <;> simp only [Option.some.injEq, reduceCtorEq] at h
      subst h; simp [aPure] at hv
    · simp at h
    · rename_i b hcal
      simp only at hcal; subst hcal
      split at h
      · -- len
        rename_i x t hargs hats
        have ea : args = #[x] := by apply Array.ext'; simpa using hargs
        have et : ats = #[t] := by apply Array.ext'; simpa using hats
        subst ea; subst et
        have run : ∀ v', (Builtin.len_ #[t] ty #[ρ x]).run c.P w = .ok v' w → (execOp ρ { dst, op := .call { callee := .builtin .len, args := #[x], argTypes := #[t] }, type := ty, pos, after, guard }).run c.P w = .ok (.value v') w := by
          intro v' hr
          simp [execOp, resolve, invoke, builtin, hr]
        split at h
        · rename_i a hu ha
          simp only [Option.some.injEq] at h; subst h
          simp only [aPure] at hv
          split at hv <;> simp only [Option.some.injEq, reduceCtorEq] at hv
          rename_i s hs; subst hv
          have := H _ _ _ ha hs; simp only [R] at this
          have hsz : (ByteArray.mk s.toArray).size = s.length := by simp [ByteArray.size]
          exact ⟨.int .i64 s.length, run _ (by simp [Builtin.len_, run_underlying hu, this, goInt, hsz]), by simp only [R]⟩
        · rename_i e a hu ha
          simp only [Option.some.injEq] at h; subst h
          simp only [aPure] at hv
          split at hv <;> simp only [Option.some.injEq, reduceCtorEq] at hv
          · rename_i hs; subst hv
            have := H _ _ _ ha hs; simp only [R] at this
            obtain ⟨_, _, _, _, hx, _⟩ := this
            exact ⟨_, run _ (by simp [Builtin.len_, run_underlying hu, hx, goInt]; rfl), by simp only [R]⟩
          · rename_i hs; subst hv
            have := H _ _ _ ha hs; simp only [R] at this
            exact ⟨_, run _ (by simp [Builtin.len_, run_underlying hu, this, goInt]; rfl), by simp only [R]⟩
          · rename_i hs; subst hv
            have := H _ _ _ ha hs; simp only [R] at this
            obtain ⟨_, hx⟩ := this
            exact ⟨_, run _ (by simp [Builtin.len_, run_underlying hu, hx, goInt]; rfl), by simp only [R]⟩
        · simp only [Option.some.injEq] at h; subst h; simp [aPure] at hv
        · rename_i n e a hu ha
          simp only [Option.some.injEq] at h; subst h
          simp only [aPure, aval, Option.some.injEq] at hv; subst hv
          exact ⟨_, run _ (by simp [Builtin.len_, run_underlying hu, goInt]; rfl), by simp only [R]⟩
        · simp at h
      · -- cap
        rename_i x t hargs hats
        have ea : args = #[x] := by apply Array.ext'; simpa using hargs
        have et : ats = #[t] := by apply Array.ext'; simpa using hats
        subst ea; subst et
        split at h <;> simp only [Option.some.injEq, reduceCtorEq] at h
        rename_i e a hu ha; subst h
        simp only [aPure] at hv
        split at hv <;> simp only [Option.some.injEq, reduceCtorEq] at hv
        · rename_i hs; subst hv
          have := H _ _ _ ha hs; simp only [R] at this
          exact ⟨.int .i64 0, by simp [execOp, resolve, invoke, builtin, Builtin.cap_, run_underlying hu, this, goInt], by simp only [R]⟩
        · rename_i hs; subst hv
          have := H _ _ _ ha hs; simp only [R] at this
          obtain ⟨_, hx⟩ := this
          exact ⟨.int .i64 0, by simp [execOp, resolve, invoke, builtin, Builtin.cap_, run_underlying hu, hx, goInt], by simp only [R]⟩
      · (repeat' split at h) <;> simp only [Option.some.injEq, reduceCtorEq] at h <;> subst h <;> simp [aPure] at hv
      · (repeat' split at h) <;> simp only [Option.some.injEq, reduceCtorEq] at h <;> subst h <;> simp [aPure] at hv
      · (repeat' split at h) <;> simp only [Option.some.injEq, reduceCtorEq] at h <;> subst h <;> simp [aPure] at hv
      · -- min
        rename_i x y hargs
        have ea : args = #[x, y] := by apply Array.ext'; simpa using hargs
        subst ea
        split at h <;> simp only [Option.some.injEq, reduceCtorEq] at h
        rename_i a b ha hb; subst h
        simp only [aPure] at hv
        split at hv
        · rename_i k m k' n hm hn
          split at hv <;> simp only [Bool.false_eq_true, if_false, Option.some.injEq, reduceCtorEq] at hv
          rename_i hk; subst hk; subst hv
          have h1 := H _ _ _ ha hm
          have h2 := H _ _ _ hb hn
          simp only [R] at h1 h2
          exact ⟨_, by simp [execOp, resolve, invoke, builtin, Builtin.min_, Builtin.min2, h1, h2]; rfl, by simp only [R]⟩
        · simp at hv
      · -- max
        rename_i x y hargs
        have ea : args = #[x, y] := by apply Array.ext'; simpa using hargs
        subst ea
        split at h <;> simp only [Option.some.injEq, reduceCtorEq] at h
        rename_i a b ha hb; subst h
        simp only [aPure] at hv
        split at hv
        · rename_i k m k' n hm hn
          split at hv <;> simp only [if_true, Option.some.injEq, reduceCtorEq] at hv
          rename_i hk; subst hk; subst hv
          have h1 := H _ _ _ ha hm
          have h2 := H _ _ _ hb hn
          simp only [R] at h1 h2
          exact ⟨_, by simp [execOp, resolve, invoke, builtin, Builtin.max_, Builtin.max2, h1, h2]; rfl, by simp only [R]⟩
        · simp at hv
      · (repeat' split at h) <;> simp only [Option.some.injEq, reduceCtorEq] at h <;> subst h <;> simp [aPure] at hv
      · simp at h
  | panic x => simp only [trOp, Option.some.injEq] at h; subst h; simp [aPure] at hv
  | defer x => simp only [trOp, Option.some.injEq] at h; subst h; simp [aPure] at hv
  | _ => simp [trOp] at h

end
end Go.Am
