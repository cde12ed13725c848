/- Operations that make a block: what compact code says is what the machine does. -/
import Derived.Test.YtnblhjpbpobglaaAmJ
import Derived.Lib.ConvBytes
import Derived.Laws.MakeOwn
import Derived.Laws.IdiomCopy
namespace Go.Am

structure NewAt (w w' : World) : Prop where
  os : w'.os = w.os
  tape : w'.tape = w.tape
  output : w'.output = w.output
  size : w'.heap.size = w.heap.size + 1
  old : ∀ b, b < w.heap.size → w'.heap[b]? = w.heap[b]?

theorem NewAt.alloc (w : World) (o : Obj) : NewAt w (w.alloc o) :=
  ⟨rfl, rfl, rfl, by simp, fun b hb => by simp only [World.alloc]; rw [Array.getElem?_push_lt hb, Array.getElem?_eq_getElem hb]⟩

theorem NewAt.drew {w w' : World} (h : NewAt w.drew w') : NewAt w w' := ⟨h.os, h.tape, h.output, h.size, h.old⟩

theorem alloc_new (w : World) (o : Obj) : (w.alloc o).heap[w.heap.size]? = some o := by simp [World.alloc, -World.alloc_eq]

/-- A new row of cells. -/
theorem fresh_ok {Φ : Phi} {w' : World} {n : Nat} {arr : Array Value} {T : TypeId} {fr : Nat × Nat} (hh : w'.heap[n]? = some (.cells arr T fr)) (hfr : fr = (0, 0) ∨ arr.size ≤ fr.1)
    {cs : List AV} {vs rest : List Value} (ha : arr.toList = vs ++ rest) (hR : Rs Φ cs vs) (sz : Nat) : BlkOk Φ w' ⟨n, 0, arr.size, sz, true⟩ (.cells sz true cs) := by
  have hn : n < w'.heap.size := by
    rcases Nat.lt_or_ge n w'.heap.size with h | h
    · exact h
    · rw [Array.getElem?_eq_none h] at hh; simp at hh
  have hcell : ∀ k, w'.cell? ⟨n, k, none⟩ = arr[k]? := by intro k; simp [World.cell?, hh]
  have hl := hR.len
  have hsz : arr.size = vs.length + rest.length := by rw [← Array.length_toList, ha, List.length_append]
  refine ⟨hn, rfl, rfl, fun k c hk => ?_, fun _ => ⟨by simp only [Nat.zero_add]; omega, fun k hk => ⟨⟨arr[k], by rw [hcell]; simp [hk]⟩, ?_⟩⟩⟩
  · obtain ⟨v, hv, hRv⟩ := hR.get hk
    refine ⟨v, ?_, hRv⟩
    have hlt : k < vs.length := by
      rcases Nat.lt_or_ge k vs.length with h | h
      · exact h
      · rw [List.getElem?_eq_none h] at hv; simp at hv
    rw [Nat.zero_add, hcell, ← Array.getElem?_toList, ha, List.getElem?_append_left hlt, hv]
  · simp only [World.frozen?, hh]
    rcases hfr with rfl | hfr
    · simp
    · simp only [Bool.and_eq_false_iff, decide_eq_false_iff_not]; left; simp only at hk; omega

section
variable {c : Ctx} {env vals : List AV} {Φ : Phi} {ρ : Operand → Value} {w : World}

def NewOk (P : Program) (Φ : Phi) (ρ : Operand → Value) (w : World) (o : Oper) (mk : Nat → AV) (blk : Blk) : Prop :=
  ∃ v' w' l, (execOp ρ o).run P w = .ok (.value v') w' ∧ NewAt w w' ∧ l.b = w.heap.size ∧ l.rw = true ∧
    ∀ i Φ', (∀ j l, Φ j = some l → Φ' j = some l) → Φ' i = some l → BlkOk Φ' w' l blk ∧ R Φ' (mk i) v'

theorem rows_R {zero : List AV} {zs : List Value} (h : Rs Φ zero zs) : ∀ n, Rs Φ (rows n zero) ((List.replicate n zs).flatten)
  | 0 => by simpa [rows] using Rs.nil
  | n + 1 => by
    have := (h.append (rows_R h n))
    simpa [rows, List.replicate_succ] using this

theorem range_mod (zs : List Value) (n : Nat) (hz : zs.length ≠ 0) :
    ((Array.range (n * zs.length)).map (fun i => zs.toArray[i % zs.toArray.size]!)).toList = (List.replicate n zs).flatten := by
  apply List.ext_getElem?
  intro i
  have hl : ((List.replicate n zs).flatten).length = n * zs.length := by simp
  by_cases hi : i < n * zs.length
  · have e1 : ((Array.range (n * zs.length)).map (fun i => zs.toArray[i % zs.toArray.size]!)).toList[i]? = zs[i % zs.length]? := by
      have hm : i % zs.length < zs.length := Nat.mod_lt _ (by omega)
      simp [hi, hm]
    rw [e1]
    clear e1 hl
    induction n generalizing i with
    | zero => simp at hi
    | succ n ih =>
      rw [List.replicate_succ, List.flatten_cons]
      by_cases h2 : i < zs.length
      · rw [List.getElem?_append_left h2, Nat.mod_eq_of_lt h2]
      · rw [List.getElem?_append_right (by omega), ← ih (i - zs.length) (by rw [Nat.add_mul] at hi; omega)]
        congr 1
        rw [← Nat.mod_eq_sub_mod (by omega)]
  · rw [List.getElem?_eq_none (by simp; omega), List.getElem?_eq_none (by omega)]

theorem fillA_len : ∀ {ps : List (Nat × Nat × AV)} {zero cs : List AV}, fillA zero ps = some cs → cs.length = zero.length
  | [], zero, cs, h => by simp only [fillA, Option.some.injEq] at h; rw [h]
  | (o, n, v) :: r, zero, cs, h => by
    simp only [fillA] at h
    split at h
    · rename_i hc
      simp only [Bool.and_eq_true, Bool.not_eq_true', beq_iff_eq, decide_eq_true_eq] at hc
      rw [fillA_len h]
      simp [splice]; omega
    · simp at h

theorem new_ok (O : HO c env vals Φ ρ) (o : Oper) {ao : AOp} {mk : Nat → AV} {blk : Blk} (h : trOp c o.op = some ao) (hv : aNew env vals ao = some (mk, blk)) : NewOk c.P Φ ρ w o mk blk := by
  obtain ⟨dst, op, ty, pos, after, guard⟩ := o
  simp only at h
  cases op with
  | alloc e =>
    simp only [trOp] at h
    split at h <;> simp only [Option.some.injEq, reduceCtorEq] at h
    rename_i z hz; subst h
    simp only [aNew, Option.some.injEq, Prod.mk.injEq] at hv
    obtain ⟨rfl, rfl⟩ := hv
    obtain ⟨i, zv, hi, hzv, hlen, hne, hR⟩ := zeroP_info hz
    refine ⟨_, w.alloc (.cells zv.cells e), ⟨w.heap.size, 0, zv.cells.size, z.length, true⟩, by simp [execOp, Instr.alloc, run_zero hi hzv, newVar, newRow]; rfl, NewAt.alloc _ _, rfl, rfl, fun j Φ' hm hj => ⟨?_, ?_⟩⟩
    · exact fresh_ok (alloc_new w _) (.inl rfl) (rest := []) (by simp) (Rs.mono hm z (hR Φ)) _
    · simp only [R]; exact ⟨_, hj, rfl⟩
  | box e x =>
    simp only [trOp] at h
    split at h <;> simp only [Option.some.injEq, reduceCtorEq] at h
    rename_i a ha; subst h
    simp only [aNew] at hv
    split at hv <;> simp only [Option.some.injEq, reduceCtorEq, Prod.mk.injEq] at hv
    rename_i u hnj hu
    obtain ⟨rfl, rfl⟩ := hv
    have h1 := O _ _ _ ha hu
    have hj : u.isJunk = false := by cases u <;> first | rfl | exact absurd rfl hnj
    refine ⟨_, w.alloc (.cells (ρ x).cells e), ⟨w.heap.size, 0, (ρ x).cells.size, u.cells.length, true⟩, by simp [execOp, Instr.box, newVar, newRow]; rfl, NewAt.alloc _ _, rfl, rfl, fun j Φ' hm hj' => ⟨?_, ?_⟩⟩
    · exact fresh_ok (alloc_new w _) (.inl rfl) (rest := []) (by simp) (Rs.mono hm _ (R.cells h1 hj)) _
    · simp only [R]; exact ⟨_, hj', rfl⟩
  | buildSlice t n parts =>
    simp only [trOp] at h
    split at h
    · rename_i e he
      split at h
      · rename_i sz z hsz hz
        split at h
        · rename_i hle
          split at h <;> simp only [Option.some.injEq, reduceCtorEq] at h
          rename_i ps hps; subst h
          simp only [aNew] at hv
          split at hv
          · rename_i as has
            split at hv <;> simp only [Option.some.injEq, reduceCtorEq, Prod.mk.injEq] at hv
            rename_i cs hcs
            obtain ⟨rfl, rfl⟩ := hv
            obtain ⟨i, zv, hi, hzv, hlen, hne, hR⟩ := zeroP_info hz
            obtain ⟨i', hi', hszi, hsz0⟩ := sizeP_info hsz
            rw [hi] at hi'; simp only [Option.some.injEq] at hi'; subst hi'
            have hu : c.P.underlying t = some (.slice e) := by
              unfold elemP at he; split at he <;> simp at he; subst he; assumption
            have hzl : zv.cells.toList.length = sz := by rw [(hR Φ).len, hlen, hszi]
            have hRr := rows_R (hR Φ) n
            rw [← range_mod _ n (by omega), hzl] at hRr
            obtain ⟨vs, hvs, hRv⟩ := fill_ok (fun j => some (j * sz, sz)) O parts.toList hps has hcs hRr
            have hparts : (parts.map fun p => (p.1, ρ p.2)).toList = parts.toList.map fun p => (p.1, ρ p.2) := by simp
            simp only [Array.toArray_toList] at hvs
            have hbig : ¬ n * sz > 2 ^ 24 := by omega
            refine ⟨.slice (some ⟨w.heap.size, 0, none⟩) n n, w.alloc (.cells vs.toArray e), ⟨w.heap.size, 0, vs.toArray.size, sz, true⟩, ?_, NewAt.alloc _ _, rfl, rfl, fun j Φ' hm hj => ⟨?_, ?_⟩⟩
            · simp only [execOp, Instr.buildSlice, Sem.run_bind, run_underlying hu, Result.andThen_ok, run_size hsz, Sem.run_ite, if_neg hbig, Result.andThen_ite, Sem.run_pure, run_zero hi hzv, hparts]
              by_cases h0 : n * sz = 0
              · rw [if_pos h0]
                have e0 : (Array.range (n * sz)).map (fun i => (#[] : Array Value)[i % (#[] : Array Value).size]!) = (Array.range (n * sz)).map (fun i => zv.cells[i % zv.cells.size]!) := by simp [h0]
                rw [e0, hvs]
                rfl
              · rw [if_neg h0, hvs]
                rfl
            · exact fresh_ok (alloc_new w _) (.inl rfl) (rest := []) (by simp) (Rs.mono hm _ hRv) _
            · simp only [R]
              refine ⟨_, _, _, hj, rfl, Nat.le_refl _, .inr ⟨rfl, fun _ => ?_⟩⟩
              have : vs.length = n * sz := by
                rw [hRv.len, fillA_len hcs]; simp [rows]; rw [hlen, hszi]
              simp [this]
          · simp at hv
        · simp at h
      · simp at h
    · simp at h
  | convert s d x =>
    simp only [trOp] at h
    split at h
    · simp only [Option.some.injEq] at h; subst h; simp [aNew] at hv
    · simp only [Option.some.injEq] at h; subst h; simp [aNew] at hv
    · rename_i e a hu1 hu2 ha
      split at h <;> simp only [Option.some.injEq, reduceCtorEq] at h
      rename_i hue; subst h
      simp only [aNew] at hv
      split at hv <;> simp only [Option.some.injEq, reduceCtorEq, Prod.mk.injEq] at hv
      rename_i s' hs
      obtain ⟨rfl, rfl⟩ := hv
      have h1 := O _ _ _ ha hs
      simp only [R] at h1
      have hsz : (ByteArray.mk s'.toArray).size = s'.length := by simp [ByteArray.size]
      have hcap : s'.length ≤ grownCap w s'.length 0 e := by
        simp [grownCap, Question.cut]
      have hcs : (Lib.bytesCells w e ⟨s'.toArray⟩).size = grownCap w s'.length 0 e := by
        simp [Lib.bytesCells, hsz]; omega
      refine ⟨_, Lib.bytesWorld w e ⟨s'.toArray⟩, ⟨w.heap.size, 0, (Lib.bytesCells w e ⟨s'.toArray⟩).size, 1, true⟩, by simp only [execOp, h1, Sem.run_bind, Lib.run_convert_string_bytes w s d e _ hu1 hu2 hue, Result.andThen_ok, Sem.run_pure]; rfl,
        ⟨rfl, rfl, rfl, Lib.bytesWorld_size w e _, fun b hb => Lib.bytesWorld_at_old w e _ b hb⟩, rfl, rfl, fun j Φ' hm hj => ⟨?_, ?_⟩⟩
      · refine fresh_ok (Lib.bytesWorld_at_new w e _) (.inr (Nat.le_refl _)) (vs := (ofBytes s').map fun x => match x with | .int k n => .int k n | _ => undef) (rest := List.replicate (grownCap w s'.length 0 e - s'.length) (.int .u8 0)) ?_ ?_ 1
        · simp [Lib.bytesCells, ofBytes, hsz]
        · refine Rs.mk (by simp) fun k x hk => ?_
          simp only [ofBytes, List.getElem?_map, Option.map_eq_some_iff] at hk
          obtain ⟨b, hb, rfl⟩ := hk
          exact ⟨.int .u8 b.toNat, by simp [ofBytes, hb], by simp only [R]⟩
      · simp only [R]
        refine ⟨_, _, _, hj, by rw [hsz], hcap, .inr ⟨rfl, fun _ => by simp [hcs]⟩⟩
    · split at h <;> simp only [Option.some.injEq, reduceCtorEq] at h
      subst h; simp [aNew] at hv
    · simp at h
  | makeMap t r =>
    cases r <;> simp only [trOp, Option.some.injEq, reduceCtorEq] at h
    subst h
    simp only [aNew, Option.some.injEq, Prod.mk.injEq] at hv
    obtain ⟨rfl, rfl⟩ := hv
    refine ⟨_, w.alloc (.map #[] 0), ⟨w.heap.size, 0, 0, 0, true⟩, by simp [execOp, Instr.makeMap]; rfl, NewAt.alloc _ _, rfl, rfl, fun j Φ' hm hj => ⟨?_, ?_⟩⟩
    · exact ⟨by simp, rfl, #[], 0, alloc_new w _, by simpa using Rs.nil, by simpa using Rs.nil⟩
    · simp only [R]; exact ⟨_, hj, rfl⟩
  | makeSlice t l k =>
    simp only [trOp] at h
    split at h
    · rename_i e he
      split at h
      · rename_i sz m z a b hsz hm hz ha hb
        split at h <;> simp only [Option.some.injEq, reduceCtorEq] at h
        rename_i hm0; subst h
        simp only [aNew] at hv
        split at hv
        · rename_i k1 n k2 n2 hn hn2
          split at hv <;> simp only [Option.some.injEq, reduceCtorEq, Prod.mk.injEq] at hv
          rename_i hc
          obtain ⟨rfl, rfl, rfl, h0, hby, hbig⟩ := hc
          obtain ⟨rfl, rfl⟩ := hv
          have h1 := O _ _ _ ha hn
          have h2 := O _ _ _ hb hn2
          simp only [R] at h1 h2
          obtain ⟨i, zv, hi, hzv, hlen, hne, hR⟩ := zeroP_info hz
          obtain ⟨i', hi', hszi, hsz0⟩ := sizeP_info hsz
          rw [hi] at hi'; simp only [Option.some.injEq] at hi'; subst hi'
          have hu : c.P.underlying t = some (.slice e) := by
            unfold elemP at he; split at he <;> simp at he; subst he; assumption
          have hbytes : i.bytes = m := by
            unfold bytesP at hm; rw [hi] at hm; simpa using hm
          have hzl : zv.cells.toList.length = sz := by rw [(hR Φ).len, hlen, hszi]
          have hRr := rows_R (hR Φ) n.toNat
          have hmul : (i.bytes : Int) * n ≤ 281474976710656 := by
            rw [hbytes, Int.mul_comm]; simp only [maxRoom] at hby; omega
          have hrun := run_make (P := c.P) w t e i zv hu hi hzv .i64 .i64 n n h0 (Int.le_refl _) hmul (by omega)
          have hcells : (madeCells zv.cells (n.toNat * i.size)).toList = (List.replicate n.toNat zv.cells.toList).flatten := by
            rw [← range_mod _ n.toNat (by omega), hzl, ← hszi]; simp [madeCells]
          refine ⟨_, w.alloc (.cells (madeCells zv.cells (n.toNat * i.size)) e), ⟨w.heap.size, 0, (madeCells zv.cells (n.toNat * i.size)).size, sz, true⟩, by simp only [execOp, h1, h2, Sem.run_bind, hrun, Result.andThen_ok, Sem.run_pure]; rfl, NewAt.alloc _ _, rfl, rfl, fun j Φ' hm hj => ⟨?_, ?_⟩⟩
          · exact fresh_ok (alloc_new w _) (.inl rfl) (rest := []) (by rw [hcells]; simp) (Rs.mono hm _ hRr) _
          · simp only [R]
            refine ⟨_, _, _, hj, rfl, Nat.le_refl _, .inr ⟨rfl, fun _ => ?_⟩⟩
            rw [size_madeCells, hszi]; simp
        · simp at hv
      · simp at h
    · simp at h
  | call k =>
    exfalso
    simp only [trOp, trCall] at h
    obtain ⟨callee, args, ats⟩ := k
    revert h; (repeat' split) <;> intro h <;> simp only [Option.some.injEq, reduceCtorEq] at h <;> subst h <;> simp [aNew] at hv
  | binOp op t x y yt =>
    exfalso
    cases op
    case eql => simp only [trOp, trEq] at h; (repeat' split at h) <;> simp only [Option.some.injEq, reduceCtorEq] at h <;> subst h <;> simp [aNew] at hv
    case neq => simp only [trOp, trEq] at h; (repeat' split at h) <;> simp only [Option.some.injEq, reduceCtorEq] at h <;> subst h <;> simp [aNew] at hv
    all_goals (simp only [trOp] at h; (repeat' split at h) <;> simp only [Option.some.injEq, reduceCtorEq] at h <;> subst h <;> simp [aNew] at hv)
  | makeFunc f first caps =>
    exfalso
    cases f <;> simp only [trOp, reduceCtorEq] at h
    (repeat' split at h) <;> simp only [Option.some.injEq, reduceCtorEq] at h
    subst h; simp [aNew] at hv
  | _ =>
    exfalso
    simp only [trOp, reduceCtorEq] at h
    all_goals ((repeat' split at h) <;> simp only [Option.some.injEq, reduceCtorEq] at h <;> subst h <;> simp [aNew] at hv)

end
end Go.Am
