/- All operations that touch no memory: what compact code says is what the machine does. -/
import Derived.Test.YtnblhjpbpobglaaAmG
namespace Go.Am

section
variable {c : Ctx} {env vals : List AV} {Φ : Phi} {ρ : Operand → Value} {w : World}

theorem unA_ok {op : UnOp} {a v : AV} {x : Value} (ha : R Φ a x) (h : unA op a = some v) : ∃ v', (Op.unary op x).run c.P w = .ok v' w ∧ R Φ v v' := by
  unfold unA at h
  split at h
  · rename_i k n
    simp only [R] at ha; subst ha
    split at h
    · simp only [Option.some.injEq] at h; subst h
      exact ⟨.int k (k.wrap (0 - n)), by simp [Op.unary, Op.intArith], by simp only [R]⟩
    · simp only [bitsA, Option.some.injEq] at h; subst h
      exact ⟨_, rfl, by simp only [R]⟩
    · simp at h
  · simp only [R] at ha; subst ha
    split at h
    · simp only [Option.some.injEq] at h; subst h
      exact ⟨_, rfl, by simp only [R]⟩
    · simp at h
  · simp at h

theorem bound_ok {x : Option Operand} {a : Option AV} {dflt lo hi n : Nat} (hx : (x = none ∧ a = none) ∨ ∃ x' a', x = some x' ∧ a = some a' ∧ R Φ a' (ρ x'))
    (h : bound a dflt lo hi = some n) (h0 : lo = 0) :
    (x = none ∧ n = dflt ∧ n ≤ hi) ∨ ∃ x' k m, x = some x' ∧ ρ x' = .int k m ∧ 0 ≤ m ∧ m ≤ hi ∧ n = m.toNat := by
  subst h0
  rcases hx with ⟨rfl, rfl⟩ | ⟨x', a', rfl, rfl, hR⟩
  · simp only [bound] at h
    split at h
    · rename_i hc; simp only [Option.some.injEq] at h; exact .inl ⟨rfl, h.symm, by omega⟩
    · simp at h
  · cases a' <;> simp only [bound, reduceCtorEq] at h
    split at h
    · rename_i k m hc
      simp only [Option.some.injEq] at h
      simp only [R] at hR
      exact .inr ⟨x', k, m, rfl, hR, by simpa using hc.1, hc.2, h.symm⟩
    · simp at h

theorem run_sliceBound {k : IntKind} {m : Int} {y : Nat} {code : BoundsCode} (h0 : 0 ≤ m) (h1 : m ≤ y) :
    (Instr.sliceBound (.int k m) y code).run c.P w = .ok m.toNat w := by
  simp [Instr.sliceBound, asIntOf, h0, h1]

theorem sliceS_ok {s : List UInt8} {t : TypeId} {lo hi : Option Operand} {l h : Option AV} {v : AV} (hu : c.P.underlying t = some .string)
    (hl : (lo = none ∧ l = none) ∨ ∃ x' a', lo = some x' ∧ l = some a' ∧ R Φ a' (ρ x')) (hh : (hi = none ∧ h = none) ∨ ∃ x' a', hi = some x' ∧ h = some a' ∧ R Φ a' (ρ x'))
    (hv : sliceS s l h = some v) : ∃ v', (Instr.slice t (.string ⟨s.toArray⟩) (lo.map ρ) (hi.map ρ) none).run c.P w = .ok v' w ∧ R Φ v v' := by
  unfold sliceS at hv
  split at hv
  · simp at hv
  · rename_i n hn
    split at hv
    · simp at hv
    · rename_i m hm
      simp only [Option.some.injEq] at hv; subst hv
      have b1 := bound_ok hh hn rfl
      have b2 := bound_ok hl hm rfl
      have hsz : (ByteArray.mk s.toArray).size = s.length := by simp [ByteArray.size]
      have key : (Instr.sliceBounds false s.length s.length (lo.map ρ) (hi.map ρ) none).run c.P w = .ok (m, n, s.length) w := by
        rcases b1 with ⟨rfl, rfl, hle⟩ | ⟨x', k, q, rfl, hx, h0, h1, rfl⟩
        · rcases b2 with ⟨rfl, rfl, hle2⟩ | ⟨x2, k2, q2, rfl, hx2, h02, h12, rfl⟩
          · simp [Instr.sliceBounds]
          · simp [Instr.sliceBounds, hx2, run_sliceBound h02 h12]
        · rcases b2 with ⟨rfl, rfl, hle2⟩ | ⟨x2, k2, q2, rfl, hx2, h02, h12, rfl⟩
          · simp [Instr.sliceBounds, hx, run_sliceBound h0 h1]
          · simp [Instr.sliceBounds, hx, hx2, run_sliceBound h0 h1, run_sliceBound h02 h12]
      refine ⟨.string ⟨((s.take n).drop m).toArray⟩, ?_, by simp only [R]⟩
      simp only [Instr.slice, Sem.run_bind, run_underlying hu, Result.andThen_ok, Option.isSome_none, Bool.false_eq_true, if_false, hsz, key, Sem.run_pure]
      rw [ByteArray.extract_mk]
      congr 3
      rw [List.drop_take]

theorem sliceA_ok {sz : Nat} {a : AV} {x : Value} {t e : TypeId} {lo hi mx : Option Operand} {l h m : Option AV} {v : AV} (hu : c.P.underlying t = some (.slice e)) (hs : sizeP c.P e = some sz)
    (ha : R Φ a x) (hl : (lo = none ∧ l = none) ∨ ∃ x' a', lo = some x' ∧ l = some a' ∧ R Φ a' (ρ x')) (hh : (hi = none ∧ h = none) ∨ ∃ x' a', hi = some x' ∧ h = some a' ∧ R Φ a' (ρ x'))
    (hm : (mx = none ∧ m = none) ∨ ∃ x' a', mx = some x' ∧ m = some a' ∧ R Φ a' (ρ x')) (hmh : ¬ (mx.isSome = true ∧ hi.isNone = true)) (hszl : ∀ i o n, a = .sl i o n → ∀ l', Φ i = some l' → l'.sz = sz)
    (hv : sliceA sz a l h m = some v) : ∃ v', (Instr.slice t x (lo.map ρ) (hi.map ρ) (mx.map ρ)).run c.P w = .ok v' w ∧ R Φ v v' := by
  unfold sliceA at hv
  -- the slice's length and capacity
  have hshape : ∃ b len cap, x = .slice b len cap ∧ len ≤ cap ∧ slLen a = len ∨ (∀ i o n, a ≠ .sl i o n) ∧ a ≠ .nilsl ∧ a ≠ .esl := by
    cases a <;> simp only [R] at ha
    case sl => obtain ⟨_, b, cc, _, rfl, hle, _⟩ := ha; exact ⟨some b, _, cc, .inl ⟨rfl, hle, rfl⟩⟩
    case nilsl => exact ⟨none, 0, 0, .inl ⟨ha, Nat.le_refl _, rfl⟩⟩
    case esl => obtain ⟨b, rfl⟩ := ha; exact ⟨some b, 0, 0, .inl ⟨rfl, Nat.le_refl _, rfl⟩⟩
    all_goals exact ⟨none, 0, 0, .inr ⟨by simp, by simp, by simp⟩⟩
  obtain ⟨b, len, cap, hshape⟩ := hshape
  generalize slLen a = nn at hv hshape
  split at hv
  · simp at hv
  · rename_i n hn
    split at hv
    · simp at hv
    · rename_i k hk
      have b1 := bound_ok hh hn rfl
      have b2 := bound_ok hl hk rfl
      have hkn : k ≤ n := by
        rcases b2 with ⟨_, rfl, h⟩ | ⟨_, _, q, _, _, h0, h1, rfl⟩ <;> omega
      have hnl : n ≤ nn := by
        rcases b1 with ⟨_, rfl, h⟩ | ⟨_, _, q, _, _, h0, h1, rfl⟩ <;> omega
      rcases hshape with ⟨rfl, hle, rfl⟩ | ⟨h1, h2, h3⟩
      · split at hv
        · -- without a bound of the capacity
          have hmx : mx = none := by rcases hm with ⟨h, _⟩ | ⟨_, _, _, h, _⟩ <;> simp_all
          subst hmx
          have key : (Instr.sliceBounds true nn cap (lo.map ρ) (hi.map ρ) none).run c.P w = .ok (k, n, cap) w := by
            rcases b1 with ⟨rfl, rfl, hle1⟩ | ⟨x', kk, q, rfl, hx, h0, h1, rfl⟩
            · rcases b2 with ⟨rfl, rfl, hle2⟩ | ⟨x2, k2, q2, rfl, hx2, h02, h12, rfl⟩
              · simp [Instr.sliceBounds]
              · simp [Instr.sliceBounds, hx2, run_sliceBound h02 h12]
            · have hq : q ≤ (cap : Int) := by omega
              rcases b2 with ⟨rfl, rfl, hle2⟩ | ⟨x2, k2, q2, rfl, hx2, h02, h12, rfl⟩
              · simp [Instr.sliceBounds, hx, run_sliceBound h0 hq]
              · simp [Instr.sliceBounds, hx, hx2, run_sliceBound h0 hq, run_sliceBound h02 h12]
          have run : (Instr.slice t (.slice b nn cap) (lo.map ρ) (hi.map ρ) none).run c.P w = .ok (.slice (if cap = k then b else b.map (·.add (k * sz))) (n - k) (cap - k)) w := by
            simp only [Instr.slice, Sem.run_bind, run_underlying hu, Result.andThen_ok, key, run_size hs, Sem.run_pure]
          refine ⟨_, run, ?_⟩
          cases a <;> simp at hv
          case sl i o n' =>
            subst hv
            simp only [R] at ha
            obtain ⟨l', b', c', hΦ, hx, hle', hcap⟩ := ha
            simp only [Value.slice.injEq] at hx
            obtain ⟨rfl, rfl, rfl⟩ := hx
            have hsz := hszl i o _ rfl l' hΦ
            simp only [R]
            by_cases hck : cap = k
            · refine ⟨l', b', cap - k, hΦ, by simp [hck], by omega, .inl (by omega)⟩
            · rcases hcap with h0 | ⟨rfl, hlim⟩
              · exact absurd h0 (by omega)
              · refine ⟨l', ⟨l'.b, l'.base + (o + k * sz), none⟩, cap - k, hΦ, ?_, by omega, .inr ⟨rfl, fun hrw => ?_⟩⟩
                · simp only [hck, if_false, Option.map_some, Addr.add]
                  by_cases h0 : k * sz = 0
                  · simp [h0]
                  · simp [h0, Nat.add_assoc]
                · have := hlim hrw
                  rw [hsz] at this ⊢
                  have e : (cap - k) * sz + k * sz = cap * sz := by rw [← Nat.add_mul]; congr 1; omega
                  omega
          case nilsl =>
            subst hv
            simp only [R] at ha ⊢
            simp only [Value.slice.injEq] at ha
            obtain ⟨rfl, rfl, rfl⟩ := ha
            have : n = 0 ∧ k = 0 := by simp at hnl; omega
            simp [this.1, this.2]
          case esl =>
            subst hv
            simp only [R] at ha ⊢
            obtain ⟨b', hx⟩ := ha
            simp only [Value.slice.injEq] at hx
            obtain ⟨rfl, rfl, rfl⟩ := hx
            have : n = 0 ∧ k = 0 := by simp at hnl; omega
            exact ⟨b', by simp [this.1, this.2]⟩
        · -- with one
          rename_i mv
          split at hv
          · rename_i mm hmm
            split at hv
            · rename_i hmk
              subst hmk
              obtain ⟨x3, a3, rfl, ha3, hR3⟩ : ∃ x' a', mx = some x' ∧ some mv = some a' ∧ R Φ a' (ρ x') := by
                rcases hm with ⟨_, h⟩ | h
                · simp at h
                · exact h
              simp only [Option.some.injEq] at ha3; subst ha3
              have hh' : hi ≠ none := fun e => hmh ⟨rfl, by simp [e]⟩
              obtain ⟨x', kk, q, rfl, hx, h0, h1, rfl⟩ := b1.resolve_left (fun e => hh' e.1)
              have h3 : ∃ k3 q3, ρ x3 = .int k3 q3 ∧ (q.toNat : Int) ≤ q3 ∧ q3 ≤ nn ∧ mm = q3.toNat := by
                cases mv <;> simp only [bound, reduceCtorEq] at hmm
                split at hmm
                · rename_i k3 q3 hc
                  simp only [Option.some.injEq] at hmm
                  simp only [R] at hR3
                  exact ⟨k3, q3, hR3, hc.1, hc.2, hmm.symm⟩
                · simp at hmm
              obtain ⟨k3, q3, hx3, h30, h31, rfl⟩ := h3
              have hq3 : q3 ≤ (cap : Int) := by omega
              have hq30 : 0 ≤ q3 := Int.le_trans (Int.natCast_nonneg _) h30
              have hqq : q ≤ (q3.toNat : Int) := Int.le_trans (Int.le_trans (Int.self_le_toNat q) h30) (Int.self_le_toNat q3)
              have s1 := run_sliceBound (c := c) (w := w) (k := k3) (code := .slice3Acap) hq30 hq3
              have s2 := run_sliceBound (c := c) (w := w) (k := kk) (code := .slice3B) h0 hqq
              have hz : q.toNat - q3.toNat = 0 := Nat.sub_eq_zero_of_le (Int.toNat_le.mpr hqq)
              have key : (Instr.sliceBounds true nn cap (lo.map ρ) (some (ρ x')) (some (ρ x3))).run c.P w = .ok (q3.toNat, q.toNat, q3.toNat) w := by
                rcases b2 with ⟨rfl, h02, hle2⟩ | ⟨x2, k2, q2, rfl, hx2, h02, h12, h22⟩
                · generalize q3.toNat = Z at *
                  subst h02
                  simp [Instr.sliceBounds, hx, hx3, s1, s2]
                · have s3 := run_sliceBound (c := c) (w := w) (k := k2) (code := .slice3C) h02 h12
                  rw [← h22] at s3
                  generalize q3.toNat = Z at *
                  simp [Instr.sliceBounds, hx, hx3, hx2, s1, s2, s3]
              have run : (Instr.slice t (.slice b nn cap) (lo.map ρ) (some (ρ x')) (some (ρ x3))).run c.P w = .ok (.slice b (q.toNat - q3.toNat) 0) w := by
                simp only [Instr.slice, Sem.run_bind, run_underlying hu, Result.andThen_ok, key, run_size hs, Sem.run_pure]
                simp
              refine ⟨_, run, ?_⟩
              rw [hz]
              cases a <;> simp at hv
              case sl i o n' =>
                subst hv
                simp only [R] at ha ⊢
                obtain ⟨l', b', c', hΦ, hx', _⟩ := ha
                simp only [Value.slice.injEq] at hx'
                exact ⟨b', by rw [hx'.1]⟩
              case nilsl =>
                subst hv
                simp only [R] at ha ⊢
                simp only [Value.slice.injEq] at ha
                rw [ha.1]
              case esl =>
                subst hv
                simp only [R] at ha ⊢
                obtain ⟨b', hx'⟩ := ha
                simp only [Value.slice.injEq] at hx'
                exact ⟨b', by rw [hx'.1]⟩
            · simp at hv
          · simp at hv
      · exfalso
        split at hv
        · cases a <;> simp_all
        · split at hv
          · split at hv
            · cases a <;> simp_all
            · simp at hv
          · simp at hv

end
end Go.Am
