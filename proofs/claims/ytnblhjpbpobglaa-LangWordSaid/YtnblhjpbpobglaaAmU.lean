/- Regions that draw their order: what is checked of them. -/
import Derived.Test.YtnblhjpbpobglaaAmT
namespace Go.Am

/-- What is known of a region that draws its order. -/
structure Reg (P : Program) (ps : List Nat) (nt : Nat) (ops : Array Oper) (l : List AOper) (b : Nat → Nat → Bool) : Prop where
  len : l.length = ops.size
  at_ : ∀ k lo, l[k]? = some lo → ∃ o, ops[k]? = some o ∧ OpAt P ps nt ops.toList k o lo
  back : ∀ k o, ops[k]? = some o → ∀ i, b i k = true → i < k ∧ ∃ e, e ∈ o.after.toList ∧ Region.binds .any e = true ∧ (i = e.on ∨ b i e.on = true)
  edge : ∀ k o, ops[k]? = some o → ∀ e, e ∈ o.after → Region.binds .any e = true → e.on < k
  opd : ∀ k lo, l[k]? = some lo → (∀ j, Opd.loc j ∈ lo.op.opds → b j k = true) ∧
    (∀ x, Opd.var x ∈ lo.op.opds → x < ps.length ∧ ∀ m lm, m ≠ k → l[m]? = some lm → lm.dst = some x → b k m = true) ∧ (∀ v, Opd.const v ∈ lo.op.opds → v.id = none) ∧ (∀ j t, lo.guard = some (j, t) → b j k = true)
  eff : ∀ i j li lj, i < j → l[i]? = some li → l[j]? = some lj → (li.op.cls = .eff ∨ li.op.cls = .new) → lj.op.cls = .eff → b i j = true
  aft : ∀ i k li lk, i < k → l[i]? = some li → l[k]? = some lk → li.op.cls = .read → lk.op.cls = .eff → b i k = false → i ∈ lk.aft
  bef : ∀ i k li lk, i < k → l[i]? = some li → l[k]? = some lk → li.op.cls = .eff → lk.op.cls = .read → b i k = false → i ∈ lk.bef

theorem allBelow_get {n : Nat} {f : Nat → Bool} (h : allBelow n f = true) {i : Nat} (hi : i < n) : f i = true := by
  unfold allBelow at h
  rw [List.all_eq_true] at h
  exact h i (List.mem_range.2 hi)

theorem drawn_get {b : Nat → Nat → Bool} {l0 l : List AOper} (h : drawn b l0 = some l) : l.length = l0.length ∧
    (∀ i j oi oj, i < j → l0[i]? = some oi → l0[j]? = some oj → (oi.op.cls = .eff ∨ oi.op.cls = .new) → oj.op.cls = .eff → b i j = true) ∧
    ∀ k o', l[k]? = some o' → ∃ o, l0[k]? = some o ∧ o'.op = o.op ∧ o'.dst = o.dst ∧ o'.guard = o.guard ∧
      (o.op.cls = .eff → ∀ i oi, i < k → l0[i]? = some oi → oi.op.cls = .read → b i k = false → i ∈ o'.aft) ∧
      (o.op.cls = .read → ∀ i oi, i < k → l0[i]? = some oi → oi.op.cls = .eff → b i k = false → i ∈ o'.bef) := by
  unfold drawn at h
  simp only at h
  split at h <;> simp only [Option.some.injEq, reduceCtorEq] at h
  rename_i hall
  subst h
  refine ⟨by simp, fun i j oi oj hij hi hj hc hce => ?_, fun k o' hk => ?_⟩
  · have hjl : j < l0.length := by
      rcases Nat.lt_or_ge j l0.length with h | h
      · exact h
      · rw [List.getElem?_eq_none h] at hj; simp at hj
    have := allBelow_get (allBelow_get hall hjl) hij
    rw [hi, hj] at this
    simp only [hce] at this
    rcases hc with hc | hc <;> (rw [hc] at this; exact this)
  · rw [List.getElem?_map, List.getElem?_zipIdx] at hk
    cases ho : l0[k]? with
    | none => rw [ho] at hk; simp at hk
    | some o =>
      rw [ho] at hk
      simp only [Option.map_some, Nat.zero_add, Option.some.injEq] at hk
      refine ⟨o, rfl, ?_⟩
      subst hk
      cases hc : o.op.cls <;> refine ⟨rfl, rfl, rfl, fun h1 => ?_, fun h1 => ?_⟩ <;> first | (simp at h1; done) | skip
      · intro i oi hi hoi hoc hb
        simp only [List.mem_filter]
        exact ⟨List.mem_range.2 hi, by rw [hoi]; simp [hoc, hb]⟩
      · intro i oi hi hoi hoc hb
        simp only [List.mem_filter]
        exact ⟨List.mem_range.2 hi, by rw [hoi]; simp [hoc, hb]⟩

theorem reg_of {P : Program} {ps : List Nat} {nt : Nat} {ops : Array Oper} {l : List AOper} (htr : trRegion P ps nt ops true = some l) :
    P.follows .mixedOrders = true ∧ ∃ b, Reg P ps nt ops l b := by
  unfold trRegion at htr
  split at htr
  · simp at htr
  rename_i l0 hl0
  simp only [if_true] at htr
  split at htr
  · rename_i hc
    simp only [Bool.and_eq_true] at hc
    obtain ⟨⟨⟨hback, hedge⟩, hopd⟩, hmix⟩ := hc
    refine ⟨hmix, fun i j => ((ahead ops.toList []).getD j []).contains i, ?_⟩
    obtain ⟨hlen, hat⟩ := trOps_get (ops := ops.toList) ops.toList 0 [] hl0 rfl (by simp) (by simp)
    obtain ⟨d1, d2, d3⟩ := drawn_get htr
    have hop : ∀ (k : Nat) (lo : AOper), l[k]? = some lo → ∃ lo0 : AOper, l0[k]? = some lo0 ∧ lo.op = lo0.op ∧ lo.dst = lo0.dst ∧ lo.guard = lo0.guard := by
      intro k lo hk
      obtain ⟨o, h1, h2, h3, h4, _⟩ := d3 k lo hk
      exact ⟨o, h1, h2, h3, h4⟩
    have hlt : ∀ {k : Nat} {lo : AOper}, l0[k]? = some lo → k < l0.length := by
      intro k lo hk
      rcases Nat.lt_or_ge k l0.length with h | h
      · exact h
      · rw [List.getElem?_eq_none h] at hk; simp at hk
    refine ⟨by rw [d1, hlen]; simp, fun k lo hk => ?_, fun k o hk i hi => ?_, fun k o hk e he hb => by have := backOk_get ops.toList 0 hback k o (by simpa using hk) e (by simpa using he) hb; omega, fun k lo hk => ?_, fun i j li lj hij hi hj h1 h2 => ?_, fun i k li lk hik hi hk h1 h2 h3 => ?_, fun i k li lk hik hi hk h1 h2 h3 => ?_⟩
    · obtain ⟨lo0, h1, h2, h3, h4⟩ := hop k lo hk
      obtain ⟨o, ho, hA⟩ := hat k lo0 h1
      rw [Nat.zero_add] at ho hA
      exact ⟨o, by simpa using ho, ⟨by rw [h2]; exact hA.ex, by rw [h3]; exact hA.dst, by rw [h4]; exact hA.guard⟩⟩
    · have ho : ops.toList[k]? = some o := by simpa using hk
      have := (ahead_get ops.toList []).2 k o ho
      simp only [List.length_nil, Nat.zero_add] at this
      rw [List.contains_iff_mem] at hi
      obtain ⟨e, he, hb, h⟩ := this i hi
      have hek := backOk_get ops.toList 0 hback k o ho e he hb
      rw [Nat.zero_add] at hek
      have hmem : ∀ k, k ≤ ops.toList.length → ∀ i, i ∈ (ahead ops.toList []).getD k [] → k < ops.toList.length → i < k := by
        intro k
        induction k using Nat.strongRecOn with
        | _ k ih =>
          intro _ i hi hkl
          have hek0 : ops.toList[k]? = some ops.toList[k] := List.getElem?_eq_getElem hkl
          have hag := (ahead_get ops.toList []).2 k ops.toList[k] hek0
          simp only [List.length_nil, Nat.zero_add] at hag
          obtain ⟨e, he, hb, h⟩ := hag i hi
          have hek := backOk_get ops.toList 0 hback k ops.toList[k] hek0 e he hb
          rw [Nat.zero_add] at hek
          rcases h with h | ⟨h1, h2⟩
          · omega
          · have := ih e.on hek (by omega) i h2 (by omega); omega
      have hkl : k < ops.toList.length := by
        rcases Nat.lt_or_ge k ops.toList.length with h | h
        · exact h
        · rw [List.getElem?_eq_none h] at ho; simp at ho
      refine ⟨hmem k (by omega) i hi hkl, e, he, hb, ?_⟩
      rcases h with h | ⟨h1, h2⟩
      · exact .inl h
      · exact .inr (by rw [List.contains_iff_mem]; exact h2)
    · obtain ⟨lo0, h1, h2, h3, h4⟩ := hop k lo hk
      have he := allBelow_get hedge (hlt h1)
      rw [h1] at he
      simp only [Bool.and_eq_true, List.all_eq_true] at he
      rw [List.all_eq_true] at hopd
      have hod := hopd lo0 (List.mem_of_getElem? h1)
      rw [List.all_eq_true] at hod
      rw [h2, h4]
      refine ⟨fun j hj => by have := he.1 _ hj; simpa using this, fun x hx => ⟨by have := hod _ hx; simpa [opdOk] using this, fun m lm hm hlm hd => ?_⟩, fun v hv => ?_, fun j t hg => ?_⟩
      · obtain ⟨lm0, q1, q2, q3, q4⟩ := hop m lm hlm
        have := allBelow_get (he.1 _ hx) (hlt q1)
        rw [q1] at this
        simp only [Bool.or_eq_true, beq_iff_eq, bne_iff_ne, ne_eq] at this
        rcases this with this | this | this
        · exact absurd this hm
        · exact absurd (q3 ▸ hd) this
        · exact this
      · have := hod _ hv
        cases v <;> simp_all [opdOk, AV.id]
      · have := he.2
        rw [hg] at this
        exact this
    · obtain ⟨li0, q1, q2, _⟩ := hop i li hi
      obtain ⟨lj0, r1, r2, _⟩ := hop j lj hj
      rw [q2] at h1; rw [r2] at h2
      exact d2 i j li0 lj0 hij q1 r1 h1 h2
    · obtain ⟨li0, q1, q2, _⟩ := hop i li hi
      obtain ⟨lk0, r1, r2, _, _, r5, _⟩ := d3 k lk hk
      rw [q2] at h1; rw [r2] at h2
      exact r5 h2 i li0 hik q1 h1 h3
    · obtain ⟨li0, q1, q2, _⟩ := hop i li hi
      obtain ⟨lk0, r1, r2, _, _, _, r6⟩ := d3 k lk hk
      rw [q2] at h1; rw [r2] at h2
      exact r6 h2 i li0 hik q1 h1 h3
  · simp at htr

/-- How many are not listed. -/
def unl (f : Nat → Bool) : Nat → Nat
  | 0 => 0
  | n + 1 => unl f n + if f n then 0 else 1

theorem unl_zero {f : Nat → Bool} : ∀ {n : Nat}, unl f n = 0 → ∀ j, j < n → f j = true
  | 0, _, j, hj => by omega
  | n + 1, h, j, hj => by
    simp only [unl] at h
    by_cases e : j = n
    · subst e
      cases hf : f j with
      | true => rfl
      | false => rw [hf] at h; simp at h
    · exact unl_zero (n := n) (by omega) j (by omega)

theorem unl_le {f : Nat → Bool} : ∀ (n : Nat), unl f n ≤ n
  | 0 => Nat.le_refl _
  | n + 1 => by
    simp only [unl]
    have := unl_le (f := f) n
    split <;> omega

theorem unl_congr {f g : Nat → Bool} : ∀ {n : Nat}, (∀ j, j < n → f j = g j) → unl f n = unl g n
  | 0, _ => rfl
  | n + 1, h => by
    simp only [unl]
    rw [unl_congr (n := n) fun j hj => h j (by omega), h n (by omega)]

theorem unl_step {f g : Nat → Bool} {k : Nat} (hk : f k = false) (hk' : g k = true) (h : ∀ j, j ≠ k → g j = f j) : ∀ {n : Nat}, k < n → unl g n + 1 = unl f n
  | 0, hn => by omega
  | n + 1, hn => by
    simp only [unl]
    by_cases e : k = n
    · subst e
      rw [hk, hk', unl_congr (f := g) (g := f) (n := k) fun j hj => h j (by omega)]
      simp
    · have := unl_step hk hk' h (n := n) (by omega)
      rw [h n (fun e2 => e e2.symm)]
      omega

theorem getB_of (G : Nat → Option Blk) (M i : Nat) : getB ((List.range M).map G) i = if i < M then G i else none := by
  unfold getB
  by_cases h : i < M
  · simp [h]
  · rw [List.getElem?_eq_none (by simp; omega), if_neg h]; rfl

/-- What changes a part of memory leaves the rest as it is. -/
theorem Ext.up {Φ Φ' : Phi} {G G1 G1' G' : Nat → Option Blk} {w w' : World} (S : Sim Φ G w) (hsub : ∀ i b, G1 i = some b → G i = some b)
    (E : Ext Φ G1 w Φ' G1' w') (S' : Sim Φ' G1' w') {n : Nat} (hG1 : ∀ i b, G1 i = some b → i < n)
    (hlo : ∀ i b, i < n → G' i = some b → G1' i = some b) (hhi : ∀ i b, n ≤ i → G' i = some b → G i = some b) :
    Sim Φ' G' w' ∧ Ext Φ G w Φ' G' w' := by
  have hnot : ∀ i b l, n ≤ i → G i = some b → Φ i = some l → ¬ Owned Φ G1 l.b := by
    rintro i b l hi hg hl ⟨j, bj, lj, q1, q2, q3, q4⟩
    have hj := hG1 j bj q1
    exact S.apart j i bj b lj l (by omega) (hsub j bj q1) hg q2 hl q3 q4
  refine ⟨⟨fun i b hi => ?_, fun i j bi bj li lj hne hi hj hli hlj hrw => ?_⟩, ⟨E.mono, E.os, E.tape, E.output, E.size, fun b hb hn => ?_, fun b hb => ?_, fun j blk l hj hl hr => ?_⟩⟩
  · rcases Nat.lt_or_ge i n with h | h
    · exact S'.ok i b (hlo i b h hi)
    · have hg := hhi i b h hi
      obtain ⟨l, hl, hok⟩ := S.ok i b hg
      exact ⟨l, E.mono _ _ hl, hok.keep E.mono E.size (E.frame _ hok.lt (hnot i b l h hg hl))⟩
  · have old : ∀ i b l, n ≤ i → G' i = some b → Φ' i = some l → G i = some b ∧ Φ i = some l := by
      intro i b l h hg hl
      have hg' := hhi i b h hg
      obtain ⟨l', hl', _⟩ := S.ok i b hg'
      have := E.mono _ _ hl'
      rw [hl] at this; simp only [Option.some.injEq] at this; subst this
      exact ⟨hg', hl'⟩
    have mix : ∀ i j bi bj li lj, i < n → n ≤ j → G' i = some bi → G' j = some bj → Φ' i = some li → Φ' j = some lj → li.rw = true → li.b ≠ lj.b := by
      intro i j bi bj li lj hi' hj' hi hj hli hlj hrw
      obtain ⟨q1, q2⟩ := old j bj lj hj' hj hlj
      obtain ⟨l', hl', hok⟩ := S.ok j bj q1
      rw [q2] at hl'; simp only [Option.some.injEq] at hl'; subst hl'
      have hlt := hok.lt
      rcases E.own li.b ⟨i, bi, li, hlo i bi hi' hi, hli, hrw, rfl⟩ with ⟨k, bk, lk, r1, r2, r3, r4⟩ | h
      · rw [← r4]
        have hk := hG1 k bk r1
        exact S.apart k j bk bj lk lj (by omega) (hsub k bk r1) q1 r2 q2 r3
      · omega
    rcases Nat.lt_or_ge i n with h | h <;> rcases Nat.lt_or_ge j n with h' | h'
    · exact S'.apart i j bi bj li lj hne (hlo i bi h hi) (hlo j bj h' hj) hli hlj hrw
    · exact mix i j bi bj li lj h h' hi hj hli hlj hrw
    · cases hrj : lj.rw with
      | true => exact fun e => mix j i bj bi lj li h' h hj hi hlj hli hrj e.symm
      | false =>
        obtain ⟨q1, q2⟩ := old i bi li h hi hli
        obtain ⟨r1, bj', r2⟩ := E.ro j bj lj (hlo j bj h' hj) hlj hrj
        exact S.apart i j bi bj' li lj hne q1 (hsub j bj' r2) q2 r1 hrw
    · obtain ⟨q1, q2⟩ := old i bi li h hi hli
      obtain ⟨r1, r2⟩ := old j bj lj h' hj hlj
      exact S.apart i j bi bj li lj hne q1 r1 q2 r2 hrw
  · exact E.frame b hb fun ⟨j, bj, lj, q1, q2, q3, q4⟩ => hn ⟨j, bj, lj, hsub j bj q1, q2, q3, q4⟩
  · obtain ⟨i, bi, li, h1, h2, h3, h4⟩ := hb
    rcases Nat.lt_or_ge i n with h | h
    · rcases E.own b ⟨i, bi, li, hlo i bi h h1, h2, h3, h4⟩ with ⟨k, bk, lk, r1, r2, r3, r4⟩ | h
      · exact .inl ⟨k, bk, lk, hsub k bk r1, r2, r3, r4⟩
      · exact .inr h
    · have hg := hhi i bi h h1
      obtain ⟨l', hl', _⟩ := S.ok i bi hg
      have := E.mono _ _ hl'
      rw [h2] at this; simp only [Option.some.injEq] at this; subst this
      exact .inl ⟨i, bi, li, hg, hl', h3, h4⟩
  · rcases Nat.lt_or_ge j n with h | h
    · obtain ⟨q1, b', q2⟩ := E.ro j blk l (hlo j blk h hj) hl hr
      exact ⟨q1, b', hsub j b' q2⟩
    · have hg := hhi j blk h hj
      obtain ⟨l', hl', _⟩ := S.ok j blk hg
      have := E.mono _ _ hl'
      rw [hl] at this; simp only [Option.some.injEq] at this; subst this
      exact ⟨hl', blk, hg⟩

end Go.Am
