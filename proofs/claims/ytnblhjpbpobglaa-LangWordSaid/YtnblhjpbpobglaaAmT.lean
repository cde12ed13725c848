/- Regions that draw their order: what a run tells of each operation. -/
import Derived.Test.YtnblhjpbpobglaaAmP
namespace Go.Am

def vs (V : Nat → AV) (k : Nat) : List AV := (List.range k).map V

theorem vs_get (V : Nat → AV) (k j : Nat) : (vs V k)[j]? = if j < k then some (V j) else none := by
  unfold vs
  by_cases h : j < k
  · simp [h]
  · rw [if_neg h, List.getElem?_eq_none (by simp; omega)]

theorem vs_succ (V : Nat → AV) (k : Nat) : vs V (k + 1) = vs V k ++ [V k] := by simp [vs, List.range_succ]

theorem vs_congr {V V' : Nat → AV} {k : Nat} (h : ∀ j, j < k → V j = V' j) : vs V k = vs V' k := by
  unfold vs
  exact List.map_congr_left fun j hj => h j (List.mem_range.1 hj)

/-- What a run tells of an operation. -/
def StepOk (call : CallT) (all : List AOper) (env : List AV) (V : Nat → AV) (Hs : Nat → AHeap) (k : Nat) (o : AOper) : Prop :=
  (wantedA (vs V k) o.guard = some false ∧ V k = .tup [] ∧ Hs (k + 1) = Hs k) ∨
  (wantedA (vs V k) o.guard = some true ∧ aOp call env (vs V k) (Hs k) o.op = some (V k, Hs (k + 1)) ∧
    (∀ i, i ∈ o.aft → sameAt all env (vs V k) (Hs (k + 1)) i = true) ∧ ∀ j, j ∈ o.bef → j < k ∧ aRead env (vs V k) (Hs j) o.op = some (V k))

theorem StepOk.congr {call : CallT} {all : List AOper} {env : List AV} {V V' : Nat → AV} {Hs Hs' : Nat → AHeap} {k : Nat} {o : AOper} (h : StepOk call all env V Hs k o)
    (hV : ∀ j, j ≤ k → V' j = V j) (hH : ∀ j, j ≤ k + 1 → Hs' j = Hs j) : StepOk call all env V' Hs' k o := by
  have e1 : vs V' k = vs V k := vs_congr fun j hj => hV j (by omega)
  unfold StepOk at *
  rw [e1, hV k (Nat.le_refl _), hH k (by omega), hH (k + 1) (Nat.le_refl _)]
  rcases h with h | ⟨h1, h2, h3, h4⟩
  · exact .inl h
  · refine .inr ⟨h1, h2, h3, fun j hj => ?_⟩
    obtain ⟨h5, h6⟩ := h4 j hj
    exact ⟨h5, by rw [hH j (by omega)]; exact h6⟩

theorem runOps_rec {call : CallT} {all : List AOper} {env : List AV} : ∀ (rest : List AOper) (n : Nat) (V0 : Nat → AV) (Hs0 : Nat → AHeap) (env' : List AV) {envF : List AV} {HF : AHeap},
    runOps call all env rest (vs V0 n) ((List.range n).map Hs0) env' (Hs0 n) = some (envF, HF) →
    ∃ V Hs, (∀ j, j < n → V j = V0 j) ∧ (∀ j, j ≤ n → Hs j = Hs0 j) ∧ Hs (n + rest.length) = HF ∧
      (∀ m o, rest[m]? = some o → StepOk call all env V Hs (n + m) o) ∧
      (∀ x e, envF[x]? = some e → (∃ m o, rest[m]? = some o ∧ o.dst = some x ∧ V (n + m) = e) ∨ (env'[x]? = some e ∧ ∀ (m : Nat) (o : AOper), rest[m]? = some o → o.dst ≠ some x))
  | [], n, V0, Hs0, env', envF, HF, h => by
    simp only [runOps, Option.some.injEq, Prod.mk.injEq] at h
    obtain ⟨rfl, rfl⟩ := h
    exact ⟨V0, Hs0, fun _ _ => rfl, fun _ _ => rfl, by simp, by simp, fun x e hx => .inr ⟨hx, by simp⟩⟩
  | o :: r, n, V0, Hs0, env', envF, HF, h => by
    -- what the operation yields
    have key : ∀ (v : AV) (H1 : AHeap), (∀ V Hs, (∀ j, j < n → V j = V0 j) → V n = v → (∀ j, j ≤ n → Hs j = Hs0 j) → Hs (n + 1) = H1 → StepOk call all env V Hs n o) →
        runOps call all env r (vs V0 n ++ [v]) ((List.range n).map Hs0 ++ [Hs0 n]) (put env' o.dst v) H1 = some (envF, HF) →
        ∃ V Hs, (∀ j, j < n → V j = V0 j) ∧ (∀ j, j ≤ n → Hs j = Hs0 j) ∧ Hs (n + (o :: r).length) = HF ∧
          (∀ m o', (o :: r)[m]? = some o' → StepOk call all env V Hs (n + m) o') ∧
          (∀ x e, envF[x]? = some e → (∃ m o', (o :: r)[m]? = some o' ∧ o'.dst = some x ∧ V (n + m) = e) ∨ (env'[x]? = some e ∧ ∀ (m : Nat) (o' : AOper), (o :: r)[m]? = some o' → o'.dst ≠ some x)) := by
      intro v H1 hst hr
      let V1 : Nat → AV := fun j => if j = n then v else V0 j
      let Hs1 : Nat → AHeap := fun j => if j = n + 1 then H1 else Hs0 j
      have e1 : vs V0 n ++ [v] = vs V1 (n + 1) := by
        rw [vs_succ]
        rw [vs_congr (V := V1) (V' := V0) (fun j hj => by simp only [V1]; rw [if_neg (by omega)])]
        simp [V1]
      have e2 : (List.range n).map Hs0 ++ [Hs0 n] = (List.range (n + 1)).map Hs1 := by
        rw [List.range_succ, List.map_append]
        congr 1
        · exact List.map_congr_left fun j hj => by
            have := List.mem_range.1 hj
            simp only [Hs1]; rw [if_neg (by omega)]
        · simp [Hs1]
      have e3 : H1 = Hs1 (n + 1) := by simp [Hs1]
      rw [e1, e2] at hr
      conv at hr => lhs; rw [e3]
      obtain ⟨V, Hs, h1, h2, h3, h4, h5⟩ := runOps_rec r (n + 1) V1 Hs1 _ hr
      have hV : ∀ j, j < n → V j = V0 j := fun j hj => by rw [h1 j (by omega)]; simp only [V1]; rw [if_neg (by omega)]
      have hVn : V n = v := by rw [h1 n (by omega)]; simp [V1]
      have hH : ∀ j, j ≤ n → Hs j = Hs0 j := fun j hj => by rw [h2 j (by omega)]; simp only [Hs1]; rw [if_neg (by omega)]
      have hHn : Hs (n + 1) = H1 := by rw [h2 (n + 1) (Nat.le_refl _)]; simp [Hs1]
      refine ⟨V, Hs, hV, hH, ?_, fun m o' hm => ?_, fun x e hx => ?_⟩
      · rw [← h3]; congr 1; simp; omega
      · cases m with
        | zero => simp at hm; subst hm; exact hst V Hs hV hVn hH hHn
        | succ m =>
          have := h4 m o' (by simpa using hm)
          rw [show n + (m + 1) = n + 1 + m by omega]; exact this
      · rcases h5 x e hx with ⟨m, o', q1, q2, q3⟩ | ⟨q1, q2⟩
        · exact .inl ⟨m + 1, o', by simpa using q1, q2, by rw [show n + (m + 1) = n + 1 + m by omega]; exact q3⟩
        · cases hd : o.dst with
          | none =>
            rw [hd] at q1
            refine .inr ⟨q1, fun m o' hm => ?_⟩
            cases m with
            | zero => simp at hm; subst hm; rw [hd]; simp
            | succ m => exact q2 m o' (by simpa using hm)
          | some y =>
            rw [hd] at q1
            simp only [put] at q1
            by_cases exy : y = x
            · subst exy
              refine .inl ⟨0, o, rfl, hd, ?_⟩
              have hlt : y < env'.length := by
                rcases Nat.lt_or_ge y env'.length with h | h
                · exact h
                · rw [List.getElem?_eq_none (by simp; omega)] at q1; simp at q1
              rw [List.getElem?_set_self hlt] at q1
              simp only [Option.some.injEq] at q1
              rw [Nat.add_zero, hVn]; exact q1
            · rw [List.getElem?_set_ne exy] at q1
              refine .inr ⟨q1, fun m o' hm => ?_⟩
              cases m with
              | zero => simp at hm; subst hm; rw [hd]; simpa using exy
              | succ m => exact q2 m o' (by simpa using hm)
    simp only [runOps] at h
    split at h
    · simp at h
    · rename_i hw
      refine key (.tup []) (Hs0 n) (fun V Hs hV hVn hH hHn => .inl ⟨?_, hVn, by rw [hHn, hH n (Nat.le_refl _)]⟩) h
      rw [vs_congr hV]; exact hw
    · rename_i hw
      split at h
      · simp at h
      · rename_i v H1 hop
        split at h
        · rename_i hc
          simp only [Bool.and_eq_true, List.all_eq_true] at hc
          refine key v H1 (fun V Hs hV hVn hH hHn => .inr ⟨?_, ?_, fun i hi => ?_, fun j hj => ?_⟩) h
          · rw [vs_congr hV]; exact hw
          · rw [vs_congr hV, hVn, hHn, hH n (Nat.le_refl _)]; exact hop
          · rw [vs_congr hV, hHn]; exact hc.1 i hi
          · have := hc.2 j hj
            by_cases hjn : j < n
            · have e : ((List.range n).map Hs0)[j]? = some (Hs0 j) := by simp [hjn]
              rw [e] at this
              simp only at this
              split at this
              · rename_i u hu
                refine ⟨hjn, ?_⟩
                rw [vs_congr hV, hVn, hH j (by omega), hu, AV.same_eq _ _ this]
              · simp at this
            · rw [List.getElem?_eq_none (by simp; omega)] at this
              simp at this
        · simp at h

theorem trOps_cons {P : Program} {ps : List Nat} {nt : Nat} {o : Oper} {rest : List Oper} {k : Nat} {tm : List (Nat × Nat)} {lr : List AOper} (htr : trOps P ps nt (o :: rest) k tm = some lr) :
    ∃ ao, trOp ⟨P, ps, tm⟩ o.op = some ao ∧ (∀ j t, o.guard = some (j, t) → ∃ p, p ∈ tm ∧ p.2 = j) ∧
        (∀ d, o.dst = some d → tm.lookup d = none ∧ d < nt) ∧
        ∃ l, trOps P ps nt rest (k + 1) (match o.dst with | some d => (d, k) :: tm | none => tm) = some l ∧
          lr = { op := ao, dst := (match o.dst with | some d => ps.idxOf? d | none => none), guard := o.guard } :: l := by
  simp only [trOps] at htr
  split at htr
  · simp at htr
  rename_i ao hao
  refine ⟨ao, hao, ?_⟩
  cases hg : o.guard with
  | none =>
    rw [hg] at htr
    simp only at htr
    cases hd : o.dst with
    | none =>
      rw [hd] at htr
      simp only at htr
      split at htr <;> simp only [Option.some.injEq, reduceCtorEq] at htr
      rename_i l hl
      exact ⟨by simp, by simp, l, hl, htr.symm⟩
    | some d =>
      rw [hd] at htr
      simp only at htr
      split at htr
      · simp at htr
      · rename_i hcond
        simp only [Bool.or_eq_true, decide_eq_true_eq, not_or, Option.isSome_iff_ne_none, ne_eq, Decidable.not_not, Nat.not_le] at hcond
        split at htr <;> simp only [Option.some.injEq, reduceCtorEq] at htr
        rename_i l hl
        exact ⟨by simp, fun d' hd' => by simp only [Option.some.injEq] at hd'; subst hd'; exact hcond, l, hl, htr.symm⟩
  | some q =>
    obtain ⟨j, t⟩ := q
    rw [hg] at htr
    simp only at htr
    by_cases hany : tm.any (fun p => p.2 == j) = true
    · rw [if_pos hany] at htr
      have hin : ∃ p, p ∈ tm ∧ p.2 = j := by
        rw [List.any_eq_true] at hany
        obtain ⟨p, h1, h2⟩ := hany
        exact ⟨p, h1, by simpa using h2⟩
      cases hd : o.dst with
      | none =>
        rw [hd] at htr
        simp only at htr
        split at htr <;> simp only [Option.some.injEq, reduceCtorEq] at htr
        rename_i l hl
        exact ⟨fun j' t' e => by simp only [Option.some.injEq, Prod.mk.injEq] at e; rw [← e.1]; exact hin, by simp, l, hl, htr.symm⟩
      | some d =>
        rw [hd] at htr
        simp only at htr
        split at htr
        · simp at htr
        · rename_i hcond
          simp only [Bool.or_eq_true, decide_eq_true_eq, not_or, Option.isSome_iff_ne_none, ne_eq, Decidable.not_not, Nat.not_le] at hcond
          split at htr <;> simp only [Option.some.injEq, reduceCtorEq] at htr
          rename_i l hl
          exact ⟨fun j' t' e => by simp only [Option.some.injEq, Prod.mk.injEq] at e; rw [← e.1]; exact hin,
            fun d' hd' => by simp only [Option.some.injEq] at hd'; subst hd'; exact hcond, l, hl, htr.symm⟩
    · rw [if_neg hany] at htr
      simp at htr

/-- Each operation of a region, by itself. -/
structure OpAt (P : Program) (ps : List Nat) (nt : Nat) (ops : List Oper) (m : Nat) (o : Oper) (lo : AOper) : Prop where
  ex : ∃ tm, trOp ⟨P, ps, tm⟩ o.op = some lo.op ∧ (∀ d, o.dst = some d → tm.lookup d = none ∧ d < nt) ∧ (∀ j t, o.guard = some (j, t) → ∃ p, p ∈ tm ∧ p.2 = j) ∧
    (∀ p, p ∈ tm → ∃ o', p.2 < m ∧ ops[p.2]? = some o' ∧ o'.dst = some p.1) ∧
    (∀ d, tm.lookup d = none → ∀ j o', j < m → ops[j]? = some o' → o'.dst ≠ some d)
  dst : lo.dst = (match o.dst with | some d => ps.idxOf? d | none => none)
  guard : lo.guard = o.guard

theorem trOps_get {P : Program} {ps : List Nat} {nt : Nat} {ops : List Oper} : ∀ (rest : List Oper) (k : Nat) (tm : List (Nat × Nat)) {l : List AOper},
    trOps P ps nt rest k tm = some l → ops.drop k = rest →
    (∀ p, p ∈ tm → ∃ o', p.2 < k ∧ ops[p.2]? = some o' ∧ o'.dst = some p.1) → (∀ d, tm.lookup d = none → ∀ j o', j < k → ops[j]? = some o' → o'.dst ≠ some d) →
    l.length = rest.length ∧ ∀ m lo, l[m]? = some lo → ∃ o, ops[k + m]? = some o ∧ OpAt P ps nt ops (k + m) o lo
  | [], k, tm, l, h, _, _, _ => by
    simp only [trOps, Option.some.injEq] at h; subst h
    exact ⟨rfl, by simp⟩
  | o :: rest, k, tm, l, h, hdrop, h1, h2 => by
    obtain ⟨ao, hao, hg, hd, l', hl', rfl⟩ := trOps_cons h
    have ho : ops[k]? = some o := by
      have : (ops.drop k)[0]? = some o := by rw [hdrop]; rfl
      rw [List.getElem?_drop] at this
      simpa using this
    have hdrop' : ops.drop (k + 1) = rest := by
      have : (ops.drop k).drop 1 = rest := by rw [hdrop]; rfl
      rw [List.drop_drop] at this
      simpa using this
    obtain ⟨q1, q2⟩ := trOps_get rest (k + 1) _ hl' hdrop' (fun p hp => by
        cases hdst : o.dst with
        | none =>
          rw [hdst] at hp
          obtain ⟨o', r1, r2, r3⟩ := h1 p hp
          exact ⟨o', by omega, r2, r3⟩
        | some d =>
          rw [hdst] at hp
          simp only [List.mem_cons] at hp
          rcases hp with rfl | hp
          · exact ⟨o, by simp, ho, hdst⟩
          · obtain ⟨o', r1, r2, r3⟩ := h1 p hp
            exact ⟨o', by omega, r2, r3⟩)
      (fun e he j o' hj ho' => by
        have key : tm.lookup e = none ∧ o.dst ≠ some e := by
          cases hdst : o.dst with
          | none => rw [hdst] at he; exact ⟨he, by simp⟩
          | some d =>
            rw [hdst] at he
            simp only [List.lookup_cons] at he
            split at he
            · simp at he
            · rename_i hne; exact ⟨he, by simp only [ne_eq, Option.some.injEq]; intro e2; subst e2; simp at hne⟩
        by_cases hjk : j = k
        · subst hjk; rw [ho] at ho'; simp only [Option.some.injEq] at ho'; subst ho'; exact key.2
        · exact h2 e key.1 j o' (by omega) ho')
    refine ⟨by simp [q1], fun m lo hm => ?_⟩
    cases m with
    | zero =>
      simp at hm; subst hm
      exact ⟨o, ho, ⟨⟨tm, hao, hd, hg, h1, h2⟩, rfl, rfl⟩⟩
    | succ m =>
      obtain ⟨o', r1, r2⟩ := q2 m lo (by simpa using hm)
      rw [show k + (m + 1) = k + 1 + m by omega]
      exact ⟨o', r1, r2⟩

theorem ahead_get : ∀ (rest : List Oper) (acc : List (List Nat)), (∀ j, j < acc.length → (ahead rest acc).getD j [] = acc.getD j []) ∧
    ∀ m o, rest[m]? = some o → (∀ i, i ∈ (ahead rest acc).getD (acc.length + m) [] → ∃ e, e ∈ o.after.toList ∧ Region.binds .any e = true ∧ (i = e.on ∨ (e.on < acc.length + m ∧ i ∈ (ahead rest acc).getD e.on [])))
  | [], acc => ⟨fun _ _ => rfl, by simp⟩
  | o :: r, acc => by
    simp only [ahead]
    obtain ⟨h1, h2⟩ := ahead_get r (acc ++ [(o.after.toList.flatMap fun e => if Region.binds .any e then e.on :: acc.getD e.on [] else []).eraseDups])
    have h1' : ∀ j, j < acc.length → (ahead r (acc ++ [(o.after.toList.flatMap fun e => if Region.binds .any e then e.on :: acc.getD e.on [] else []).eraseDups])).getD j [] = acc.getD j [] := by
      intro j hj
      rw [h1 j (by simp; omega)]
      simp only [List.getD_eq_getElem?_getD]
      rw [List.getElem?_append_left hj]
    refine ⟨h1', fun m o' hm i hi => ?_⟩
    cases m with
    | zero =>
      simp at hm; subst hm
      rw [Nat.add_zero, h1 _ (by simp)] at hi
      have e : (acc ++ [(o.after.toList.flatMap fun e => if Region.binds .any e then e.on :: acc.getD e.on [] else []).eraseDups]).getD acc.length [] =
          (o.after.toList.flatMap fun e => if Region.binds .any e then e.on :: acc.getD e.on [] else []).eraseDups := by
        simp [List.getD_eq_getElem?_getD]
      rw [e, List.mem_eraseDups, List.mem_flatMap] at hi
      obtain ⟨ed, hed, hi⟩ := hi
      split at hi
      · rename_i hb
        refine ⟨ed, hed, hb, ?_⟩
        simp only [List.mem_cons] at hi
        rcases hi with hi | hi
        · exact .inl hi
        · have hlt : ed.on < acc.length := by
            rcases Nat.lt_or_ge ed.on acc.length with h | h
            · exact h
            · rw [List.getD_eq_getElem?_getD, List.getElem?_eq_none h] at hi; simp at hi
          exact .inr ⟨by omega, by rw [h1' _ hlt]; exact hi⟩
      · simp at hi
    | succ m =>
      have := h2 m o' (by simpa using hm) i (by simpa [Nat.add_assoc, Nat.add_comm 1 m] using hi)
      simpa [Nat.add_assoc, Nat.add_comm 1 m] using this

theorem backOk_get : ∀ (rest : List Oper) (i : Nat), backOk rest i = true → ∀ m o, rest[m]? = some o → ∀ e, e ∈ o.after.toList → Region.binds .any e = true → e.on < i + m
  | [], _, _ => by simp
  | o :: r, i, h => by
    simp only [backOk, Bool.and_eq_true, List.all_eq_true, Bool.or_eq_true, Bool.not_eq_true', decide_eq_true_eq] at h
    intro m o' hm e he hb
    cases m with
    | zero =>
      simp at hm; subst hm
      rcases h.1 e he with h1 | h1
      · rw [hb] at h1; simp at h1
      · omega
    | succ m =>
      have := backOk_get r (i + 1) h.2 m o' (by simpa using hm) e he hb
      omega

/-- What an operand shows of the heap. -/
def AV.id : AV → Option Nat
  | .ptr i _ | .sl i _ _ | .map i => some i
  | _ => none

theorem R.id {Φ : Phi} {v : AV} {x : Value} (h : R Φ v x) {i : Nat} (hi : v.id = some i) : ∃ l, Φ i = some l := by
  cases v <;> simp only [AV.id, Option.some.injEq, reduceCtorEq] at hi <;> subst hi <;> simp only [R] at h
  · obtain ⟨l, h, _⟩ := h; exact ⟨l, h⟩
  · obtain ⟨l, _, _, h, _⟩ := h; exact ⟨l, h⟩
  · obtain ⟨l, h, _⟩ := h; exact ⟨l, h⟩

theorem loadA_more {H H' : AHeap} {i o n : Nat} {cs : List AV} (hm : ∀ b, getB H i = some b → getB H' i = some b) (h : loadA H i o n = some cs) : loadA H' i o n = some cs := by
  unfold loadA at h ⊢
  cases hb : getB H i with
  | none => rw [hb] at h; simp at h
  | some b => rw [hm b hb]; rw [hb] at h; exact h

theorem aRead_more {env vals : List AV} {H H' : AHeap} {o : AOp} {v : AV} (hm : ∀ x u i b, x ∈ o.opds → aval env vals x = some u → u.id = some i → getB H i = some b → getB H' i = some b)
    (h : aRead env vals H o = some v) : aRead env vals H' o = some v := by
  cases o <;> simp only [aRead, reduceCtorEq] at h ⊢
  case load n agg a =>
    cases ha : aval env vals a with
    | none => rw [ha] at h; simp at h
    | some u =>
      rw [ha] at h
      cases u <;> simp only [reduceCtorEq] at h ⊢
      rename_i i o
      cases hl : loadA H i o n with
      | none => rw [hl] at h; simp at h
      | some cs =>
        rw [hl] at h
        rw [loadA_more (fun b => hm a _ i b (by simp [AOp.opds]) ha rfl) hl]
        exact h
  case lookup kk z m k ok =>
    cases ha : aval env vals m with
    | none => rw [ha] at h; simp at h
    | some u =>
      rw [ha] at h
      cases hk : aval env vals k with
      | none => rw [hk] at h; simp at h
      | some kv =>
        rw [hk] at h
        cases u with
        | map i =>
          simp only at h ⊢
          cases hb : getB H i with
          | none => rw [hb] at h; simp at h
          | some b =>
            rw [hm m _ i b (by simp [AOp.opds]) ha rfl hb]
            rw [hb] at h
            exact h
        | _ => exact h
  case bytes2str x =>
    cases ha : aval env vals x with
    | none => rw [ha] at h; simp at h
    | some u =>
      rw [ha] at h
      cases u with
      | sl i o n =>
        simp only at h ⊢
        cases hl : loadA H i o n with
        | none => rw [hl] at h; simp at h
        | some cs =>
          rw [hl] at h
          rw [loadA_more (fun b => hm x _ i b (by simp [AOp.opds]) ha rfl) hl]
          exact h
      | _ => exact h
  case slsl sz x lo hi mx =>
    split at h
    · rename_i u l h' m e1 e2 e3 e4
      split at h
      · rename_i hs
        rw [if_pos]
        · exact h
        · cases u with
          | sl i o n =>
            simp only [szOk] at hs ⊢
            cases hb : getB H i with
            | none => rw [hb] at hs; simp at hs
            | some b =>
              rw [hm x _ i b (by simp [AOp.opds]) e1 rfl hb]
              rw [hb] at hs
              exact hs
          | _ => rfl
      · simp at h
    · simp at h
  case lenM x =>
    cases ha : aval env vals x with
    | none => rw [ha] at h; simp at h
    | some u =>
      rw [ha] at h
      cases u with
      | map i =>
        simp only at h ⊢
        cases hb : getB H i with
        | none => rw [hb] at h; simp at h
        | some b =>
          rw [hm x _ i b (by simp [AOp.opds]) ha rfl hb]
          rw [hb] at h
          exact h
      | _ => exact h

section
variable {env vals env' vals' : List AV}

theorem avals_congr : ∀ {xs : List Opd}, (∀ x, x ∈ xs → aval env vals x = aval env' vals' x) → avals env vals xs = avals env' vals' xs
  | [], _ => rfl
  | x :: r, h => by
    simp only [avals]
    rw [h x (by simp), avals_congr (xs := r) fun y hy => h y (by simp [hy])]

theorem aparts_congr : ∀ {xs : List (Nat × Nat × Opd)}, (∀ x, x ∈ xs.map (·.2.2) → aval env vals x = aval env' vals' x) → aparts env vals xs = aparts env' vals' xs
  | [], _ => rfl
  | (o, n, x) :: r, h => by
    simp only [aparts]
    rw [h x (by simp), aparts_congr (xs := r) fun y hy => h y (by simp only [List.map_cons, List.mem_cons]; exact .inr hy)]

theorem aopt_congr {x : Option Opd} (h : ∀ y, y ∈ x.toList → aval env vals y = aval env' vals' y) : aopt env vals x = aopt env' vals' x := by
  cases x with
  | none => rfl
  | some y => simp only [aopt]; rw [h y (by simp)]

theorem aPure_congr {o : AOp} (h : ∀ x, x ∈ o.opds → aval env vals x = aval env' vals' x) : aPure env vals o = aPure env' vals' o := by
  cases o <;> simp only [AOp.opds] at h <;> simp only [aPure]
  case pick c a b =>
    rw [h c (by simp)]
    split
    · rename_i t _; cases t <;> simp <;> apply h <;> simp
    · rfl
  case build z ps => rw [aparts_congr h]
  case func f a b => rw [avals_congr fun x hx => h x (List.mem_append_left _ hx), avals_congr fun x hx => h x (List.mem_append_right _ hx)]
  case slstr x l hh =>
    rw [h x (by simp), aopt_congr (x := l) fun y hy => h y (by simp only [List.mem_cons, List.mem_append]; exact .inr (.inl hy)), aopt_congr (x := hh) fun y hy => h y (by simp only [List.mem_cons, List.mem_append]; exact .inr (.inr hy))]
  all_goals first
    | (rename_i x y; rw [h x (by simp), h y (by simp)]; done)
    | (rename_i x; rw [h x (by simp)]; done)

theorem aRead_congr {H : AHeap} {o : AOp} (h : ∀ x, x ∈ o.opds → aval env vals x = aval env' vals' x) : aRead env vals H o = aRead env' vals' H o := by
  cases o <;> simp only [AOp.opds] at h <;> simp only [aRead]
  case lookup kk z m k ok => rw [h m (by simp), h k (by simp)]
  case slsl sz x l hh m =>
    rw [h x (by simp), aopt_congr (x := l) fun y hy => h y (by simp only [List.mem_cons, List.mem_append]; exact .inr (.inl (.inl hy))),
      aopt_congr (x := hh) fun y hy => h y (by simp only [List.mem_cons, List.mem_append]; exact .inr (.inl (.inr hy))),
      aopt_congr (x := m) fun y hy => h y (by simp only [List.mem_cons, List.mem_append]; exact .inr (.inr hy))]
  all_goals (rename_i x; rw [h x (by simp)])

theorem aNew_congr {o : AOp} (h : ∀ x, x ∈ o.opds → aval env vals x = aval env' vals' x) : aNew env vals o = aNew env' vals' o := by
  cases o <;> simp only [AOp.opds] at h <;> simp only [aNew]
  case mkslice sz n z ps => rw [aparts_congr h]
  case make sz b z l c => rw [h l (by simp), h c (by simp)]
  all_goals (rename_i x; rw [h x (by simp)])

theorem aEff_congr {call : CallT} {H : AHeap} {o : AOp} (h : ∀ x, x ∈ o.opds → aval env vals x = aval env' vals' x) : aEff call env vals H o = aEff call env' vals' H o := by
  cases o <;> simp only [AOp.opds] at h <;> simp only [aEff]
  case call f xs => rw [avals_congr h]
  case callv f xs => rw [h f (by simp), avals_congr (xs := xs) fun y hy => h y (by simp [hy])]
  case mapset kk m k v => rw [h m (by simp), h k (by simp), h v (by simp)]
  all_goals first
    | (rename_i x y; rw [h x (by simp), h y (by simp)]; done)
    | (rename_i x; rw [h x (by simp)]; done)

theorem aOp_congr {call : CallT} {H : AHeap} {o : AOp} (h : ∀ x, x ∈ o.opds → aval env vals x = aval env' vals' x) : aOp call env vals H o = aOp call env' vals' H o := by
  unfold aOp
  rw [aPure_congr h, aRead_congr h, aNew_congr h, aEff_congr h]
end
end Go.Am
