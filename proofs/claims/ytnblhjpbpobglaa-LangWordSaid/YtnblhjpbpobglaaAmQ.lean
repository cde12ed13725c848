/- A region that draws its order: what compact code says is what the machine does. -/
import Derived.Test.YtnblhjpbpobglaaAmU
namespace Go.Am

theorem lookup_mem {t j : Nat} : ∀ {tm : List (Nat × Nat)}, tm.lookup t = some j → (t, j) ∈ tm
  | [], h => by simp at h
  | q :: r, h => by
    rw [List.lookup_cons] at h
    split at h
    · rename_i he
      simp only [Option.some.injEq] at h
      have : t = q.1 := by simpa using he
      subst this; subst h
      simp
    · exact List.mem_cons_of_mem _ (lookup_mem h)

theorem undef_R (Φ : Phi) : R Φ (.tup []) undef := by simp only [R]; exact ⟨[], rfl, by simp only [Rs]⟩

/-- Is an operation carried out: as the machine asks it. -/
theorem wanted_at {ops : Array Oper} {tmps : Array Value} {Φ : Phi} {o : Oper} {vals : List AV} {b : Bool} (hw : wantedA vals o.guard = some b)
    (h : ∀ j t, o.guard = some (j, t) → ∃ d v, ((ops[j]?).bind (·.dst)) = some d ∧ vals[j]? = some v ∧ R Φ v (tmps.getD d undef)) : Region.wanted o (yielded ops tmps) = b := by
  unfold wantedA at hw
  unfold Region.wanted
  cases hg : o.guard with
  | none => rw [hg] at hw; simp at hw; subst hw; rfl
  | some q =>
    obtain ⟨j, t⟩ := q
    rw [hg] at hw
    obtain ⟨d, v, h1, h2, h3⟩ := h j t hg
    simp only at hw ⊢
    rw [h2] at hw
    have hy : ∀ r : Option Bool, (∀ hlt : d < tmps.size, (match tmps[d] with | .bool b => some b | _ => none) = r) → (tmps.size ≤ d → none = r) → yielded ops tmps j = r := by
      intro r h4 h5
      unfold yielded
      rw [h1]
      simp only [Option.bind_some]
      rcases Nat.lt_or_ge d tmps.size with h | h
      · rw [Array.getElem?_eq_getElem h]
        have h6 := h4 h
        revert h6
        generalize tmps[d] = z
        intro h6
        cases z <;> exact h6
      · rw [Array.getElem?_eq_none h]
        exact h5 h
    split at hw <;> simp only [Option.some.injEq, reduceCtorEq] at hw
    · rename_i b' hb'
      simp only [Option.some.injEq] at hb'; subst hb'
      simp only [R] at h3
      rw [hy (some b') (fun hlt => by
        rw [Array.getD_eq_getD_getElem?, Array.getElem?_eq_getElem hlt] at h3
        simp only [Option.getD_some] at h3
        rw [h3]) (fun hlt => by
        rw [Array.getD_eq_getD_getElem?, Array.getElem?_eq_none hlt] at h3
        simp [undef] at h3), ← hw]
      simp
    · rename_i hb'
      simp only [Option.some.injEq] at hb'; subst hb'
      simp only [R] at h3
      obtain ⟨xs, h3, _⟩ := h3
      rw [hy none (fun hlt => by
        rw [Array.getD_eq_getD_getElem?, Array.getElem?_eq_getElem hlt] at h3
        simp only [Option.getD_some] at h3
        rw [h3]) (fun _ => rfl), ← hw]
      simp

section
variable {P : Program} {call : CallT} {ps : List Nat} {nt : Nat} {ops : Array Oper} {l : List AOper} {b : Nat → Nat → Bool} {env : List AV} {V : Nat → AV} {Hs : Nat → AHeap}

/-- An operation that made a block. -/
def Nw (l : List AOper) (V : Nat → AV) (Hs : Nat → AHeap) (k : Nat) (blk : Blk) : Prop :=
  ∃ lo, l[k]? = some lo ∧ lo.op.cls = .new ∧ wantedA (vs V k) lo.guard = some true ∧ Hs (k + 1) = Hs k ++ [some blk]

def EffRun (l : List AOper) (V : Nat → AV) (k : Nat) : Prop := ∃ lo, l[k]? = some lo ∧ lo.op.cls = .eff ∧ wantedA (vs V k) lo.guard = some true

theorem step_len (CS : CallSound P call) (hst : ∀ k lo, l[k]? = some lo → StepOk call l env V Hs k lo) {k : Nat} (hk : k < l.length) : (Hs k).length ≤ (Hs (k + 1)).length := by
  rcases hst k _ (List.getElem?_eq_getElem hk) with ⟨_, _, h⟩ | ⟨_, h, _⟩
  · rw [h]; exact Nat.le_refl _
  · exact op_len (c := ⟨P, [], []⟩) CS h

theorem steps_len (CS : CallSound P call) (hst : ∀ k lo, l[k]? = some lo → StepOk call l env V Hs k lo) {i j : Nat} (hij : i ≤ j) (hj : j ≤ l.length) : (Hs i).length ≤ (Hs j).length := by
  induction j with
  | zero => rw [show i = 0 by omega]; exact Nat.le_refl _
  | succ j ih =>
    by_cases e : i = j + 1
    · rw [e]; exact Nat.le_refl _
    · exact Nat.le_trans (ih (by omega) (by omega)) (step_len CS hst (by omega))

theorem Nw.lt {k : Nat} {blk : Blk} (h : Nw l V Hs k blk) : k < l.length := by
  obtain ⟨lo, h1, _⟩ := h
  rcases Nat.lt_or_ge k l.length with h | h
  · exact h
  · rw [List.getElem?_eq_none h] at h1; simp at h1

theorem Nw.inj (CS : CallSound P call) (hst : ∀ k lo, l[k]? = some lo → StepOk call l env V Hs k lo) {k k' : Nat} {b1 b2 : Blk} (h : Nw l V Hs k b1) (h' : Nw l V Hs k' b2)
    (e : (Hs k).length = (Hs k').length) : k = k' ∧ b1 = b2 := by
  have l1 := h.lt
  have l2 := h'.lt
  obtain ⟨lo, h1, h2, h3, h4⟩ := h
  obtain ⟨lo', q1, q2, q3, q4⟩ := h'
  have e1 : (Hs (k + 1)).length = (Hs k).length + 1 := by rw [h4]; simp
  have e2 : (Hs (k' + 1)).length = (Hs k').length + 1 := by rw [q4]; simp
  have ek : k = k' := by
    rcases Nat.lt_trichotomy k k' with h | h | h
    · have := steps_len CS hst (i := k + 1) (j := k') (by omega) (by omega); omega
    · exact h
    · have := steps_len CS hst (i := k' + 1) (j := k) (by omega) (by omega); omega
  subst ek
  rw [h4] at q4
  exact ⟨rfl, by simpa using q4⟩

theorem step_new (hst : ∀ k lo, l[k]? = some lo → StepOk call l env V Hs k lo) {k : Nat} {lo : AOper} (hk : l[k]? = some lo) (hc : lo.op.cls = .new) (hw : wantedA (vs V k) lo.guard = some true) :
    ∃ mk blk, aNew env (vs V k) lo.op = some (mk, blk) ∧ V k = mk (Hs k).length ∧ Hs (k + 1) = Hs k ++ [some blk] := by
  rcases hst k lo hk with ⟨h, _⟩ | ⟨_, h, _⟩
  · rw [hw] at h; simp at h
  · unfold aOp at h
    rw [hc] at h
    simp only at h
    split at h <;> simp only [Option.some.injEq, Prod.mk.injEq, reduceCtorEq] at h
    rename_i mk blk hn
    exact ⟨mk, blk, hn, h.1.symm, h.2.symm⟩

/-- Where nothing writes, what is there stays, and what is new was made. -/
theorem quiet (CS : CallSound P call) (hst : ∀ k lo, l[k]? = some lo → StepOk call l env V Hs k lo) {p q : Nat} (hpq : p ≤ q) (hq : q ≤ l.length) (hno : ∀ k, p ≤ k → k < q → ¬ EffRun l V k) :
    (∀ i, i < (Hs p).length → getB (Hs q) i = getB (Hs p) i) ∧ ∀ i blk, (Hs p).length ≤ i → getB (Hs q) i = some blk → ∃ k, p ≤ k ∧ k < q ∧ Nw l V Hs k blk ∧ (Hs k).length = i := by
  induction q with
  | zero =>
    rw [show p = 0 by omega]
    refine ⟨fun _ _ => rfl, fun i blk hi hb => ?_⟩
    have := getB_lt hb; omega
  | succ q ih =>
    by_cases e : p = q + 1
    · subst e
      refine ⟨fun _ _ => rfl, fun i blk hi hb => ?_⟩
      have := getB_lt hb; omega
    · obtain ⟨h1, h2⟩ := ih (by omega) (by omega) (fun k a c => hno k a (by omega))
      have hlq : q < l.length := by omega
      have same : Hs (q + 1) = Hs q → _ := fun he => (⟨fun i hi => by rw [he]; exact h1 i hi, fun i blk hi hb => by
          rw [he] at hb
          obtain ⟨k, a1, a2, a3⟩ := h2 i blk hi hb
          exact ⟨k, a1, by omega, a3⟩⟩ : (∀ i, i < (Hs p).length → getB (Hs (q + 1)) i = getB (Hs p) i) ∧ ∀ i blk, (Hs p).length ≤ i → getB (Hs (q + 1)) i = some blk → ∃ k, p ≤ k ∧ k < q + 1 ∧ Nw l V Hs k blk ∧ (Hs k).length = i)
      have hlo := List.getElem?_eq_getElem hlq
      rcases hst q _ hlo with ⟨_, _, h⟩ | ⟨hw, hop, _⟩
      · exact same h
      · cases hc : l[q].op.cls with
        | eff => exact absurd ⟨_, hlo, hc, hw⟩ (hno q (by omega) (by omega))
        | pure =>
          unfold aOp at hop
          rw [hc] at hop
          simp only at hop
          split at hop <;> simp only [Option.some.injEq, Prod.mk.injEq, reduceCtorEq] at hop
          exact same hop.2.symm
        | read =>
          unfold aOp at hop
          rw [hc] at hop
          simp only at hop
          split at hop <;> simp only [Option.some.injEq, Prod.mk.injEq, reduceCtorEq] at hop
          exact same hop.2.symm
        | new =>
          obtain ⟨mk, blk, hn, hv, hH⟩ := step_new hst hlo hc hw
          have hpl := steps_len CS hst (i := p) (j := q) (by omega) (by omega)
          refine ⟨fun i hi => ?_, fun i blk' hi hb => ?_⟩
          · rw [hH, getB_append, upd_other (by omega)]; exact h1 i hi
          · rw [hH, getB_append] at hb
            by_cases e2 : i = (Hs q).length
            · subst e2
              rw [upd_self] at hb
              simp only [Option.some.injEq] at hb; subst hb
              exact ⟨q, by omega, by omega, ⟨_, hlo, hc, hw, hH⟩, rfl⟩
            · rw [upd_other e2] at hb
              obtain ⟨k, a1, a2, a3⟩ := h2 i blk' hi hb
              exact ⟨k, a1, by omega, a3⟩

/-- The frame, where the operations S are done. -/
structure DAct (ps : List Nat) (nt : Nat) (ops : Array Oper) (env : List AV) (V : Nat → AV) (S : Nat → Prop) (Φ : Phi) (a : Act) : Prop where
  size : a.tmps.size = nt
  defers : a.defers = []
  tmp : ∀ j o d, S j → ops[j]? = some o → o.dst = some d → R Φ (V j) (a.tmps.getD d undef)
  val : ∀ j, S j → ∃ v', R Φ (V j) v'
  old : ∀ (x s : Nat) (e : AV), ps[x]? = some s → env[x]? = some e → (∀ j o, S j → ops[j]? = some o → o.dst ≠ some s) → R Φ e (a.tmps.getD s undef)

theorem DAct.step {S : Nat → Prop} {Φ Φ' : Phi} {a : Act} (A : DAct ps nt ops env V S Φ a) (hm : ∀ i l, Φ i = some l → Φ' i = some l) {k : Nat} {o : Oper} (ho : ops[k]? = some o)
    (hnt : ∀ d, o.dst = some d → d < nt) (hun : ∀ j o' d, j ≠ k → ops[j]? = some o' → o'.dst = some d → o.dst ≠ some d) (hk : ¬ S k) {v' : Value} (hR : R Φ' (V k) v') :
    DAct ps nt ops env V (fun j => j = k ∨ S j) Φ' (a.put o.dst v') := by
  refine ⟨?_, ?_, fun j o' d hj ho' hd => ?_, fun j hj => ?_, fun x s e h1 h2 h3 => ?_⟩
  · cases hd : o.dst <;> simp [Act.put, A.size]
  · cases hd : o.dst <;> simp [Act.put, A.defers]
  · by_cases e : j = k
    · subst e
      rw [ho] at ho'; simp only [Option.some.injEq] at ho'; subst ho'
      rw [hd]
      simp only [Act.put]
      rw [getD_set_self _ _ _ (by rw [A.size]; exact hnt d hd)]
      exact hR
    · have hj' : S j := by rcases hj with h | h; exact absurd h e; exact h
      have hne := hun j o' d e ho' hd
      have := R.mono hm _ (A.tmp j o' d hj' ho' hd)
      cases hd2 : o.dst with
      | none => exact this
      | some d2 =>
        simp only [Act.put]
        rw [getD_set_ne _ _ _ _ (fun e2 => hne (by rw [hd2, e2]))]
        exact this
  · rcases hj with rfl | hj
    · exact ⟨_, hR⟩
    · obtain ⟨u, hu⟩ := A.val j hj; exact ⟨u, R.mono hm _ hu⟩
  · have := R.mono hm _ (A.old x s e h1 h2 (fun j o' hj => h3 j o' (.inr hj)))
    have hne := h3 k o (.inl rfl) ho
    cases hd2 : o.dst with
    | none => exact this
    | some d2 =>
      simp only [Act.put]
      rw [getD_set_ne _ _ _ _ (fun e2 => hne (by rw [hd2, e2]))]
      exact this

/-- Which operations are done. -/
structure DSet (l : List AOper) (b : Nat → Nat → Bool) (V : Nat → AV) (S : Nat → Prop) (p : Nat) : Prop where
  closed : ∀ i j, S j → b i j = true → S i
  lt : ∀ j, S j → j < l.length
  pN : p ≤ l.length
  pdone : ∀ j lo, j < p → l[j]? = some lo → (lo.op.cls = .eff ∨ lo.op.cls = .new) → S j
  pmax : ∀ j, S j → EffRun l V j → j < p
  plast : p = 0 ∨ ∃ q, p = q + 1 ∧ S q ∧ EffRun l V q

/-- Memory, where the operations S are done. -/
structure DMem (l : List AOper) (V : Nat → AV) (Hs : Nat → AHeap) (S : Nat → Prop) (p : Nat) (Φ0 : Phi) (w0 : World) (Φ : Phi) (w : World) (G : Nat → Option Blk) : Prop where
  sim : Sim Φ G w
  ext : Ext Φ0 (getB (Hs 0)) w0 Φ G w
  g1 : ∀ i, i < (Hs p).length → G i = getB (Hs p) i
  g2 : ∀ k blk, p ≤ k → S k → Nw l V Hs k blk → G (Hs k).length = some blk
  g3 : ∀ i blk, (Hs p).length ≤ i → G i = some blk → ∃ k, p ≤ k ∧ S k ∧ Nw l V Hs k blk ∧ (Hs k).length = i
  dom : ∀ i q, (Hs 0).length ≤ i → i < (Hs l.length).length → Φ i = some q → i < (Hs p).length ∨ ∃ k blk, p ≤ k ∧ S k ∧ Nw l V Hs k blk ∧ (Hs k).length = i
  domS : Dom Φ0 Φ (Hs 0).length (Hs l.length).length

/-- Where nothing has been written and all that is new is done: the machine's memory holds it. -/
theorem DMem.sub (CS : CallSound P call) (hst : ∀ k lo, l[k]? = some lo → StepOk call l env V Hs k lo) {S : Nat → Prop} {p : Nat} {Φ0 Φ : Phi} {w0 w : World} {G : Nat → Option Blk}
    (M : DMem l V Hs S p Φ0 w0 Φ w G) {q : Nat} (hpq : p ≤ q) (hq : q ≤ l.length) (hno : ∀ k, p ≤ k → k < q → ¬ EffRun l V k) (hnew : ∀ k blk, p ≤ k → k < q → Nw l V Hs k blk → S k) :
    ∀ i blk, getB (Hs q) i = some blk → G i = some blk := by
  obtain ⟨h1, h2⟩ := quiet CS hst hpq hq hno
  intro i blk hb
  rcases Nat.lt_or_ge i (Hs p).length with h | h
  · rw [M.g1 i h, ← h1 i h]; exact hb
  · obtain ⟨k, a1, a2, a3, a4⟩ := h2 i blk h hb
    rw [← a4]; exact M.g2 k blk a1 (hnew k blk a1 a2 a3) a3

/-- What one operation looks at, where it is ready. -/
theorem look_ok (Rg : Reg P ps nt ops l b) (hnd : ps.Nodup) {S : Nat → Prop} {p : Nat} (D : DSet l b V S p) {Φ : Phi} {a : Act} (A : DAct ps nt ops env V S Φ a) {k : Nat} {lo : AOper} {o : Oper}
    (hlo : l[k]? = some lo) (ho : ops[k]? = some o) (OA : OpAt P ps nt ops.toList k o lo) (hk : ¬ S k) (hpre : ∀ i, b i k = true → S i) :
    ∃ tm menv mvals, trOp ⟨P, ps, tm⟩ o.op = some lo.op ∧ HO ⟨P, ps, tm⟩ menv mvals Φ a.eval ∧ (∀ x, x ∈ lo.op.opds → aval env (vs V k) x = aval menv mvals x) ∧
      (∀ x u i, x ∈ lo.op.opds → aval menv mvals x = some u → u.id = some i → ∃ q, Φ i = some q) ∧
      (∀ c, wantedA (vs V k) lo.guard = some c → Region.wanted o (yielded ops a.tmps) = c) := by
  classical
  obtain ⟨tm, htr, hd, hg, hin, hout⟩ := OA.ex
  have hkN : k < l.length := by
    rcases Nat.lt_or_ge k l.length with h | h
    · exact h
    · rw [List.getElem?_eq_none h] at hlo; simp at hlo
  let W : Nat → Prop := fun x => ∃ j o' s, S j ∧ ops[j]? = some o' ∧ o'.dst = some s ∧ ps[x]? = some s
  let menv : List AV := (List.range env.length).map fun x => if W x then .junk else env.getD x .junk
  let mvals : List AV := (List.range l.length).map fun j => if S j then V j else .junk
  have hmenv : ∀ x, menv[x]? = if x < env.length then some (if W x then .junk else env.getD x .junk) else none := by
    intro x
    by_cases h : x < env.length
    · simp [menv, h]
    · rw [List.getElem?_eq_none (by simp [menv]; omega), if_neg h]
  have hmvals : ∀ j, mvals[j]? = if j < l.length then some (if S j then V j else .junk) else none := by
    intro x
    by_cases h : x < l.length
    · simp [mvals, h]
    · rw [List.getElem?_eq_none (by simp [mvals]; omega), if_neg h]
  obtain ⟨ol, ov, oc, og⟩ := Rg.opd k lo hlo
  have hback := Rg.back k o ho
  -- a variable that is looked at has not been written
  have hW : ∀ x, Opd.var x ∈ lo.op.opds → ¬ W x := by
    rintro x hx ⟨j, o', s, hj, ho', hdst, hps⟩
    obtain ⟨hxl, hm⟩ := ov x hx
    have hjl := D.lt j hj
    obtain ⟨o2, ho2, OA2⟩ := Rg.at_ j _ (List.getElem?_eq_getElem hjl)
    rw [ho'] at ho2; simp only [Option.some.injEq] at ho2; subst ho2
    have hdj := OA2.dst
    rw [hdst] at hdj
    have hix : ps.idxOf? s = some x := by
      rw [List.idxOf?_eq_some_iff]
      rw [List.getElem?_eq_getElem hxl] at hps
      simp only [Option.some.injEq] at hps
      refine ⟨hxl, hps, fun y hy => ?_⟩
      intro e
      have hyl : y < ps.length := by omega
      have : ps[y] = ps[x] := by rw [hps]; simpa using e
      have := (List.getElem_inj hnd).1 this
      omega
    have hdj : l[j].dst = ps.idxOf? s := hdj
    rw [hix] at hdj
    have hjk : j ≠ k := fun e => hk (e ▸ hj)
    exact hk (D.closed k j hj (hm j _ hjk (List.getElem?_eq_getElem hjl) hdj))
  have heq : ∀ x, x ∈ lo.op.opds → aval env (vs V k) x = aval menv mvals x := by
    intro x hx
    cases x with
    | const v => rfl
    | loc j =>
      have hb := ol j hx
      have hjk := (hback j hb).1
      simp only [aval]
      rw [vs_get, if_pos hjk, hmvals, if_pos (by omega), if_pos (hpre j hb)]
    | var x =>
      simp only [aval]
      rw [hmenv, if_neg (hW x hx)]
      by_cases h : x < env.length
      · simp [h]
      · rw [if_neg h, List.getElem?_eq_none (by omega)]
  refine ⟨tm, menv, mvals, htr, ?_, heq, fun x u i hx hu hi => ?_, fun c hc => ?_⟩
  · intro x y v hx hy
    cases x with
    | tmp t =>
      simp only [trOpd] at hx
      split at hx
      · rename_i j hj
        simp only [Option.some.injEq] at hx; subst hx
        simp only [aval] at hy
        rw [hmvals] at hy
        split at hy <;> simp only [Option.some.injEq, reduceCtorEq] at hy
        split at hy
        · rename_i hS
          subst hy
          have hmem : (t, j) ∈ tm := lookup_mem hj
          obtain ⟨o', _, q2, q3⟩ := hin _ hmem
          exact A.tmp j o' t hS (by simpa using q2) q3
        · subst hy; simp only [R]
      · rename_i hnone
        split at hx <;> simp only [Option.some.injEq, reduceCtorEq] at hx
        rename_i z hz; subst hx
        simp only [aval] at hy
        rw [hmenv] at hy
        split at hy <;> simp only [Option.some.injEq, reduceCtorEq] at hy
        rename_i hzl
        split at hy
        · subst hy; simp only [R]
        · rename_i hWz
          subst hy
          refine A.old z t _ (idxOf_get hz) (by simp [hzl]) (fun j o' hj ho' hdst => hWz ⟨j, o', t, hj, ho', hdst, idxOf_get hz⟩)
    | const k' =>
      simp only [trOpd] at hx
      split at hx <;> simp only [Option.some.injEq, reduceCtorEq] at hx
      rename_i z hz; subst hx
      simp only [aval, Option.some.injEq] at hy; subst hy
      exact trConst_R k' hz
    | func f =>
      simp only [trOpd, Option.some.injEq] at hx; subst hx
      simp only [aval, Option.some.injEq] at hy; subst hy
      simp only [R, Act.eval]
      exact ⟨[], [], rfl, .nil, .nil⟩
    | global g => simp [trOpd] at hx
  · cases x with
    | const v =>
      simp only [aval, Option.some.injEq] at hu; subst hu
      rw [oc v hx] at hi; simp at hi
    | loc j =>
      have hb := ol j hx
      have hjk := (hback j hb).1
      simp only [aval] at hu
      rw [hmvals, if_pos (by omega), if_pos (hpre j hb)] at hu
      simp only [Option.some.injEq] at hu; subst hu
      obtain ⟨v', hv'⟩ := A.val j (hpre j hb)
      exact hv'.id hi
    | var x =>
      have hWx := hW x hx
      simp only [aval] at hu
      rw [hmenv, if_neg hWx] at hu
      split at hu <;> simp only [Option.some.injEq, reduceCtorEq] at hu
      rename_i hxl
      subst hu
      have hxp := (ov x hx).1
      refine (A.old x ps[x] _ (List.getElem?_eq_getElem hxp) (by simp [hxl]) (fun j o' hj ho' hdst => hWx ⟨j, o', _, hj, ho', hdst, List.getElem?_eq_getElem hxp⟩)).id hi
  · refine wanted_at (Φ := Φ) (by rw [← OA.guard]; exact hc) (fun j t hgj => ?_)
    obtain ⟨q, hq1, hq2⟩ := hg j t hgj
    obtain ⟨o', r1, r2, r3⟩ := hin q hq1
    rw [hq2] at r1 r2
    have hb := og j t (by rw [OA.guard]; exact hgj)
    have ho' : ops[j]? = some o' := by simpa using r2
    exact ⟨q.1, V j, by rw [ho']; simpa using r3, by rw [vs_get, if_pos r1], A.tmp j o' q.1 (hpre j hb) ho' r3⟩

theorem DSet.step {S : Nat → Prop} {p : Nat} (D : DSet l b V S p) {k : Nat} (hkN : k < l.length) (hpre : ∀ i, b i k = true → S i) (hne : ¬ EffRun l V k) : DSet l b V (fun j => j = k ∨ S j) p where
  closed := fun i j hj hb => by
    rcases hj with rfl | hj
    · exact .inr (hpre i hb)
    · exact .inr (D.closed i j hj hb)
  lt := fun j hj => by
    rcases hj with rfl | hj
    · exact hkN
    · exact D.lt j hj
  pN := D.pN
  pdone := fun j lo h1 h2 h3 => .inr (D.pdone j lo h1 h2 h3)
  pmax := fun j hj he => by
    rcases hj with rfl | hj
    · exact absurd he hne
    · exact D.pmax j hj he
  plast := by
    rcases D.plast with h | ⟨q, h1, h2, h3⟩
    · exact .inl h
    · exact .inr ⟨q, h1, .inr h2, h3⟩

theorem DMem.same {S : Nat → Prop} {p : Nat} {Φ0 Φ : Phi} {w0 w : World} {G : Nat → Option Blk} (M : DMem l V Hs S p Φ0 w0 Φ w G) {k : Nat} (hn : ∀ blk, ¬ Nw l V Hs k blk) :
    DMem l V Hs (fun j => j = k ∨ S j) p Φ0 w0 Φ w G where
  sim := M.sim
  ext := M.ext
  g1 := M.g1
  g2 := fun k' blk h1 h2 h3 => by
    rcases h2 with rfl | h2
    · exact absurd h3 (hn blk)
    · exact M.g2 k' blk h1 h2 h3
  g3 := fun i blk h1 h2 => by
    obtain ⟨k', q1, q2, q3⟩ := M.g3 i blk h1 h2
    exact ⟨k', q1, .inr q2, q3⟩
  dom := fun i q h1 h2 h3 => by
    rcases M.dom i q h1 h2 h3 with h | ⟨k', blk, q1, q2, q3⟩
    · exact .inl h
    · exact .inr ⟨k', blk, q1, .inr q2, q3⟩
  domS := M.domS

theorem first_of (p : Nat → Prop) (a c : Nat) (hac : a ≤ c) : (∀ k, a ≤ k → k < c → ¬ p k) ∨ ∃ j, a ≤ j ∧ j < c ∧ p j ∧ ∀ k, a ≤ k → k < j → ¬ p k := by
  classical
  induction c with
  | zero => exact .inl (fun k _ h => by omega)
  | succ c ih =>
    by_cases e : a = c + 1
    · exact .inl (fun k h1 h2 => by omega)
    · rcases ih (by omega) with h | ⟨j, h1, h2, h3, h4⟩
      · by_cases hp : p c
        · exact .inr ⟨c, by omega, by omega, hp, h⟩
        · exact .inl (fun k h1 h2 => by
            by_cases e2 : k = c
            · subst e2; exact hp
            · exact h k h1 (by omega))
      · exact .inr ⟨j, h1, by omega, h3, h4⟩

/-- At which heap a read may be taken. -/
theorem read_where (Rg : Reg P ps nt ops l b) (hst : ∀ k lo, l[k]? = some lo → StepOk call l env V Hs k lo) {S : Nat → Prop} {p : Nat} (D : DSet l b V S p) {k : Nat} {lo : AOper} {o : Oper}
    (hlo : l[k]? = some lo) (ho : ops[k]? = some o) (hk : ¬ S k) (hpre : ∀ i, b i k = true → S i) (hc : lo.op.cls = .read) (hw : wantedA (vs V k) lo.guard = some true) :
    ∃ q, p ≤ q ∧ q ≤ l.length ∧ (∀ j, p ≤ j → j < q → ¬ EffRun l V j) ∧ aRead env (vs V k) (Hs q) lo.op = some (V k) := by
  have hkN : k < l.length := by
    rcases Nat.lt_or_ge k l.length with h | h
    · exact h
    · rw [List.getElem?_eq_none h] at hlo; simp at hlo
  rcases hst k lo hlo with ⟨h, _⟩ | ⟨_, hop, haft, hbef⟩
  · rw [hw] at h; simp at h
  rcases Nat.lt_or_ge k p with hkp | hkp
  · rcases D.plast with h | ⟨q, h1, h2, h3⟩
    · omega
    · obtain ⟨lq, q1, q2, q3⟩ := h3
      have hkq : k ≠ q := fun e => hk (e ▸ h2)
      have hbq : b k q = false := by
        cases hb : b k q with
        | false => rfl
        | true => exact absurd (D.closed k q h2 hb) hk
      have hin := Rg.aft k q lo lq (by omega) hlo q1 hc q2 hbq
      rcases hst q lq q1 with ⟨h, _⟩ | ⟨_, _, ha, _⟩
      · rw [q3] at h; simp at h
      have hs := ha k hin
      unfold sameAt at hs
      rw [hlo] at hs
      simp only at hs
      have hwq : wantedA (vs V q) lo.guard = some true := by
        rw [← hw]
        unfold wantedA
        cases hg : lo.guard with
        | none => rfl
        | some gg =>
          obtain ⟨j, t⟩ := gg
          have hjk := (Rg.back k o ho j ((Rg.opd k lo hlo).2.2.2 j t hg)).1
          simp only
          rw [vs_get, vs_get, if_pos hjk, if_pos (by omega)]
      rw [hwq] at hs
      simp only at hs
      rw [vs_get, if_pos (show k < q by omega)] at hs
      split at hs
      · rename_i u u' hu hu'
        simp only [Option.some.injEq] at hu'; subst hu'
        refine ⟨p, Nat.le_refl _, D.pN, fun j a c => by omega, ?_⟩
        rw [h1]
        have := AV.same_eq _ _ hs
        subst this
        rw [← hu]
        refine aRead_congr (fun x hx => ?_)
        cases x with
        | loc j =>
          have hjk := (Rg.back k o ho j ((Rg.opd k lo hlo).1 j hx)).1
          simp only [aval]
          rw [vs_get, vs_get, if_pos hjk, if_pos (by omega)]
        | _ => rfl
      · simp at hs
  · rcases first_of (EffRun l V) p k hkp with h | ⟨j, h1, h2, h3, h4⟩
    · refine ⟨k, hkp, by omega, h, ?_⟩
      unfold aOp at hop
      rw [hc] at hop
      simp only at hop
      split at hop <;> simp only [Option.some.injEq, Prod.mk.injEq, reduceCtorEq] at hop
      rename_i u hu
      rw [hu, hop.1]
    · have hSj : ¬ S j := fun hS => by have := D.pmax j hS h3; omega
      have hbj : b j k = false := by
        cases hb : b j k with
        | false => rfl
        | true => exact absurd (hpre j hb) hSj
      obtain ⟨lj, q1, q2, q3⟩ := h3
      have hin := Rg.bef j k lj lo h2 q1 hlo q2 hc hbj
      exact ⟨j, h1, by omega, h4, (hbef j hin).2⟩

/-- One operation, where it is ready. -/
theorem draw_step (CS : CallSound P call) (Rg : Reg P ps nt ops l b) (hnd : ps.Nodup) (hst : ∀ k lo, l[k]? = some lo → StepOk call l env V Hs k lo) {S : Nat → Prop} {p : Nat} {Φ0 Φ : Phi} {w0 w : World}
    {G : Nat → Option Blk} {a : Act} (D : DSet l b V S p) (A : DAct ps nt ops env V S Φ a) (M : DMem l V Hs S p Φ0 w0 Φ w G) {k : Nat} (hkN : k < l.length) (hk : ¬ S k) (hpre : ∀ i, b i k = true → S i)
    {Q : Exit → Act → World → Prop} {K : Act → World → Prop}
    (hK : ∀ p' Φ' G' a' w', DSet l b V (fun j => j = k ∨ S j) p' → DAct ps nt ops env V (fun j => j = k ∨ S j) Φ' a' → DMem l V Hs (fun j => j = k ∨ S j) p' Φ0 w0 Φ' w' G' → K a' w') :
    wpOp P ops Q k K a w := by
  have hlo := List.getElem?_eq_getElem hkN
  generalize l[k] = lo at hlo
  obtain ⟨o, ho, OA⟩ := Rg.at_ k lo hlo
  obtain ⟨tm, menv, mvals, htr, O, heq, hid, hwant⟩ := look_ok Rg hnd D A hlo ho OA hk hpre
  obtain ⟨tm0, _, hd0, _, _, hout0⟩ := OA.ex
  have hnt : ∀ d, o.dst = some d → d < nt := fun d hd => (hd0 d hd).2
  have hun : ∀ (j : Nat) (o' : Oper) (d : Tmp), j ≠ k → ops[j]? = some o' → o'.dst = some d → o.dst ≠ some d := by
    intro j o' d hj ho' hd' hd
    rcases Nat.lt_or_ge j k with h | h
    · exact hout0 d (hd0 d hd).1 j o' h (by simpa using ho') hd'
    · have hjl : j < l.length := by
        rw [Rg.len]
        rcases Nat.lt_or_ge j ops.size with h | h
        · exact h
        · rw [Array.getElem?_eq_none h] at ho'; simp at ho'
      obtain ⟨o2, r1, OA2⟩ := Rg.at_ j _ (List.getElem?_eq_getElem hjl)
      rw [ho'] at r1; simp only [Option.some.injEq] at r1; subst r1
      obtain ⟨tm2, _, hd2, _, _, hout2⟩ := OA2.ex
      exact hout2 d (hd2 d hd').1 k o (by omega) (by simpa using ho) hd
  have hlk := steps_len CS hst (i := k + 1) (j := l.length) (by omega) (Nat.le_refl _)
  have hkk := step_len CS hst hkN
  unfold wpOp
  rw [ho]
  simp only
  rcases hst k lo hlo with ⟨hw, hv, hH⟩ | ⟨hw, hop, haft, hbef⟩
  · rw [hwant _ hw]
    simp only [Bool.false_eq_true, if_false]
    have hne : ¬ EffRun l V k := by
      rintro ⟨lo', q1, q2, q3⟩
      rw [hlo] at q1; simp only [Option.some.injEq] at q1; subst q1
      rw [hw] at q3; simp at q3
    have hnn : ∀ blk, ¬ Nw l V Hs k blk := by
      rintro blk ⟨lo', q1, q2, q3, _⟩
      rw [hlo] at q1; simp only [Option.some.injEq] at q1; subst q1
      rw [hw] at q3; simp at q3
    exact hK p Φ G _ w (D.step hkN hpre hne) (A.step (fun _ _ h => h) ho hnt hun hk (by rw [hv]; exact undef_R Φ)) (M.same hnn)
  · rw [hwant _ hw]
    simp only [if_true]
    refine .inl ?_
    have notNw : lo.op.cls ≠ .new → ∀ blk, ¬ Nw l V Hs k blk := by
      rintro hc blk ⟨lo', q1, q2, q3, _⟩
      rw [hlo] at q1; simp only [Option.some.injEq] at q1; subst q1
      exact hc q2
    have notEff : lo.op.cls ≠ .eff → ¬ EffRun l V k := by
      rintro hc ⟨lo', q1, q2, q3⟩
      rw [hlo] at q1; simp only [Option.some.injEq] at q1; subst q1
      exact hc q2
    have hpk : (lo.op.cls = .eff ∨ lo.op.cls = .new) → p ≤ k := fun hc => by
      rcases Nat.lt_or_ge k p with h | h
      · exact absurd (D.pdone k lo h hlo hc) hk
      · exact h
    cases hc : lo.op.cls with
    | pure =>
      have hop' := hop
      unfold aOp at hop'
      rw [hc] at hop'
      simp only at hop'
      split at hop' <;> simp only [Option.some.injEq, Prod.mk.injEq, reduceCtorEq] at hop'
      rename_i u hu
      rw [aPure_congr heq] at hu
      obtain ⟨v', hr, hR⟩ := pure_ok (w := w) O o htr hu
      simp only [Oper.wp, hr, Oper.upon_value]
      rw [hop'.1] at hR
      exact hK p Φ G _ w (D.step hkN hpre (notEff (by simp [hc]))) (A.step (fun _ _ h => h) ho hnt hun hk hR) (M.same (notNw (by simp [hc])))
    | read =>
      obtain ⟨q, h1, h2, h3, h4⟩ := read_where Rg hst D hlo ho hk hpre hc hw
      rw [aRead_congr heq] at h4
      obtain ⟨u1, u2⟩ := quiet CS hst h1 h2 h3
      have h5 : aRead menv mvals ((List.range (Hs l.length).length).map G) lo.op = some (V k) := by
        refine aRead_more (fun x u i bk hx hu hi hb => ?_) h4
        have hlt := getB_lt hb
        have hqN := steps_len CS hst (i := q) (j := l.length) h2 (Nat.le_refl _)
        rw [getB_of, if_pos (by omega)]
        rcases Nat.lt_or_ge i (Hs p).length with h | h
        · rw [M.g1 i h, ← u1 i h]; exact hb
        · obtain ⟨k', a1, a2, a3, a4⟩ := u2 i bk h hb
          obtain ⟨qq, hqq⟩ := hid x u i hx hu hi
          have h0p := steps_len CS hst (i := 0) (j := p) (by omega) D.pN
          rcases M.dom i qq (by omega) (by omega) hqq with h' | ⟨k2, b2, c1, c2, c3, c4⟩
          · omega
          · obtain ⟨e1, e2⟩ := Nw.inj CS hst a3 c3 (by omega)
            subst e1
            rw [← a4]
            exact M.g2 k' bk a1 c2 a3
      have SG : Sim Φ (getB ((List.range (Hs l.length).length).map G)) w := M.sim.less fun i bk hb => by
        rw [getB_of] at hb
        split at hb
        · exact hb
        · simp at hb
      obtain ⟨v', hr, hR⟩ := read_ok O SG o htr h5
      simp only [Oper.wp, hr, Oper.upon_value]
      exact hK p Φ G _ w (D.step hkN hpre (notEff (by simp [hc]))) (A.step (fun _ _ h => h) ho hnt hun hk hR) (M.same (notNw (by simp [hc])))
    | new =>
      have hpk' := hpk (.inr hc)
      obtain ⟨mk, blk, hn, hv, hH⟩ := step_new hst hlo hc hw
      have hNw : Nw l V Hs k blk := ⟨lo, hlo, hc, hw, hH⟩
      have hlen1 : (Hs (k + 1)).length = (Hs k).length + 1 := by rw [hH]; simp
      have h0k := steps_len CS hst (i := 0) (j := k) (by omega) (by omega)
      have hpk2 := steps_len CS hst (i := p) (j := k) hpk' (by omega)
      rw [aNew_congr heq] at hn
      obtain ⟨v', w', lc, hr, hN, hlb, hrw, hall⟩ := new_ok (w := w) O o htr hn
      have hnone : Φ (Hs k).length = none := by
        cases hq : Φ (Hs k).length with
        | none => rfl
        | some q =>
          exfalso
          rcases M.dom _ q h0k (by omega) hq with h | ⟨k', b', c1, c2, c3, c4⟩
          · omega
          · obtain ⟨e1, _⟩ := Nw.inj CS hst c3 hNw c4
            exact hk (e1 ▸ c2)
      have mono : ∀ j q, Φ j = some q → upd Φ (Hs k).length (some lc) j = some q := by
        intro j q hj
        rw [upd_other (fun e => by subst e; rw [hnone] at hj; simp at hj)]; exact hj
      obtain ⟨hok, hR⟩ := hall (Hs k).length (upd Φ (Hs k).length (some lc)) mono (upd_self _ _ _)
      obtain ⟨s1, s2⟩ := new_step M.sim hN hlb hrw hnone hok
      simp only [Oper.wp, hr, Oper.upon_value]
      rw [← hv] at hR
      refine hK p _ _ _ w' (D.step hkN hpre (notEff (by simp [hc]))) (A.step mono ho hnt hun hk hR) ⟨s1, M.ext.trans s2, fun i hi => ?_, fun k' b' c1 c2 c3 => ?_, fun i b' c1 c2 => ?_, fun i q c1 c2 c3 => ?_, fun i hi => ?_⟩
      · rw [upd_other (by omega)]; exact M.g1 i hi
      · by_cases e : k' = k
        · subst e
          obtain ⟨_, e2⟩ := Nw.inj CS hst c3 hNw rfl
          subst e2
          exact upd_self _ _ _
        · have hne : (Hs k').length ≠ (Hs k).length := fun e2 => e (Nw.inj CS hst c3 hNw e2).1
          rw [upd_other hne]
          rcases c2 with c2 | c2
          · exact absurd c2 e
          · exact M.g2 k' b' c1 c2 c3
      · by_cases e : i = (Hs k).length
        · subst e
          rw [upd_self] at c2
          simp only [Option.some.injEq] at c2; subst c2
          exact ⟨k, hpk', .inl rfl, hNw, rfl⟩
        · rw [upd_other e] at c2
          obtain ⟨k', d1, d2, d3⟩ := M.g3 i b' c1 c2
          exact ⟨k', d1, .inr d2, d3⟩
      · by_cases e : i = (Hs k).length
        · exact .inr ⟨k, blk, hpk', .inl rfl, hNw, e.symm⟩
        · rw [upd_other e] at c3
          rcases M.dom i q c1 c2 c3 with h | ⟨k', b', d1, d2, d3⟩
          · exact .inl h
          · exact .inr ⟨k', b', d1, .inr d2, d3⟩
      · by_cases e : i = (Hs k).length
        · subst e; exact ⟨h0k, by omega⟩
        · rw [upd_other e] at hi; exact M.domS i hi
    | eff =>
      have hpk' := hpk (.inl hc)
      have hpk2 := steps_len CS hst (i := p) (j := k) hpk' (by omega)
      have h0k := steps_len CS hst (i := 0) (j := k) (by omega) (by omega)
      have hER : EffRun l V k := ⟨lo, hlo, hc, hw⟩
      have hno : ∀ j, p ≤ j → j < k → ¬ EffRun l V j := by
        intro j h1 h2 h3
        obtain ⟨lj, q1, q2, q3⟩ := h3
        have := D.pmax j (hpre j (Rg.eff j k lj lo h2 q1 hlo (.inl q2) hc)) ⟨lj, q1, q2, q3⟩
        omega
      have hnew : ∀ j blk, p ≤ j → j < k → Nw l V Hs j blk → S j := by
        rintro j blk h1 h2 ⟨lj, q1, q2, q3, _⟩
        exact hpre j (Rg.eff j k lj lo h2 q1 hlo (.inr q2) hc)
      have hsub := M.sub CS hst hpk' (by omega) hno hnew
      have later : ∀ k' blk i, p ≤ k' → Nw l V Hs k' blk → (Hs k').length = i → (Hs (k + 1)).length ≤ i → k + 1 ≤ k' := by
        intro k' blk i h1 h2 h3 h4
        rcases Nat.lt_or_ge k k' with h | h
        · exact h
        · exfalso
          have hlt := h2.lt
          obtain ⟨_, _, _, _, hH⟩ := h2
          have e1 : (Hs (k' + 1)).length = (Hs k').length + 1 := by rw [hH]; simp
          have := steps_len CS hst (i := k' + 1) (j := k + 1) (by omega) (by omega)
          omega
      have hfree : Free Φ (Hs k).length (Hs (k + 1)).length := by
        intro i h1 h2
        cases hq : Φ i with
        | none => rfl
        | some q =>
          exfalso
          rcases M.dom i q (by omega) (by omega) hq with h | ⟨k', b', c1, c2, c3, c4⟩
          · omega
          · rcases Nat.lt_trichotomy k' k with h | h | h
            · have hlt := c3.lt
              obtain ⟨_, _, _, _, hH⟩ := c3
              have e1 : (Hs (k' + 1)).length = (Hs k').length + 1 := by rw [hH]; simp
              have := steps_len CS hst (i := k' + 1) (j := k) (by omega) (by omega)
              omega
            · subst h
              exact notNw (by simp [hc]) _ c3
            · have hlt := c3.lt
              have := steps_len CS hst (i := k + 1) (j := k') (by omega) (by omega)
              omega
      rw [aOp_congr heq] at hop
      refine op_wp (c := ⟨P, ps, tm⟩) CS O (M.sim.less hsub) o htr hop hfree (fun Φ' v' w' hR s1 s2 s3 => ?_)
      obtain ⟨t1, t2⟩ := Ext.up (G' := fun i => if i < (Hs (k + 1)).length then getB (Hs (k + 1)) i else G i) (n := (Hs (k + 1)).length) M.sim hsub s2 s1
        (fun i bk hb => by have := getB_lt hb; omega) (fun i bk hi hb => by simpa [hi] using hb) (fun i bk hi hb => by
          have hni : ¬ i < (Hs (k + 1)).length := by omega
          simpa [hni] using hb)
      refine hK (k + 1) Φ' _ _ w' ⟨fun i j hj hb => ?_, fun j hj => ?_, by omega, fun j lj h1 h2 h3 => ?_, fun j hj he => ?_, .inr ⟨k, rfl, .inl rfl, hER⟩⟩ (A.step s2.mono ho hnt hun hk hR)
        ⟨t1, M.ext.trans t2, fun i hi => by simp [hi], fun k' b' c1 c2 c3 => ?_, fun i b' c1 c2 => ?_, fun i q c1 c2 c3 => ?_, fun i hi => ?_⟩
      · rcases hj with rfl | hj
        · exact .inr (hpre i hb)
        · exact .inr (D.closed i j hj hb)
      · rcases hj with rfl | hj
        · exact hkN
        · exact D.lt j hj
      · by_cases e : j = k
        · exact .inl e
        · exact .inr (hpre j (Rg.eff j k lj lo (by omega) h2 hlo h3 hc))
      · rcases hj with rfl | hj
        · omega
        · have := D.pmax j hj he; omega
      · have hlt := c3.lt
        have hge := steps_len CS hst (i := k + 1) (j := k') c1 (by omega)
        have hni : ¬ (Hs k').length < (Hs (k + 1)).length := by omega
        simp only [hni, if_false]
        rcases c2 with c2 | c2
        · omega
        · exact M.g2 k' b' (by omega) c2 c3
      · have hni : ¬ i < (Hs (k + 1)).length := by omega
        simp only [hni, if_false] at c2
        obtain ⟨k', d1, d2, d3, d4⟩ := M.g3 i b' (by omega) c2
        exact ⟨k', later k' b' i d1 d3 d4 c1, .inr d2, d3, d4⟩
      · rcases Nat.lt_or_ge i (Hs (k + 1)).length with h | h
        · exact .inl h
        · have he : Φ' i = Φ i := by
            by_cases e : Φ' i = Φ i
            · exact e
            · have := s3 i e; omega
          rw [he] at c3
          rcases M.dom i q c1 c2 c3 with h' | ⟨k', b', d1, d2, d3, d4⟩
          · omega
          · exact .inr ⟨k', b', later k' b' i d1 d3 d4 h, .inr d2, d3, d4⟩
      · by_cases e : Φ' i = Φ i
        · rw [e] at hi; exact M.domS i hi
        · have := s3 i e; exact ⟨by omega, by omega⟩

/-- All operations, in whatever order. -/
theorem draw_all (CS : CallSound P call) (Rg : Reg P ps nt ops l b) (hnd : ps.Nodup) (hst : ∀ k lo, l[k]? = some lo → StepOk call l env V Hs k lo) {Φ0 : Phi} {w0 : World} {Q : Exit → Act → World → Prop}
    (hQ : ∀ p Φ G a w, DSet l b V (fun j => j < l.length) p → DAct ps nt ops env V (fun j => j < l.length) Φ a → DMem l V Hs (fun j => j < l.length) p Φ0 w0 Φ w G → Q .normal a w) :
    ∀ (fuel : Nat) (listed : Array Bool) (p : Nat) (Φ : Phi) (G : Nat → Option Blk) (a : Act) (w : World), listed.size = l.length → unl (fun j => listed.getD j false) l.length ≤ fuel →
      DSet l b V (fun j => listed.getD j false = true) p → DAct ps nt ops env V (fun j => listed.getD j false = true) Φ a → DMem l V Hs (fun j => listed.getD j false = true) p Φ0 w0 Φ w G →
      wpAny P .any ops Q fuel listed a w := by
  have ready_nil : ∀ listed : Array Bool, listed.size = l.length → (∀ j, j < l.length → listed.getD j false = true) → Region.ready .any ops listed = [] := by
    intro listed hs hall
    unfold Region.ready
    rw [List.filter_eq_nil_iff]
    intro j hj
    rw [List.mem_range, ← Rg.len] at hj
    have := hall j hj
    have e : listed.getD j true = true := by
      rw [Array.getD_eq_getD_getElem?, Array.getElem?_eq_getElem (by omega)] at this ⊢
      simpa using this
    simp [e]
  have all_of_nil : ∀ listed : Array Bool, listed.size = l.length → Region.ready .any ops listed = [] → ∀ j, j < l.length → listed.getD j false = true := by
    intro listed hs hnil j
    induction j using Nat.strongRecOn with
    | _ j ih =>
      intro hj
      unfold Region.ready at hnil
      rw [List.filter_eq_nil_iff] at hnil
      have hn := hnil j (by rw [List.mem_range, ← Rg.len]; exact hj)
      cases hb : listed.getD j false with
      | true => rfl
      | false =>
        exfalso
        have e : listed.getD j true = false := by
          rw [Array.getD_eq_getD_getElem?, Array.getElem?_eq_getElem (by omega)] at hb ⊢
          simpa using hb
        obtain ⟨o, ho, _⟩ := Rg.at_ j _ (List.getElem?_eq_getElem hj)
        rw [e, ho] at hn
        apply hn
        simp only [Bool.not_false, Option.map_some, Option.getD_some, Bool.true_and]
        rw [Array.all_eq_true_iff_forall_mem]
        intro ed hed
        cases hbd : Region.binds .any ed with
        | false => simp
        | true =>
          have hlt := Rg.edge j o ho ed hed hbd
          simp [ih ed.on hlt (by omega)]
  have fin : ∀ (listed : Array Bool) (p : Nat) (Φ : Phi) (G : Nat → Option Blk) (a : Act) (w : World), (∀ j, j < l.length → listed.getD j false = true) →
      DSet l b V (fun j => listed.getD j false = true) p → DAct ps nt ops env V (fun j => listed.getD j false = true) Φ a → DMem l V Hs (fun j => listed.getD j false = true) p Φ0 w0 Φ w G → Q .normal a w := by
    intro listed p Φ G a w hall D A M
    have e : (fun j => listed.getD j false = true) = fun j => j < l.length := by
      funext j
      exact propext ⟨fun h => D.lt j h, fun h => hall j h⟩
    rw [e] at D A M
    exact hQ p Φ G a w D A M
  intro fuel
  induction fuel with
  | zero =>
    intro listed p Φ G a w hs hf D A M
    have hall := unl_zero (f := fun j => listed.getD j false) (n := l.length) (by omega)
    exact ⟨ready_nil listed hs hall, fin listed p Φ G a w hall D A M⟩
  | succ fuel ih =>
    intro listed p Φ G a w hs hf D A M
    refine ⟨fun hnil => fin listed p Φ G a w (all_of_nil listed hs hnil) D A M, fun k hk => ?_⟩
    unfold Region.ready at hk
    rw [List.mem_filter, List.mem_range, ← Rg.len] at hk
    obtain ⟨hkN, hk2⟩ := hk
    obtain ⟨o, ho, _⟩ := Rg.at_ k _ (List.getElem?_eq_getElem hkN)
    rw [ho] at hk2
    simp only [Option.map_some, Option.getD_some, Bool.and_eq_true, Bool.not_eq_true'] at hk2
    obtain ⟨hk3, hk4⟩ := hk2
    have hkf : listed.getD k false = false := by
      rw [Array.getD_eq_getD_getElem?, Array.getElem?_eq_getElem (by omega)] at hk3 ⊢
      simpa using hk3
    rw [Array.all_eq_true_iff_forall_mem] at hk4
    have hpre : ∀ i, b i k = true → listed.getD i false = true := by
      intro i hb
      obtain ⟨_, e, he, hbd, h⟩ := Rg.back k o ho i hb
      have h1 := hk4 e (by simpa using he)
      rw [hbd] at h1
      simp only [Bool.not_true, Bool.false_or] at h1
      rcases h with rfl | h
      · exact h1
      · exact D.closed i e.on h1 h
    have hset : ∀ j, (listed.setIfInBounds k true).getD j false = if j = k then true else listed.getD j false := by
      intro j
      by_cases e : j = k
      · subst e
        rw [if_pos rfl, Array.getD_eq_getD_getElem?, Array.getElem?_setIfInBounds_self]
        simp [show j < listed.size by omega]
      · rw [if_neg e, Array.getD_eq_getD_getElem?, Array.getElem?_setIfInBounds_ne (fun e2 => e e2.symm), ← Array.getD_eq_getD_getElem?]
    have hS : (fun j => (listed.setIfInBounds k true).getD j false = true) = fun j => j = k ∨ listed.getD j false = true := by
      funext j
      rw [hset j]
      by_cases e : j = k <;> simp [e]
    refine draw_step CS Rg hnd hst D A M hkN (by rw [hkf]; simp) hpre (fun p' Φ' G' a' w' D' A' M' => ?_)
    rw [← hS] at D' A' M'
    refine ih (listed.setIfInBounds k true) p' Φ' G' a' w' (by simpa using hs) ?_ D' A' M'
    have := unl_step (f := fun j => listed.getD j false) (g := fun j => (listed.setIfInBounds k true).getD j false) (k := k) hkf (by show (listed.setIfInBounds k true).getD k false = true; rw [hset k, if_pos rfl])
      (fun j hj => by show (listed.setIfInBounds k true).getD j false = _; rw [hset j, if_neg hj]) (n := l.length) hkN
    omega

end

theorem region_draw_wp {P : Program} {call : CallT} (CS : CallSound P call) {ps : List Nat} {nt : Nat} (hnd : ps.Nodup) {id : Nat} {ops : Array Oper} {l : List AOper} {env envF : List AV} {H HF : AHeap}
    (htr : trRegion P ps nt ops true = some l) (hrun : runOps call l env l [] [] env H = some (envF, HF)) {Φ : Phi} {a : Act} {w : World}
    (hE : EnvOk Φ ps env a) (hs : a.tmps.size = nt) (hd : a.defers = []) (S : Sim Φ (getB H) w) (hfree : Free Φ H.length HF.length) {Q : Exit → Act → World → Prop}
    (hQ : ∀ Φ' a' w', EnvOk Φ' ps envF a' → a'.tmps.size = nt → a'.defers = [] → Sim Φ' (getB HF) w' → Ext Φ (getB H) w Φ' (getB HF) w' → Dom Φ Φ' H.length HF.length → Q .normal a' w') :
    (Code.region id ops true).wp P Q a w := by
  obtain ⟨hmix, b, Rg⟩ := reg_of htr
  obtain ⟨V, Hs, _, hH0, hHF, hst, henv⟩ := runOps_rec l 0 (fun _ => .junk) (fun _ => H) env (by simpa [vs] using hrun)
  have hst' : ∀ k lo, l[k]? = some lo → StepOk call l env V Hs k lo := fun k lo hk => by
    have := hst k lo hk
    rwa [Nat.zero_add] at this
  have h0 : Hs 0 = H := hH0 0 (Nat.le_refl _)
  rw [Nat.zero_add] at hHF
  refine wp_region_any hmix ?_
  have hrep : ∀ j, (Array.replicate ops.size false).getD j false = false := by
    intro j
    rw [Array.getD_eq_getD_getElem?]
    by_cases h : j < ops.size
    · simp [h]
    · rw [Array.getElem?_eq_none (by simp; omega)]; rfl
  have hS : (fun j => (Array.replicate ops.size false).getD j false = true) = fun _ => False := by
    funext j; rw [hrep j]; simp
  refine draw_all CS Rg hnd hst' (Φ0 := Φ) (w0 := w) (fun p Φ' G a' w' D A M => ?_) ops.size _ 0 Φ (getB H) a _ (by simp [Rg.len]) ?_ ?_ ?_ ?_
  · have hno : ∀ k, p ≤ k → k < l.length → ¬ EffRun l V k := fun k h1 h2 h3 => by have := D.pmax k h2 h3; omega
    have hsub := M.sub CS hst' D.pN (Nat.le_refl _) hno (fun k blk _ h _ => h)
    rw [hHF] at hsub
    have hext := M.ext.less hsub
    have hdom := M.domS
    rw [h0] at hext hdom
    rw [hHF] at hdom
    refine hQ Φ' a' w' (fun x s e h1 h2 => ?_) A.size A.defers (M.sim.less hsub) hext hdom
    rcases henv x e h2 with ⟨m, lo, q1, q2, q3⟩ | ⟨q1, q2⟩
    · rw [Nat.zero_add] at q3
      have hml : m < l.length := by
        rcases Nat.lt_or_ge m l.length with h | h
        · exact h
        · rw [List.getElem?_eq_none h] at q1; simp at q1
      obtain ⟨o, ho, OA⟩ := Rg.at_ m lo q1
      have hdst := OA.dst
      rw [q2] at hdst
      cases hd2 : o.dst with
      | none => rw [hd2] at hdst; simp at hdst
      | some d =>
        rw [hd2] at hdst
        have hps := idxOf_get hdst.symm
        rw [h1] at hps
        simp only [Option.some.injEq] at hps; subst hps
        rw [← q3]
        exact A.tmp m o s hml ho hd2
    · refine A.old x s e h1 q1 (fun j o hj ho hdst => ?_)
      obtain ⟨o2, ho2, OA⟩ := Rg.at_ j _ (List.getElem?_eq_getElem hj)
      rw [ho] at ho2; simp only [Option.some.injEq] at ho2; subst ho2
      have hdj := OA.dst
      rw [hdst] at hdj
      have hxl : x < ps.length := by
        rcases Nat.lt_or_ge x ps.length with h | h
        · exact h
        · rw [List.getElem?_eq_none h] at h1; simp at h1
      have hix : ps.idxOf? s = some x := by
        rw [List.idxOf?_eq_some_iff]
        rw [List.getElem?_eq_getElem hxl] at h1
        simp only [Option.some.injEq] at h1
        refine ⟨hxl, h1, fun y hy => ?_⟩
        intro e2
        have hyl : y < ps.length := by omega
        have : ps[y] = ps[x] := by rw [h1]; simpa using e2
        have := (List.getElem_inj hnd).1 this
        omega
      exact q2 j _ (List.getElem?_eq_getElem hj) (by rw [hdj]; exact hix)
  · rw [← Rg.len]; exact unl_le _
  · rw [hS]
    exact ⟨fun _ _ h => h.elim, fun _ h => h.elim, Nat.zero_le _, fun j lo h => by omega, fun _ h => h.elim, .inl rfl⟩
  · rw [hS]
    exact ⟨hs, hd, fun _ _ _ h => h.elim, fun _ h => h.elim, fun x s e h1 h2 _ => hE x s e h1 h2⟩
  · rw [hS]
    refine ⟨S.drew, ?_, fun i hi => by rw [h0], fun _ _ _ h => h.elim, fun i blk h1 h2 => ?_, fun i q h1 h2 h3 => ?_, Dom.refl _ _ _⟩
    · rw [h0]; exact ⟨fun _ _ h => h, rfl, rfl, rfl, Nat.le_refl _, fun _ _ _ => rfl, fun _ h => .inl h, fun _ blk _ h1 h2 _ => ⟨h2, blk, h1⟩⟩
    · have := getB_lt h2; rw [h0] at h1; omega
    · rw [h0] at h1 ⊢; rw [hHF] at h2
      rw [hfree i h1 h2] at h3; simp at h3
end Go.Am
