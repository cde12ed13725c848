/- A region in the order of its text: what compact code says is what the machine does. -/
import Derived.Test.YtnblhjpbpobglaaAmO
namespace Go.Am

/-- Variables: what compact code holds is what the machine's slots hold. -/
def EnvOk (Φ : Phi) (ps : List Nat) (env : List AV) (a : Act) : Prop :=
  ∀ (x s : Nat) (e : AV), ps[x]? = some s → env[x]? = some e → R Φ e (a.tmps.getD s undef)

theorem EnvOk.mono {Φ Φ' : Phi} {ps : List Nat} {env : List AV} {a : Act} (h : EnvOk Φ ps env a) (hm : ∀ i l, Φ i = some l → Φ' i = some l) : EnvOk Φ' ps env a :=
  fun x s e h1 h2 => R.mono hm e (h x s e h1 h2)

/-- Within a region. 'tm': which slot is of which operation. -/
structure RInv (ps : List Nat) (nt : Nat) (ops : Array Oper) (env : List AV) (tm : List (Nat × Nat)) (vals env' : List AV) (Φ : Phi) (a : Act) : Prop where
  size : a.tmps.size = nt
  defers : a.defers = []
  tmOk : ∀ (d j : Nat), tm.lookup d = some j → j < vals.length ∧ ((ops[j]?).bind (·.dst)) = some d ∧ ∀ v, vals[j]? = some v → R Φ v (a.tmps.getD d undef)
  tmIn : ∀ p, p ∈ tm → tm.lookup p.1 = some p.2
  old : ∀ (x s : Nat) (e : AV), ps[x]? = some s → tm.lookup s = none → env[x]? = some e → R Φ e (a.tmps.getD s undef)
  cur : EnvOk Φ ps env' a

theorem idxOf_get {ps : List Nat} {d x : Nat} (h : ps.idxOf? d = some x) : ps[x]? = some d := by
  rw [List.idxOf?_eq_some_iff] at h
  obtain ⟨hx, h1, _⟩ := h
  rw [List.getElem?_eq_getElem hx]
  simpa using h1

theorem RInv.ho {P : Program} {ps : List Nat} {nt : Nat} {ops : Array Oper} {env : List AV} {tm : List (Nat × Nat)} {vals env' : List AV} {Φ : Phi} {a : Act}
    (h : RInv ps nt ops env tm vals env' Φ a) : HO ⟨P, ps, tm⟩ env vals Φ a.eval := by
  intro x y v hx hy
  cases x with
  | tmp t =>
    simp only [trOpd] at hx
    split at hx
    · rename_i k hk
      simp only [Option.some.injEq] at hx; subst hx
      simp only [aval] at hy
      exact (h.tmOk t k hk).2.2 v hy
    · rename_i hk
      split at hx <;> simp only [Option.some.injEq, reduceCtorEq] at hx
      rename_i z hz; subst hx
      simp only [aval] at hy
      exact h.old z t v (idxOf_get hz) hk hy
  | const k =>
    simp only [trOpd] at hx
    split at hx <;> simp only [Option.some.injEq, reduceCtorEq] at hx
    rename_i z hz; subst hx
    simp only [aval, Option.some.injEq] at hy; subst hy
    exact trConst_R k hz
  | func f =>
    simp only [trOpd, Option.some.injEq] at hx; subst hx
    simp only [aval, Option.some.injEq] at hy; subst hy
    simp only [R, Act.eval]
    exact ⟨[], [], rfl, .nil, .nil⟩
  | global g => simp [trOpd] at hx

theorem getD_set_self (xs : Array Value) (d : Nat) (v : Value) (h : d < xs.size) : (xs.setIfInBounds d v).getD d undef = v := by
  simp [Array.getD, h]
theorem getD_set_ne (xs : Array Value) (d e : Nat) (v : Value) (h : d ≠ e) : (xs.setIfInBounds d v).getD e undef = xs.getD e undef := by
  simp only [Array.getD_eq_getD_getElem?, Array.getElem?_setIfInBounds_ne h]

/-- The next operation's value. -/
theorem RInv.step {ps : List Nat} {nt : Nat} {ops : Array Oper} {env : List AV} {tm : List (Nat × Nat)} {vals env' : List AV} {Φ Φ' : Phi} {a : Act}
    (h : RInv ps nt ops env tm vals env' Φ a) (hnd : ps.Nodup) (hm : ∀ i l, Φ i = some l → Φ' i = some l) {o : Oper} (ho : ops[vals.length]? = some o) {v : AV} {v' : Value} (hR : R Φ' v v')
    (hd : ∀ d, o.dst = some d → tm.lookup d = none ∧ d < nt) :
    RInv ps nt ops env (match o.dst with | some d => (d, vals.length) :: tm | none => tm) (vals ++ [v]) (put env' (match o.dst with | some d => ps.idxOf? d | none => none) v) Φ' (a.put o.dst v') := by
  cases hdst : o.dst with
  | none =>
    refine ⟨h.size, h.defers, fun d j hj => ?_, h.tmIn, fun x s e h1 h2 h3 => R.mono hm e (h.old x s e h1 h2 h3), h.cur.mono hm⟩
    obtain ⟨q1, q2, q3⟩ := h.tmOk d j hj
    refine ⟨by simp; omega, q2, fun u hu => ?_⟩
    rw [List.getElem?_append_left q1] at hu
    exact R.mono hm u (q3 u hu)
  | some d =>
    obtain ⟨hd1, hd2⟩ := hd d hdst
    have hsz : d < a.tmps.size := by rw [h.size]; exact hd2
    refine ⟨by simp [Act.put, h.size], h.defers, fun e j hj => ?_, fun p hp => ?_, fun x s e h1 h2 h3 => ?_, fun x s e h1 h2 => ?_⟩
    · simp only [List.lookup_cons] at hj
      by_cases e1 : e = d
      · subst e1
        simp only [beq_self_eq_true] at hj
        simp only [Option.some.injEq] at hj; subst hj
        refine ⟨by simp, by simp [ho, hdst], fun u hu => ?_⟩
        simp at hu; subst hu
        simp only [Act.put]
        rw [getD_set_self _ _ _ hsz]; exact hR
      · have : (e == d) = false := by simpa using e1
        rw [this] at hj
        obtain ⟨q1, q2, q3⟩ := h.tmOk e j hj
        refine ⟨by simp; omega, q2, fun u hu => ?_⟩
        rw [List.getElem?_append_left q1] at hu
        simp only [Act.put]
        rw [getD_set_ne _ _ _ _ (fun e2 => e1 e2.symm)]
        exact R.mono hm u (q3 u hu)
    · simp only [List.mem_cons] at hp
      rcases hp with rfl | hp
      · simp
      · have h1 := h.tmIn p hp
        have : (p.1 == d) = false := by
          by_cases e1 : p.1 = d
          · rw [e1, hd1] at h1; simp at h1
          · simpa using e1
        simp only [List.lookup_cons, this]
        exact h1
    · simp only [List.lookup_cons] at h2
      by_cases e1 : s = d
      · subst e1; simp at h2
      · have : (s == d) = false := by simpa using e1
        rw [this] at h2
        simp only [Act.put]
        rw [getD_set_ne _ _ _ _ (fun e2 => e1 e2.symm)]
        exact R.mono hm e (h.old x s e h1 h2 h3)
    · simp only [Act.put]
      simp only at h2
      cases hx : ps.idxOf? d with
      | none =>
        rw [hx] at h2
        simp only [put] at h2
        have e1 : s ≠ d := by
          intro e1; subst e1
          rw [List.idxOf?_eq_none_iff] at hx
          exact hx (List.mem_of_getElem? h1)
        rw [getD_set_ne _ _ _ _ (fun e2 => e1 e2.symm)]
        exact R.mono hm e (h.cur x s e h1 h2)
      | some y =>
        rw [hx] at h2
        simp only [put] at h2
        have hy := idxOf_get hx
        by_cases exy : x = y
        · subst exy
          rw [h1] at hy; simp only [Option.some.injEq] at hy; subst hy
          rw [getD_set_self _ _ _ hsz]
          have hlt : x < env'.length := by
            rcases Nat.lt_or_ge x env'.length with h | h
            · exact h
            · rw [List.getElem?_eq_none (by simp; omega)] at h2; simp at h2
          rw [List.getElem?_set_self hlt] at h2
          simp only [Option.some.injEq] at h2; subst h2
          exact hR
        · have e1 : s ≠ d := by
            intro e1; subst e1
            have hxl : x < ps.length := by
              rcases Nat.lt_or_ge x ps.length with h | h
              · exact h
              · rw [List.getElem?_eq_none h] at h1; simp at h1
            have hyl : y < ps.length := by
              rcases Nat.lt_or_ge y ps.length with h | h
              · exact h
              · rw [List.getElem?_eq_none h] at hy; simp at hy
            rw [List.getElem?_eq_getElem hxl] at h1
            rw [List.getElem?_eq_getElem hyl] at hy
            simp only [Option.some.injEq] at h1 hy
            exact exy ((List.getElem_inj hnd).1 (h1.trans hy.symm))
          rw [getD_set_ne _ _ _ _ (fun e2 => e1 e2.symm)]
          rw [List.getElem?_set_ne (fun e2 => exy e2.symm)] at h2
          exact R.mono hm e (h.cur x s e h1 h2)

/-- Is an operation carried out: as the machine asks it. -/
theorem wanted_ok {ps : List Nat} {nt : Nat} {ops : Array Oper} {env : List AV} {tm : List (Nat × Nat)} {vals env' : List AV} {Φ : Phi} {a : Act}
    (h : RInv ps nt ops env tm vals env' Φ a) {o : Oper} {g : Option (Nat × Bool)} (hg : o.guard = g) (hin : ∀ j t, g = some (j, t) → ∃ p, p ∈ tm ∧ p.2 = j) {b : Bool} (hw : wantedA vals g = some b) :
    Region.wanted o (yielded ops a.tmps) = b := by
  unfold wantedA at hw
  unfold Region.wanted
  rw [hg]
  cases g with
  | none => simp at hw; subst hw; rfl
  | some q =>
    obtain ⟨j, t⟩ := q
    simp only at hw ⊢
    split at hw <;> simp only [Option.some.injEq, reduceCtorEq] at hw
    · rename_i b' hb'
      obtain ⟨p, hp1, hp2⟩ := hin j t rfl
      have hl := h.tmIn p hp1
      rw [hp2] at hl
      obtain ⟨q1, q2, q3⟩ := h.tmOk _ _ hl
      have hv := q3 _ hb'
      simp only [R] at hv
      have hlt : p.1 < a.tmps.size := by
        rcases Nat.lt_or_ge p.1 a.tmps.size with h | h
        · exact h
        · rw [Array.getD_eq_getD_getElem?, Array.getElem?_eq_none h] at hv
          simp [undef] at hv
      have hy : yielded ops a.tmps j = some b' := by
        unfold yielded
        rw [q2]
        simp only [Option.bind_some]
        rw [Array.getD_eq_getD_getElem?, Array.getElem?_eq_getElem hlt] at hv
        rw [Array.getElem?_eq_getElem hlt]
        simp only [Option.getD_some] at hv
        rw [hv]
      rw [hy, ← hw]
      simp
    · rename_i hb'
      obtain ⟨p, hp1, hp2⟩ := hin j t rfl
      have hl := h.tmIn p hp1
      rw [hp2] at hl
      obtain ⟨q1, q2, q3⟩ := h.tmOk _ _ hl
      have hv := q3 _ hb'
      simp only [R] at hv
      obtain ⟨vs, hv, _⟩ := hv
      have hy : yielded ops a.tmps j = none := by
        unfold yielded
        rw [q2]
        simp only [Option.bind_some]
        rcases Nat.lt_or_ge p.1 a.tmps.size with h | h
        · rw [Array.getD_eq_getD_getElem?, Array.getElem?_eq_getElem h] at hv
          rw [Array.getElem?_eq_getElem h]
          simp only [Option.getD_some] at hv
          rw [hv]
        · rw [Array.getElem?_eq_none h]
      rw [hy, ← hw]
      simp

theorem run_len {P : Program} {call : CallT} (CS : CallSound P call) {all : List AOper} {env : List AV} : ∀ (l : List AOper) (vals : List AV) (hs : List AHeap) (env' : List AV) (H : AHeap) {envF : List AV} {HF : AHeap},
    runOps call all env l vals hs env' H = some (envF, HF) → H.length ≤ HF.length
  | [], vals, hs, env', H, envF, HF, h => by
    simp only [runOps, Option.some.injEq, Prod.mk.injEq] at h; obtain ⟨_, rfl⟩ := h; exact Nat.le_refl _
  | o :: r, vals, hs, env', H, envF, HF, h => by
    simp only [runOps] at h
    split at h
    · simp at h
    · exact run_len CS r _ _ _ _ h
    · split at h
      · simp at h
      · rename_i v H1 h1
        split at h
        · exact Nat.le_trans (op_len (c := ⟨P, [], []⟩) CS h1) (run_len CS r _ _ _ _ h)
        · simp at h

theorem Free.split {Φ : Phi} {a b c : Nat} (h : Free Φ a c) (hbc : b ≤ c) : Free Φ a b := fun i h1 h2 => h i h1 (Nat.lt_of_lt_of_le h2 hbc)

theorem Free.next {Φ Φ' : Phi} {a b c : Nat} (h : Free Φ a c) (hab : a ≤ b) (hd : Dom Φ Φ' a b) : Free Φ' b c := fun i h1 h2 => by
  by_cases e : Φ' i = Φ i
  · rw [e]; exact h i (Nat.le_trans hab h1) h2
  · have := hd i e; omega

theorem Dom.trans {Φ Φ' Φ'' : Phi} {a b c : Nat} (h : Dom Φ Φ' a b) (k : Dom Φ' Φ'' b c) (hab : a ≤ b) (hbc : b ≤ c) : Dom Φ Φ'' a c := fun i hi => by
  by_cases e : Φ'' i = Φ' i
  · have := h i (by rw [← e]; exact hi); omega
  · have := k i e; omega

theorem Dom.refl (Φ : Phi) (a b : Nat) : Dom Φ Φ a b := fun _ h => absurd rfl h

/-- The rest of a region, in the order of its text. -/
theorem ops_wp {P : Program} {call : CallT} (CS : CallSound P call) {ps : List Nat} {nt : Nat} (hnd : ps.Nodup) (ops : Array Oper) (all : List AOper) (env : List AV) {Q : Exit → Act → World → Prop} :
    ∀ (rest : List Oper) (tm : List (Nat × Nat)) (lr : List AOper) (vals : List AV) (hs : List AHeap) (env' : List AV) (H : AHeap) (envF : List AV) (HF : AHeap) (Φ : Phi) (a : Act) (w : World),
      ops.toList.drop vals.length = rest → trOps P ps nt rest vals.length tm = some lr → runOps call all env lr vals hs env' H = some (envF, HF) →
      RInv ps nt ops env tm vals env' Φ a → Sim Φ (getB H) w → Free Φ H.length HF.length →
      (∀ Φ' a' w', EnvOk Φ' ps envF a' → a'.tmps.size = nt → a'.defers = [] → Sim Φ' (getB HF) w' → Ext Φ (getB H) w Φ' (getB HF) w' → Dom Φ Φ' H.length HF.length → Q .normal a' w') →
      wpOps P ops Q (List.range' vals.length rest.length) a w
  | [], tm, lr, vals, hs, env', H, envF, HF, Φ, a, w, hdrop, htr, hrun, hI, S, hfree, hQ => by
    simp only [trOps, Option.some.injEq] at htr; subst htr
    simp only [runOps, Option.some.injEq, Prod.mk.injEq] at hrun
    obtain ⟨rfl, rfl⟩ := hrun
    simp only [List.length_nil, List.range'_zero, wpOps]
    exact hQ Φ a w hI.cur hI.size hI.defers S (Ext.refl _ _ _) (Dom.refl _ _ _)
  | o :: rest, tm, lr, vals, hs, env', H, envF, HF, Φ, a, w, hdrop, htr, hrun, hI, S, hfree, hQ => by
    have ho : ops[vals.length]? = some o := by
      have : (ops.toList.drop vals.length)[0]? = some o := by rw [hdrop]; rfl
      rw [List.getElem?_drop] at this
      simpa using this
    have hdrop' : ∀ v : AV, ops.toList.drop (vals ++ [v]).length = rest := by
      intro v
      have : (ops.toList.drop vals.length).drop 1 = rest := by rw [hdrop]; rfl
      rw [List.drop_drop] at this
      simpa using this
    simp only [trOps] at htr
    split at htr
    · simp at htr
    rename_i ao hao
    -- the guard
    have hguard : ∃ g : Option (Nat × Bool), o.guard = g ∧ (match o.guard with | none => some none | some (j, t) => if tm.any (fun p => p.2 == j) then some (some (j, t)) else none) = some g ∧ (∀ j t, g = some (j, t) → ∃ p, p ∈ tm ∧ p.2 = j) ∧
        (∀ d, o.dst = some d → tm.lookup d = none ∧ d < nt) ∧
        ∃ l, trOps P ps nt rest (vals.length + 1) (match o.dst with | some d => (d, vals.length) :: tm | none => tm) = some l ∧
          lr = { op := ao, dst := (match o.dst with | some d => ps.idxOf? d | none => none), guard := g } :: l := by
      cases hg : o.guard with
      | none =>
        rw [hg] at htr
        simp only at htr
        cases hd : o.dst with
        | none =>
          rw [hd] at htr
          simp only at htr
          split at htr <;> simp only [Option.some.injEq, reduceCtorEq] at htr
          rename_i l hl
          exact ⟨none, rfl, rfl, by simp, by simp, l, hl, htr.symm⟩
        | some d =>
          rw [hd] at htr
          simp only at htr
          split at htr
          · simp at htr
          · rename_i hcond
            simp only [Bool.or_eq_true, decide_eq_true_eq, not_or, Option.isSome_iff_ne_none, ne_eq, Decidable.not_not, Nat.not_le] at hcond
            split at htr <;> simp only [Option.some.injEq, reduceCtorEq] at htr
            rename_i l hl
            exact ⟨none, rfl, rfl, by simp, fun d' hd' => by simp only [Option.some.injEq] at hd'; subst hd'; exact hcond, l, hl, htr.symm⟩
      | some q =>
        obtain ⟨j, t⟩ := q
        rw [hg] at htr
        simp only at htr
        by_cases hany : tm.any (fun p => p.2 == j) = true
        · rw [if_pos hany] at htr
          have hin : ∃ p, p ∈ tm ∧ p.2 = j := by
            rw [List.any_eq_true] at hany
            obtain ⟨p, h1, h2⟩ := hany
            exact ⟨p, h1, by simpa using h2⟩
          cases hd : o.dst with
          | none =>
            rw [hd] at htr
            simp only at htr
            split at htr <;> simp only [Option.some.injEq, reduceCtorEq] at htr
            rename_i l hl
            exact ⟨some (j, t), rfl, by simp [hany], fun j' t' e => by simp only [Option.some.injEq, Prod.mk.injEq] at e; rw [← e.1]; exact hin, by simp, l, hl, htr.symm⟩
          | some d =>
            rw [hd] at htr
            simp only at htr
            split at htr
            · simp at htr
            · rename_i hcond
              simp only [Bool.or_eq_true, decide_eq_true_eq, not_or, Option.isSome_iff_ne_none, ne_eq, Decidable.not_not, Nat.not_le] at hcond
              split at htr <;> simp only [Option.some.injEq, reduceCtorEq] at htr
              rename_i l hl
              exact ⟨some (j, t), rfl, by simp [hany], fun j' t' e => by simp only [Option.some.injEq, Prod.mk.injEq] at e; rw [← e.1]; exact hin,
                fun d' hd' => by simp only [Option.some.injEq] at hd'; subst hd'; exact hcond, l, hl, htr.symm⟩
        · rw [if_neg hany] at htr
          simp at htr
    obtain ⟨g, hg, _, hgin, hdst, l, hl, rfl⟩ := hguard
    simp only [runOps] at hrun
    rw [List.length_cons, List.range'_succ]
    simp only [wpOps, ho]
    split at hrun
    · simp at hrun
    · -- it is passed over
      rename_i hw
      rw [wanted_ok hI hg hgin hw]
      simp only [Bool.false_eq_true, if_false]
      have hI' := hI.step hnd (fun _ _ h => h) ho (v := .tup []) (v' := undef) (by simp only [R]; exact ⟨[], rfl, by simp only [Rs]⟩) hdst
      have := ops_wp CS hnd ops all env rest _ l (vals ++ [.tup []]) _ _ H envF HF Φ (a.put o.dst undef) w (hdrop' _) (by simpa using hl) hrun hI' S hfree hQ
      simpa using this
    · rename_i hw
      rw [wanted_ok hI hg hgin hw]
      simp only [if_true]
      split at hrun
      · simp at hrun
      · rename_i v H1 hv
        split at hrun
        · refine .inl ?_
          have hlen1 := op_len (c := ⟨P, ps, tm⟩) CS hv
          have hlen2 := run_len CS _ _ _ _ _ hrun
          refine op_wp (c := ⟨P, ps, tm⟩) CS hI.ho S o hao hv (hfree.split hlen2) (fun Φ' v' w' hR s1 s2 s3 => ?_)
          have hI' := hI.step hnd s2.mono ho hR hdst
          have := ops_wp CS hnd ops all env rest _ l (vals ++ [v]) _ _ H1 envF HF Φ' (a.put o.dst v') w' (hdrop' _) (by simpa using hl) hrun hI' s1 (hfree.next hlen1 s3)
            (fun Φ2 a2 w2 q1 q2 q3 q4 q5 q6 => hQ Φ2 a2 w2 q1 q2 q3 q4 (s2.trans q5) (s3.trans q6 hlen1 hlen2))
          simpa using this
        · simp at hrun

end Go.Am
