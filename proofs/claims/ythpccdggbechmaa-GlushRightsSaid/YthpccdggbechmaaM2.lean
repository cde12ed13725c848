/- Texts put to one: AmO AmP AmT AmU AmQ AmS AmR AmV AmW AmX AmY AmZ AmZA AmZB AmZC AmZD AmZE AmZF. -/
import Derived.Test.YthpccdggbechmaaM1
import Derived.Orders
import Derived.Shelf.Sort.Plain
import Derived.Shelf.Slices.In.SortNone
import Derived.Shelf.Spec.SlicesGrow
import GoSem.ClaimChange
import Derived.ProofKit

/- One operation: what compact code says is what the machine does. -/
namespace Go.Am

def Free (Φ : Phi) (n n' : Nat) : Prop := ∀ i, n ≤ i → i < n' → Φ i = none

def Dom (Φ Φ' : Phi) (n n' : Nat) : Prop := ∀ i, Φ' i ≠ Φ i → n ≤ i ∧ i < n'

def Callable (P : Program) (f : FuncId) : Prop := ∃ fn, P.funcs[f]? = some fn ∧ fn.body.isNone = false ∧ (fn.name == "runtime.NumGoroutine") = false

/-- What stands behind a call. -/
def CallPost (Φ : Phi) (H : AHeap) (w : World) (r : AV) (H' : AHeap) : Ending → World → Prop :=
  fun e w' => ∃ Φ' v, e = .returned v ∧ R Φ' r v ∧ Sim Φ' (getB H') w' ∧ Ext Φ (getB H) w Φ' (getB H') w' ∧ Dom Φ Φ' H.length H'.length

def CallSound (P : Program) (call : CallT) : Prop :=
  ∀ f args H r H', call f args H = some (r, H') → H.length ≤ H'.length ∧ Callable P f ∧
    ∀ Φ w vs, Sim Φ (getB H) w → Free Φ H.length H'.length → Rs Φ args vs → Calls P f (List.toArray vs) w (CallPost Φ H w r H')

section
variable {c : Ctx} {env vals : List AV} {Φ : Phi} {w : World} {H : AHeap} {call : CallT}

theorem eff_len (CS : CallSound c.P call) {ao : AOp} {v : AV} {H' : AHeap} (hv : aEff call env vals H ao = some (v, H')) : H.length ≤ H'.length := by
  have hst : ∀ i o cs H1, storeA H i o cs = some H1 → H1.length = H.length := by
    intro i o cs H1 h
    unfold storeA at h
    split at h
    · split at h <;> simp only [Option.some.injEq, reduceCtorEq] at h
      subst h; simp
    · simp at h
  cases ao <;> simp only [aEff, reduceCtorEq] at hv
  case store n a x =>
    split at hv
    · split at hv
      · split at hv <;> simp only [Option.some.injEq, Prod.mk.injEq, reduceCtorEq] at hv
        rename_i H1 h1
        obtain ⟨_, rfl⟩ := hv
        rw [hst _ _ _ _ h1]; exact Nat.le_refl _
      · simp at hv
    · simp at hv
  case mapset =>
    (repeat' split at hv) <;> simp only [Option.some.injEq, Prod.mk.injEq, reduceCtorEq] at hv <;> (obtain ⟨_, rfl⟩ := hv) <;> simp
  case call f xs =>
    split at hv
    · exact (CS _ _ _ _ _ hv).1
    · simp at hv
  case callv f xs =>
    split at hv
    · exact (CS _ _ _ _ _ hv).1
    · simp at hv
  case append =>
    split at hv
    · split at hv
      · unfold appendA at hv
        split at hv
        · simp at hv
        · (repeat' split at hv) <;> simp only [Option.some.injEq, Prod.mk.injEq, reduceCtorEq] at hv <;> (obtain ⟨_, rfl⟩ := hv) <;> simp
      · simp at hv
    · simp at hv
  case copy =>
    split at hv
    · split at hv
      · simp at hv
      · unfold copyA at hv
        split at hv
        · split at hv <;> simp only [Option.some.injEq, Prod.mk.injEq, reduceCtorEq] at hv
          rename_i H1 h1
          obtain ⟨_, rfl⟩ := hv
          rw [hst _ _ _ _ h1]; exact Nat.le_refl _
        · simp only [Option.some.injEq, Prod.mk.injEq] at hv; obtain ⟨_, rfl⟩ := hv; exact Nat.le_refl _
        · simp only [Option.some.injEq, Prod.mk.injEq] at hv; obtain ⟨_, rfl⟩ := hv; exact Nat.le_refl _
        · simp at hv
    · simp at hv
  case clear =>
    split at hv
    · unfold clearA at hv
      split at hv
      · simp only [Option.some.injEq, Prod.mk.injEq] at hv; obtain ⟨_, rfl⟩ := hv; exact Nat.le_refl _
      · simp only [Option.some.injEq, Prod.mk.injEq] at hv; obtain ⟨_, rfl⟩ := hv; exact Nat.le_refl _
      · split at hv
        · simp only [Option.some.injEq, Prod.mk.injEq] at hv; obtain ⟨_, rfl⟩ := hv; exact Nat.le_refl _
        · split at hv <;> simp only [Option.some.injEq, Prod.mk.injEq, reduceCtorEq] at hv
          rename_i H1 h1
          obtain ⟨_, rfl⟩ := hv
          rw [hst _ _ _ _ h1]; exact Nat.le_refl _
      · simp at hv
    · simp at hv
  case delete =>
    (repeat' split at hv) <;> simp only [Option.some.injEq, Prod.mk.injEq, reduceCtorEq] at hv <;> (obtain ⟨_, rfl⟩ := hv) <;> simp

theorem op_len (CS : CallSound c.P call) {ao : AOp} {v : AV} {H' : AHeap} (hv : aOp call env vals H ao = some (v, H')) : H.length ≤ H'.length := by
  unfold aOp at hv
  split at hv
  · split at hv <;> simp only [Option.some.injEq, Prod.mk.injEq, reduceCtorEq] at hv
    obtain ⟨_, rfl⟩ := hv; exact Nat.le_refl _
  · split at hv <;> simp only [Option.some.injEq, Prod.mk.injEq, reduceCtorEq] at hv
    obtain ⟨_, rfl⟩ := hv; exact Nat.le_refl _
  · split at hv <;> simp only [Option.some.injEq, Prod.mk.injEq, reduceCtorEq] at hv
    obtain ⟨_, rfl⟩ := hv; simp
  · exact eff_len CS hv

theorem run_callFunc {P : Program} {f : FuncId} (h : Callable P f) (args : Array Value) : (callFunc f args).run P w = .ok (.enter f args) w := by
  obtain ⟨fn, h1, h2, h3⟩ := h
  simp only [callFunc, Sem.run_bind, run_program, Result.andThen_ok, h1, h2, h3, Bool.false_eq_true, if_false, Sem.run_pure]

theorem trOp_call_inv {op : Op} {ao : AOp} (hc : ao.isCall = true) (h : trOp c op = some ao) : ∃ k, op = .call k ∧ trCall c k = some ao := by
  cases op with
  | call k => exact ⟨k, rfl, by simpa only [trOp] using h⟩
  | binOp op t x y yt =>
    exfalso
    cases op
    case eql => simp only [trOp, trEq] at h; (repeat' split at h) <;> simp only [Option.some.injEq, reduceCtorEq] at h <;> subst h <;> simp [AOp.isCall] at hc
    case neq => simp only [trOp, trEq] at h; (repeat' split at h) <;> simp only [Option.some.injEq, reduceCtorEq] at h <;> subst h <;> simp [AOp.isCall] at hc
    all_goals (simp only [trOp] at h; (repeat' split at h) <;> simp only [Option.some.injEq, reduceCtorEq] at h <;> subst h <;> simp [AOp.isCall] at hc)
  | makeFunc f first caps =>
    exfalso
    cases f <;> simp only [trOp, reduceCtorEq] at h
    (repeat' split at h) <;> simp only [Option.some.injEq, reduceCtorEq] at h
    subst h; simp [AOp.isCall] at hc
  | makeMap t r =>
    exfalso
    cases r <;> simp only [trOp, Option.some.injEq, reduceCtorEq] at h
    subst h; simp [AOp.isCall] at hc
  | panic x => exfalso; simp only [trOp, Option.some.injEq] at h; subst h; simp [AOp.isCall] at hc
  | defer x => exfalso; simp only [trOp, Option.some.injEq] at h; subst h; simp [AOp.isCall] at hc
  | _ =>
    exfalso
    simp only [trOp, reduceCtorEq] at h
    all_goals ((repeat' split at h) <;> simp only [Option.some.injEq, reduceCtorEq] at h <;> subst h <;> simp [AOp.isCall] at hc)

/-- One operation in the machine. -/
theorem op_wp (CS : CallSound c.P call) {a : Act} (O : HO c env vals Φ a.eval) (S : Sim Φ (getB H) w) (o : Oper) {ao : AOp} {v : AV} {H' : AHeap} (h : trOp c o.op = some ao)
    (hv : aOp call env vals H ao = some (v, H')) (hfree : Free Φ H.length H'.length) {K : Act → World → Prop} {Q : Exit → Act → World → Prop}
    (hK : ∀ Φ' v' w', R Φ' v v' → Sim Φ' (getB H') w' → Ext Φ (getB H) w Φ' (getB H') w' → Dom Φ Φ' H.length H'.length → K (a.put o.dst v') w') : o.wp c.P a w K Q := by
  unfold aOp at hv
  split at hv
  · -- no memory
    split at hv <;> simp only [Option.some.injEq, Prod.mk.injEq, reduceCtorEq] at hv
    rename_i u hu
    obtain ⟨rfl, rfl⟩ := hv
    obtain ⟨v', hr, hR⟩ := pure_ok (w := w) O o h hu
    simp only [Oper.wp, hr, Oper.upon_value]
    exact hK Φ v' w hR S (Ext.refl _ _ _) (fun i hi => absurd rfl hi)
  · split at hv <;> simp only [Option.some.injEq, Prod.mk.injEq, reduceCtorEq] at hv
    rename_i u hu
    obtain ⟨rfl, rfl⟩ := hv
    obtain ⟨v', hr, hR⟩ := read_ok O S o h hu
    simp only [Oper.wp, hr, Oper.upon_value]
    exact hK Φ v' w hR S (Ext.refl _ _ _) (fun i hi => absurd rfl hi)
  · split at hv <;> simp only [Option.some.injEq, Prod.mk.injEq, reduceCtorEq] at hv
    rename_i mk blk hu
    obtain ⟨rfl, rfl⟩ := hv
    obtain ⟨v', w', l, hr, hN, hlb, hrw, hall⟩ := new_ok (w := w) O o h hu
    have hnone : Φ H.length = none := hfree _ (Nat.le_refl _) (by simp)
    have mono : ∀ j q, Φ j = some q → upd Φ H.length (some l) j = some q := by
      intro j q hj
      rw [upd_other (fun e => by subst e; rw [hnone] at hj; simp at hj)]; exact hj
    obtain ⟨hok, hR⟩ := hall H.length (upd Φ H.length (some l)) mono (upd_self _ _ _)
    obtain ⟨s1, s2⟩ := new_step S hN hlb hrw hnone hok
    simp only [Oper.wp, hr, Oper.upon_value]
    rw [← getB_append] at s1 s2
    refine hK _ v' w' hR s1 s2 (fun i hi => ?_)
    by_cases e : i = H.length
    · subst e; exact ⟨Nat.le_refl _, by simp⟩
    · exact absurd (upd_other e) hi
  · by_cases hc : ao.isCall = true
    · -- a call
      obtain ⟨dst, op, ty, pos, after, guard⟩ := o
      simp only at h
      cases ao <;> simp [AOp.isCall] at hc
      case call f xs =>
        simp only [aEff] at hv
        split at hv
        · rename_i uas has
          obtain ⟨h1, h2, h3⟩ := CS _ _ _ _ _ hv
          obtain ⟨k, rfl, hcl⟩ := trOp_call_inv rfl h
          clear h
          have h := hcl
          clear hcl
          obtain ⟨callee, args, ats⟩ := k
          unfold trCall at h
          split at h
          · rename_i g hg0
            simp only at hg0; subst hg0
            split at h <;> simp only [Option.some.injEq, reduceCtorEq, AOp.call.injEq] at h
            rename_i ys hys
            obtain ⟨rfl, rfl⟩ := h
            have hR := O.list hys has
            have hrun : (execOp a.eval { dst, op := .call { callee := .value (.func g), args, argTypes := ats }, type := ty, pos, after, guard }).run c.P w = .ok (.enter g (args.toList.map a.eval).toArray) w := by
              have e1 : args.map a.eval = (args.toList.map a.eval).toArray := by rw [← List.map_toArray, Array.toArray_toList]
              simp only [execOp, resolve, Act.eval, Deferred.ofValue, Sem.run_bind, Sem.run_pure, Result.andThen_ok, invoke]
              rw [show (#[] : Array Value) ++ args.map a.eval ++ #[] = (args.toList.map a.eval).toArray by rw [← e1]; simp]
              exact run_callFunc h2 _
            simp only [Oper.wp, hrun, Oper.upon_enter]
            refine (h3 Φ w _ S hfree hR).mono ?_
            rintro e w' ⟨Φ', v', rfl, hRv, s1, s2, s3⟩
            exact hK Φ' v' w' hRv s1 s2 s3
          · split at h <;> simp only [Option.some.injEq, reduceCtorEq] at h
          · simp at h
          · exfalso; revert h; (repeat' split) <;> intro h <;> simp only [Option.some.injEq, reduceCtorEq] at h
        · simp at hv
      case callv g xs =>
        simp only [aEff] at hv
        split at hv
        · rename_i f first caps uas hg has
          obtain ⟨h1, h2, h3⟩ := CS _ _ _ _ _ hv
          obtain ⟨k, rfl, hcl⟩ := trOp_call_inv rfl h
          clear h
          have h := hcl
          clear hcl
          obtain ⟨callee, args, ats⟩ := k
          unfold trCall at h
          split at h
          · split at h <;> simp only [Option.some.injEq, reduceCtorEq] at h
          · rename_i y hne hy0
            simp only at hy0; subst hy0
            split at h <;> simp only [Option.some.injEq, reduceCtorEq, AOp.callv.injEq] at h
            rename_i z ys hz hys
            obtain ⟨rfl, rfl⟩ := h
            have hR := O.list hys has
            have hRf := O _ _ _ hz hg
            simp only [R] at hRf
            obtain ⟨fs, cps, hfv, hfR, hcR⟩ := hRf
            have hrun : (execOp a.eval { dst, op := .call { callee := .value y, args, argTypes := ats }, type := ty, pos, after, guard }).run c.P w = .ok (.enter f (fs ++ args.toList.map a.eval ++ cps).toArray) w := by
              have e1 : args.map a.eval = (args.toList.map a.eval).toArray := by rw [← List.map_toArray, Array.toArray_toList]
              simp only [execOp, resolve, hfv, Deferred.ofValue, Sem.run_bind, Sem.run_pure, Result.andThen_ok, invoke]
              rw [show fs.toArray ++ args.map a.eval ++ cps.toArray = (fs ++ args.toList.map a.eval ++ cps).toArray by rw [e1]; simp]
              exact run_callFunc h2 _
            simp only [Oper.wp, hrun, Oper.upon_enter]
            refine (h3 Φ w _ S hfree ((hfR.append hR).append hcR)).mono ?_
            rintro e w' ⟨Φ', v', rfl, hRv, s1, s2, s3⟩
            exact hK Φ' v' w' hRv s1 s2 s3
          · simp at h
          · exfalso; revert h; (repeat' split) <;> intro h <;> simp only [Option.some.injEq, reduceCtorEq] at h
        · simp at hv
    · obtain ⟨⟨Φ', nx, w', hr, hnx, s1, s2, s3⟩, _⟩ := eff_ok O S o h (by simpa using hc) hv hfree
      simp only [Oper.wp, hr]
      rcases hnx with ⟨v', rfl, hR⟩ | ⟨rfl, rfl⟩
      · exact hK Φ' v' w' hR s1 s2 s3
      · exact hK Φ' undef w' (by simp only [R]) s1 s2 s3

end
end Go.Am

/- A region in the order of its text: what compact code says is what the machine does. -/
namespace Go.Am

/-- Variables: what compact code holds is what the machine's slots hold. -/
def EnvOk (Φ : Phi) (ps : List Nat) (env : List AV) (a : Act) : Prop :=
  ∀ (x s : Nat) (e : AV), ps[x]? = some s → env[x]? = some e → R Φ e (a.tmps.getD s undef)

theorem EnvOk.mono {Φ Φ' : Phi} {ps : List Nat} {env : List AV} {a : Act} (h : EnvOk Φ ps env a) (hm : ∀ i l, Φ i = some l → Φ' i = some l) : EnvOk Φ' ps env a :=
  fun x s e h1 h2 => R.mono hm e (h x s e h1 h2)

/-- Within a region. 'tm': which slot is of which operation. -/
structure RInv (ps : List Nat) (nt : Nat) (ops : Array Oper) (env : List AV) (tm : List (Nat × Nat)) (vals env' : List AV) (Φ : Phi) (a : Act) : Prop where
  size : a.tmps.size = nt
  defers : a.defers = []
  tmOk : ∀ (d j : Nat), tm.lookup d = some j → j < vals.length ∧ ((ops[j]?).bind (·.dst)) = some d ∧ ∀ v, vals[j]? = some v → R Φ v (a.tmps.getD d undef)
  tmIn : ∀ p, p ∈ tm → tm.lookup p.1 = some p.2
  old : ∀ (x s : Nat) (e : AV), ps[x]? = some s → tm.lookup s = none → env[x]? = some e → R Φ e (a.tmps.getD s undef)
  cur : EnvOk Φ ps env' a

theorem idxOf_get {ps : List Nat} {d x : Nat} (h : ps.idxOf? d = some x) : ps[x]? = some d := by
  rw [List.idxOf?_eq_some_iff] at h
  obtain ⟨hx, h1, _⟩ := h
  rw [List.getElem?_eq_getElem hx]
  simpa using h1

theorem RInv.ho {P : Program} {ps : List Nat} {nt : Nat} {ops : Array Oper} {env : List AV} {tm : List (Nat × Nat)} {vals env' : List AV} {Φ : Phi} {a : Act}
    (h : RInv ps nt ops env tm vals env' Φ a) : HO ⟨P, ps, tm⟩ env vals Φ a.eval := by
  intro x y v hx hy
  cases x with
  | tmp t =>
    simp only [trOpd] at hx
    split at hx
    · rename_i k hk
      simp only [Option.some.injEq] at hx; subst hx
      simp only [aval] at hy
      exact (h.tmOk t k hk).2.2 v hy
    · rename_i hk
      split at hx <;> simp only [Option.some.injEq, reduceCtorEq] at hx
      rename_i z hz; subst hx
      simp only [aval] at hy
      exact h.old z t v (idxOf_get hz) hk hy
  | const k =>
    simp only [trOpd] at hx
    split at hx <;> simp only [Option.some.injEq, reduceCtorEq] at hx
    rename_i z hz; subst hx
    simp only [aval, Option.some.injEq] at hy; subst hy
    exact trConst_R k hz
  | func f =>
    simp only [trOpd, Option.some.injEq] at hx; subst hx
    simp only [aval, Option.some.injEq] at hy; subst hy
    simp only [R, Act.eval]
    exact ⟨[], [], rfl, .nil, .nil⟩
  | global g => simp [trOpd] at hx

theorem getD_set_self (xs : Array Value) (d : Nat) (v : Value) (h : d < xs.size) : (xs.setIfInBounds d v).getD d undef = v := by
  simp [Array.getD, h]
theorem getD_set_ne (xs : Array Value) (d e : Nat) (v : Value) (h : d ≠ e) : (xs.setIfInBounds d v).getD e undef = xs.getD e undef := by
  simp only [Array.getD_eq_getD_getElem?, Array.getElem?_setIfInBounds_ne h]

/-- The next operation's value. -/
theorem RInv.step {ps : List Nat} {nt : Nat} {ops : Array Oper} {env : List AV} {tm : List (Nat × Nat)} {vals env' : List AV} {Φ Φ' : Phi} {a : Act}
    (h : RInv ps nt ops env tm vals env' Φ a) (hnd : ps.Nodup) (hm : ∀ i l, Φ i = some l → Φ' i = some l) {o : Oper} (ho : ops[vals.length]? = some o) {v : AV} {v' : Value} (hR : R Φ' v v')
    (hd : ∀ d, o.dst = some d → tm.lookup d = none ∧ d < nt) :
    RInv ps nt ops env (match o.dst with | some d => (d, vals.length) :: tm | none => tm) (vals ++ [v]) (put env' (match o.dst with | some d => ps.idxOf? d | none => none) v) Φ' (a.put o.dst v') := by
  cases hdst : o.dst with
  | none =>
    refine ⟨h.size, h.defers, fun d j hj => ?_, h.tmIn, fun x s e h1 h2 h3 => R.mono hm e (h.old x s e h1 h2 h3), h.cur.mono hm⟩
    obtain ⟨q1, q2, q3⟩ := h.tmOk d j hj
    refine ⟨by simp; omega, q2, fun u hu => ?_⟩
    rw [List.getElem?_append_left q1] at hu
    exact R.mono hm u (q3 u hu)
  | some d =>
    obtain ⟨hd1, hd2⟩ := hd d hdst
    have hsz : d < a.tmps.size := by rw [h.size]; exact hd2
    refine ⟨by simp [Act.put, h.size], h.defers, fun e j hj => ?_, fun p hp => ?_, fun x s e h1 h2 h3 => ?_, fun x s e h1 h2 => ?_⟩
    · simp only [List.lookup_cons] at hj
      by_cases e1 : e = d
      · subst e1
        simp only [beq_self_eq_true] at hj
        simp only [Option.some.injEq] at hj; subst hj
        refine ⟨by simp, by simp [ho, hdst], fun u hu => ?_⟩
        simp at hu; subst hu
        simp only [Act.put]
        rw [getD_set_self _ _ _ hsz]; exact hR
      · have : (e == d) = false := by simpa using e1
        rw [this] at hj
        obtain ⟨q1, q2, q3⟩ := h.tmOk e j hj
        refine ⟨by simp; omega, q2, fun u hu => ?_⟩
        rw [List.getElem?_append_left q1] at hu
        simp only [Act.put]
        rw [getD_set_ne _ _ _ _ (fun e2 => e1 e2.symm)]
        exact R.mono hm u (q3 u hu)
    · simp only [List.mem_cons] at hp
      rcases hp with rfl | hp
      · simp
      · have h1 := h.tmIn p hp
        have : (p.1 == d) = false := by
          by_cases e1 : p.1 = d
          · rw [e1, hd1] at h1; simp at h1
          · simpa using e1
        simp only [List.lookup_cons, this]
        exact h1
    · simp only [List.lookup_cons] at h2
      by_cases e1 : s = d
      · subst e1; simp at h2
      · have : (s == d) = false := by simpa using e1
        rw [this] at h2
        simp only [Act.put]
        rw [getD_set_ne _ _ _ _ (fun e2 => e1 e2.symm)]
        exact R.mono hm e (h.old x s e h1 h2 h3)
    · simp only [Act.put]
      simp only at h2
      cases hx : ps.idxOf? d with
      | none =>
        rw [hx] at h2
        simp only [put] at h2
        have e1 : s ≠ d := by
          intro e1; subst e1
          rw [List.idxOf?_eq_none_iff] at hx
          exact hx (List.mem_of_getElem? h1)
        rw [getD_set_ne _ _ _ _ (fun e2 => e1 e2.symm)]
        exact R.mono hm e (h.cur x s e h1 h2)
      | some y =>
        rw [hx] at h2
        simp only [put] at h2
        have hy := idxOf_get hx
        by_cases exy : x = y
        · subst exy
          rw [h1] at hy; simp only [Option.some.injEq] at hy; subst hy
          rw [getD_set_self _ _ _ hsz]
          have hlt : x < env'.length := by
            rcases Nat.lt_or_ge x env'.length with h | h
            · exact h
            · rw [List.getElem?_eq_none (by simp; omega)] at h2; simp at h2
          rw [List.getElem?_set_self hlt] at h2
          simp only [Option.some.injEq] at h2; subst h2
          exact hR
        · have e1 : s ≠ d := by
            intro e1; subst e1
            have hxl : x < ps.length := by
              rcases Nat.lt_or_ge x ps.length with h | h
              · exact h
              · rw [List.getElem?_eq_none h] at h1; simp at h1
            have hyl : y < ps.length := by
              rcases Nat.lt_or_ge y ps.length with h | h
              · exact h
              · rw [List.getElem?_eq_none h] at hy; simp at hy
            rw [List.getElem?_eq_getElem hxl] at h1
            rw [List.getElem?_eq_getElem hyl] at hy
            simp only [Option.some.injEq] at h1 hy
            exact exy ((List.getElem_inj hnd).1 (h1.trans hy.symm))
          rw [getD_set_ne _ _ _ _ (fun e2 => e1 e2.symm)]
          rw [List.getElem?_set_ne (fun e2 => exy e2.symm)] at h2
          exact R.mono hm e (h.cur x s e h1 h2)

/-- Is an operation carried out: as the machine asks it. -/
theorem wanted_ok {ps : List Nat} {nt : Nat} {ops : Array Oper} {env : List AV} {tm : List (Nat × Nat)} {vals env' : List AV} {Φ : Phi} {a : Act}
    (h : RInv ps nt ops env tm vals env' Φ a) {o : Oper} {g : Option (Nat × Bool)} (hg : o.guard = g) (hin : ∀ j t, g = some (j, t) → ∃ p, p ∈ tm ∧ p.2 = j) {b : Bool} (hw : wantedA vals g = some b) :
    Region.wanted o (yielded ops a.tmps) = b := by
  unfold wantedA at hw
  unfold Region.wanted
  rw [hg]
  cases g with
  | none => simp at hw; subst hw; rfl
  | some q =>
    obtain ⟨j, t⟩ := q
    simp only at hw ⊢
    split at hw <;> simp only [Option.some.injEq, reduceCtorEq] at hw
    · rename_i b' hb'
      obtain ⟨p, hp1, hp2⟩ := hin j t rfl
      have hl := h.tmIn p hp1
      rw [hp2] at hl
      obtain ⟨q1, q2, q3⟩ := h.tmOk _ _ hl
      have hv := q3 _ hb'
      simp only [R] at hv
      have hlt : p.1 < a.tmps.size := by
        rcases Nat.lt_or_ge p.1 a.tmps.size with h | h
        · exact h
        · rw [Array.getD_eq_getD_getElem?, Array.getElem?_eq_none h] at hv
          simp [undef] at hv
      have hy : yielded ops a.tmps j = some b' := by
        unfold yielded
        rw [q2]
        simp only [Option.bind_some]
        rw [Array.getD_eq_getD_getElem?, Array.getElem?_eq_getElem hlt] at hv
        rw [Array.getElem?_eq_getElem hlt]
        simp only [Option.getD_some] at hv
        rw [hv]
      rw [hy, ← hw]
      simp
    · rename_i hb'
      obtain ⟨p, hp1, hp2⟩ := hin j t rfl
      have hl := h.tmIn p hp1
      rw [hp2] at hl
      obtain ⟨q1, q2, q3⟩ := h.tmOk _ _ hl
      have hv := q3 _ hb'
      simp only [R] at hv
      obtain ⟨vs, hv, _⟩ := hv
      have hy : yielded ops a.tmps j = none := by
        unfold yielded
        rw [q2]
        simp only [Option.bind_some]
        rcases Nat.lt_or_ge p.1 a.tmps.size with h | h
        · rw [Array.getD_eq_getD_getElem?, Array.getElem?_eq_getElem h] at hv
          rw [Array.getElem?_eq_getElem h]
          simp only [Option.getD_some] at hv
          rw [hv]
        · rw [Array.getElem?_eq_none h]
      rw [hy, ← hw]
      simp

theorem run_len {P : Program} {call : CallT} (CS : CallSound P call) {all : List AOper} {env : List AV} : ∀ (l : List AOper) (vals : List AV) (hs : List AHeap) (env' : List AV) (H : AHeap) {envF : List AV} {HF : AHeap},
    runOps call all env l vals hs env' H = some (envF, HF) → H.length ≤ HF.length
  | [], vals, hs, env', H, envF, HF, h => by
    simp only [runOps, Option.some.injEq, Prod.mk.injEq] at h; obtain ⟨_, rfl⟩ := h; exact Nat.le_refl _
  | o :: r, vals, hs, env', H, envF, HF, h => by
    simp only [runOps] at h
    split at h
    · simp at h
    · exact run_len CS r _ _ _ _ h
    · split at h
      · simp at h
      · rename_i v H1 h1
        split at h
        · exact Nat.le_trans (op_len (c := ⟨P, [], []⟩) CS h1) (run_len CS r _ _ _ _ h)
        · simp at h

theorem Free.split {Φ : Phi} {a b c : Nat} (h : Free Φ a c) (hbc : b ≤ c) : Free Φ a b := fun i h1 h2 => h i h1 (Nat.lt_of_lt_of_le h2 hbc)

theorem Free.next {Φ Φ' : Phi} {a b c : Nat} (h : Free Φ a c) (hab : a ≤ b) (hd : Dom Φ Φ' a b) : Free Φ' b c := fun i h1 h2 => by
  by_cases e : Φ' i = Φ i
  · rw [e]; exact h i (Nat.le_trans hab h1) h2
  · have := hd i e; omega

theorem Dom.trans {Φ Φ' Φ'' : Phi} {a b c : Nat} (h : Dom Φ Φ' a b) (k : Dom Φ' Φ'' b c) (hab : a ≤ b) (hbc : b ≤ c) : Dom Φ Φ'' a c := fun i hi => by
  by_cases e : Φ'' i = Φ' i
  · have := h i (by rw [← e]; exact hi); omega
  · have := k i e; omega

theorem Dom.refl (Φ : Phi) (a b : Nat) : Dom Φ Φ a b := fun _ h => absurd rfl h

/-- The rest of a region, in the order of its text. -/
theorem ops_wp {P : Program} {call : CallT} (CS : CallSound P call) {ps : List Nat} {nt : Nat} (hnd : ps.Nodup) (ops : Array Oper) (all : List AOper) (env : List AV) {Q : Exit → Act → World → Prop} :
    ∀ (rest : List Oper) (tm : List (Nat × Nat)) (lr : List AOper) (vals : List AV) (hs : List AHeap) (env' : List AV) (H : AHeap) (envF : List AV) (HF : AHeap) (Φ : Phi) (a : Act) (w : World),
      ops.toList.drop vals.length = rest → trOps P ps nt rest vals.length tm = some lr → runOps call all env lr vals hs env' H = some (envF, HF) →
      RInv ps nt ops env tm vals env' Φ a → Sim Φ (getB H) w → Free Φ H.length HF.length →
      (∀ Φ' a' w', EnvOk Φ' ps envF a' → a'.tmps.size = nt → a'.defers = [] → Sim Φ' (getB HF) w' → Ext Φ (getB H) w Φ' (getB HF) w' → Dom Φ Φ' H.length HF.length → Q .normal a' w') →
      wpOps P ops Q (List.range' vals.length rest.length) a w
  | [], tm, lr, vals, hs, env', H, envF, HF, Φ, a, w, hdrop, htr, hrun, hI, S, hfree, hQ => by
    simp only [trOps, Option.some.injEq] at htr; subst htr
    simp only [runOps, Option.some.injEq, Prod.mk.injEq] at hrun
    obtain ⟨rfl, rfl⟩ := hrun
    simp only [List.length_nil, List.range'_zero, wpOps]
    exact hQ Φ a w hI.cur hI.size hI.defers S (Ext.refl _ _ _) (Dom.refl _ _ _)
  | o :: rest, tm, lr, vals, hs, env', H, envF, HF, Φ, a, w, hdrop, htr, hrun, hI, S, hfree, hQ => by
    have ho : ops[vals.length]? = some o := by
      have : (ops.toList.drop vals.length)[0]? = some o := by rw [hdrop]; rfl
      rw [List.getElem?_drop] at this
      simpa using this
    have hdrop' : ∀ v : AV, ops.toList.drop (vals ++ [v]).length = rest := by
      intro v
      have : (ops.toList.drop vals.length).drop 1 = rest := by rw [hdrop]; rfl
      rw [List.drop_drop] at this
      simpa using this
    simp only [trOps] at htr
    split at htr
    · simp at htr
    rename_i ao hao
    -- the guard
    have hguard : ∃ g : Option (Nat × Bool), o.guard = g ∧ (match o.guard with | none => some none | some (j, t) => if tm.any (fun p => p.2 == j) then some (some (j, t)) else none) = some g ∧ (∀ j t, g = some (j, t) → ∃ p, p ∈ tm ∧ p.2 = j) ∧
        (∀ d, o.dst = some d → tm.lookup d = none ∧ d < nt) ∧
        ∃ l, trOps P ps nt rest (vals.length + 1) (match o.dst with | some d => (d, vals.length) :: tm | none => tm) = some l ∧
          lr = { op := ao, dst := (match o.dst with | some d => ps.idxOf? d | none => none), guard := g } :: l := by
      cases hg : o.guard with
      | none =>
        rw [hg] at htr
        simp only at htr
        cases hd : o.dst with
        | none =>
          rw [hd] at htr
          simp only at htr
          split at htr <;> simp only [Option.some.injEq, reduceCtorEq] at htr
          rename_i l hl
          exact ⟨none, rfl, rfl, by simp, by simp, l, hl, htr.symm⟩
        | some d =>
          rw [hd] at htr
          simp only at htr
          split at htr
          · simp at htr
          · rename_i hcond
            simp only [Bool.or_eq_true, decide_eq_true_eq, not_or, Option.isSome_iff_ne_none, ne_eq, Decidable.not_not, Nat.not_le] at hcond
            split at htr <;> simp only [Option.some.injEq, reduceCtorEq] at htr
            rename_i l hl
            exact ⟨none, rfl, rfl, by simp, fun d' hd' => by simp only [Option.some.injEq] at hd'; subst hd'; exact hcond, l, hl, htr.symm⟩
      | some q =>
        obtain ⟨j, t⟩ := q
        rw [hg] at htr
        simp only at htr
        by_cases hany : tm.any (fun p => p.2 == j) = true
        · rw [if_pos hany] at htr
          have hin : ∃ p, p ∈ tm ∧ p.2 = j := by
            rw [List.any_eq_true] at hany
            obtain ⟨p, h1, h2⟩ := hany
            exact ⟨p, h1, by simpa using h2⟩
          cases hd : o.dst with
          | none =>
            rw [hd] at htr
            simp only at htr
            split at htr <;> simp only [Option.some.injEq, reduceCtorEq] at htr
            rename_i l hl
            exact ⟨some (j, t), rfl, by simp [hany], fun j' t' e => by simp only [Option.some.injEq, Prod.mk.injEq] at e; rw [← e.1]; exact hin, by simp, l, hl, htr.symm⟩
          | some d =>
            rw [hd] at htr
            simp only at htr
            split at htr
            · simp at htr
            · rename_i hcond
              simp only [Bool.or_eq_true, decide_eq_true_eq, not_or, Option.isSome_iff_ne_none, ne_eq, Decidable.not_not, Nat.not_le] at hcond
              split at htr <;> simp only [Option.some.injEq, reduceCtorEq] at htr
              rename_i l hl
              exact ⟨some (j, t), rfl, by simp [hany], fun j' t' e => by simp only [Option.some.injEq, Prod.mk.injEq] at e; rw [← e.1]; exact hin,
                fun d' hd' => by simp only [Option.some.injEq] at hd'; subst hd'; exact hcond, l, hl, htr.symm⟩
        · rw [if_neg hany] at htr
          simp at htr
    obtain ⟨g, hg, _, hgin, hdst, l, hl, rfl⟩ := hguard
    simp only [runOps] at hrun
    rw [List.length_cons, List.range'_succ]
    simp only [wpOps, ho]
    split at hrun
    · simp at hrun
    · -- it is passed over
      rename_i hw
      rw [wanted_ok hI hg hgin hw]
      simp only [Bool.false_eq_true, if_false]
      have hI' := hI.step hnd (fun _ _ h => h) ho (v := .tup []) (v' := undef) (by simp only [R]; exact ⟨[], rfl, by simp only [Rs]⟩) hdst
      have := ops_wp CS hnd ops all env rest _ l (vals ++ [.tup []]) _ _ H envF HF Φ (a.put o.dst undef) w (hdrop' _) (by simpa using hl) hrun hI' S hfree hQ
      simpa using this
    · rename_i hw
      rw [wanted_ok hI hg hgin hw]
      simp only [if_true]
      split at hrun
      · simp at hrun
      · rename_i v H1 hv
        split at hrun
        · refine .inl ?_
          have hlen1 := op_len (c := ⟨P, ps, tm⟩) CS hv
          have hlen2 := run_len CS _ _ _ _ _ hrun
          refine op_wp (c := ⟨P, ps, tm⟩) CS hI.ho S o hao hv (hfree.split hlen2) (fun Φ' v' w' hR s1 s2 s3 => ?_)
          have hI' := hI.step hnd s2.mono ho hR hdst
          have := ops_wp CS hnd ops all env rest _ l (vals ++ [v]) _ _ H1 envF HF Φ' (a.put o.dst v') w' (hdrop' _) (by simpa using hl) hrun hI' s1 (hfree.next hlen1 s3)
            (fun Φ2 a2 w2 q1 q2 q3 q4 q5 q6 => hQ Φ2 a2 w2 q1 q2 q3 q4 (s2.trans q5) (s3.trans q6 hlen1 hlen2))
          simpa using this
        · simp at hrun

end Go.Am

/- Regions that draw their order: what a run tells of each operation. -/
namespace Go.Am

def vs (V : Nat → AV) (k : Nat) : List AV := (List.range k).map V

theorem vs_get (V : Nat → AV) (k j : Nat) : (vs V k)[j]? = if j < k then some (V j) else none := by
  unfold vs
  by_cases h : j < k
  · simp [h]
  · rw [if_neg h, List.getElem?_eq_none (by simp; omega)]

theorem vs_succ (V : Nat → AV) (k : Nat) : vs V (k + 1) = vs V k ++ [V k] := by simp [vs, List.range_succ]

theorem vs_congr {V V' : Nat → AV} {k : Nat} (h : ∀ j, j < k → V j = V' j) : vs V k = vs V' k := by
  unfold vs
  exact List.map_congr_left fun j hj => h j (List.mem_range.1 hj)

/-- What a run tells of an operation. -/
def StepOk (call : CallT) (all : List AOper) (env : List AV) (V : Nat → AV) (Hs : Nat → AHeap) (k : Nat) (o : AOper) : Prop :=
  (wantedA (vs V k) o.guard = some false ∧ V k = .tup [] ∧ Hs (k + 1) = Hs k) ∨
  (wantedA (vs V k) o.guard = some true ∧ aOp call env (vs V k) (Hs k) o.op = some (V k, Hs (k + 1)) ∧
    (∀ i, i ∈ o.aft → sameAt all env (vs V k) (Hs (k + 1)) i = true) ∧ ∀ j, j ∈ o.bef → j < k ∧ aRead env (vs V k) (Hs j) o.op = some (V k))

theorem StepOk.congr {call : CallT} {all : List AOper} {env : List AV} {V V' : Nat → AV} {Hs Hs' : Nat → AHeap} {k : Nat} {o : AOper} (h : StepOk call all env V Hs k o)
    (hV : ∀ j, j ≤ k → V' j = V j) (hH : ∀ j, j ≤ k + 1 → Hs' j = Hs j) : StepOk call all env V' Hs' k o := by
  have e1 : vs V' k = vs V k := vs_congr fun j hj => hV j (by omega)
  unfold StepOk at *
  rw [e1, hV k (Nat.le_refl _), hH k (by omega), hH (k + 1) (Nat.le_refl _)]
  rcases h with h | ⟨h1, h2, h3, h4⟩
  · exact .inl h
  · refine .inr ⟨h1, h2, h3, fun j hj => ?_⟩
    obtain ⟨h5, h6⟩ := h4 j hj
    exact ⟨h5, by rw [hH j (by omega)]; exact h6⟩

theorem runOps_rec {call : CallT} {all : List AOper} {env : List AV} : ∀ (rest : List AOper) (n : Nat) (V0 : Nat → AV) (Hs0 : Nat → AHeap) (env' : List AV) {envF : List AV} {HF : AHeap},
    runOps call all env rest (vs V0 n) ((List.range n).map Hs0) env' (Hs0 n) = some (envF, HF) →
    ∃ V Hs, (∀ j, j < n → V j = V0 j) ∧ (∀ j, j ≤ n → Hs j = Hs0 j) ∧ Hs (n + rest.length) = HF ∧
      (∀ m o, rest[m]? = some o → StepOk call all env V Hs (n + m) o) ∧
      (∀ x e, envF[x]? = some e → (∃ m o, rest[m]? = some o ∧ o.dst = some x ∧ V (n + m) = e) ∨ (env'[x]? = some e ∧ ∀ (m : Nat) (o : AOper), rest[m]? = some o → o.dst ≠ some x))
  | [], n, V0, Hs0, env', envF, HF, h => by
    simp only [runOps, Option.some.injEq, Prod.mk.injEq] at h
    obtain ⟨rfl, rfl⟩ := h
    exact ⟨V0, Hs0, fun _ _ => rfl, fun _ _ => rfl, by simp, by simp, fun x e hx => .inr ⟨hx, by simp⟩⟩
  | o :: r, n, V0, Hs0, env', envF, HF, h => by
    -- what the operation yields
    have key : ∀ (v : AV) (H1 : AHeap), (∀ V Hs, (∀ j, j < n → V j = V0 j) → V n = v → (∀ j, j ≤ n → Hs j = Hs0 j) → Hs (n + 1) = H1 → StepOk call all env V Hs n o) →
        runOps call all env r (vs V0 n ++ [v]) ((List.range n).map Hs0 ++ [Hs0 n]) (put env' o.dst v) H1 = some (envF, HF) →
        ∃ V Hs, (∀ j, j < n → V j = V0 j) ∧ (∀ j, j ≤ n → Hs j = Hs0 j) ∧ Hs (n + (o :: r).length) = HF ∧
          (∀ m o', (o :: r)[m]? = some o' → StepOk call all env V Hs (n + m) o') ∧
          (∀ x e, envF[x]? = some e → (∃ m o', (o :: r)[m]? = some o' ∧ o'.dst = some x ∧ V (n + m) = e) ∨ (env'[x]? = some e ∧ ∀ (m : Nat) (o' : AOper), (o :: r)[m]? = some o' → o'.dst ≠ some x)) := by
      intro v H1 hst hr
      let V1 : Nat → AV := fun j => if j = n then v else V0 j
      let Hs1 : Nat → AHeap := fun j => if j = n + 1 then H1 else Hs0 j
      have e1 : vs V0 n ++ [v] = vs V1 (n + 1) := by
        rw [vs_succ]
        rw [vs_congr (V := V1) (V' := V0) (fun j hj => by simp only [V1]; rw [if_neg (by omega)])]
        simp [V1]
      have e2 : (List.range n).map Hs0 ++ [Hs0 n] = (List.range (n + 1)).map Hs1 := by
        rw [List.range_succ, List.map_append]
        congr 1
        · exact List.map_congr_left fun j hj => by
            have := List.mem_range.1 hj
            simp only [Hs1]; rw [if_neg (by omega)]
        · simp [Hs1]
      have e3 : H1 = Hs1 (n + 1) := by simp [Hs1]
      rw [e1, e2] at hr
      conv at hr => lhs; rw [e3]
      obtain ⟨V, Hs, h1, h2, h3, h4, h5⟩ := runOps_rec r (n + 1) V1 Hs1 _ hr
      have hV : ∀ j, j < n → V j = V0 j := fun j hj => by rw [h1 j (by omega)]; simp only [V1]; rw [if_neg (by omega)]
      have hVn : V n = v := by rw [h1 n (by omega)]; simp [V1]
      have hH : ∀ j, j ≤ n → Hs j = Hs0 j := fun j hj => by rw [h2 j (by omega)]; simp only [Hs1]; rw [if_neg (by omega)]
      have hHn : Hs (n + 1) = H1 := by rw [h2 (n + 1) (Nat.le_refl _)]; simp [Hs1]
      refine ⟨V, Hs, hV, hH, ?_, fun m o' hm => ?_, fun x e hx => ?_⟩
      · rw [← h3]; congr 1; simp; omega
      · cases m with
        | zero => simp at hm; subst hm; exact hst V Hs hV hVn hH hHn
        | succ m =>
          have := h4 m o' (by simpa using hm)
          rw [show n + (m + 1) = n + 1 + m by omega]; exact this
      · rcases h5 x e hx with ⟨m, o', q1, q2, q3⟩ | ⟨q1, q2⟩
        · exact .inl ⟨m + 1, o', by simpa using q1, q2, by rw [show n + (m + 1) = n + 1 + m by omega]; exact q3⟩
        · cases hd : o.dst with
          | none =>
            rw [hd] at q1
            refine .inr ⟨q1, fun m o' hm => ?_⟩
            cases m with
            | zero => simp at hm; subst hm; rw [hd]; simp
            | succ m => exact q2 m o' (by simpa using hm)
          | some y =>
            rw [hd] at q1
            simp only [put] at q1
            by_cases exy : y = x
            · subst exy
              refine .inl ⟨0, o, rfl, hd, ?_⟩
              have hlt : y < env'.length := by
                rcases Nat.lt_or_ge y env'.length with h | h
                · exact h
                · rw [List.getElem?_eq_none (by simp; omega)] at q1; simp at q1
              rw [List.getElem?_set_self hlt] at q1
              simp only [Option.some.injEq] at q1
              rw [Nat.add_zero, hVn]; exact q1
            · rw [List.getElem?_set_ne exy] at q1
              refine .inr ⟨q1, fun m o' hm => ?_⟩
              cases m with
              | zero => simp at hm; subst hm; rw [hd]; simpa using exy
              | succ m => exact q2 m o' (by simpa using hm)
    simp only [runOps] at h
    split at h
    · simp at h
    · rename_i hw
      refine key (.tup []) (Hs0 n) (fun V Hs hV hVn hH hHn => .inl ⟨?_, hVn, by rw [hHn, hH n (Nat.le_refl _)]⟩) h
      rw [vs_congr hV]; exact hw
    · rename_i hw
      split at h
      · simp at h
      · rename_i v H1 hop
        split at h
        · rename_i hc
          simp only [Bool.and_eq_true, List.all_eq_true] at hc
          refine key v H1 (fun V Hs hV hVn hH hHn => .inr ⟨?_, ?_, fun i hi => ?_, fun j hj => ?_⟩) h
          · rw [vs_congr hV]; exact hw
          · rw [vs_congr hV, hVn, hHn, hH n (Nat.le_refl _)]; exact hop
          · rw [vs_congr hV, hHn]; exact hc.1 i hi
          · have := hc.2 j hj
            by_cases hjn : j < n
            · have e : ((List.range n).map Hs0)[j]? = some (Hs0 j) := by simp [hjn]
              rw [e] at this
              simp only at this
              split at this
              · rename_i u hu
                refine ⟨hjn, ?_⟩
                rw [vs_congr hV, hVn, hH j (by omega), hu, AV.same_eq _ _ this]
              · simp at this
            · rw [List.getElem?_eq_none (by simp; omega)] at this
              simp at this
        · simp at h

theorem trOps_cons {P : Program} {ps : List Nat} {nt : Nat} {o : Oper} {rest : List Oper} {k : Nat} {tm : List (Nat × Nat)} {lr : List AOper} (htr : trOps P ps nt (o :: rest) k tm = some lr) :
    ∃ ao, trOp ⟨P, ps, tm⟩ o.op = some ao ∧ (∀ j t, o.guard = some (j, t) → ∃ p, p ∈ tm ∧ p.2 = j) ∧
        (∀ d, o.dst = some d → tm.lookup d = none ∧ d < nt) ∧
        ∃ l, trOps P ps nt rest (k + 1) (match o.dst with | some d => (d, k) :: tm | none => tm) = some l ∧
          lr = { op := ao, dst := (match o.dst with | some d => ps.idxOf? d | none => none), guard := o.guard } :: l := by
  simp only [trOps] at htr
  split at htr
  · simp at htr
  rename_i ao hao
  refine ⟨ao, hao, ?_⟩
  cases hg : o.guard with
  | none =>
    rw [hg] at htr
    simp only at htr
    cases hd : o.dst with
    | none =>
      rw [hd] at htr
      simp only at htr
      split at htr <;> simp only [Option.some.injEq, reduceCtorEq] at htr
      rename_i l hl
      exact ⟨by simp, by simp, l, hl, htr.symm⟩
    | some d =>
      rw [hd] at htr
      simp only at htr
      split at htr
      · simp at htr
      · rename_i hcond
        simp only [Bool.or_eq_true, decide_eq_true_eq, not_or, Option.isSome_iff_ne_none, ne_eq, Decidable.not_not, Nat.not_le] at hcond
        split at htr <;> simp only [Option.some.injEq, reduceCtorEq] at htr
        rename_i l hl
        exact ⟨by simp, fun d' hd' => by simp only [Option.some.injEq] at hd'; subst hd'; exact hcond, l, hl, htr.symm⟩
  | some q =>
    obtain ⟨j, t⟩ := q
    rw [hg] at htr
    simp only at htr
    by_cases hany : tm.any (fun p => p.2 == j) = true
    · rw [if_pos hany] at htr
      have hin : ∃ p, p ∈ tm ∧ p.2 = j := by
        rw [List.any_eq_true] at hany
        obtain ⟨p, h1, h2⟩ := hany
        exact ⟨p, h1, by simpa using h2⟩
      cases hd : o.dst with
      | none =>
        rw [hd] at htr
        simp only at htr
        split at htr <;> simp only [Option.some.injEq, reduceCtorEq] at htr
        rename_i l hl
        exact ⟨fun j' t' e => by simp only [Option.some.injEq, Prod.mk.injEq] at e; rw [← e.1]; exact hin, by simp, l, hl, htr.symm⟩
      | some d =>
        rw [hd] at htr
        simp only at htr
        split at htr
        · simp at htr
        · rename_i hcond
          simp only [Bool.or_eq_true, decide_eq_true_eq, not_or, Option.isSome_iff_ne_none, ne_eq, Decidable.not_not, Nat.not_le] at hcond
          split at htr <;> simp only [Option.some.injEq, reduceCtorEq] at htr
          rename_i l hl
          exact ⟨fun j' t' e => by simp only [Option.some.injEq, Prod.mk.injEq] at e; rw [← e.1]; exact hin,
            fun d' hd' => by simp only [Option.some.injEq] at hd'; subst hd'; exact hcond, l, hl, htr.symm⟩
    · rw [if_neg hany] at htr
      simp at htr

/-- Each operation of a region, by itself. -/
structure OpAt (P : Program) (ps : List Nat) (nt : Nat) (ops : List Oper) (m : Nat) (o : Oper) (lo : AOper) : Prop where
  ex : ∃ tm, trOp ⟨P, ps, tm⟩ o.op = some lo.op ∧ (∀ d, o.dst = some d → tm.lookup d = none ∧ d < nt) ∧ (∀ j t, o.guard = some (j, t) → ∃ p, p ∈ tm ∧ p.2 = j) ∧
    (∀ p, p ∈ tm → ∃ o', p.2 < m ∧ ops[p.2]? = some o' ∧ o'.dst = some p.1) ∧
    (∀ d, tm.lookup d = none → ∀ j o', j < m → ops[j]? = some o' → o'.dst ≠ some d)
  dst : lo.dst = (match o.dst with | some d => ps.idxOf? d | none => none)
  guard : lo.guard = o.guard

theorem trOps_get {P : Program} {ps : List Nat} {nt : Nat} {ops : List Oper} : ∀ (rest : List Oper) (k : Nat) (tm : List (Nat × Nat)) {l : List AOper},
    trOps P ps nt rest k tm = some l → ops.drop k = rest →
    (∀ p, p ∈ tm → ∃ o', p.2 < k ∧ ops[p.2]? = some o' ∧ o'.dst = some p.1) → (∀ d, tm.lookup d = none → ∀ j o', j < k → ops[j]? = some o' → o'.dst ≠ some d) →
    l.length = rest.length ∧ ∀ m lo, l[m]? = some lo → ∃ o, ops[k + m]? = some o ∧ OpAt P ps nt ops (k + m) o lo
  | [], k, tm, l, h, _, _, _ => by
    simp only [trOps, Option.some.injEq] at h; subst h
    exact ⟨rfl, by simp⟩
  | o :: rest, k, tm, l, h, hdrop, h1, h2 => by
    obtain ⟨ao, hao, hg, hd, l', hl', rfl⟩ := trOps_cons h
    have ho : ops[k]? = some o := by
      have : (ops.drop k)[0]? = some o := by rw [hdrop]; rfl
      rw [List.getElem?_drop] at this
      simpa using this
    have hdrop' : ops.drop (k + 1) = rest := by
      have : (ops.drop k).drop 1 = rest := by rw [hdrop]; rfl
      rw [List.drop_drop] at this
      simpa using this
    obtain ⟨q1, q2⟩ := trOps_get rest (k + 1) _ hl' hdrop' (fun p hp => by
        cases hdst : o.dst with
        | none =>
          rw [hdst] at hp
          obtain ⟨o', r1, r2, r3⟩ := h1 p hp
          exact ⟨o', by omega, r2, r3⟩
        | some d =>
          rw [hdst] at hp
          simp only [List.mem_cons] at hp
          rcases hp with rfl | hp
          · exact ⟨o, by simp, ho, hdst⟩
          · obtain ⟨o', r1, r2, r3⟩ := h1 p hp
            exact ⟨o', by omega, r2, r3⟩)
      (fun e he j o' hj ho' => by
        have key : tm.lookup e = none ∧ o.dst ≠ some e := by
          cases hdst : o.dst with
          | none => rw [hdst] at he; exact ⟨he, by simp⟩
          | some d =>
            rw [hdst] at he
            simp only [List.lookup_cons] at he
            split at he
            · simp at he
            · rename_i hne; exact ⟨he, by simp only [ne_eq, Option.some.injEq]; intro e2; subst e2; simp at hne⟩
        by_cases hjk : j = k
        · subst hjk; rw [ho] at ho'; simp only [Option.some.injEq] at ho'; subst ho'; exact key.2
        · exact h2 e key.1 j o' (by omega) ho')
    refine ⟨by simp [q1], fun m lo hm => ?_⟩
    cases m with
    | zero =>
      simp at hm; subst hm
      exact ⟨o, ho, ⟨⟨tm, hao, hd, hg, h1, h2⟩, rfl, rfl⟩⟩
    | succ m =>
      obtain ⟨o', r1, r2⟩ := q2 m lo (by simpa using hm)
      rw [show k + (m + 1) = k + 1 + m by omega]
      exact ⟨o', r1, r2⟩

theorem ahead_get : ∀ (rest : List Oper) (acc : List (List Nat)), (∀ j, j < acc.length → (ahead rest acc).getD j [] = acc.getD j []) ∧
    ∀ m o, rest[m]? = some o → (∀ i, i ∈ (ahead rest acc).getD (acc.length + m) [] → ∃ e, e ∈ o.after.toList ∧ Region.binds .any e = true ∧ (i = e.on ∨ (e.on < acc.length + m ∧ i ∈ (ahead rest acc).getD e.on [])))
  | [], acc => ⟨fun _ _ => rfl, by simp⟩
  | o :: r, acc => by
    simp only [ahead]
    obtain ⟨h1, h2⟩ := ahead_get r (acc ++ [(o.after.toList.flatMap fun e => if Region.binds .any e then e.on :: acc.getD e.on [] else []).eraseDups])
    have h1' : ∀ j, j < acc.length → (ahead r (acc ++ [(o.after.toList.flatMap fun e => if Region.binds .any e then e.on :: acc.getD e.on [] else []).eraseDups])).getD j [] = acc.getD j [] := by
      intro j hj
      rw [h1 j (by simp; omega)]
      simp only [List.getD_eq_getElem?_getD]
      rw [List.getElem?_append_left hj]
    refine ⟨h1', fun m o' hm i hi => ?_⟩
    cases m with
    | zero =>
      simp at hm; subst hm
      rw [Nat.add_zero, h1 _ (by simp)] at hi
      have e : (acc ++ [(o.after.toList.flatMap fun e => if Region.binds .any e then e.on :: acc.getD e.on [] else []).eraseDups]).getD acc.length [] =
          (o.after.toList.flatMap fun e => if Region.binds .any e then e.on :: acc.getD e.on [] else []).eraseDups := by
        simp [List.getD_eq_getElem?_getD]
      rw [e, List.mem_eraseDups, List.mem_flatMap] at hi
      obtain ⟨ed, hed, hi⟩ := hi
      split at hi
      · rename_i hb
        refine ⟨ed, hed, hb, ?_⟩
        simp only [List.mem_cons] at hi
        rcases hi with hi | hi
        · exact .inl hi
        · have hlt : ed.on < acc.length := by
            rcases Nat.lt_or_ge ed.on acc.length with h | h
            · exact h
            · rw [List.getD_eq_getElem?_getD, List.getElem?_eq_none h] at hi; simp at hi
          exact .inr ⟨by omega, by rw [h1' _ hlt]; exact hi⟩
      · simp at hi
    | succ m =>
      have := h2 m o' (by simpa using hm) i (by simpa [Nat.add_assoc, Nat.add_comm 1 m] using hi)
      simpa [Nat.add_assoc, Nat.add_comm 1 m] using this

theorem backOk_get : ∀ (rest : List Oper) (i : Nat), backOk rest i = true → ∀ m o, rest[m]? = some o → ∀ e, e ∈ o.after.toList → Region.binds .any e = true → e.on < i + m
  | [], _, _ => by simp
  | o :: r, i, h => by
    simp only [backOk, Bool.and_eq_true, List.all_eq_true, Bool.or_eq_true, Bool.not_eq_true', decide_eq_true_eq] at h
    intro m o' hm e he hb
    cases m with
    | zero =>
      simp at hm; subst hm
      rcases h.1 e he with h1 | h1
      · rw [hb] at h1; simp at h1
      · omega
    | succ m =>
      have := backOk_get r (i + 1) h.2 m o' (by simpa using hm) e he hb
      omega

/-- What an operand shows of the heap. -/
def AV.id : AV → Option Nat
  | .ptr i _ | .sl i _ _ | .map i => some i
  | _ => none

theorem R.id {Φ : Phi} {v : AV} {x : Value} (h : R Φ v x) {i : Nat} (hi : v.id = some i) : ∃ l, Φ i = some l := by
  cases v <;> simp only [AV.id, Option.some.injEq, reduceCtorEq] at hi <;> subst hi <;> simp only [R] at h
  · obtain ⟨l, h, _⟩ := h; exact ⟨l, h⟩
  · obtain ⟨l, _, _, h, _⟩ := h; exact ⟨l, h⟩
  · obtain ⟨l, h, _⟩ := h; exact ⟨l, h⟩

theorem loadA_more {H H' : AHeap} {i o n : Nat} {cs : List AV} (hm : ∀ b, getB H i = some b → getB H' i = some b) (h : loadA H i o n = some cs) : loadA H' i o n = some cs := by
  unfold loadA at h ⊢
  cases hb : getB H i with
  | none => rw [hb] at h; simp at h
  | some b => rw [hm b hb]; rw [hb] at h; exact h

theorem aRead_more {env vals : List AV} {H H' : AHeap} {o : AOp} {v : AV} (hm : ∀ x u i b, x ∈ o.opds → aval env vals x = some u → u.id = some i → getB H i = some b → getB H' i = some b)
    (h : aRead env vals H o = some v) : aRead env vals H' o = some v := by
  cases o <;> simp only [aRead, reduceCtorEq] at h ⊢
  case load n agg a =>
    cases ha : aval env vals a with
    | none => rw [ha] at h; simp at h
    | some u =>
      rw [ha] at h
      cases u <;> simp only [reduceCtorEq] at h ⊢
      rename_i i o
      cases hl : loadA H i o n with
      | none => rw [hl] at h; simp at h
      | some cs =>
        rw [hl] at h
        rw [loadA_more (fun b => hm a _ i b (by simp [AOp.opds]) ha rfl) hl]
        exact h
  case lookup kk z m k ok =>
    cases ha : aval env vals m with
    | none => rw [ha] at h; simp at h
    | some u =>
      rw [ha] at h
      cases hk : aval env vals k with
      | none => rw [hk] at h; simp at h
      | some kv =>
        rw [hk] at h
        cases u with
        | map i =>
          simp only at h ⊢
          cases hb : getB H i with
          | none => rw [hb] at h; simp at h
          | some b =>
            rw [hm m _ i b (by simp [AOp.opds]) ha rfl hb]
            rw [hb] at h
            exact h
        | _ => exact h
  case bytes2str x =>
    cases ha : aval env vals x with
    | none => rw [ha] at h; simp at h
    | some u =>
      rw [ha] at h
      cases u with
      | sl i o n =>
        simp only at h ⊢
        cases hl : loadA H i o n with
        | none => rw [hl] at h; simp at h
        | some cs =>
          rw [hl] at h
          rw [loadA_more (fun b => hm x _ i b (by simp [AOp.opds]) ha rfl) hl]
          exact h
      | _ => exact h
  case slsl sz x lo hi mx =>
    split at h
    · rename_i u l h' m e1 e2 e3 e4
      split at h
      · rename_i hs
        rw [if_pos]
        · exact h
        · cases u with
          | sl i o n =>
            simp only [szOk] at hs ⊢
            cases hb : getB H i with
            | none => rw [hb] at hs; simp at hs
            | some b =>
              rw [hm x _ i b (by simp [AOp.opds]) e1 rfl hb]
              rw [hb] at hs
              exact hs
          | _ => rfl
      · simp at h
    · simp at h
  case lenM x =>
    cases ha : aval env vals x with
    | none => rw [ha] at h; simp at h
    | some u =>
      rw [ha] at h
      cases u with
      | map i =>
        simp only at h ⊢
        cases hb : getB H i with
        | none => rw [hb] at h; simp at h
        | some b =>
          rw [hm x _ i b (by simp [AOp.opds]) ha rfl hb]
          rw [hb] at h
          exact h
      | _ => exact h

section
variable {env vals env' vals' : List AV}

theorem avals_congr : ∀ {xs : List Opd}, (∀ x, x ∈ xs → aval env vals x = aval env' vals' x) → avals env vals xs = avals env' vals' xs
  | [], _ => rfl
  | x :: r, h => by
    simp only [avals]
    rw [h x (by simp), avals_congr (xs := r) fun y hy => h y (by simp [hy])]

theorem aparts_congr : ∀ {xs : List (Nat × Nat × Opd)}, (∀ x, x ∈ xs.map (·.2.2) → aval env vals x = aval env' vals' x) → aparts env vals xs = aparts env' vals' xs
  | [], _ => rfl
  | (o, n, x) :: r, h => by
    simp only [aparts]
    rw [h x (by simp), aparts_congr (xs := r) fun y hy => h y (by simp only [List.map_cons, List.mem_cons]; exact .inr hy)]

theorem aopt_congr {x : Option Opd} (h : ∀ y, y ∈ x.toList → aval env vals y = aval env' vals' y) : aopt env vals x = aopt env' vals' x := by
  cases x with
  | none => rfl
  | some y => simp only [aopt]; rw [h y (by simp)]

theorem aPure_congr {o : AOp} (h : ∀ x, x ∈ o.opds → aval env vals x = aval env' vals' x) : aPure env vals o = aPure env' vals' o := by
  cases o <;> simp only [AOp.opds] at h <;> simp only [aPure]
  case pick c a b =>
    rw [h c (by simp)]
    split
    · rename_i t _; cases t <;> simp <;> apply h <;> simp
    · rfl
  case build z ps => rw [aparts_congr h]
  case func f a b => rw [avals_congr fun x hx => h x (List.mem_append_left _ hx), avals_congr fun x hx => h x (List.mem_append_right _ hx)]
  case slstr x l hh =>
    rw [h x (by simp), aopt_congr (x := l) fun y hy => h y (by simp only [List.mem_cons, List.mem_append]; exact .inr (.inl hy)), aopt_congr (x := hh) fun y hy => h y (by simp only [List.mem_cons, List.mem_append]; exact .inr (.inr hy))]
  all_goals first
    | (rename_i x y; rw [h x (by simp), h y (by simp)]; done)
    | (rename_i x; rw [h x (by simp)]; done)

theorem aRead_congr {H : AHeap} {o : AOp} (h : ∀ x, x ∈ o.opds → aval env vals x = aval env' vals' x) : aRead env vals H o = aRead env' vals' H o := by
  cases o <;> simp only [AOp.opds] at h <;> simp only [aRead]
  case lookup kk z m k ok => rw [h m (by simp), h k (by simp)]
  case slsl sz x l hh m =>
    rw [h x (by simp), aopt_congr (x := l) fun y hy => h y (by simp only [List.mem_cons, List.mem_append]; exact .inr (.inl (.inl hy))),
      aopt_congr (x := hh) fun y hy => h y (by simp only [List.mem_cons, List.mem_append]; exact .inr (.inl (.inr hy))),
      aopt_congr (x := m) fun y hy => h y (by simp only [List.mem_cons, List.mem_append]; exact .inr (.inr hy))]
  all_goals (rename_i x; rw [h x (by simp)])

theorem aNew_congr {o : AOp} (h : ∀ x, x ∈ o.opds → aval env vals x = aval env' vals' x) : aNew env vals o = aNew env' vals' o := by
  cases o <;> simp only [AOp.opds] at h <;> simp only [aNew]
  case mkslice sz n z ps => rw [aparts_congr h]
  case make sz b z l c => rw [h l (by simp), h c (by simp)]
  all_goals (rename_i x; rw [h x (by simp)])

theorem aEff_congr {call : CallT} {H : AHeap} {o : AOp} (h : ∀ x, x ∈ o.opds → aval env vals x = aval env' vals' x) : aEff call env vals H o = aEff call env' vals' H o := by
  cases o <;> simp only [AOp.opds] at h <;> simp only [aEff]
  case call f xs => rw [avals_congr h]
  case callv f xs => rw [h f (by simp), avals_congr (xs := xs) fun y hy => h y (by simp [hy])]
  case mapset kk m k v => rw [h m (by simp), h k (by simp), h v (by simp)]
  all_goals first
    | (rename_i x y; rw [h x (by simp), h y (by simp)]; done)
    | (rename_i x; rw [h x (by simp)]; done)

theorem aOp_congr {call : CallT} {H : AHeap} {o : AOp} (h : ∀ x, x ∈ o.opds → aval env vals x = aval env' vals' x) : aOp call env vals H o = aOp call env' vals' H o := by
  unfold aOp
  rw [aPure_congr h, aRead_congr h, aNew_congr h, aEff_congr h]
end
end Go.Am

/- Regions that draw their order: what is checked of them. -/
namespace Go.Am

/-- What is known of a region that draws its order. -/
structure Reg (P : Program) (ps : List Nat) (nt : Nat) (ops : Array Oper) (l : List AOper) (b : Nat → Nat → Bool) : Prop where
  len : l.length = ops.size
  at_ : ∀ k lo, l[k]? = some lo → ∃ o, ops[k]? = some o ∧ OpAt P ps nt ops.toList k o lo
  back : ∀ k o, ops[k]? = some o → ∀ i, b i k = true → i < k ∧ ∃ e, e ∈ o.after.toList ∧ Region.binds .any e = true ∧ (i = e.on ∨ b i e.on = true)
  edge : ∀ k o, ops[k]? = some o → ∀ e, e ∈ o.after → Region.binds .any e = true → e.on < k
  opd : ∀ k lo, l[k]? = some lo → (∀ j, Opd.loc j ∈ lo.op.opds → b j k = true) ∧
    (∀ x, Opd.var x ∈ lo.op.opds → x < ps.length ∧ ∀ m lm, m ≠ k → l[m]? = some lm → lm.dst = some x → b k m = true) ∧ (∀ v, Opd.const v ∈ lo.op.opds → v.id = none) ∧ (∀ j t, lo.guard = some (j, t) → b j k = true)
  eff : ∀ i j li lj, i < j → l[i]? = some li → l[j]? = some lj → (li.op.cls = .eff ∨ li.op.cls = .new) → lj.op.cls = .eff → b i j = true
  aft : ∀ i k li lk, i < k → l[i]? = some li → l[k]? = some lk → li.op.cls = .read → lk.op.cls = .eff → b i k = false → i ∈ lk.aft
  bef : ∀ i k li lk, i < k → l[i]? = some li → l[k]? = some lk → li.op.cls = .eff → lk.op.cls = .read → b i k = false → i ∈ lk.bef

theorem allBelow_get {n : Nat} {f : Nat → Bool} (h : allBelow n f = true) {i : Nat} (hi : i < n) : f i = true := by
  unfold allBelow at h
  rw [List.all_eq_true] at h
  exact h i (List.mem_range.2 hi)

theorem drawn_get {b : Nat → Nat → Bool} {l0 l : List AOper} (h : drawn b l0 = some l) : l.length = l0.length ∧
    (∀ i j oi oj, i < j → l0[i]? = some oi → l0[j]? = some oj → (oi.op.cls = .eff ∨ oi.op.cls = .new) → oj.op.cls = .eff → b i j = true) ∧
    ∀ k o', l[k]? = some o' → ∃ o, l0[k]? = some o ∧ o'.op = o.op ∧ o'.dst = o.dst ∧ o'.guard = o.guard ∧
      (o.op.cls = .eff → ∀ i oi, i < k → l0[i]? = some oi → oi.op.cls = .read → b i k = false → i ∈ o'.aft) ∧
      (o.op.cls = .read → ∀ i oi, i < k → l0[i]? = some oi → oi.op.cls = .eff → b i k = false → i ∈ o'.bef) := by
  unfold drawn at h
  simp only at h
  split at h <;> simp only [Option.some.injEq, reduceCtorEq] at h
  rename_i hall
  subst h
  refine ⟨by simp, fun i j oi oj hij hi hj hc hce => ?_, fun k o' hk => ?_⟩
  · have hjl : j < l0.length := by
      rcases Nat.lt_or_ge j l0.length with h | h
      · exact h
      · rw [List.getElem?_eq_none h] at hj; simp at hj
    have := allBelow_get (allBelow_get hall hjl) hij
    rw [hi, hj] at this
    simp only [hce] at this
    rcases hc with hc | hc <;> (rw [hc] at this; exact this)
  · rw [List.getElem?_map, List.getElem?_zipIdx] at hk
    cases ho : l0[k]? with
    | none => rw [ho] at hk; simp at hk
    | some o =>
      rw [ho] at hk
      simp only [Option.map_some, Nat.zero_add, Option.some.injEq] at hk
      refine ⟨o, rfl, ?_⟩
      subst hk
      cases hc : o.op.cls <;> refine ⟨rfl, rfl, rfl, fun h1 => ?_, fun h1 => ?_⟩ <;> first | (simp at h1; done) | skip
      · intro i oi hi hoi hoc hb
        simp only [List.mem_filter]
        exact ⟨List.mem_range.2 hi, by rw [hoi]; simp [hoc, hb]⟩
      · intro i oi hi hoi hoc hb
        simp only [List.mem_filter]
        exact ⟨List.mem_range.2 hi, by rw [hoi]; simp [hoc, hb]⟩

theorem reg_of {P : Program} {ps : List Nat} {nt : Nat} {ops : Array Oper} {l : List AOper} (htr : trRegion P ps nt ops true = some l) :
    P.follows .mixedOrders = true ∧ ∃ b, Reg P ps nt ops l b := by
  unfold trRegion at htr
  split at htr
  · simp at htr
  rename_i l0 hl0
  simp only [if_true] at htr
  split at htr
  · rename_i hc
    simp only [Bool.and_eq_true] at hc
    obtain ⟨⟨⟨hback, hedge⟩, hopd⟩, hmix⟩ := hc
    refine ⟨hmix, fun i j => ((ahead ops.toList []).getD j []).contains i, ?_⟩
    obtain ⟨hlen, hat⟩ := trOps_get (ops := ops.toList) ops.toList 0 [] hl0 rfl (by simp) (by simp)
    obtain ⟨d1, d2, d3⟩ := drawn_get htr
    have hop : ∀ (k : Nat) (lo : AOper), l[k]? = some lo → ∃ lo0 : AOper, l0[k]? = some lo0 ∧ lo.op = lo0.op ∧ lo.dst = lo0.dst ∧ lo.guard = lo0.guard := by
      intro k lo hk
      obtain ⟨o, h1, h2, h3, h4, _⟩ := d3 k lo hk
      exact ⟨o, h1, h2, h3, h4⟩
    have hlt : ∀ {k : Nat} {lo : AOper}, l0[k]? = some lo → k < l0.length := by
      intro k lo hk
      rcases Nat.lt_or_ge k l0.length with h | h
      · exact h
      · rw [List.getElem?_eq_none h] at hk; simp at hk
    refine ⟨by rw [d1, hlen]; simp, fun k lo hk => ?_, fun k o hk i hi => ?_, fun k o hk e he hb => by have := backOk_get ops.toList 0 hback k o (by simpa using hk) e (by simpa using he) hb; omega, fun k lo hk => ?_, fun i j li lj hij hi hj h1 h2 => ?_, fun i k li lk hik hi hk h1 h2 h3 => ?_, fun i k li lk hik hi hk h1 h2 h3 => ?_⟩
    · obtain ⟨lo0, h1, h2, h3, h4⟩ := hop k lo hk
      obtain ⟨o, ho, hA⟩ := hat k lo0 h1
      rw [Nat.zero_add] at ho hA
      exact ⟨o, by simpa using ho, ⟨by rw [h2]; exact hA.ex, by rw [h3]; exact hA.dst, by rw [h4]; exact hA.guard⟩⟩
    · have ho : ops.toList[k]? = some o := by simpa using hk
      have := (ahead_get ops.toList []).2 k o ho
      simp only [List.length_nil, Nat.zero_add] at this
      rw [List.contains_iff_mem] at hi
      obtain ⟨e, he, hb, h⟩ := this i hi
      have hek := backOk_get ops.toList 0 hback k o ho e he hb
      rw [Nat.zero_add] at hek
      have hmem : ∀ k, k ≤ ops.toList.length → ∀ i, i ∈ (ahead ops.toList []).getD k [] → k < ops.toList.length → i < k := by
        intro k
        induction k using Nat.strongRecOn with
        | _ k ih =>
          intro _ i hi hkl
          have hek0 : ops.toList[k]? = some ops.toList[k] := List.getElem?_eq_getElem hkl
          have hag := (ahead_get ops.toList []).2 k ops.toList[k] hek0
          simp only [List.length_nil, Nat.zero_add] at hag
          obtain ⟨e, he, hb, h⟩ := hag i hi
          have hek := backOk_get ops.toList 0 hback k ops.toList[k] hek0 e he hb
          rw [Nat.zero_add] at hek
          rcases h with h | ⟨h1, h2⟩
          · omega
          · have := ih e.on hek (by omega) i h2 (by omega); omega
      have hkl : k < ops.toList.length := by
        rcases Nat.lt_or_ge k ops.toList.length with h | h
        · exact h
        · rw [List.getElem?_eq_none h] at ho; simp at ho
      refine ⟨hmem k (by omega) i hi hkl, e, he, hb, ?_⟩
      rcases h with h | ⟨h1, h2⟩
      · exact .inl h
      · exact .inr (by rw [List.contains_iff_mem]; exact h2)
    · obtain ⟨lo0, h1, h2, h3, h4⟩ := hop k lo hk
      have he := allBelow_get hedge (hlt h1)
      rw [h1] at he
      simp only [Bool.and_eq_true, List.all_eq_true] at he
      rw [List.all_eq_true] at hopd
      have hod := hopd lo0 (List.mem_of_getElem? h1)
      rw [List.all_eq_true] at hod
      rw [h2, h4]
      refine ⟨fun j hj => by have := he.1 _ hj; simpa using this, fun x hx => ⟨by have := hod _ hx; simpa [opdOk] using this, fun m lm hm hlm hd => ?_⟩, fun v hv => ?_, fun j t hg => ?_⟩
      · obtain ⟨lm0, q1, q2, q3, q4⟩ := hop m lm hlm
        have := allBelow_get (he.1 _ hx) (hlt q1)
        rw [q1] at this
        simp only [Bool.or_eq_true, beq_iff_eq, bne_iff_ne, ne_eq] at this
        rcases this with this | this | this
        · exact absurd this hm
        · exact absurd (q3 ▸ hd) this
        · exact this
      · have := hod _ hv
        cases v <;> simp_all [opdOk, AV.id]
      · have := he.2
        rw [hg] at this
        exact this
    · obtain ⟨li0, q1, q2, _⟩ := hop i li hi
      obtain ⟨lj0, r1, r2, _⟩ := hop j lj hj
      rw [q2] at h1; rw [r2] at h2
      exact d2 i j li0 lj0 hij q1 r1 h1 h2
    · obtain ⟨li0, q1, q2, _⟩ := hop i li hi
      obtain ⟨lk0, r1, r2, _, _, r5, _⟩ := d3 k lk hk
      rw [q2] at h1; rw [r2] at h2
      exact r5 h2 i li0 hik q1 h1 h3
    · obtain ⟨li0, q1, q2, _⟩ := hop i li hi
      obtain ⟨lk0, r1, r2, _, _, _, r6⟩ := d3 k lk hk
      rw [q2] at h1; rw [r2] at h2
      exact r6 h2 i li0 hik q1 h1 h3
  · simp at htr

/-- How many are not listed. -/
def unl (f : Nat → Bool) : Nat → Nat
  | 0 => 0
  | n + 1 => unl f n + if f n then 0 else 1

theorem unl_zero {f : Nat → Bool} : ∀ {n : Nat}, unl f n = 0 → ∀ j, j < n → f j = true
  | 0, _, j, hj => by omega
  | n + 1, h, j, hj => by
    simp only [unl] at h
    by_cases e : j = n
    · subst e
      cases hf : f j with
      | true => rfl
      | false => rw [hf] at h; simp at h
    · exact unl_zero (n := n) (by omega) j (by omega)

theorem unl_le {f : Nat → Bool} : ∀ (n : Nat), unl f n ≤ n
  | 0 => Nat.le_refl _
  | n + 1 => by
    simp only [unl]
    have := unl_le (f := f) n
    split <;> omega

theorem unl_congr {f g : Nat → Bool} : ∀ {n : Nat}, (∀ j, j < n → f j = g j) → unl f n = unl g n
  | 0, _ => rfl
  | n + 1, h => by
    simp only [unl]
    rw [unl_congr (n := n) fun j hj => h j (by omega), h n (by omega)]

theorem unl_step {f g : Nat → Bool} {k : Nat} (hk : f k = false) (hk' : g k = true) (h : ∀ j, j ≠ k → g j = f j) : ∀ {n : Nat}, k < n → unl g n + 1 = unl f n
  | 0, hn => by omega
  | n + 1, hn => by
    simp only [unl]
    by_cases e : k = n
    · subst e
      rw [hk, hk', unl_congr (f := g) (g := f) (n := k) fun j hj => h j (by omega)]
      simp
    · have := unl_step hk hk' h (n := n) (by omega)
      rw [h n (fun e2 => e e2.symm)]
      omega

theorem getB_of (G : Nat → Option Blk) (M i : Nat) : getB ((List.range M).map G) i = if i < M then G i else none := by
  unfold getB
  by_cases h : i < M
  · simp [h]
  · rw [List.getElem?_eq_none (by simp; omega), if_neg h]; rfl

/-- What changes a part of memory leaves the rest as it is. -/
theorem Ext.up {Φ Φ' : Phi} {G G1 G1' G' : Nat → Option Blk} {w w' : World} (S : Sim Φ G w) (hsub : ∀ i b, G1 i = some b → G i = some b)
    (E : Ext Φ G1 w Φ' G1' w') (S' : Sim Φ' G1' w') {n : Nat} (hG1 : ∀ i b, G1 i = some b → i < n)
    (hlo : ∀ i b, i < n → G' i = some b → G1' i = some b) (hhi : ∀ i b, n ≤ i → G' i = some b → G i = some b) :
    Sim Φ' G' w' ∧ Ext Φ G w Φ' G' w' := by
  have hnot : ∀ i b l, n ≤ i → G i = some b → Φ i = some l → ¬ Owned Φ G1 l.b := by
    rintro i b l hi hg hl ⟨j, bj, lj, q1, q2, q3, q4⟩
    have hj := hG1 j bj q1
    exact S.apart j i bj b lj l (by omega) (hsub j bj q1) hg q2 hl q3 q4
  refine ⟨⟨fun i b hi => ?_, fun i j bi bj li lj hne hi hj hli hlj hrw => ?_⟩, ⟨E.mono, E.os, E.tape, E.output, E.size, fun b hb hn => ?_, fun b hb => ?_, fun j blk l hj hl hr => ?_⟩⟩
  · rcases Nat.lt_or_ge i n with h | h
    · exact S'.ok i b (hlo i b h hi)
    · have hg := hhi i b h hi
      obtain ⟨l, hl, hok⟩ := S.ok i b hg
      exact ⟨l, E.mono _ _ hl, hok.keep E.mono E.size (E.frame _ hok.lt (hnot i b l h hg hl))⟩
  · have old : ∀ i b l, n ≤ i → G' i = some b → Φ' i = some l → G i = some b ∧ Φ i = some l := by
      intro i b l h hg hl
      have hg' := hhi i b h hg
      obtain ⟨l', hl', _⟩ := S.ok i b hg'
      have := E.mono _ _ hl'
      rw [hl] at this; simp only [Option.some.injEq] at this; subst this
      exact ⟨hg', hl'⟩
    have mix : ∀ i j bi bj li lj, i < n → n ≤ j → G' i = some bi → G' j = some bj → Φ' i = some li → Φ' j = some lj → li.rw = true → li.b ≠ lj.b := by
      intro i j bi bj li lj hi' hj' hi hj hli hlj hrw
      obtain ⟨q1, q2⟩ := old j bj lj hj' hj hlj
      obtain ⟨l', hl', hok⟩ := S.ok j bj q1
      rw [q2] at hl'; simp only [Option.some.injEq] at hl'; subst hl'
      have hlt := hok.lt
      rcases E.own li.b ⟨i, bi, li, hlo i bi hi' hi, hli, hrw, rfl⟩ with ⟨k, bk, lk, r1, r2, r3, r4⟩ | h
      · rw [← r4]
        have hk := hG1 k bk r1
        exact S.apart k j bk bj lk lj (by omega) (hsub k bk r1) q1 r2 q2 r3
      · omega
    rcases Nat.lt_or_ge i n with h | h <;> rcases Nat.lt_or_ge j n with h' | h'
    · exact S'.apart i j bi bj li lj hne (hlo i bi h hi) (hlo j bj h' hj) hli hlj hrw
    · exact mix i j bi bj li lj h h' hi hj hli hlj hrw
    · cases hrj : lj.rw with
      | true => exact fun e => mix j i bj bi lj li h' h hj hi hlj hli hrj e.symm
      | false =>
        obtain ⟨q1, q2⟩ := old i bi li h hi hli
        obtain ⟨r1, bj', r2⟩ := E.ro j bj lj (hlo j bj h' hj) hlj hrj
        exact S.apart i j bi bj' li lj hne q1 (hsub j bj' r2) q2 r1 hrw
    · obtain ⟨q1, q2⟩ := old i bi li h hi hli
      obtain ⟨r1, r2⟩ := old j bj lj h' hj hlj
      exact S.apart i j bi bj li lj hne q1 r1 q2 r2 hrw
  · exact E.frame b hb fun ⟨j, bj, lj, q1, q2, q3, q4⟩ => hn ⟨j, bj, lj, hsub j bj q1, q2, q3, q4⟩
  · obtain ⟨i, bi, li, h1, h2, h3, h4⟩ := hb
    rcases Nat.lt_or_ge i n with h | h
    · rcases E.own b ⟨i, bi, li, hlo i bi h h1, h2, h3, h4⟩ with ⟨k, bk, lk, r1, r2, r3, r4⟩ | h
      · exact .inl ⟨k, bk, lk, hsub k bk r1, r2, r3, r4⟩
      · exact .inr h
    · have hg := hhi i bi h h1
      obtain ⟨l', hl', _⟩ := S.ok i bi hg
      have := E.mono _ _ hl'
      rw [h2] at this; simp only [Option.some.injEq] at this; subst this
      exact .inl ⟨i, bi, li, hg, hl', h3, h4⟩
  · rcases Nat.lt_or_ge j n with h | h
    · obtain ⟨q1, b', q2⟩ := E.ro j blk l (hlo j blk h hj) hl hr
      exact ⟨q1, b', hsub j b' q2⟩
    · have hg := hhi j blk h hj
      obtain ⟨l', hl', _⟩ := S.ok j blk hg
      have := E.mono _ _ hl'
      rw [hl] at this; simp only [Option.some.injEq] at this; subst this
      exact ⟨hl', blk, hg⟩

end Go.Am

/- A region that draws its order: what compact code says is what the machine does. -/
namespace Go.Am

theorem lookup_mem {t j : Nat} : ∀ {tm : List (Nat × Nat)}, tm.lookup t = some j → (t, j) ∈ tm
  | [], h => by simp at h
  | q :: r, h => by
    rw [List.lookup_cons] at h
    split at h
    · rename_i he
      simp only [Option.some.injEq] at h
      have : t = q.1 := by simpa using he
      subst this; subst h
      simp
    · exact List.mem_cons_of_mem _ (lookup_mem h)

theorem undef_R (Φ : Phi) : R Φ (.tup []) undef := by simp only [R]; exact ⟨[], rfl, by simp only [Rs]⟩

/-- Is an operation carried out: as the machine asks it. -/
theorem wanted_at {ops : Array Oper} {tmps : Array Value} {Φ : Phi} {o : Oper} {vals : List AV} {b : Bool} (hw : wantedA vals o.guard = some b)
    (h : ∀ j t, o.guard = some (j, t) → ∃ d v, ((ops[j]?).bind (·.dst)) = some d ∧ vals[j]? = some v ∧ R Φ v (tmps.getD d undef)) : Region.wanted o (yielded ops tmps) = b := by
  unfold wantedA at hw
  unfold Region.wanted
  cases hg : o.guard with
  | none => rw [hg] at hw; simp at hw; subst hw; rfl
  | some q =>
    obtain ⟨j, t⟩ := q
    rw [hg] at hw
    obtain ⟨d, v, h1, h2, h3⟩ := h j t hg
    simp only at hw ⊢
    rw [h2] at hw
    have hy : ∀ r : Option Bool, (∀ hlt : d < tmps.size, (match tmps[d] with | .bool b => some b | _ => none) = r) → (tmps.size ≤ d → none = r) → yielded ops tmps j = r := by
      intro r h4 h5
      unfold yielded
      rw [h1]
      simp only [Option.bind_some]
      rcases Nat.lt_or_ge d tmps.size with h | h
      · rw [Array.getElem?_eq_getElem h]
        have h6 := h4 h
        revert h6
        generalize tmps[d] = z
        intro h6
        cases z <;> exact h6
      · rw [Array.getElem?_eq_none h]
        exact h5 h
    split at hw <;> simp only [Option.some.injEq, reduceCtorEq] at hw
    · rename_i b' hb'
      simp only [Option.some.injEq] at hb'; subst hb'
      simp only [R] at h3
      rw [hy (some b') (fun hlt => by
        rw [Array.getD_eq_getD_getElem?, Array.getElem?_eq_getElem hlt] at h3
        simp only [Option.getD_some] at h3
        rw [h3]) (fun hlt => by
        rw [Array.getD_eq_getD_getElem?, Array.getElem?_eq_none hlt] at h3
        simp [undef] at h3), ← hw]
      simp
    · rename_i hb'
      simp only [Option.some.injEq] at hb'; subst hb'
      simp only [R] at h3
      obtain ⟨xs, h3, _⟩ := h3
      rw [hy none (fun hlt => by
        rw [Array.getD_eq_getD_getElem?, Array.getElem?_eq_getElem hlt] at h3
        simp only [Option.getD_some] at h3
        rw [h3]) (fun _ => rfl), ← hw]
      simp

section
variable {P : Program} {call : CallT} {ps : List Nat} {nt : Nat} {ops : Array Oper} {l : List AOper} {b : Nat → Nat → Bool} {env : List AV} {V : Nat → AV} {Hs : Nat → AHeap}

/-- An operation that made a block. -/
def Nw (l : List AOper) (V : Nat → AV) (Hs : Nat → AHeap) (k : Nat) (blk : Blk) : Prop :=
  ∃ lo, l[k]? = some lo ∧ lo.op.cls = .new ∧ wantedA (vs V k) lo.guard = some true ∧ Hs (k + 1) = Hs k ++ [some blk]

def EffRun (l : List AOper) (V : Nat → AV) (k : Nat) : Prop := ∃ lo, l[k]? = some lo ∧ lo.op.cls = .eff ∧ wantedA (vs V k) lo.guard = some true

theorem step_len (CS : CallSound P call) (hst : ∀ k lo, l[k]? = some lo → StepOk call l env V Hs k lo) {k : Nat} (hk : k < l.length) : (Hs k).length ≤ (Hs (k + 1)).length := by
  rcases hst k _ (List.getElem?_eq_getElem hk) with ⟨_, _, h⟩ | ⟨_, h, _⟩
  · rw [h]; exact Nat.le_refl _
  · exact op_len (c := ⟨P, [], []⟩) CS h

theorem steps_len (CS : CallSound P call) (hst : ∀ k lo, l[k]? = some lo → StepOk call l env V Hs k lo) {i j : Nat} (hij : i ≤ j) (hj : j ≤ l.length) : (Hs i).length ≤ (Hs j).length := by
  induction j with
  | zero => rw [show i = 0 by omega]; exact Nat.le_refl _
  | succ j ih =>
    by_cases e : i = j + 1
    · rw [e]; exact Nat.le_refl _
    · exact Nat.le_trans (ih (by omega) (by omega)) (step_len CS hst (by omega))

theorem Nw.lt {k : Nat} {blk : Blk} (h : Nw l V Hs k blk) : k < l.length := by
  obtain ⟨lo, h1, _⟩ := h
  rcases Nat.lt_or_ge k l.length with h | h
  · exact h
  · rw [List.getElem?_eq_none h] at h1; simp at h1

theorem Nw.inj (CS : CallSound P call) (hst : ∀ k lo, l[k]? = some lo → StepOk call l env V Hs k lo) {k k' : Nat} {b1 b2 : Blk} (h : Nw l V Hs k b1) (h' : Nw l V Hs k' b2)
    (e : (Hs k).length = (Hs k').length) : k = k' ∧ b1 = b2 := by
  have l1 := h.lt
  have l2 := h'.lt
  obtain ⟨lo, h1, h2, h3, h4⟩ := h
  obtain ⟨lo', q1, q2, q3, q4⟩ := h'
  have e1 : (Hs (k + 1)).length = (Hs k).length + 1 := by rw [h4]; simp
  have e2 : (Hs (k' + 1)).length = (Hs k').length + 1 := by rw [q4]; simp
  have ek : k = k' := by
    rcases Nat.lt_trichotomy k k' with h | h | h
    · have := steps_len CS hst (i := k + 1) (j := k') (by omega) (by omega); omega
    · exact h
    · have := steps_len CS hst (i := k' + 1) (j := k) (by omega) (by omega); omega
  subst ek
  rw [h4] at q4
  exact ⟨rfl, by simpa using q4⟩

theorem step_new (hst : ∀ k lo, l[k]? = some lo → StepOk call l env V Hs k lo) {k : Nat} {lo : AOper} (hk : l[k]? = some lo) (hc : lo.op.cls = .new) (hw : wantedA (vs V k) lo.guard = some true) :
    ∃ mk blk, aNew env (vs V k) lo.op = some (mk, blk) ∧ V k = mk (Hs k).length ∧ Hs (k + 1) = Hs k ++ [some blk] := by
  rcases hst k lo hk with ⟨h, _⟩ | ⟨_, h, _⟩
  · rw [hw] at h; simp at h
  · unfold aOp at h
    rw [hc] at h
    simp only at h
    split at h <;> simp only [Option.some.injEq, Prod.mk.injEq, reduceCtorEq] at h
    rename_i mk blk hn
    exact ⟨mk, blk, hn, h.1.symm, h.2.symm⟩

/-- Where nothing writes, what is there stays, and what is new was made. -/
theorem quiet (CS : CallSound P call) (hst : ∀ k lo, l[k]? = some lo → StepOk call l env V Hs k lo) {p q : Nat} (hpq : p ≤ q) (hq : q ≤ l.length) (hno : ∀ k, p ≤ k → k < q → ¬ EffRun l V k) :
    (∀ i, i < (Hs p).length → getB (Hs q) i = getB (Hs p) i) ∧ ∀ i blk, (Hs p).length ≤ i → getB (Hs q) i = some blk → ∃ k, p ≤ k ∧ k < q ∧ Nw l V Hs k blk ∧ (Hs k).length = i := by
  induction q with
  | zero =>
    rw [show p = 0 by omega]
    refine ⟨fun _ _ => rfl, fun i blk hi hb => ?_⟩
    have := getB_lt hb; omega
  | succ q ih =>
    by_cases e : p = q + 1
    · subst e
      refine ⟨fun _ _ => rfl, fun i blk hi hb => ?_⟩
      have := getB_lt hb; omega
    · obtain ⟨h1, h2⟩ := ih (by omega) (by omega) (fun k a c => hno k a (by omega))
      have hlq : q < l.length := by omega
      have same : Hs (q + 1) = Hs q → _ := fun he => (⟨fun i hi => by rw [he]; exact h1 i hi, fun i blk hi hb => by
          rw [he] at hb
          obtain ⟨k, a1, a2, a3⟩ := h2 i blk hi hb
          exact ⟨k, a1, by omega, a3⟩⟩ : (∀ i, i < (Hs p).length → getB (Hs (q + 1)) i = getB (Hs p) i) ∧ ∀ i blk, (Hs p).length ≤ i → getB (Hs (q + 1)) i = some blk → ∃ k, p ≤ k ∧ k < q + 1 ∧ Nw l V Hs k blk ∧ (Hs k).length = i)
      have hlo := List.getElem?_eq_getElem hlq
      rcases hst q _ hlo with ⟨_, _, h⟩ | ⟨hw, hop, _⟩
      · exact same h
      · cases hc : l[q].op.cls with
        | eff => exact absurd ⟨_, hlo, hc, hw⟩ (hno q (by omega) (by omega))
        | pure =>
          unfold aOp at hop
          rw [hc] at hop
          simp only at hop
          split at hop <;> simp only [Option.some.injEq, Prod.mk.injEq, reduceCtorEq] at hop
          exact same hop.2.symm
        | read =>
          unfold aOp at hop
          rw [hc] at hop
          simp only at hop
          split at hop <;> simp only [Option.some.injEq, Prod.mk.injEq, reduceCtorEq] at hop
          exact same hop.2.symm
        | new =>
          obtain ⟨mk, blk, hn, hv, hH⟩ := step_new hst hlo hc hw
          have hpl := steps_len CS hst (i := p) (j := q) (by omega) (by omega)
          refine ⟨fun i hi => ?_, fun i blk' hi hb => ?_⟩
          · rw [hH, getB_append, upd_other (by omega)]; exact h1 i hi
          · rw [hH, getB_append] at hb
            by_cases e2 : i = (Hs q).length
            · subst e2
              rw [upd_self] at hb
              simp only [Option.some.injEq] at hb; subst hb
              exact ⟨q, by omega, by omega, ⟨_, hlo, hc, hw, hH⟩, rfl⟩
            · rw [upd_other e2] at hb
              obtain ⟨k, a1, a2, a3⟩ := h2 i blk' hi hb
              exact ⟨k, a1, by omega, a3⟩

/-- The frame, where the operations S are done. -/
structure DAct (ps : List Nat) (nt : Nat) (ops : Array Oper) (env : List AV) (V : Nat → AV) (S : Nat → Prop) (Φ : Phi) (a : Act) : Prop where
  size : a.tmps.size = nt
  defers : a.defers = []
  tmp : ∀ j o d, S j → ops[j]? = some o → o.dst = some d → R Φ (V j) (a.tmps.getD d undef)
  val : ∀ j, S j → ∃ v', R Φ (V j) v'
  old : ∀ (x s : Nat) (e : AV), ps[x]? = some s → env[x]? = some e → (∀ j o, S j → ops[j]? = some o → o.dst ≠ some s) → R Φ e (a.tmps.getD s undef)

theorem DAct.step {S : Nat → Prop} {Φ Φ' : Phi} {a : Act} (A : DAct ps nt ops env V S Φ a) (hm : ∀ i l, Φ i = some l → Φ' i = some l) {k : Nat} {o : Oper} (ho : ops[k]? = some o)
    (hnt : ∀ d, o.dst = some d → d < nt) (hun : ∀ j o' d, j ≠ k → ops[j]? = some o' → o'.dst = some d → o.dst ≠ some d) (hk : ¬ S k) {v' : Value} (hR : R Φ' (V k) v') :
    DAct ps nt ops env V (fun j => j = k ∨ S j) Φ' (a.put o.dst v') := by
  refine ⟨?_, ?_, fun j o' d hj ho' hd => ?_, fun j hj => ?_, fun x s e h1 h2 h3 => ?_⟩
  · cases hd : o.dst <;> simp [Act.put, A.size]
  · cases hd : o.dst <;> simp [Act.put, A.defers]
  · by_cases e : j = k
    · subst e
      rw [ho] at ho'; simp only [Option.some.injEq] at ho'; subst ho'
      rw [hd]
      simp only [Act.put]
      rw [getD_set_self _ _ _ (by rw [A.size]; exact hnt d hd)]
      exact hR
    · have hj' : S j := by rcases hj with h | h; exact absurd h e; exact h
      have hne := hun j o' d e ho' hd
      have := R.mono hm _ (A.tmp j o' d hj' ho' hd)
      cases hd2 : o.dst with
      | none => exact this
      | some d2 =>
        simp only [Act.put]
        rw [getD_set_ne _ _ _ _ (fun e2 => hne (by rw [hd2, e2]))]
        exact this
  · rcases hj with rfl | hj
    · exact ⟨_, hR⟩
    · obtain ⟨u, hu⟩ := A.val j hj; exact ⟨u, R.mono hm _ hu⟩
  · have := R.mono hm _ (A.old x s e h1 h2 (fun j o' hj => h3 j o' (.inr hj)))
    have hne := h3 k o (.inl rfl) ho
    cases hd2 : o.dst with
    | none => exact this
    | some d2 =>
      simp only [Act.put]
      rw [getD_set_ne _ _ _ _ (fun e2 => hne (by rw [hd2, e2]))]
      exact this

/-- Which operations are done. -/
structure DSet (l : List AOper) (b : Nat → Nat → Bool) (V : Nat → AV) (S : Nat → Prop) (p : Nat) : Prop where
  closed : ∀ i j, S j → b i j = true → S i
  lt : ∀ j, S j → j < l.length
  pN : p ≤ l.length
  pdone : ∀ j lo, j < p → l[j]? = some lo → (lo.op.cls = .eff ∨ lo.op.cls = .new) → S j
  pmax : ∀ j, S j → EffRun l V j → j < p
  plast : p = 0 ∨ ∃ q, p = q + 1 ∧ S q ∧ EffRun l V q

/-- Memory, where the operations S are done. -/
structure DMem (l : List AOper) (V : Nat → AV) (Hs : Nat → AHeap) (S : Nat → Prop) (p : Nat) (Φ0 : Phi) (w0 : World) (Φ : Phi) (w : World) (G : Nat → Option Blk) : Prop where
  sim : Sim Φ G w
  ext : Ext Φ0 (getB (Hs 0)) w0 Φ G w
  g1 : ∀ i, i < (Hs p).length → G i = getB (Hs p) i
  g2 : ∀ k blk, p ≤ k → S k → Nw l V Hs k blk → G (Hs k).length = some blk
  g3 : ∀ i blk, (Hs p).length ≤ i → G i = some blk → ∃ k, p ≤ k ∧ S k ∧ Nw l V Hs k blk ∧ (Hs k).length = i
  dom : ∀ i q, (Hs 0).length ≤ i → i < (Hs l.length).length → Φ i = some q → i < (Hs p).length ∨ ∃ k blk, p ≤ k ∧ S k ∧ Nw l V Hs k blk ∧ (Hs k).length = i
  domS : Dom Φ0 Φ (Hs 0).length (Hs l.length).length

/-- Where nothing has been written and all that is new is done: the machine's memory holds it. -/
theorem DMem.sub (CS : CallSound P call) (hst : ∀ k lo, l[k]? = some lo → StepOk call l env V Hs k lo) {S : Nat → Prop} {p : Nat} {Φ0 Φ : Phi} {w0 w : World} {G : Nat → Option Blk}
    (M : DMem l V Hs S p Φ0 w0 Φ w G) {q : Nat} (hpq : p ≤ q) (hq : q ≤ l.length) (hno : ∀ k, p ≤ k → k < q → ¬ EffRun l V k) (hnew : ∀ k blk, p ≤ k → k < q → Nw l V Hs k blk → S k) :
    ∀ i blk, getB (Hs q) i = some blk → G i = some blk := by
  obtain ⟨h1, h2⟩ := quiet CS hst hpq hq hno
  intro i blk hb
  rcases Nat.lt_or_ge i (Hs p).length with h | h
  · rw [M.g1 i h, ← h1 i h]; exact hb
  · obtain ⟨k, a1, a2, a3, a4⟩ := h2 i blk h hb
    rw [← a4]; exact M.g2 k blk a1 (hnew k blk a1 a2 a3) a3

/-- What one operation looks at, where it is ready. -/
theorem look_ok (Rg : Reg P ps nt ops l b) (hnd : ps.Nodup) {S : Nat → Prop} {p : Nat} (D : DSet l b V S p) {Φ : Phi} {a : Act} (A : DAct ps nt ops env V S Φ a) {k : Nat} {lo : AOper} {o : Oper}
    (hlo : l[k]? = some lo) (ho : ops[k]? = some o) (OA : OpAt P ps nt ops.toList k o lo) (hk : ¬ S k) (hpre : ∀ i, b i k = true → S i) :
    ∃ tm menv mvals, trOp ⟨P, ps, tm⟩ o.op = some lo.op ∧ HO ⟨P, ps, tm⟩ menv mvals Φ a.eval ∧ (∀ x, x ∈ lo.op.opds → aval env (vs V k) x = aval menv mvals x) ∧
      (∀ x u i, x ∈ lo.op.opds → aval menv mvals x = some u → u.id = some i → ∃ q, Φ i = some q) ∧
      (∀ c, wantedA (vs V k) lo.guard = some c → Region.wanted o (yielded ops a.tmps) = c) := by
  classical
  obtain ⟨tm, htr, hd, hg, hin, hout⟩ := OA.ex
  have hkN : k < l.length := by
    rcases Nat.lt_or_ge k l.length with h | h
    · exact h
    · rw [List.getElem?_eq_none h] at hlo; simp at hlo
  let W : Nat → Prop := fun x => ∃ j o' s, S j ∧ ops[j]? = some o' ∧ o'.dst = some s ∧ ps[x]? = some s
  let menv : List AV := (List.range env.length).map fun x => if W x then .junk else env.getD x .junk
  let mvals : List AV := (List.range l.length).map fun j => if S j then V j else .junk
  have hmenv : ∀ x, menv[x]? = if x < env.length then some (if W x then .junk else env.getD x .junk) else none := by
    intro x
    by_cases h : x < env.length
    · simp [menv, h]
    · rw [List.getElem?_eq_none (by simp [menv]; omega), if_neg h]
  have hmvals : ∀ j, mvals[j]? = if j < l.length then some (if S j then V j else .junk) else none := by
    intro x
    by_cases h : x < l.length
    · simp [mvals, h]
    · rw [List.getElem?_eq_none (by simp [mvals]; omega), if_neg h]
  obtain ⟨ol, ov, oc, og⟩ := Rg.opd k lo hlo
  have hback := Rg.back k o ho
  -- a variable that is looked at has not been written
  have hW : ∀ x, Opd.var x ∈ lo.op.opds → ¬ W x := by
    rintro x hx ⟨j, o', s, hj, ho', hdst, hps⟩
    obtain ⟨hxl, hm⟩ := ov x hx
    have hjl := D.lt j hj
    obtain ⟨o2, ho2, OA2⟩ := Rg.at_ j _ (List.getElem?_eq_getElem hjl)
    rw [ho'] at ho2; simp only [Option.some.injEq] at ho2; subst ho2
    have hdj := OA2.dst
    rw [hdst] at hdj
    have hix : ps.idxOf? s = some x := by
      rw [List.idxOf?_eq_some_iff]
      rw [List.getElem?_eq_getElem hxl] at hps
      simp only [Option.some.injEq] at hps
      refine ⟨hxl, hps, fun y hy => ?_⟩
      intro e
      have hyl : y < ps.length := by omega
      have : ps[y] = ps[x] := by rw [hps]; simpa using e
      have := (List.getElem_inj hnd).1 this
      omega
    have hdj : l[j].dst = ps.idxOf? s := hdj
    rw [hix] at hdj
    have hjk : j ≠ k := fun e => hk (e ▸ hj)
    exact hk (D.closed k j hj (hm j _ hjk (List.getElem?_eq_getElem hjl) hdj))
  have heq : ∀ x, x ∈ lo.op.opds → aval env (vs V k) x = aval menv mvals x := by
    intro x hx
    cases x with
    | const v => rfl
    | loc j =>
      have hb := ol j hx
      have hjk := (hback j hb).1
      simp only [aval]
      rw [vs_get, if_pos hjk, hmvals, if_pos (by omega), if_pos (hpre j hb)]
    | var x =>
      simp only [aval]
      rw [hmenv, if_neg (hW x hx)]
      by_cases h : x < env.length
      · simp [h]
      · rw [if_neg h, List.getElem?_eq_none (by omega)]
  refine ⟨tm, menv, mvals, htr, ?_, heq, fun x u i hx hu hi => ?_, fun c hc => ?_⟩
  · intro x y v hx hy
    cases x with
    | tmp t =>
      simp only [trOpd] at hx
      split at hx
      · rename_i j hj
        simp only [Option.some.injEq] at hx; subst hx
        simp only [aval] at hy
        rw [hmvals] at hy
        split at hy <;> simp only [Option.some.injEq, reduceCtorEq] at hy
        split at hy
        · rename_i hS
          subst hy
          have hmem : (t, j) ∈ tm := lookup_mem hj
          obtain ⟨o', _, q2, q3⟩ := hin _ hmem
          exact A.tmp j o' t hS (by simpa using q2) q3
        · subst hy; simp only [R]
      · rename_i hnone
        split at hx <;> simp only [Option.some.injEq, reduceCtorEq] at hx
        rename_i z hz; subst hx
        simp only [aval] at hy
        rw [hmenv] at hy
        split at hy <;> simp only [Option.some.injEq, reduceCtorEq] at hy
        rename_i hzl
        split at hy
        · subst hy; simp only [R]
        · rename_i hWz
          subst hy
          refine A.old z t _ (idxOf_get hz) (by simp [hzl]) (fun j o' hj ho' hdst => hWz ⟨j, o', t, hj, ho', hdst, idxOf_get hz⟩)
    | const k' =>
      simp only [trOpd] at hx
      split at hx <;> simp only [Option.some.injEq, reduceCtorEq] at hx
      rename_i z hz; subst hx
      simp only [aval, Option.some.injEq] at hy; subst hy
      exact trConst_R k' hz
    | func f =>
      simp only [trOpd, Option.some.injEq] at hx; subst hx
      simp only [aval, Option.some.injEq] at hy; subst hy
      simp only [R, Act.eval]
      exact ⟨[], [], rfl, .nil, .nil⟩
    | global g => simp [trOpd] at hx
  · cases x with
    | const v =>
      simp only [aval, Option.some.injEq] at hu; subst hu
      rw [oc v hx] at hi; simp at hi
    | loc j =>
      have hb := ol j hx
      have hjk := (hback j hb).1
      simp only [aval] at hu
      rw [hmvals, if_pos (by omega), if_pos (hpre j hb)] at hu
      simp only [Option.some.injEq] at hu; subst hu
      obtain ⟨v', hv'⟩ := A.val j (hpre j hb)
      exact hv'.id hi
    | var x =>
      have hWx := hW x hx
      simp only [aval] at hu
      rw [hmenv, if_neg hWx] at hu
      split at hu <;> simp only [Option.some.injEq, reduceCtorEq] at hu
      rename_i hxl
      subst hu
      have hxp := (ov x hx).1
      refine (A.old x ps[x] _ (List.getElem?_eq_getElem hxp) (by simp [hxl]) (fun j o' hj ho' hdst => hWx ⟨j, o', _, hj, ho', hdst, List.getElem?_eq_getElem hxp⟩)).id hi
  · refine wanted_at (Φ := Φ) (by rw [← OA.guard]; exact hc) (fun j t hgj => ?_)
    obtain ⟨q, hq1, hq2⟩ := hg j t hgj
    obtain ⟨o', r1, r2, r3⟩ := hin q hq1
    rw [hq2] at r1 r2
    have hb := og j t (by rw [OA.guard]; exact hgj)
    have ho' : ops[j]? = some o' := by simpa using r2
    exact ⟨q.1, V j, by rw [ho']; simpa using r3, by rw [vs_get, if_pos r1], A.tmp j o' q.1 (hpre j hb) ho' r3⟩

theorem DSet.step {S : Nat → Prop} {p : Nat} (D : DSet l b V S p) {k : Nat} (hkN : k < l.length) (hpre : ∀ i, b i k = true → S i) (hne : ¬ EffRun l V k) : DSet l b V (fun j => j = k ∨ S j) p where
  closed := fun i j hj hb => by
    rcases hj with rfl | hj
    · exact .inr (hpre i hb)
    · exact .inr (D.closed i j hj hb)
  lt := fun j hj => by
    rcases hj with rfl | hj
    · exact hkN
    · exact D.lt j hj
  pN := D.pN
  pdone := fun j lo h1 h2 h3 => .inr (D.pdone j lo h1 h2 h3)
  pmax := fun j hj he => by
    rcases hj with rfl | hj
    · exact absurd he hne
    · exact D.pmax j hj he
  plast := by
    rcases D.plast with h | ⟨q, h1, h2, h3⟩
    · exact .inl h
    · exact .inr ⟨q, h1, .inr h2, h3⟩

theorem DMem.same {S : Nat → Prop} {p : Nat} {Φ0 Φ : Phi} {w0 w : World} {G : Nat → Option Blk} (M : DMem l V Hs S p Φ0 w0 Φ w G) {k : Nat} (hn : ∀ blk, ¬ Nw l V Hs k blk) :
    DMem l V Hs (fun j => j = k ∨ S j) p Φ0 w0 Φ w G where
  sim := M.sim
  ext := M.ext
  g1 := M.g1
  g2 := fun k' blk h1 h2 h3 => by
    rcases h2 with rfl | h2
    · exact absurd h3 (hn blk)
    · exact M.g2 k' blk h1 h2 h3
  g3 := fun i blk h1 h2 => by
    obtain ⟨k', q1, q2, q3⟩ := M.g3 i blk h1 h2
    exact ⟨k', q1, .inr q2, q3⟩
  dom := fun i q h1 h2 h3 => by
    rcases M.dom i q h1 h2 h3 with h | ⟨k', blk, q1, q2, q3⟩
    · exact .inl h
    · exact .inr ⟨k', blk, q1, .inr q2, q3⟩
  domS := M.domS

theorem first_of (p : Nat → Prop) (a c : Nat) (hac : a ≤ c) : (∀ k, a ≤ k → k < c → ¬ p k) ∨ ∃ j, a ≤ j ∧ j < c ∧ p j ∧ ∀ k, a ≤ k → k < j → ¬ p k := by
  classical
  induction c with
  | zero => exact .inl (fun k _ h => by omega)
  | succ c ih =>
    by_cases e : a = c + 1
    · exact .inl (fun k h1 h2 => by omega)
    · rcases ih (by omega) with h | ⟨j, h1, h2, h3, h4⟩
      · by_cases hp : p c
        · exact .inr ⟨c, by omega, by omega, hp, h⟩
        · exact .inl (fun k h1 h2 => by
            by_cases e2 : k = c
            · subst e2; exact hp
            · exact h k h1 (by omega))
      · exact .inr ⟨j, h1, by omega, h3, h4⟩

/-- At which heap a read may be taken. -/
theorem read_where (Rg : Reg P ps nt ops l b) (hst : ∀ k lo, l[k]? = some lo → StepOk call l env V Hs k lo) {S : Nat → Prop} {p : Nat} (D : DSet l b V S p) {k : Nat} {lo : AOper} {o : Oper}
    (hlo : l[k]? = some lo) (ho : ops[k]? = some o) (hk : ¬ S k) (hpre : ∀ i, b i k = true → S i) (hc : lo.op.cls = .read) (hw : wantedA (vs V k) lo.guard = some true) :
    ∃ q, p ≤ q ∧ q ≤ l.length ∧ (∀ j, p ≤ j → j < q → ¬ EffRun l V j) ∧ aRead env (vs V k) (Hs q) lo.op = some (V k) := by
  have hkN : k < l.length := by
    rcases Nat.lt_or_ge k l.length with h | h
    · exact h
    · rw [List.getElem?_eq_none h] at hlo; simp at hlo
  rcases hst k lo hlo with ⟨h, _⟩ | ⟨_, hop, haft, hbef⟩
  · rw [hw] at h; simp at h
  rcases Nat.lt_or_ge k p with hkp | hkp
  · rcases D.plast with h | ⟨q, h1, h2, h3⟩
    · omega
    · obtain ⟨lq, q1, q2, q3⟩ := h3
      have hkq : k ≠ q := fun e => hk (e ▸ h2)
      have hbq : b k q = false := by
        cases hb : b k q with
        | false => rfl
        | true => exact absurd (D.closed k q h2 hb) hk
      have hin := Rg.aft k q lo lq (by omega) hlo q1 hc q2 hbq
      rcases hst q lq q1 with ⟨h, _⟩ | ⟨_, _, ha, _⟩
      · rw [q3] at h; simp at h
      have hs := ha k hin
      unfold sameAt at hs
      rw [hlo] at hs
      simp only at hs
      have hwq : wantedA (vs V q) lo.guard = some true := by
        rw [← hw]
        unfold wantedA
        cases hg : lo.guard with
        | none => rfl
        | some gg =>
          obtain ⟨j, t⟩ := gg
          have hjk := (Rg.back k o ho j ((Rg.opd k lo hlo).2.2.2 j t hg)).1
          simp only
          rw [vs_get, vs_get, if_pos hjk, if_pos (by omega)]
      rw [hwq] at hs
      simp only at hs
      rw [vs_get, if_pos (show k < q by omega)] at hs
      split at hs
      · rename_i u u' hu hu'
        simp only [Option.some.injEq] at hu'; subst hu'
        refine ⟨p, Nat.le_refl _, D.pN, fun j a c => by omega, ?_⟩
        rw [h1]
        have := AV.same_eq _ _ hs
        subst this
        rw [← hu]
        refine aRead_congr (fun x hx => ?_)
        cases x with
        | loc j =>
          have hjk := (Rg.back k o ho j ((Rg.opd k lo hlo).1 j hx)).1
          simp only [aval]
          rw [vs_get, vs_get, if_pos hjk, if_pos (by omega)]
        | _ => rfl
      · simp at hs
  · rcases first_of (EffRun l V) p k hkp with h | ⟨j, h1, h2, h3, h4⟩
    · refine ⟨k, hkp, by omega, h, ?_⟩
      unfold aOp at hop
      rw [hc] at hop
      simp only at hop
      split at hop <;> simp only [Option.some.injEq, Prod.mk.injEq, reduceCtorEq] at hop
      rename_i u hu
      rw [hu, hop.1]
    · have hSj : ¬ S j := fun hS => by have := D.pmax j hS h3; omega
      have hbj : b j k = false := by
        cases hb : b j k with
        | false => rfl
        | true => exact absurd (hpre j hb) hSj
      obtain ⟨lj, q1, q2, q3⟩ := h3
      have hin := Rg.bef j k lj lo h2 q1 hlo q2 hc hbj
      exact ⟨j, h1, by omega, h4, (hbef j hin).2⟩

/-- One operation, where it is ready. -/
theorem draw_step (CS : CallSound P call) (Rg : Reg P ps nt ops l b) (hnd : ps.Nodup) (hst : ∀ k lo, l[k]? = some lo → StepOk call l env V Hs k lo) {S : Nat → Prop} {p : Nat} {Φ0 Φ : Phi} {w0 w : World}
    {G : Nat → Option Blk} {a : Act} (D : DSet l b V S p) (A : DAct ps nt ops env V S Φ a) (M : DMem l V Hs S p Φ0 w0 Φ w G) {k : Nat} (hkN : k < l.length) (hk : ¬ S k) (hpre : ∀ i, b i k = true → S i)
    {Q : Exit → Act → World → Prop} {K : Act → World → Prop}
    (hK : ∀ p' Φ' G' a' w', DSet l b V (fun j => j = k ∨ S j) p' → DAct ps nt ops env V (fun j => j = k ∨ S j) Φ' a' → DMem l V Hs (fun j => j = k ∨ S j) p' Φ0 w0 Φ' w' G' → K a' w') :
    wpOp P ops Q k K a w := by
  have hlo := List.getElem?_eq_getElem hkN
  generalize l[k] = lo at hlo
  obtain ⟨o, ho, OA⟩ := Rg.at_ k lo hlo
  obtain ⟨tm, menv, mvals, htr, O, heq, hid, hwant⟩ := look_ok Rg hnd D A hlo ho OA hk hpre
  obtain ⟨tm0, _, hd0, _, _, hout0⟩ := OA.ex
  have hnt : ∀ d, o.dst = some d → d < nt := fun d hd => (hd0 d hd).2
  have hun : ∀ (j : Nat) (o' : Oper) (d : Tmp), j ≠ k → ops[j]? = some o' → o'.dst = some d → o.dst ≠ some d := by
    intro j o' d hj ho' hd' hd
    rcases Nat.lt_or_ge j k with h | h
    · exact hout0 d (hd0 d hd).1 j o' h (by simpa using ho') hd'
    · have hjl : j < l.length := by
        rw [Rg.len]
        rcases Nat.lt_or_ge j ops.size with h | h
        · exact h
        · rw [Array.getElem?_eq_none h] at ho'; simp at ho'
      obtain ⟨o2, r1, OA2⟩ := Rg.at_ j _ (List.getElem?_eq_getElem hjl)
      rw [ho'] at r1; simp only [Option.some.injEq] at r1; subst r1
      obtain ⟨tm2, _, hd2, _, _, hout2⟩ := OA2.ex
      exact hout2 d (hd2 d hd').1 k o (by omega) (by simpa using ho) hd
  have hlk := steps_len CS hst (i := k + 1) (j := l.length) (by omega) (Nat.le_refl _)
  have hkk := step_len CS hst hkN
  unfold wpOp
  rw [ho]
  simp only
  rcases hst k lo hlo with ⟨hw, hv, hH⟩ | ⟨hw, hop, haft, hbef⟩
  · rw [hwant _ hw]
    simp only [Bool.false_eq_true, if_false]
    have hne : ¬ EffRun l V k := by
      rintro ⟨lo', q1, q2, q3⟩
      rw [hlo] at q1; simp only [Option.some.injEq] at q1; subst q1
      rw [hw] at q3; simp at q3
    have hnn : ∀ blk, ¬ Nw l V Hs k blk := by
      rintro blk ⟨lo', q1, q2, q3, _⟩
      rw [hlo] at q1; simp only [Option.some.injEq] at q1; subst q1
      rw [hw] at q3; simp at q3
    exact hK p Φ G _ w (D.step hkN hpre hne) (A.step (fun _ _ h => h) ho hnt hun hk (by rw [hv]; exact undef_R Φ)) (M.same hnn)
  · rw [hwant _ hw]
    simp only [if_true]
    refine .inl ?_
    have notNw : lo.op.cls ≠ .new → ∀ blk, ¬ Nw l V Hs k blk := by
      rintro hc blk ⟨lo', q1, q2, q3, _⟩
      rw [hlo] at q1; simp only [Option.some.injEq] at q1; subst q1
      exact hc q2
    have notEff : lo.op.cls ≠ .eff → ¬ EffRun l V k := by
      rintro hc ⟨lo', q1, q2, q3⟩
      rw [hlo] at q1; simp only [Option.some.injEq] at q1; subst q1
      exact hc q2
    have hpk : (lo.op.cls = .eff ∨ lo.op.cls = .new) → p ≤ k := fun hc => by
      rcases Nat.lt_or_ge k p with h | h
      · exact absurd (D.pdone k lo h hlo hc) hk
      · exact h
    cases hc : lo.op.cls with
    | pure =>
      have hop' := hop
      unfold aOp at hop'
      rw [hc] at hop'
      simp only at hop'
      split at hop' <;> simp only [Option.some.injEq, Prod.mk.injEq, reduceCtorEq] at hop'
      rename_i u hu
      rw [aPure_congr heq] at hu
      obtain ⟨v', hr, hR⟩ := pure_ok (w := w) O o htr hu
      simp only [Oper.wp, hr, Oper.upon_value]
      rw [hop'.1] at hR
      exact hK p Φ G _ w (D.step hkN hpre (notEff (by simp [hc]))) (A.step (fun _ _ h => h) ho hnt hun hk hR) (M.same (notNw (by simp [hc])))
    | read =>
      obtain ⟨q, h1, h2, h3, h4⟩ := read_where Rg hst D hlo ho hk hpre hc hw
      rw [aRead_congr heq] at h4
      obtain ⟨u1, u2⟩ := quiet CS hst h1 h2 h3
      have h5 : aRead menv mvals ((List.range (Hs l.length).length).map G) lo.op = some (V k) := by
        refine aRead_more (fun x u i bk hx hu hi hb => ?_) h4
        have hlt := getB_lt hb
        have hqN := steps_len CS hst (i := q) (j := l.length) h2 (Nat.le_refl _)
        rw [getB_of, if_pos (by omega)]
        rcases Nat.lt_or_ge i (Hs p).length with h | h
        · rw [M.g1 i h, ← u1 i h]; exact hb
        · obtain ⟨k', a1, a2, a3, a4⟩ := u2 i bk h hb
          obtain ⟨qq, hqq⟩ := hid x u i hx hu hi
          have h0p := steps_len CS hst (i := 0) (j := p) (by omega) D.pN
          rcases M.dom i qq (by omega) (by omega) hqq with h' | ⟨k2, b2, c1, c2, c3, c4⟩
          · omega
          · obtain ⟨e1, e2⟩ := Nw.inj CS hst a3 c3 (by omega)
            subst e1
            rw [← a4]
            exact M.g2 k' bk a1 c2 a3
      have SG : Sim Φ (getB ((List.range (Hs l.length).length).map G)) w := M.sim.less fun i bk hb => by
        rw [getB_of] at hb
        split at hb
        · exact hb
        · simp at hb
      obtain ⟨v', hr, hR⟩ := read_ok O SG o htr h5
      simp only [Oper.wp, hr, Oper.upon_value]
      exact hK p Φ G _ w (D.step hkN hpre (notEff (by simp [hc]))) (A.step (fun _ _ h => h) ho hnt hun hk hR) (M.same (notNw (by simp [hc])))
    | new =>
      have hpk' := hpk (.inr hc)
      obtain ⟨mk, blk, hn, hv, hH⟩ := step_new hst hlo hc hw
      have hNw : Nw l V Hs k blk := ⟨lo, hlo, hc, hw, hH⟩
      have hlen1 : (Hs (k + 1)).length = (Hs k).length + 1 := by rw [hH]; simp
      have h0k := steps_len CS hst (i := 0) (j := k) (by omega) (by omega)
      have hpk2 := steps_len CS hst (i := p) (j := k) hpk' (by omega)
      rw [aNew_congr heq] at hn
      obtain ⟨v', w', lc, hr, hN, hlb, hrw, hall⟩ := new_ok (w := w) O o htr hn
      have hnone : Φ (Hs k).length = none := by
        cases hq : Φ (Hs k).length with
        | none => rfl
        | some q =>
          exfalso
          rcases M.dom _ q h0k (by omega) hq with h | ⟨k', b', c1, c2, c3, c4⟩
          · omega
          · obtain ⟨e1, _⟩ := Nw.inj CS hst c3 hNw c4
            exact hk (e1 ▸ c2)
      have mono : ∀ j q, Φ j = some q → upd Φ (Hs k).length (some lc) j = some q := by
        intro j q hj
        rw [upd_other (fun e => by subst e; rw [hnone] at hj; simp at hj)]; exact hj
      obtain ⟨hok, hR⟩ := hall (Hs k).length (upd Φ (Hs k).length (some lc)) mono (upd_self _ _ _)
      obtain ⟨s1, s2⟩ := new_step M.sim hN hlb hrw hnone hok
      simp only [Oper.wp, hr, Oper.upon_value]
      rw [← hv] at hR
      refine hK p _ _ _ w' (D.step hkN hpre (notEff (by simp [hc]))) (A.step mono ho hnt hun hk hR) ⟨s1, M.ext.trans s2, fun i hi => ?_, fun k' b' c1 c2 c3 => ?_, fun i b' c1 c2 => ?_, fun i q c1 c2 c3 => ?_, fun i hi => ?_⟩
      · rw [upd_other (by omega)]; exact M.g1 i hi
      · by_cases e : k' = k
        · subst e
          obtain ⟨_, e2⟩ := Nw.inj CS hst c3 hNw rfl
          subst e2
          exact upd_self _ _ _
        · have hne : (Hs k').length ≠ (Hs k).length := fun e2 => e (Nw.inj CS hst c3 hNw e2).1
          rw [upd_other hne]
          rcases c2 with c2 | c2
          · exact absurd c2 e
          · exact M.g2 k' b' c1 c2 c3
      · by_cases e : i = (Hs k).length
        · subst e
          rw [upd_self] at c2
          simp only [Option.some.injEq] at c2; subst c2
          exact ⟨k, hpk', .inl rfl, hNw, rfl⟩
        · rw [upd_other e] at c2
          obtain ⟨k', d1, d2, d3⟩ := M.g3 i b' c1 c2
          exact ⟨k', d1, .inr d2, d3⟩
      · by_cases e : i = (Hs k).length
        · exact .inr ⟨k, blk, hpk', .inl rfl, hNw, e.symm⟩
        · rw [upd_other e] at c3
          rcases M.dom i q c1 c2 c3 with h | ⟨k', b', d1, d2, d3⟩
          · exact .inl h
          · exact .inr ⟨k', b', d1, .inr d2, d3⟩
      · by_cases e : i = (Hs k).length
        · subst e; exact ⟨h0k, by omega⟩
        · rw [upd_other e] at hi; exact M.domS i hi
    | eff =>
      have hpk' := hpk (.inl hc)
      have hpk2 := steps_len CS hst (i := p) (j := k) hpk' (by omega)
      have h0k := steps_len CS hst (i := 0) (j := k) (by omega) (by omega)
      have hER : EffRun l V k := ⟨lo, hlo, hc, hw⟩
      have hno : ∀ j, p ≤ j → j < k → ¬ EffRun l V j := by
        intro j h1 h2 h3
        obtain ⟨lj, q1, q2, q3⟩ := h3
        have := D.pmax j (hpre j (Rg.eff j k lj lo h2 q1 hlo (.inl q2) hc)) ⟨lj, q1, q2, q3⟩
        omega
      have hnew : ∀ j blk, p ≤ j → j < k → Nw l V Hs j blk → S j := by
        rintro j blk h1 h2 ⟨lj, q1, q2, q3, _⟩
        exact hpre j (Rg.eff j k lj lo h2 q1 hlo (.inr q2) hc)
      have hsub := M.sub CS hst hpk' (by omega) hno hnew
      have later : ∀ k' blk i, p ≤ k' → Nw l V Hs k' blk → (Hs k').length = i → (Hs (k + 1)).length ≤ i → k + 1 ≤ k' := by
        intro k' blk i h1 h2 h3 h4
        rcases Nat.lt_or_ge k k' with h | h
        · exact h
        · exfalso
          have hlt := h2.lt
          obtain ⟨_, _, _, _, hH⟩ := h2
          have e1 : (Hs (k' + 1)).length = (Hs k').length + 1 := by rw [hH]; simp
          have := steps_len CS hst (i := k' + 1) (j := k + 1) (by omega) (by omega)
          omega
      have hfree : Free Φ (Hs k).length (Hs (k + 1)).length := by
        intro i h1 h2
        cases hq : Φ i with
        | none => rfl
        | some q =>
          exfalso
          rcases M.dom i q (by omega) (by omega) hq with h | ⟨k', b', c1, c2, c3, c4⟩
          · omega
          · rcases Nat.lt_trichotomy k' k with h | h | h
            · have hlt := c3.lt
              obtain ⟨_, _, _, _, hH⟩ := c3
              have e1 : (Hs (k' + 1)).length = (Hs k').length + 1 := by rw [hH]; simp
              have := steps_len CS hst (i := k' + 1) (j := k) (by omega) (by omega)
              omega
            · subst h
              exact notNw (by simp [hc]) _ c3
            · have hlt := c3.lt
              have := steps_len CS hst (i := k + 1) (j := k') (by omega) (by omega)
              omega
      rw [aOp_congr heq] at hop
      refine op_wp (c := ⟨P, ps, tm⟩) CS O (M.sim.less hsub) o htr hop hfree (fun Φ' v' w' hR s1 s2 s3 => ?_)
      obtain ⟨t1, t2⟩ := Ext.up (G' := fun i => if i < (Hs (k + 1)).length then getB (Hs (k + 1)) i else G i) (n := (Hs (k + 1)).length) M.sim hsub s2 s1
        (fun i bk hb => by have := getB_lt hb; omega) (fun i bk hi hb => by simpa [hi] using hb) (fun i bk hi hb => by
          have hni : ¬ i < (Hs (k + 1)).length := by omega
          simpa [hni] using hb)
      refine hK (k + 1) Φ' _ _ w' ⟨fun i j hj hb => ?_, fun j hj => ?_, by omega, fun j lj h1 h2 h3 => ?_, fun j hj he => ?_, .inr ⟨k, rfl, .inl rfl, hER⟩⟩ (A.step s2.mono ho hnt hun hk hR)
        ⟨t1, M.ext.trans t2, fun i hi => by simp [hi], fun k' b' c1 c2 c3 => ?_, fun i b' c1 c2 => ?_, fun i q c1 c2 c3 => ?_, fun i hi => ?_⟩
      · rcases hj with rfl | hj
        · exact .inr (hpre i hb)
        · exact .inr (D.closed i j hj hb)
      · rcases hj with rfl | hj
        · exact hkN
        · exact D.lt j hj
      · by_cases e : j = k
        · exact .inl e
        · exact .inr (hpre j (Rg.eff j k lj lo (by omega) h2 hlo h3 hc))
      · rcases hj with rfl | hj
        · omega
        · have := D.pmax j hj he; omega
      · have hlt := c3.lt
        have hge := steps_len CS hst (i := k + 1) (j := k') c1 (by omega)
        have hni : ¬ (Hs k').length < (Hs (k + 1)).length := by omega
        simp only [hni, if_false]
        rcases c2 with c2 | c2
        · omega
        · exact M.g2 k' b' (by omega) c2 c3
      · have hni : ¬ i < (Hs (k + 1)).length := by omega
        simp only [hni, if_false] at c2
        obtain ⟨k', d1, d2, d3, d4⟩ := M.g3 i b' (by omega) c2
        exact ⟨k', later k' b' i d1 d3 d4 c1, .inr d2, d3, d4⟩
      · rcases Nat.lt_or_ge i (Hs (k + 1)).length with h | h
        · exact .inl h
        · have he : Φ' i = Φ i := by
            by_cases e : Φ' i = Φ i
            · exact e
            · have := s3 i e; omega
          rw [he] at c3
          rcases M.dom i q c1 c2 c3 with h' | ⟨k', b', d1, d2, d3, d4⟩
          · omega
          · exact .inr ⟨k', b', later k' b' i d1 d3 d4 h, .inr d2, d3, d4⟩
      · by_cases e : Φ' i = Φ i
        · rw [e] at hi; exact M.domS i hi
        · have := s3 i e; exact ⟨by omega, by omega⟩

/-- All operations, in whatever order. -/
theorem draw_all (CS : CallSound P call) (Rg : Reg P ps nt ops l b) (hnd : ps.Nodup) (hst : ∀ k lo, l[k]? = some lo → StepOk call l env V Hs k lo) {Φ0 : Phi} {w0 : World} {Q : Exit → Act → World → Prop}
    (hQ : ∀ p Φ G a w, DSet l b V (fun j => j < l.length) p → DAct ps nt ops env V (fun j => j < l.length) Φ a → DMem l V Hs (fun j => j < l.length) p Φ0 w0 Φ w G → Q .normal a w) :
    ∀ (fuel : Nat) (listed : Array Bool) (p : Nat) (Φ : Phi) (G : Nat → Option Blk) (a : Act) (w : World), listed.size = l.length → unl (fun j => listed.getD j false) l.length ≤ fuel →
      DSet l b V (fun j => listed.getD j false = true) p → DAct ps nt ops env V (fun j => listed.getD j false = true) Φ a → DMem l V Hs (fun j => listed.getD j false = true) p Φ0 w0 Φ w G →
      wpAny P .any ops Q fuel listed a w := by
  have ready_nil : ∀ listed : Array Bool, listed.size = l.length → (∀ j, j < l.length → listed.getD j false = true) → Region.ready .any ops listed = [] := by
    intro listed hs hall
    unfold Region.ready
    rw [List.filter_eq_nil_iff]
    intro j hj
    rw [List.mem_range, ← Rg.len] at hj
    have := hall j hj
    have e : listed.getD j true = true := by
      rw [Array.getD_eq_getD_getElem?, Array.getElem?_eq_getElem (by omega)] at this ⊢
      simpa using this
    simp [e]
  have all_of_nil : ∀ listed : Array Bool, listed.size = l.length → Region.ready .any ops listed = [] → ∀ j, j < l.length → listed.getD j false = true := by
    intro listed hs hnil j
    induction j using Nat.strongRecOn with
    | _ j ih =>
      intro hj
      unfold Region.ready at hnil
      rw [List.filter_eq_nil_iff] at hnil
      have hn := hnil j (by rw [List.mem_range, ← Rg.len]; exact hj)
      cases hb : listed.getD j false with
      | true => rfl
      | false =>
        exfalso
        have e : listed.getD j true = false := by
          rw [Array.getD_eq_getD_getElem?, Array.getElem?_eq_getElem (by omega)] at hb ⊢
          simpa using hb
        obtain ⟨o, ho, _⟩ := Rg.at_ j _ (List.getElem?_eq_getElem hj)
        rw [e, ho] at hn
        apply hn
        simp only [Bool.not_false, Option.map_some, Option.getD_some, Bool.true_and]
        rw [Array.all_eq_true_iff_forall_mem]
        intro ed hed
        cases hbd : Region.binds .any ed with
        | false => simp
        | true =>
          have hlt := Rg.edge j o ho ed hed hbd
          simp [ih ed.on hlt (by omega)]
  have fin : ∀ (listed : Array Bool) (p : Nat) (Φ : Phi) (G : Nat → Option Blk) (a : Act) (w : World), (∀ j, j < l.length → listed.getD j false = true) →
      DSet l b V (fun j => listed.getD j false = true) p → DAct ps nt ops env V (fun j => listed.getD j false = true) Φ a → DMem l V Hs (fun j => listed.getD j false = true) p Φ0 w0 Φ w G → Q .normal a w := by
    intro listed p Φ G a w hall D A M
    have e : (fun j => listed.getD j false = true) = fun j => j < l.length := by
      funext j
      exact propext ⟨fun h => D.lt j h, fun h => hall j h⟩
    rw [e] at D A M
    exact hQ p Φ G a w D A M
  intro fuel
  induction fuel with
  | zero =>
    intro listed p Φ G a w hs hf D A M
    have hall := unl_zero (f := fun j => listed.getD j false) (n := l.length) (by omega)
    exact ⟨ready_nil listed hs hall, fin listed p Φ G a w hall D A M⟩
  | succ fuel ih =>
    intro listed p Φ G a w hs hf D A M
    refine ⟨fun hnil => fin listed p Φ G a w (all_of_nil listed hs hnil) D A M, fun k hk => ?_⟩
    unfold Region.ready at hk
    rw [List.mem_filter, List.mem_range, ← Rg.len] at hk
    obtain ⟨hkN, hk2⟩ := hk
    obtain ⟨o, ho, _⟩ := Rg.at_ k _ (List.getElem?_eq_getElem hkN)
    rw [ho] at hk2
    simp only [Option.map_some, Option.getD_some, Bool.and_eq_true, Bool.not_eq_true'] at hk2
    obtain ⟨hk3, hk4⟩ := hk2
    have hkf : listed.getD k false = false := by
      rw [Array.getD_eq_getD_getElem?, Array.getElem?_eq_getElem (by omega)] at hk3 ⊢
      simpa using hk3
    rw [Array.all_eq_true_iff_forall_mem] at hk4
    have hpre : ∀ i, b i k = true → listed.getD i false = true := by
      intro i hb
      obtain ⟨_, e, he, hbd, h⟩ := Rg.back k o ho i hb
      have h1 := hk4 e (by simpa using he)
      rw [hbd] at h1
      simp only [Bool.not_true, Bool.false_or] at h1
      rcases h with rfl | h
      · exact h1
      · exact D.closed i e.on h1 h
    have hset : ∀ j, (listed.setIfInBounds k true).getD j false = if j = k then true else listed.getD j false := by
      intro j
      by_cases e : j = k
      · subst e
        rw [if_pos rfl, Array.getD_eq_getD_getElem?, Array.getElem?_setIfInBounds_self]
        simp [show j < listed.size by omega]
      · rw [if_neg e, Array.getD_eq_getD_getElem?, Array.getElem?_setIfInBounds_ne (fun e2 => e e2.symm), ← Array.getD_eq_getD_getElem?]
    have hS : (fun j => (listed.setIfInBounds k true).getD j false = true) = fun j => j = k ∨ listed.getD j false = true := by
      funext j
      rw [hset j]
      by_cases e : j = k <;> simp [e]
    refine draw_step CS Rg hnd hst D A M hkN (by rw [hkf]; simp) hpre (fun p' Φ' G' a' w' D' A' M' => ?_)
    rw [← hS] at D' A' M'
    refine ih (listed.setIfInBounds k true) p' Φ' G' a' w' (by simpa using hs) ?_ D' A' M'
    have := unl_step (f := fun j => listed.getD j false) (g := fun j => (listed.setIfInBounds k true).getD j false) (k := k) hkf (by show (listed.setIfInBounds k true).getD k false = true; rw [hset k, if_pos rfl])
      (fun j hj => by show (listed.setIfInBounds k true).getD j false = _; rw [hset j, if_neg hj]) (n := l.length) hkN
    omega

end

theorem region_draw_wp {P : Program} {call : CallT} (CS : CallSound P call) {ps : List Nat} {nt : Nat} (hnd : ps.Nodup) {id : Nat} {ops : Array Oper} {l : List AOper} {env envF : List AV} {H HF : AHeap}
    (htr : trRegion P ps nt ops true = some l) (hrun : runOps call l env l [] [] env H = some (envF, HF)) {Φ : Phi} {a : Act} {w : World}
    (hE : EnvOk Φ ps env a) (hs : a.tmps.size = nt) (hd : a.defers = []) (S : Sim Φ (getB H) w) (hfree : Free Φ H.length HF.length) {Q : Exit → Act → World → Prop}
    (hQ : ∀ Φ' a' w', EnvOk Φ' ps envF a' → a'.tmps.size = nt → a'.defers = [] → Sim Φ' (getB HF) w' → Ext Φ (getB H) w Φ' (getB HF) w' → Dom Φ Φ' H.length HF.length → Q .normal a' w') :
    (Code.region id ops true).wp P Q a w := by
  obtain ⟨hmix, b, Rg⟩ := reg_of htr
  obtain ⟨V, Hs, _, hH0, hHF, hst, henv⟩ := runOps_rec l 0 (fun _ => .junk) (fun _ => H) env (by simpa [vs] using hrun)
  have hst' : ∀ k lo, l[k]? = some lo → StepOk call l env V Hs k lo := fun k lo hk => by
    have := hst k lo hk
    rwa [Nat.zero_add] at this
  have h0 : Hs 0 = H := hH0 0 (Nat.le_refl _)
  rw [Nat.zero_add] at hHF
  refine wp_region_any hmix ?_
  have hrep : ∀ j, (Array.replicate ops.size false).getD j false = false := by
    intro j
    rw [Array.getD_eq_getD_getElem?]
    by_cases h : j < ops.size
    · simp [h]
    · rw [Array.getElem?_eq_none (by simp; omega)]; rfl
  have hS : (fun j => (Array.replicate ops.size false).getD j false = true) = fun _ => False := by
    funext j; rw [hrep j]; simp
  refine draw_all CS Rg hnd hst' (Φ0 := Φ) (w0 := w) (fun p Φ' G a' w' D A M => ?_) ops.size _ 0 Φ (getB H) a _ (by simp [Rg.len]) ?_ ?_ ?_ ?_
  · have hno : ∀ k, p ≤ k → k < l.length → ¬ EffRun l V k := fun k h1 h2 h3 => by have := D.pmax k h2 h3; omega
    have hsub := M.sub CS hst' D.pN (Nat.le_refl _) hno (fun k blk _ h _ => h)
    rw [hHF] at hsub
    have hext := M.ext.less hsub
    have hdom := M.domS
    rw [h0] at hext hdom
    rw [hHF] at hdom
    refine hQ Φ' a' w' (fun x s e h1 h2 => ?_) A.size A.defers (M.sim.less hsub) hext hdom
    rcases henv x e h2 with ⟨m, lo, q1, q2, q3⟩ | ⟨q1, q2⟩
    · rw [Nat.zero_add] at q3
      have hml : m < l.length := by
        rcases Nat.lt_or_ge m l.length with h | h
        · exact h
        · rw [List.getElem?_eq_none h] at q1; simp at q1
      obtain ⟨o, ho, OA⟩ := Rg.at_ m lo q1
      have hdst := OA.dst
      rw [q2] at hdst
      cases hd2 : o.dst with
      | none => rw [hd2] at hdst; simp at hdst
      | some d =>
        rw [hd2] at hdst
        have hps := idxOf_get hdst.symm
        rw [h1] at hps
        simp only [Option.some.injEq] at hps; subst hps
        rw [← q3]
        exact A.tmp m o s hml ho hd2
    · refine A.old x s e h1 q1 (fun j o hj ho hdst => ?_)
      obtain ⟨o2, ho2, OA⟩ := Rg.at_ j _ (List.getElem?_eq_getElem hj)
      rw [ho] at ho2; simp only [Option.some.injEq] at ho2; subst ho2
      have hdj := OA.dst
      rw [hdst] at hdj
      have hxl : x < ps.length := by
        rcases Nat.lt_or_ge x ps.length with h | h
        · exact h
        · rw [List.getElem?_eq_none h] at h1; simp at h1
      have hix : ps.idxOf? s = some x := by
        rw [List.idxOf?_eq_some_iff]
        rw [List.getElem?_eq_getElem hxl] at h1
        simp only [Option.some.injEq] at h1
        refine ⟨hxl, h1, fun y hy => ?_⟩
        intro e2
        have hyl : y < ps.length := by omega
        have : ps[y] = ps[x] := by rw [h1]; simpa using e2
        have := (List.getElem_inj hnd).1 this
        omega
      exact q2 j _ (List.getElem?_eq_getElem hj) (by rw [hdj]; exact hix)
  · rw [← Rg.len]; exact unl_le _
  · rw [hS]
    exact ⟨fun _ _ h => h.elim, fun _ h => h.elim, Nat.zero_le _, fun j lo h => by omega, fun _ h => h.elim, .inl rfl⟩
  · rw [hS]
    exact ⟨hs, hd, fun _ _ _ h => h.elim, fun _ h => h.elim, fun x s e h1 h2 _ => hE x s e h1 h2⟩
  · rw [hS]
    refine ⟨S.drew, ?_, fun i hi => by rw [h0], fun _ _ _ h => h.elim, fun i blk h1 h2 => ?_, fun i q h1 h2 h3 => ?_, Dom.refl _ _ _⟩
    · rw [h0]; exact ⟨fun _ _ h => h, rfl, rfl, rfl, Nat.le_refl _, fun _ _ _ => rfl, fun _ h => .inl h, fun _ blk _ h1 h2 _ => ⟨h2, blk, h1⟩⟩
    · have := getB_lt h2; rw [h0] at h1; omega
    · rw [h0] at h1 ⊢; rw [hHF] at h2
      rw [hfree i h1 h2] at h3; simp at h3
end Go.Am

/- More fuel changes no answer. -/
namespace Go.Am

def CallLe (c c' : CallT) : Prop := ∀ f uas H r, c f uas H = some r → c' f uas H = some r

theorem CallLe.refl (c : CallT) : CallLe c c := fun _ _ _ _ h => h
theorem CallLe.trans {a b c : CallT} (h : CallLe a b) (k : CallLe b c) : CallLe a c := fun f uas H r hr => k f uas H r (h f uas H r hr)

theorem aEff_mono {c c' : CallT} (h : CallLe c c') {env vals : List AV} {H : AHeap} {o : AOp} {r : AV × AHeap} (hr : aEff c env vals H o = some r) : aEff c' env vals H o = some r := by
  cases o with
  | call f xs =>
    simp only [aEff] at hr ⊢
    split at hr
    · rename_i uas has; exact h _ _ _ _ hr
    · simp at hr
  | callv f xs =>
    simp only [aEff] at hr ⊢
    split at hr
    · exact h _ _ _ _ hr
    · simp at hr
  | _ => exact hr

theorem aOp_mono {c c' : CallT} (h : CallLe c c') {env vals : List AV} {H : AHeap} {o : AOp} {r : AV × AHeap} (hr : aOp c env vals H o = some r) : aOp c' env vals H o = some r := by
  unfold aOp at hr ⊢
  split at hr
  · exact hr
  · exact hr
  · exact hr
  · exact aEff_mono h hr

theorem runOps_mono {c c' : CallT} (h : CallLe c c') {all : List AOper} {env : List AV} : ∀ (l : List AOper) (vals : List AV) (hs : List AHeap) (env' : List AV) (H : AHeap) {r : List AV × AHeap},
    runOps c all env l vals hs env' H = some r → runOps c' all env l vals hs env' H = some r
  | [], _, _, _, _, r, hr => by simpa only [runOps] using hr
  | o :: l, vals, hs, env', H, r, hr => by
    simp only [runOps] at hr ⊢
    split at hr
    · simp at hr
    · exact runOps_mono h l _ _ _ _ hr
    · split at hr
      · simp at hr
      · rename_i v H' hv
        rw [aOp_mono h hv]
        simp only
        split at hr
        · rename_i hc
          rw [if_pos hc]
          exact runOps_mono h l _ _ _ _ hr
        · simp at hr

theorem aCode_mono {c c' : CallT} (h : CallLe c c') : ∀ (n : Nat) (m : Nat) (ac : ACode) (env : List AV) (H : AHeap) {r : AExit × List AV × AHeap}, n ≤ m → aCode c n ac env H = some r → aCode c' m ac env H = some r := by
  intro n
  induction n with
  | zero => intro m ac env H r _ hr; simp [aCode] at hr
  | succ n ih =>
    intro m ac env H r hm hr
    obtain ⟨m, rfl⟩ : ∃ k, m = k + 1 := ⟨m - 1, by omega⟩
    have hm' : n ≤ m := by omega
    cases ac with
    | skip => simpa only [aCode] using hr
    | region ops =>
      simp only [aCode] at hr ⊢
      split at hr
      · rename_i env' H' h1
        rw [runOps_mono h _ _ _ _ _ h1]; exact hr
      · simp at hr
    | seq a b =>
      simp only [aCode] at hr ⊢
      cases h1 : aCode c n a env H with
      | none => rw [h1] at hr; simp at hr
      | some q =>
        rw [ih m a env H hm' h1]
        rw [h1] at hr
        obtain ⟨e, env', H'⟩ := q
        cases e with
        | normal => exact ih m b env' H' hm' hr
        | exit id => exact hr
        | ret => exact hr
    | cond k a b =>
      simp only [aCode] at hr ⊢
      split at hr
      · exact ih m _ env H hm' hr
      · simp at hr
    | block id a =>
      simp only [aCode] at hr ⊢
      cases h1 : aCode c n a env H with
      | none => rw [h1] at hr; simp at hr
      | some q => rw [ih m a env H hm' h1]; rw [h1] at hr; exact hr
    | loop a =>
      simp only [aCode] at hr ⊢
      cases h1 : aCode c n a env H with
      | none => rw [h1] at hr; simp at hr
      | some q =>
        rw [ih m a env H hm' h1]
        rw [h1] at hr
        obtain ⟨e, env', H'⟩ := q
        cases e with
        | normal => exact ih m (.loop a) env' H' hm' hr
        | exit id => exact hr
        | ret => exact hr
    | exit id => simpa only [aCode] using hr
    | ret => simpa only [aCode] using hr

theorem aBody_mono {c c' : CallT} (h : CallLe c c') {n m : Nat} (hm : n ≤ m) {fn : AFun} {uas : List AV} {H : AHeap} {r : AV × AHeap} (hr : aBody c n fn uas H = some r) : aBody c' m fn uas H = some r := by
  unfold aBody at hr ⊢
  split at hr
  · rename_i hl
    rw [if_pos hl]
    cases h1 : aCode c n fn.body (env0 fn.ps uas) H with
    | none => rw [h1] at hr; simp at hr
    | some q => rw [aCode_mono h n m _ _ _ hm h1]; rw [h1] at hr; exact hr
  · simp at hr

theorem aCall_succ (prog : Nat → Option AFun) (orc : Nat → Option (List AV → AHeap → Option (AV × AHeap))) : ∀ n, CallLe (aCall prog orc n) (aCall prog orc (n + 1))
  | 0 => by intro f uas H r h; simp [aCall] at h
  | n + 1 => by
    intro f uas H r h
    unfold aCall at h ⊢
    split at h
    · rename_i g hg; exact h
    · rename_i hg
      split at h
      · rename_i fn hfn; exact aBody_mono (aCall_succ prog orc n) (Nat.le_succ n) h
      · simp at h

theorem aCall_le (prog : Nat → Option AFun) (orc : Nat → Option (List AV → AHeap → Option (AV × AHeap))) {n m : Nat} (h : n ≤ m) : CallLe (aCall prog orc n) (aCall prog orc m) := by
  induction m with
  | zero => have : n = 0 := by omega
            subst this; exact .refl _
  | succ m ih =>
    by_cases e : n = m + 1
    · subst e; exact .refl _
    · exact (ih (by omega)).trans (aCall_succ prog orc m)

end Go.Am

/- Code and calls: what compact code says is what the machine does. -/
namespace Go.Am

theorem least (p : Nat → Prop) (h : ∃ n, p n) : ∃ n, p n ∧ ∀ m, m < n → ¬ p m := by
  obtain ⟨n, hn⟩ := h
  induction n using Nat.strongRecOn with
  | _ n ih =>
    by_cases hm : ∃ m, m < n ∧ p m
    · obtain ⟨m, hm1, hm2⟩ := hm; exact ih m hm1 hm2
    · exact ⟨n, hn, fun m h1 h2 => hm ⟨m, h1, h2⟩⟩

/-- A loop that has so much fuel. -/
theorem wp_loop_fuel {P : Program} {c : Code} {Q : Exit → Act → World → Prop} (I : Nat → Act → World → Prop)
    (round : ∀ n a w, I n a w → c.wp P (Exit.then (fun a' w' => ∃ m, m < n ∧ I m a' w') Q) a w) {n : Nat} {a : Act} {w : World} (h : I n a w) : (Code.loop c).wp P Q a w := by
  classical
  let μ : Act → World → Nat := fun a w => if h : ∃ n, I n a w then (least _ h).choose else 0
  have hμ : ∀ a w, (∃ n, I n a w) → I (μ a w) a w ∧ ∀ m, m < μ a w → ¬ I m a w := by
    intro a w h
    have := (least _ h).choose_spec
    simp only [μ, dif_pos h]
    exact this
  refine wp_loop (fun a w => ∃ n, I n a w) μ ⟨n, h⟩ (fun a w hI => ?_)
  obtain ⟨h1, h2⟩ := hμ a w hI
  refine wp_mono (round _ a w h1) (fun e a' w' hq => ?_)
  cases e with
  | normal =>
    obtain ⟨m, hm, hI'⟩ := hq
    refine ⟨⟨m, hI'⟩, ?_⟩
    obtain ⟨h3, h4⟩ := hμ a' w' ⟨m, hI'⟩
    show μ a' w' < μ a w
    rcases Nat.lt_or_ge (μ a' w') (μ a w) with h | h
    · exact h
    · exact absurd hI' (h4 m (by omega))
  | _ => exact hq

def exitOf : AExit → Exit
  | .normal => .normal
  | .exit id => .exit id
  | .ret => .ret

theorem code_len {P : Program} {call : CallT} (CS : CallSound P call) : ∀ (n : Nat) (ac : ACode) {env : List AV} {H : AHeap} {e : AExit} {envF : List AV} {HF : AHeap},
    aCode call n ac env H = some (e, envF, HF) → H.length ≤ HF.length := by
  intro n
  induction n with
  | zero => intro ac env H e envF HF h; simp [aCode] at h
  | succ n ih =>
    intro ac env H e envF HF h
    cases ac with
    | skip => simp only [aCode, Option.some.injEq, Prod.mk.injEq] at h; obtain ⟨_, _, rfl⟩ := h; exact Nat.le_refl _
    | region ops =>
      simp only [aCode] at h
      split at h <;> simp only [Option.some.injEq, Prod.mk.injEq, reduceCtorEq] at h
      rename_i env' H' h1
      obtain ⟨_, _, rfl⟩ := h
      exact run_len CS _ _ _ _ _ h1
    | seq a b =>
      simp only [aCode] at h
      split at h
      · rename_i env' H' h1
        exact Nat.le_trans (ih a h1) (ih b h)
      · exact ih a h
    | cond c a b =>
      simp only [aCode] at h
      split at h
      · exact ih _ h
      · simp at h
    | block id c =>
      simp only [aCode] at h
      split at h
      · rename_i id' env' H' h1
        have := ih c h1
        split at h <;> simp only [Option.some.injEq, Prod.mk.injEq] at h <;> (obtain ⟨_, _, rfl⟩ := h) <;> exact this
      · exact ih c h
    | loop c =>
      simp only [aCode] at h
      split at h
      · rename_i env' H' h1
        exact Nat.le_trans (ih c h1) (ih _ h)
      · exact ih c h
    | exit id => simp only [aCode, Option.some.injEq, Prod.mk.injEq] at h; obtain ⟨_, _, rfl⟩ := h; exact Nat.le_refl _
    | ret => simp only [aCode, Option.some.injEq, Prod.mk.injEq] at h; obtain ⟨_, _, rfl⟩ := h; exact Nat.le_refl _

/-- What holds of a state. -/
structure St (Φ : Phi) (ps : List Nat) (nt : Nat) (env : List AV) (H : AHeap) (a : Act) (w : World) : Prop where
  env : EnvOk Φ ps env a
  size : a.tmps.size = nt
  defers : a.defers = []
  sim : Sim Φ (getB H) w

theorem code_wp {P : Program} {call : CallT} (CS : CallSound P call) {ps : List Nat} {nt : Nat} (hnd : ps.Nodup) : ∀ (n : Nat) (code : Code) (ac : ACode) (env : List AV) (H : AHeap) (e : AExit) (envF : List AV) (HF : AHeap),
    trCode P ps nt code = some ac → aCode call n ac env H = some (e, envF, HF) → ∀ (Φ : Phi) (a : Act) (w : World) (Q : Exit → Act → World → Prop),
      St Φ ps nt env H a w → Free Φ H.length HF.length →
      (∀ Φ' a' w', St Φ' ps nt envF HF a' w' → Ext Φ (getB H) w Φ' (getB HF) w' → Dom Φ Φ' H.length HF.length → Q (exitOf e) a' w') → code.wp P Q a w := by
  intro n
  induction n with
  | zero => intro code ac env H e envF HF htr h; simp [aCode] at h
  | succ n ih =>
    intro code ac env H e envF HF htr h Φ a w Q hS hfree hQ
    cases code with
    | skip =>
      simp only [trCode, Option.some.injEq] at htr; subst htr
      simp only [aCode, Option.some.injEq, Prod.mk.injEq] at h
      obtain ⟨rfl, rfl, rfl⟩ := h
      exact wp_skip (hQ Φ a w hS (Ext.refl _ _ _) (Dom.refl _ _ _))
    | region id ops draw =>
      simp only [trCode] at htr
      split at htr <;> simp only [Option.some.injEq, reduceCtorEq] at htr
      rename_i l hl; subst htr
      simp only [aCode] at h
      split at h <;> simp only [Option.some.injEq, Prod.mk.injEq, reduceCtorEq] at h
      rename_i env' H' h1
      obtain ⟨rfl, rfl, rfl⟩ := h
      cases draw with
      | true => exact region_draw_wp CS hnd hl h1 hS.env hS.size hS.defers hS.sim hfree (fun Φ' a' w' q1 q2 q3 q4 q5 q6 => hQ Φ' a' w' ⟨q1, q2, q3, q4⟩ q5 q6)
      | false =>
        unfold trRegion at hl
        split at hl
        · simp at hl
        · rename_i l' hl'
          simp only [Bool.false_eq_true, if_false, Option.some.injEq] at hl
          subst hl
          refine wp_region ?_
          have hI : RInv ps nt ops env [] [] env Φ a := ⟨hS.size, hS.defers, by simp, by simp, fun x s e h1 _ h3 => hS.env x s e h1 h3, hS.env⟩
          have := ops_wp CS hnd ops l' env ops.toList [] l' [] [] env H env' H' Φ a w rfl hl' h1 hI hS.sim hfree
            (fun Φ' a' w' q1 q2 q3 q4 q5 q6 => hQ Φ' a' w' ⟨q1, q2, q3, q4⟩ q5 q6)
          simpa [List.range_eq_range'] using this
    | seq x y =>
      simp only [trCode] at htr
      split at htr <;> simp only [Option.some.injEq, reduceCtorEq] at htr
      rename_i p q hp hq; subst htr
      simp only [aCode] at h
      refine wp_seq ?_
      split at h
      · rename_i env' H' h1
        have l1 := code_len CS n _ h1
        have l2 := code_len CS n _ h
        refine ih x p env H .normal env' H' hp h1 Φ a w _ hS (hfree.split l2) (fun Φ' a' w' q1 q2 q3 => ?_)
        exact ih y q env' H' e envF HF hq h Φ' a' w' Q q1 (hfree.next l1 q3) (fun Φ2 a2 w2 r1 r2 r3 => hQ Φ2 a2 w2 r1 (q2.trans r2) (q3.trans r3 l1 l2))
      · rename_i r hr
        refine ih x p env H e envF HF hp h Φ a w _ hS hfree (fun Φ' a' w' q1 q2 q3 => ?_)
        have := hQ Φ' a' w' q1 q2 q3
        cases e with
        | normal => exact absurd h (hr _ _)
        | exit id => exact this
        | ret => exact this
    | cond c x y =>
      simp only [trCode] at htr
      split at htr <;> simp only [Option.some.injEq, reduceCtorEq] at htr
      rename_i k p q hk hp hq; subst htr
      simp only [aCode] at h
      split at h
      · rename_i t ht
        have O : HO ⟨P, ps, []⟩ env [] Φ a.eval := (show RInv ps nt #[] env [] [] env Φ a from ⟨hS.size, hS.defers, by simp, by simp, fun x s e h1 _ h3 => hS.env x s e h1 h3, hS.env⟩).ho
        have hc := O _ _ _ hk ht
        simp only [R] at hc
        refine wp_cond hc ?_
        cases t with
        | true => exact ih x p env H e envF HF hp h Φ a w Q hS hfree hQ
        | false => exact ih y q env H e envF HF hq h Φ a w Q hS hfree hQ
      · simp at h
    | block id c =>
      simp only [trCode] at htr
      split at htr <;> simp only [Option.some.injEq, reduceCtorEq] at htr
      rename_i p hp; subst htr
      simp only [aCode] at h
      refine wp_block ?_
      split at h
      · rename_i id' env' H' h1
        have hlen : H' = HF := by split at h <;> simp only [Option.some.injEq, Prod.mk.injEq] at h <;> exact h.2.2
        subst hlen
        refine ih c p env H (.exit id') env' H' hp h1 Φ a w _ hS hfree (fun Φ' a' w' q1 q2 q3 => ?_)
        simp only [exitOf, Exit.inBlock]
        split at h
        · rename_i hid
          simp only [Option.some.injEq, Prod.mk.injEq] at h
          obtain ⟨rfl, rfl, _⟩ := h
          rw [if_pos hid]
          exact hQ Φ' a' w' q1 q2 q3
        · rename_i hid
          simp only [Option.some.injEq, Prod.mk.injEq] at h
          obtain ⟨rfl, rfl, _⟩ := h
          rw [if_neg hid]
          exact hQ Φ' a' w' q1 q2 q3
      · rename_i r hr
        refine ih c p env H e envF HF hp h Φ a w _ hS hfree (fun Φ' a' w' q1 q2 q3 => ?_)
        have := hQ Φ' a' w' q1 q2 q3
        cases e with
        | normal => exact this
        | exit id' => exact absurd h (hr _ _ _)
        | ret => exact this
    | loop c =>
      simp only [trCode] at htr
      split at htr <;> simp only [Option.some.injEq, reduceCtorEq] at htr
      rename_i p hp; subst htr
      -- what holds at a round's head with so much fuel
      refine wp_loop_fuel (n := n + 1) (I := fun m a' w' => m ≤ n + 1 ∧ ∃ Φ' env' H', St Φ' ps nt env' H' a' w' ∧ aCode call m (.loop p) env' H' = some (e, envF, HF) ∧ Ext Φ (getB H) w Φ' (getB H') w' ∧ Dom Φ Φ' H.length H'.length ∧ H.length ≤ H'.length)
        (fun m a' w' hI => ?_) ⟨Nat.le_refl _, Φ, env, H, hS, h, Ext.refl _ _ _, Dom.refl _ _ _, Nat.le_refl _⟩
      obtain ⟨hm, Φ', env', H', hS', h', hE, hD, hle⟩ := hI
      cases m with
      | zero => simp [aCode] at h'
      | succ m =>
        have hlF := code_len CS (m + 1) _ h'
        simp only [aCode] at h'
        have up : ∀ {e0 env1 H1}, aCode call m p env' H' = some (e0, env1, H1) → aCode call n p env' H' = some (e0, env1, H1) := fun h0 => aCode_mono (.refl _) m n _ _ _ (by omega) h0
        split at h'
        · rename_i env1 H1 h1
          have l1 := code_len CS m _ h1
          have l2 := code_len CS m _ h'
          refine ih c p env' H' .normal env1 H1 hp (up h1) Φ' a' w' _ hS' ((hfree.next hle hD).split l2) (fun Φ2 a2 w2 q1 q2 q3 => ?_)
          exact ⟨m, by omega, by omega, Φ2, env1, H1, q1, h', hE.trans q2, hD.trans q3 hle l1, Nat.le_trans hle l1⟩
        · rename_i r hr
          refine ih c p env' H' e envF HF hp (up h') Φ' a' w' _ hS' (hfree.next hle hD) (fun Φ2 a2 w2 q1 q2 q3 => ?_)
          have := hQ Φ2 a2 w2 q1 (hE.trans q2) (hD.trans q3 hle hlF)
          cases e with
          | normal => exact absurd h' (hr _ _)
          | exit id => exact this
          | ret => exact this
    | exit id =>
      simp only [trCode, Option.some.injEq] at htr; subst htr
      simp only [aCode, Option.some.injEq, Prod.mk.injEq] at h
      obtain ⟨rfl, rfl, rfl⟩ := h
      exact wp_exit (hQ Φ a w hS (Ext.refl _ _ _) (Dom.refl _ _ _))
    | ret =>
      simp only [trCode, Option.some.injEq] at htr; subst htr
      simp only [aCode, Option.some.injEq, Prod.mk.injEq] at h
      obtain ⟨rfl, rfl, rfl⟩ := h
      exact wp_ret (hQ Φ a w hS (Ext.refl _ _ _) (Dom.refl _ _ _))
    | _ => simp [trCode] at htr

/-- What the program's functions are, in compact code. -/
def ProgOk (P : Program) (prog : Nat → Option AFun) : Prop := ∀ f af, prog f = some af → ∃ fn, P.funcs[f]? = some fn ∧ trFun P fn af.ps = some af

/-- Oracles that are sound. -/
def OrcOk (P : Program) (orc : Nat → Option (List AV → AHeap → Option (AV × AHeap))) : Prop := ∀ f g, orc f = some g → CallSound P (fun f' uas H => if f' = f then g uas H else none)

theorem aRes_ok {P : Program} {ps : List Nat} {Φ : Phi} {env : List AV} {H : AHeap} {a : Act} {w : World} (hE : EnvOk Φ ps env a) (S : Sim Φ (getB H) w) : ∀ (rs : List ResultVar) {ra : List ResA} {vs : List AV},
    trRes P ps rs = some ra → aRes env H ra = some vs → ∃ xs : List Value, Rs Φ vs xs ∧
      (rs.mapM (fun (r : ResultVar) => (match r with
        | .tmp t => pure (a.tmps.getD t undef)
        | .cell b t => do loadVar t (← asAddr (a.tmps.getD b undef)) : Sem Value))).run P w = .ok xs w
  | [], ra, vs, h, h2 => by
    simp only [trRes, Option.some.injEq] at h; subst h
    simp only [aRes, Option.some.injEq] at h2; subst h2
    exact ⟨[], .nil, by simp⟩
  | .tmp t :: rs, ra, vs, h, h2 => by
    simp only [trRes] at h
    split at h <;> simp only [Option.some.injEq, reduceCtorEq] at h
    rename_i x l hx hl; subst h
    simp only [aRes] at h2
    split at h2 <;> simp only [Option.some.injEq, reduceCtorEq] at h2
    rename_i v us hv hus; subst h2
    obtain ⟨xs, h3, h4⟩ := aRes_ok hE S rs hl hus
    refine ⟨a.tmps.getD t undef :: xs, .cons (hE x t v (idxOf_get hx) hv) h3, ?_⟩
    simp only [List.mapM_cons, Sem.run_bind, Sem.run_pure, Result.andThen_ok, h4]
  | .cell b t :: rs, ra, vs, h, h2 => by
    simp only [trRes] at h
    split at h
    · rename_i x n g l hx hn hg hl
      split at h <;> simp only [Option.some.injEq, reduceCtorEq] at h
      subst h
      simp only [aRes] at h2
      split at h2
      · rename_i i o us hv hus
        split at h2
        · rename_i cs hcs
          split at h2 <;> simp only [Option.some.injEq, reduceCtorEq] at h2
          rename_i v hmk; subst h2
          obtain ⟨xs, h3, h4⟩ := aRes_ok hE S rs hl hus
          have hp := hE x b _ (idxOf_get hx) hv
          simp only [R] at hp
          obtain ⟨lc, hlc, hpv⟩ := hp
          obtain ⟨v', hr, hR⟩ := load_ok (c := ⟨P, ps, []⟩) S hn hg hcs hmk hlc
          refine ⟨v' :: xs, .cons hR h3, ?_⟩
          have hadr : (asAddr (a.tmps.getD b undef)).run P w = .ok ⟨lc.b, lc.base + o, none⟩ w := by rw [hpv]; rfl
          simp only [List.mapM_cons, Sem.run_bind, hadr, Sem.run_pure, Result.andThen_ok, hr, h4]
        · simp at h2
      · simp at h2
    · simp at h

theorem single_R {Φ : Phi} {vs : List AV} {xs : List Value} (h : Rs Φ vs xs) : R Φ (single vs) (if h : (List.toArray xs).size = 1 then (List.toArray xs)[0] else .tuple (List.toArray xs)) := by
  cases vs with
  | nil =>
    simp only [Rs] at h; subst h
    simp only [single, R]; exact ⟨[], by simp, .nil⟩
  | cons v r =>
    cases r with
    | nil =>
      simp only [Rs] at h
      obtain ⟨x, xs', rfl, hR, rfl⟩ := h
      simpa [single] using hR
    | cons u r =>
      have hl := h.len
      have : ¬ (List.toArray xs).size = 1 := by simp at hl ⊢; omega
      rw [dif_neg this]
      simp only [single, R]
      exact ⟨xs, rfl, h⟩

theorem body_calls {P : Program} {call : CallT} (CS : CallSound P call) {f : FuncId} {fn : Func} (hf : P.funcs[f]? = some fn) {af : AFun} (htr : trFun P fn af.ps = some af) {n : Nat} {args : List AV} {H H' : AHeap} {r : AV}
    (h : aBody call n af args H = some (r, H')) : H.length ≤ H'.length ∧ Callable P f ∧
    ∀ Φ w vs, Sim Φ (getB H) w → Free Φ H.length H'.length → Rs Φ args vs → Calls P f (List.toArray vs) w (CallPost Φ H w r H') := by
  unfold trFun at htr
  split at htr
  · simp at htr
  · rename_i c hc
    split at htr
    · rename_i hcond
      obtain ⟨hn1, hn2, hn3, hn4⟩ := hcond
      split at htr <;> simp only [Option.some.injEq, reduceCtorEq] at htr
      rename_i b rs hb hrs
      have e1 : af.nargs = fn.nfree + fn.params.size := by rw [← htr]
      have e2 : af.body = b := by rw [← htr]
      have e3 : af.res = rs := by rw [← htr]
      unfold aBody at h
      split at h
      · rename_i hlen
        rw [e1] at hlen
        -- the run of the body
        obtain ⟨ex, env, hcode, hex, us, hus, rfl⟩ : ∃ ex env, aCode call n b (env0 af.ps args) H = some (ex, env, H') ∧ (ex = .normal ∨ ex = .ret) ∧ ∃ us, aRes env H' rs = some us ∧ r = single us := by
          rw [e2, e3] at h
          cases hq : aCode call n b (env0 af.ps args) H with
          | none => rw [hq] at h; simp at h
          | some q =>
            obtain ⟨ex, env, H1⟩ := q
            rw [hq] at h
            cases ex with
            | normal =>
              simp only at h
              split at h <;> simp only [Option.some.injEq, Prod.mk.injEq, reduceCtorEq] at h
              rename_i us hus
              obtain ⟨rfl, rfl⟩ := h
              exact ⟨_, _, rfl, .inl rfl, us, hus, rfl⟩
            | ret =>
              simp only at h
              split at h <;> simp only [Option.some.injEq, Prod.mk.injEq, reduceCtorEq] at h
              rename_i us hus
              obtain ⟨rfl, rfl⟩ := h
              exact ⟨_, _, rfl, .inr rfl, us, hus, rfl⟩
            | exit id => simp at h
        refine ⟨code_len CS n _ hcode, ⟨fn, hf, by rw [hc]; rfl, by simpa using hn4⟩, fun Φ w vs S hfree hR => ?_⟩
        have hvl := hR.len
        refine calls_of_wp hf hc ?_
        refine code_wp CS hn3 n c b _ H ex env H' hb hcode Φ _ w _ ⟨fun x s e h1 h2 => ?_, ?_, rfl, S⟩ hfree (fun Φ' a' w' q1 q2 q3 => ?_)
        · simp only [env0, List.getElem?_map, h1, Option.map_some, Option.some.injEq] at h2
          subst h2
          cases ha : args[s]? with
          | none => simp only [Option.getD_none, R]
          | some v =>
            simp only [Option.getD_some]
            obtain ⟨u, hu, hRu⟩ := hR.get ha
            have hlt : s < vs.length := by
              rcases Nat.lt_or_ge s vs.length with h | h
              · exact h
              · rw [List.getElem?_eq_none h] at hu; simp at hu
            rw [Array.getD_eq_getD_getElem?, Array.getElem?_append_left (by simpa using hlt)]
            simp only [List.getElem?_toArray, hu, Option.getD_some]
            exact hRu
        · simp; omega
        · obtain ⟨xs, hxs, hrun⟩ := aRes_ok (P := P) q1.env q1.sim fn.results.toList hrs hus
          have hres : (results fn a'.tmps).run P w' = .ok (if h : (List.toArray xs).size = 1 then (List.toArray xs)[0] else .tuple (List.toArray xs)) w' := by
            unfold results
            rw [← Array.toArray_toList (xs := fn.results)]
            simp only [List.mapM_toArray, Sem.run_bind, Sem.run_map]
            erw [hrun]
            rfl
          have hpost : CallPost Φ H w (single us) H' (.returned (if h : (List.toArray xs).size = 1 then (List.toArray xs)[0] else .tuple (List.toArray xs))) w' :=
            ⟨Φ', _, rfl, single_R hxs, q1.sim, q2, q3⟩
          rcases hex with rfl | rfl
          · exact ⟨q1.defers, _, hres, hpost⟩
          · exact ⟨q1.defers, _, hres, hpost⟩
      · simp at h
    · simp at htr

/-- A call that compact code carries out is carried out by the machine, with the same answer. -/
theorem call_sound {P : Program} {prog : Nat → Option AFun} {orc : Nat → Option (List AV → AHeap → Option (AV × AHeap))} (hp : ProgOk P prog) (ho : OrcOk P orc) : ∀ n, CallSound P (aCall prog orc n)
  | 0 => by intro f args H r H' h; simp [aCall] at h
  | n + 1 => by
    intro f args H r H' h
    unfold aCall at h
    split at h
    · rename_i g hg
      exact ho f g hg f args H r H' (by simpa using h)
    · split at h
      · rename_i fn hfn
        obtain ⟨fn', h1, h2⟩ := hp f fn hfn
        exact body_calls (call_sound hp ho n) h1 h2 h
      · simp at h

end Go.Am

/- The library's sort and slices.Grow, met by their contracts. -/
namespace Go.Am
open Go.Sort Go.Shelf

def intsOf : List AV → Option (List Int)
  | [] => some []
  | .int .i64 n :: r => match intsOf r with
    | some l => some (n :: l)
    | none => none
  | _ => none

def ins (x : Int) : List Int → List Int
  | [] => [x]
  | y :: r => if x ≤ y then x :: y :: r else y :: ins x r
def sortI : List Int → List Int
  | [] => []
  | x :: r => ins x (sortI r)

theorem ins_perm (x : Int) : ∀ l, (ins x l).Perm (x :: l)
  | [] => .refl _
  | y :: r => by
    simp only [ins]
    split
    · exact .refl _
    · exact ((ins_perm x r).cons y).trans (.swap x y r)
theorem sortI_perm : ∀ l, (sortI l).Perm l
  | [] => .refl _
  | x :: r => by
    simp only [sortI]
    exact (ins_perm x _).trans ((sortI_perm r).cons x)
theorem ins_sorted (x : Int) : ∀ l : List Int, l.Pairwise (· ≤ ·) → (ins x l).Pairwise (· ≤ ·)
  | [], _ => by simp [ins]
  | y :: r, h => by
    simp only [ins]
    rw [List.pairwise_cons] at h
    split
    · rename_i hxy
      refine List.pairwise_cons.2 ⟨fun z hz => ?_, List.pairwise_cons.2 h⟩
      simp only [List.mem_cons] at hz
      rcases hz with rfl | hz
      · exact hxy
      · exact Int.le_trans hxy (h.1 z hz)
    · rename_i hxy
      refine List.pairwise_cons.2 ⟨fun z hz => ?_, ins_sorted x r h.2⟩
      have := (ins_perm x r).mem_iff.1 hz
      simp only [List.mem_cons] at this
      rcases this with rfl | hz
      · omega
      · exact h.1 z hz
theorem sortI_sorted : ∀ l, (sortI l).Pairwise (· ≤ ·)
  | [] => .nil
  | x :: r => ins_sorted x _ (sortI_sorted r)

theorem sorted_uniq : ∀ (a b : List Int), a.Perm b → a.Pairwise (· ≤ ·) → b.Pairwise (· ≤ ·) → a = b
  | [], b, h, _, _ => by rw [List.nil_perm.1 h]
  | x :: r, [], h, _, _ => by have := h.length_eq; simp at this
  | x :: r, y :: s, h, h1, h2 => by
    rw [List.pairwise_cons] at h1 h2
    have e : x = y := by
      have hx := h.mem_iff.1 (List.mem_cons_self (a := x) (l := r))
      have hy := h.mem_iff.2 (List.mem_cons_self (a := y) (l := s))
      simp only [List.mem_cons] at hx hy
      rcases hx with hx | hx
      · exact hx
      · rcases hy with hy | hy
        · exact hy.symm
        · have := h1.1 y hy; have := h2.1 x hx; omega
    subst e
    rw [sorted_uniq r s ((List.perm_cons _).1 h) h1.2 h2.2]

theorem sortI_eq (l : List Int) : sortI l = l.mergeSort (fun x y => decide (x ≤ y)) := by
  refine sorted_uniq _ _ ((sortI_perm l).trans (List.mergeSort_perm l _).symm) (sortI_sorted l) ?_
  have := List.pairwise_mergeSort (le := fun x y : Int => decide (x ≤ y)) (fun a b c h1 h2 => by simp at *; omega) (fun a b => by simp; omega) l
  exact this.imp (fun h => by simpa using h)

theorem sortI_len (l : List Int) : (sortI l).length = l.length := (sortI_perm l).length_eq

theorem intsOf_eq : ∀ {cs : List AV} {xs : List Int}, intsOf cs = some xs → cs = xs.map (AV.int .i64)
  | [], xs, h => by simp only [intsOf, Option.some.injEq] at h; subst h; rfl
  | c :: r, xs, h => by
    unfold intsOf at h
    split at h
    · simp_all
    · rename_i n r' e
      simp only [List.cons.injEq] at e
      obtain ⟨rfl, rfl⟩ := e
      split at h <;> simp only [Option.some.injEq, reduceCtorEq] at h
      rename_i l hl
      subst h
      rw [intsOf_eq hl]; rfl
    · simp at h

def orcSort : List AV → AHeap → Option (AV × AHeap)
  | [.nilsl], H => some (.tup [], H)
  | [.esl], H => some (.tup [], H)
  | [.sl i o n], H => if n = 0 then some (.tup [], H) else match loadA H i o n with
    | some cs => match intsOf cs with
      | some xs => if n < 4611686018427387904 then (match storeA H i o ((sortI xs).map (.int .i64)) with
        | some H' => some (.tup [], H')
        | none => none) else none
      | none => none
    | none => none
  | _, _ => none

section
variable {Φ : Phi} {G : Nat → Option Blk} {w : World}

theorem Sim.world {w' : World} (S : Sim Φ G w) (hs : w.heap.size ≤ w'.heap.size) (h : ∀ b, b < w.heap.size → w'.heap[b]? = w.heap[b]?) : Sim Φ G w' :=
  ⟨fun i b hi => by
    obtain ⟨l, h1, h2⟩ := S.ok i b hi
    exact ⟨l, h1, h2.keep (fun _ _ h => h) hs (h _ h2.lt)⟩, S.apart⟩

theorem Ext.world {w' : World} (hs : w.heap.size ≤ w'.heap.size) (h : ∀ b, b < w.heap.size → w'.heap[b]? = w.heap[b]?) (h1 : w'.os = w.os) (h2 : w'.tape = w.tape) (h3 : w'.output = w.output) : Ext Φ G w Φ G w' :=
  ⟨fun _ _ h => h, h1, h2, h3, hs, fun b hb _ => h b hb, fun _ h => .inl h, fun _ blk _ h1 h2 _ => ⟨h2, blk, h1⟩⟩

end

theorem CallSound.one {P : Program} {f : FuncId} {g : List AV → AHeap → Option (AV × AHeap)} (hc : Callable P f)
    (h : ∀ args H r H', g args H = some (r, H') → H.length ≤ H'.length ∧ ∀ Φ w vs, Sim Φ (getB H) w → Free Φ H.length H'.length → Rs Φ args vs → Calls P f (List.toArray vs) w (CallPost Φ H w r H')) :
    CallSound P (fun f' xs H => if f' = f then g xs H else none) := by
  intro f' args H r H' hr
  simp only at hr
  split at hr
  · rename_i e; subst e
    obtain ⟨h1, h2⟩ := h args H r H' hr
    exact ⟨h1, hc, h2⟩
  · simp at hr

theorem R.tup0 (Φ : Phi) : R Φ (.tup []) (.tuple #[]) := by simp only [R]; exact ⟨[], rfl, by simp only [Rs]⟩

theorem CallPost.same {Φ : Phi} {H : AHeap} {w : World} (S : Sim Φ (getB H) w) {r : AV} {v : Value} (hR : R Φ r v) : CallPost Φ H w r H (.returned v) w :=
  ⟨Φ, v, rfl, hR, S, Ext.refl _ _ _, Dom.refl _ _ _⟩

theorem sort_sound {P : Program} {ρ : Ren} (Ly : Go.Proofs.Lays.n189 P ρ) (hc : Callable P (ρ.f 189)) : CallSound P (fun f' xs H => if f' = ρ.f 189 then orcSort xs H else none) := by
  refine .one hc (fun args H r H' h => ?_)
  have none_ok : ∀ (p : Option Addr) (cap : Nat) (Φ : Phi) (w : World), Sim Φ (getB H) w → Calls P (ρ.f 189) #[.slice p 0 cap] w (CallPost Φ H w (.tup []) H) := fun p cap Φ w S => by
    refine (Go.Proofs.Any.slices_Sort_int_none Ly p cap w).mono ?_
    rintro e w' ⟨rfl, rfl⟩
    exact CallPost.same S (R.tup0 Φ)
  unfold orcSort at h
  split at h
  · simp only [Option.some.injEq, Prod.mk.injEq] at h; obtain ⟨rfl, rfl⟩ := h
    refine ⟨Nat.le_refl _, fun Φ w vs S _ hR => ?_⟩
    simp only [Rs, R] at hR
    obtain ⟨v, vs', rfl, rfl, rfl⟩ := hR
    exact none_ok _ _ Φ w S
  · simp only [Option.some.injEq, Prod.mk.injEq] at h; obtain ⟨rfl, rfl⟩ := h
    refine ⟨Nat.le_refl _, fun Φ w vs S _ hR => ?_⟩
    simp only [Rs, R] at hR
    obtain ⟨v, vs', rfl, ⟨a, rfl⟩, rfl⟩ := hR
    exact none_ok _ _ Φ w S
  · rename_i i o n
    split at h
    · rename_i hn; subst hn
      simp only [Option.some.injEq, Prod.mk.injEq] at h; obtain ⟨rfl, rfl⟩ := h
      refine ⟨Nat.le_refl _, fun Φ w vs S _ hR => ?_⟩
      simp only [Rs, R] at hR
      obtain ⟨v, vs', rfl, ⟨l, a, c, _, rfl, _⟩, rfl⟩ := hR
      exact none_ok _ _ Φ w S
    · rename_i hn
      split at h <;> try (simp at h; done)
      rename_i cs hl
      split at h <;> try (simp at h; done)
      rename_i xs hx
      split at h <;> try (simp at h; done)
      rename_i hbig
      split at h <;> simp only [Option.some.injEq, Prod.mk.injEq, reduceCtorEq] at h
      rename_i H1 hst
      obtain ⟨rfl, rfl⟩ := h
      have hxs := intsOf_eq hx
      -- the block
      have hst0 := hst
      unfold storeA at hst0
      split at hst0 <;> try (simp at hst0; done)
      rename_i sz cs0 hB
      split at hst0 <;> simp only [Option.some.injEq, reduceCtorEq] at hst0
      rename_i hcnd
      simp only [Bool.and_eq_true, decide_eq_true_eq] at hcnd
      have hl0 := hl
      unfold loadA at hl0
      rw [hB] at hl0
      simp only at hl0
      split at hl0 <;> simp only [Option.some.injEq, reduceCtorEq] at hl0
      rename_i hon
      have hlen : xs.length = n := by
        have : cs.length = n := by rw [← hl0]; simp; omega
        rw [hxs] at this; simpa using this
      have hlenH : H1.length = H.length := by rw [← hst0]; simp
      refine ⟨by omega, fun Φ w vs S _ hR => ?_⟩
      simp only [Rs, R] at hR
      obtain ⟨v, vs', rfl, ⟨l, a, c, hΦ, rfl, hnc, hac⟩, rfl⟩ := hR
      have ha : a = ⟨l.b, l.base + o, none⟩ := by
        rcases hac with h | h
        · omega
        · exact h.1
      subst ha
      obtain ⟨l', hl', hok⟩ := S.ok i _ hB
      rw [hΦ] at hl'; simp only [Option.some.injEq] at hl'; subst hl'
      have hok' := hok
      obtain ⟨h1, h2, h3, h4, h5⟩ := hok'
      obtain ⟨h6, h7⟩ := h5 rfl
      have hcell : ∀ j, (hj : j < xs.length) → cs0[o + j]? = some (.int .i64 xs[j]) := by
        intro j hj
        have e : ((cs0.drop o).take n)[j]? = some (.int .i64 xs[j]) := by rw [hl0, hxs]; simp [hj]
        rw [List.getElem?_take_of_lt (by omega), List.getElem?_drop] at e
        exact e
      have hH : Holds (Value.int .i64) w l.b (l.base + o) xs.toArray := by
        intro j hj
        have hj' : j < xs.length := by simpa using hj
        obtain ⟨v, hv, hRv⟩ := h4 (o + j) _ (hcell j hj')
        simp only [R] at hRv
        subst hRv
        rw [show l.base + (o + j) = l.base + o + j by omega] at hv
        refine ⟨?_, (h7 _ (by omega)).2⟩
        rw [hv]
        simp [hj']
      have C := Go.Proofs.Any.slices_Sort_int Ly l.b (l.base + o) c xs w hH h1 (by omega)
      rw [hlen] at C
      refine C.mono ?_
      rintro e w' ⟨rfl, m, os, rfl⟩
      rw [← sortI_eq]
      -- the world with the cells written
      have hsz : (sortI xs).toArray.size = xs.toArray.size := by simp [sortI_len]
      have hoth : ∀ b, b ≠ l.b → (putRow (Value.int .i64) (Sort.ahead w m) l.b (l.base + o) (sortI xs).toArray).heap[b]? = w.heap[b]? := by
        intro b hb
        simp [putRow, mapBlock, Sort.ahead, Array.getElem?_modify, Ne.symm hb]
      have hnew : BlkOk Φ (putRow (Value.int .i64) (Sort.ahead w m) l.b (l.base + o) (sortI xs).toArray) l (.cells sz true (splice cs0 o ((sortI xs).map (.int .i64)))) := by
        have hsp : (splice cs0 o ((sortI xs).map (AV.int .i64))).length = cs0.length := by simp [splice]; rw [sortI_len]; omega
        have hHa : Holds (Value.int .i64) (Sort.ahead w m) l.b (l.base + o) xs.toArray := hH
        have hin : ∀ j, (hj : j < xs.length) → (putRow (Value.int .i64) (Sort.ahead w m) l.b (l.base + o) (sortI xs).toArray).cell? ⟨l.b, l.base + o + j, none⟩ = some (.int .i64 ((sortI xs)[j]'(by rw [sortI_len]; exact hj))) := by
          intro j hj
          rw [cell?_putRow (Value.int .i64) (Sort.ahead w m) l.b (l.base + o) xs.toArray (sortI xs).toArray hHa hsz j (by simp [sortI_len]; exact hj)]
          simp [sortI_len, hj]
        have hout : ∀ k, (k < l.base + o ∨ l.base + o + xs.length ≤ k) → (putRow (Value.int .i64) (Sort.ahead w m) l.b (l.base + o) (sortI xs).toArray).cell? ⟨l.b, k, none⟩ = w.cell? ⟨l.b, k, none⟩ := by
          intro k hk
          rw [cell?_putRow_other (Value.int .i64) (Sort.ahead w m) l.b (l.base + o) (sortI xs).toArray ⟨l.b, k, none⟩ (.inr (by simp [sortI_len]; exact hk))]
          rfl
        refine ⟨by simpa [Sort.ahead] using h1, h2, h3, fun k x hk => ?_, fun _ => ⟨by rw [hsp]; exact h6, fun k hk => ⟨?_, ?_⟩⟩⟩
        · unfold splice at hk
          by_cases hko : k < o
          · rw [List.append_assoc, List.getElem?_append_left (by simp; omega), List.getElem?_take_of_lt hko] at hk
            obtain ⟨v, hv, hRv⟩ := h4 k x hk
            exact ⟨v, by rw [hout _ (by omega)]; exact hv, hRv⟩
          · by_cases hkn : k < o + xs.length
            · rw [List.append_assoc, List.getElem?_append_right (by simp; omega), List.getElem?_append_left (by simp; rw [sortI_len]; omega)] at hk
              rw [List.length_take, Nat.min_eq_left (by omega)] at hk
              have := hin (k - o) (by omega)
              rw [show l.base + o + (k - o) = l.base + k by omega] at this
              refine ⟨_, this, ?_⟩
              rw [List.getElem?_map, List.getElem?_eq_getElem (by rw [sortI_len]; omega)] at hk
              simp only [Option.map_some, Option.some.injEq] at hk
              subst hk
              simp only [R]
            · rw [List.append_assoc, List.getElem?_append_right (by simp; omega), List.getElem?_append_right (by simp; rw [sortI_len]; omega)] at hk
              rw [List.length_take, Nat.min_eq_left (by omega), List.getElem?_drop, List.length_map, sortI_len] at hk
              obtain ⟨v, hv, hRv⟩ := h4 k x (by rw [← hk]; congr 1; omega)
              exact ⟨v, by rw [hout _ (by omega)]; exact hv, hRv⟩
        · by_cases hr : l.base + o ≤ k ∧ k < l.base + o + xs.length
          · have := hin (k - (l.base + o)) (by omega)
            rw [show l.base + o + (k - (l.base + o)) = k by omega] at this
            exact ⟨_, this⟩
          · rw [hout _ (by omega)]; exact (h7 k hk).1
        · rw [frozen?_putRow]; exact (h7 k hk).2
      obtain ⟨s1, s2⟩ := write_step S hB hΦ h3 (w' := putRow (Value.int .i64) (Sort.ahead w m) l.b (l.base + o) (sortI xs).toArray) rfl rfl rfl (by simp [Sort.ahead]) hoth hnew
      rw [← getB_set H i _ (getB_lt hB)] at s1 s2
      rw [hst0] at s1 s2
      have hg1 : (putRow (Value.int .i64) (Sort.ahead w m) l.b (l.base + o) (sortI xs).toArray).heap.size ≤ (grow (putRow (Value.int .i64) (Sort.ahead w m) l.b (l.base + o) (sortI xs).toArray) os).heap.size := by rw [size_grow]; omega
      have hg2 := fun b (hb : b < (putRow (Value.int .i64) (Sort.ahead w m) l.b (l.base + o) (sortI xs).toArray).heap.size) => heap_grow_old (putRow (Value.int .i64) (Sort.ahead w m) l.b (l.base + o) (sortI xs).toArray) os hb
      exact ⟨Φ, _, rfl, R.tup0 Φ, s1.world hg1 hg2, s2.trans (Ext.world hg1 hg2 rfl rfl rfl), Dom.refl _ _ _⟩
  · simp at h


/-- slices.Grow of nil. 'sz', 'bytes': cells and bytes of an element. -/
def orcGrow (sz bytes : Nat) : List AV → AHeap → Option (AV × AHeap)
  | [.nilsl, .int .i64 n], H => if n = 0 then some (.nilsl, H) else
    if 0 < n ∧ n * bytes ≤ (maxRoom : Int) ∧ n ≤ 4611686018427387904 then some (.sl H.length 0 0, H ++ [some (.cells sz true [])]) else none
  | _, _ => none

theorem grow_sound {P : Program} {ρ : Ren} (Ly : Go.Proofs.Lays8.n4 P ρ) (hc : Callable P (ρ.f 4)) {sz bytes : Nat} {z0 : List AV} (hz0 : zeroP P (ρ.t 25) = some z0) (hs0 : sizeP P (ρ.t 25) = some sz)
    (hb : bytesP P (ρ.t 25) = some bytes) : CallSound P (fun f' xs H => if f' = ρ.f 4 then orcGrow sz bytes xs H else none) := by
  refine .one hc (fun args H r H' h => ?_)
  unfold orcGrow at h
  split at h
  · rename_i n
    split at h
    · rename_i hn
      simp only [Option.some.injEq, Prod.mk.injEq] at h; obtain ⟨rfl, rfl⟩ := h
      refine ⟨Nat.le_refl _, fun Φ w vs S _ hR => ?_⟩
      simp only [Rs, R] at hR
      obtain ⟨v, vs', rfl, rfl, v2, vs2, rfl, rfl, rfl⟩ := hR
      subst hn
      refine (Go.Proofs.Any8.slices_Grow_room Ly none 0 0 0 w (Nat.le_refl _) (by omega) (by omega) (by omega)).mono ?_
      rintro e w' ⟨rfl, rfl⟩
      exact CallPost.same S (by simp only [R])
    · split at h <;> simp only [Option.some.injEq, Prod.mk.injEq, reduceCtorEq] at h
      rename_i hn
      obtain ⟨rfl, rfl⟩ := h
      obtain ⟨hn0, hfit, hn63⟩ := hn
      refine ⟨by simp, fun Φ w vs S hfree hR => ?_⟩
      simp only [Rs, R] at hR
      obtain ⟨v, vs', rfl, rfl, v2, vs2, rfl, rfl, rfl⟩ := hR
      obtain ⟨zi, zv, hi, hzv, hzl, hzne, hzR⟩ := zeroP_info hz0
      obtain ⟨i', hi', hszi, hsz0⟩ := sizeP_info hs0
      rw [hi] at hi'; simp only [Option.some.injEq] at hi'; subst hi'
      have hbytes : zi.bytes = bytes := by unfold bytesP at hb; rw [hi] at hb; simpa using hb
      obtain ⟨m, rfl⟩ : ∃ m : Nat, n = (m : Int) := ⟨n.toNat, by omega⟩
      have hfit' : (0 + m) * zi.bytes ≤ 140737488355328 := by
        rw [hbytes, Nat.zero_add]
        have : ((m * bytes : Nat) : Int) ≤ 140737488355328 := by
          push_cast
          exact hfit
        omega
      refine (Go.Proofs.Any8.slices_Grow_grow Ly zi zv hi hzv (by omega) none 0 0 m [] w (Nat.le_refl _) (by omega) hfit' (by omega) (by simp) (fun _ => rfl) (by simp)).mono ?_
      rintro e w' ⟨rfl, rfl⟩
      have hcap : m ≤ grownCap w (0 + m) 0 (ρ.t 25) := by simp [grownCap, Question.cut]
      have hzs : zv.cells.size = sz := by rw [← Array.length_toList, (hzR Φ).len, hzl, hszi]
      generalize grownCap w (0 + m) 0 (ρ.t 25) = C at hcap
      generalize harr : ((#[] : Array Value) ++ Builtin.zeroCells zv.cells (0 + m - 0) ++ Builtin.zeroCells zv.cells (C - (0 + m))) = arr
      have hasz : arr.size = C * sz := by
        rw [← harr]
        simp [Builtin.zeroCells, hzs]
        rw [← Nat.add_mul]
        congr 1
        omega
      have hnone : Φ H.length = none := hfree _ (Nat.le_refl _) (by simp)
      have mono : ∀ j q, Φ j = some q → upd Φ H.length (some ⟨w.heap.size, 0, arr.size, sz, true⟩) j = some q := by
        intro j q hj
        rw [upd_other (fun e => by subst e; rw [hnone] at hj; simp at hj)]; exact hj
      have hN : NewAt w (w.drew.alloc (.cells arr (ρ.t 25))) := NewAt.drew (NewAt.alloc _ _)
      have hok : BlkOk (upd Φ H.length (some ⟨w.heap.size, 0, arr.size, sz, true⟩)) (w.drew.alloc (.cells arr (ρ.t 25))) ⟨w.heap.size, 0, arr.size, sz, true⟩ (.cells sz true []) :=
        fresh_ok (alloc_new w.drew _) (.inl rfl) (vs := []) (rest := arr.toList) (by simp) .nil sz
      obtain ⟨s1, s2⟩ := new_step S hN (l := ⟨w.heap.size, 0, arr.size, sz, true⟩) rfl rfl hnone hok
      rw [← getB_append] at s1 s2
      refine ⟨_, _, rfl, ?_, s1, s2, fun i hi => ?_⟩
      · simp only [R]
        exact ⟨_, _, _, upd_self _ _ _, rfl, Nat.zero_le _, .inr ⟨by simp, fun _ => by simp [hasz]⟩⟩
      · by_cases e : i = H.length
        · subst e; exact ⟨Nat.le_refl _, by simp⟩
        · exact absurd (upd_other e) hi
  · simp at h

end Go.Am

/- Arguments: what a reading of the machine's memory gives is an abstract heap that is only read. -/
namespace Go.Am

/-- The shape of a type. -/
inductive Shp where
  | bool | int (k : IntKind) | str
  | slice (sz : Nat) (e : Shp)
  | struct (fs : List (Nat × Shp))
  | array (n sz : Nat) (e : Shp)
  deriving Inhabited

mutual
def shapeOf (P : Program) : Nat → TypeId → Option Shp
  | 0, _ => none
  | m + 1, t => match P.underlying t with
    | some .bool => some .bool
    | some (.int k) => some (.int k)
    | some .string => some .str
    | some (.slice e) => match shapeOf P m e, sizeP P e with
      | some s, some n => some (.slice n s)
      | _, _ => none
    | some (.struct fs) => match shapesOf P m fs.toList 0 with
      | some (l, n) => if n = P.cellsOf t then some (.struct l) else none
      | none => none
    | some (.array n e) => match shapeOf P m e, sizeP P e with
      | some s, some k => if n * k = P.cellsOf t then some (.array n k s) else none
      | _, _ => none
    | _ => none
def shapesOf (P : Program) : Nat → List Field → Nat → Option (List (Nat × Shp) × Nat)
  | _, [], o => some ([], o)
  | 0, _ :: _, _ => none
  | m + 1, f :: r, o => match shapeOf P m f.type, shapesOf P m r (o + P.cellsOf f.type) with
    | some s, some (l, n) => if f.offset = o then some ((P.cellsOf f.type, s) :: l, n) else none
    | _, _ => none
end

mutual
def Fits (H : AHeap) : Shp → List AV → Prop
  | .bool, cs => ∃ b, cs = [.bool b]
  | .int k, cs => ∃ n, cs = [.int k n] ∧ k.min ≤ n ∧ n ≤ k.max
  | .str, cs => ∃ s, cs = [.str s] ∧ s.length ≤ maxLen
  | .slice sz e, cs => cs = [.nilsl] ∨ cs = [.esl] ∨ ∃ i n bs, cs = [.sl i 0 n] ∧ getB H i = some (.cells sz false bs) ∧ bs.length = n * sz ∧ n ≤ maxLen ∧
      ∀ j, j < n → Fits H e ((bs.drop (j * sz)).take sz)
  | .struct fs, cs => FitsAll H fs cs
  | .array n sz e, cs => cs.length = n * sz ∧ ∀ j, j < n → Fits H e ((cs.drop (j * sz)).take sz)
def FitsAll (H : AHeap) : List (Nat × Shp) → List AV → Prop
  | [], cs => cs = []
  | (n, s) :: r, cs => (cs.take n).length = n ∧ Fits H s (cs.take n) ∧ FitsAll H r (cs.drop n)
end

theorem getB_more {H M : AHeap} {i : Nat} {b : Blk} (h : getB H i = some b) : getB (H ++ M) i = some b := by
  have hl := getB_lt h
  unfold getB at *
  rw [List.getElem?_append_left hl]; exact h

mutual
theorem Fits.more {H : AHeap} (M : AHeap) : ∀ (s : Shp) {cs : List AV}, Fits H s cs → Fits (H ++ M) s cs
  | .bool, cs, h => by simpa only [Fits] using h
  | .int k, cs, h => by simpa only [Fits] using h
  | .str, cs, h => by simpa only [Fits] using h
  | .slice sz e, cs, h => by
    simp only [Fits] at h ⊢
    rcases h with h | h | ⟨i, n, bs, h1, h2, h3, h4, h5⟩
    · exact .inl h
    · exact .inr (.inl h)
    · exact .inr (.inr ⟨i, n, bs, h1, getB_more h2, h3, h4, fun j hj => Fits.more M e (h5 j hj)⟩)
  | .struct fs, cs, h => by
    simp only [Fits] at h ⊢; exact FitsAll.more M fs h
  | .array n sz e, cs, h => by
    simp only [Fits] at h ⊢
    exact ⟨h.1, fun j hj => Fits.more M e (h.2 j hj)⟩
theorem FitsAll.more {H : AHeap} (M : AHeap) : ∀ (fs : List (Nat × Shp)) {cs : List AV}, FitsAll H fs cs → FitsAll (H ++ M) fs cs
  | [], cs, h => by simpa only [FitsAll] using h
  | (n, s) :: r, cs, h => by
    simp only [FitsAll] at h ⊢
    exact ⟨h.1, Fits.more M s h.2.1, FitsAll.more M r h.2.2⟩
end

/-- An abstract heap that is only read. -/
structure Ro (Φ : Phi) (H : AHeap) (w : World) : Prop where
  sim : Sim Φ (getB H) w
  dom : ∀ i l, Φ i = some l → i < H.length
  ro : ∀ i l, Φ i = some l → l.rw = false

theorem Ro.empty (w : World) : Ro (fun _ => none) [] w :=
  ⟨⟨fun i b h => by have := getB_lt h; simp at this, fun i j bi bj li lj _ h => by have := getB_lt h; simp at this⟩, by simp, by simp⟩

theorem Ro.push {Φ : Phi} {H : AHeap} {w : World} (h : Ro Φ H w) {l : Loc} (hr : l.rw = false) {blk : Blk} (hok : BlkOk (upd Φ H.length (some l)) w l blk) :
    Ro (upd Φ H.length (some l)) (H ++ [some blk]) w ∧ ∀ i q, Φ i = some q → upd Φ H.length (some l) i = some q := by
  have mono : ∀ i q, Φ i = some q → upd Φ H.length (some l) i = some q := by
    intro i q hq
    have := h.dom i q hq
    rw [upd_other (by omega)]; exact hq
  have ro' : ∀ i q, upd Φ H.length (some l) i = some q → q.rw = false := by
    intro i q hq
    by_cases e : i = H.length
    · subst e; rw [upd_self] at hq; simp only [Option.some.injEq] at hq; subst hq; exact hr
    · rw [upd_other e] at hq; exact h.ro i q hq
  refine ⟨⟨⟨fun i b hi => ?_, fun i j bi bj li lj _ _ _ hli _ hrw => ?_⟩, fun i q hq => ?_, ro'⟩, mono⟩
  · rw [getB_append] at hi
    by_cases e : i = H.length
    · subst e; rw [upd_self] at hi ⊢; simp only [Option.some.injEq] at hi; subst hi; exact ⟨l, rfl, hok⟩
    · rw [upd_other e] at hi
      obtain ⟨q, hq, hok'⟩ := h.sim.ok i b hi
      exact ⟨q, mono _ _ hq, hok'.keep mono (Nat.le_refl _) rfl⟩
  · rw [ro' i li hli] at hrw; simp at hrw
  · by_cases e : i = H.length
    · subst e; simp
    · rw [upd_other e] at hq
      have := h.dom i q hq
      simp; omega

section
variable {HH : Type} {enc : TypeId × Value → HH} {P : Program} {w : World} {held : Bool}

/-- What a reading of cells gives. -/
def Reads (w : World) (s : Shp) (cs : List Value) : Prop :=
  ∀ Φ H, Ro Φ H w → ∃ Φ' M avs, Ro Φ' (H ++ M) w ∧ (∀ i q, Φ i = some q → Φ' i = some q) ∧ Rs Φ' avs cs ∧ Fits (H ++ M) s avs

theorem mapM_cells {f : Nat → Option Value} : ∀ {l : List Nat} {vs : List Value}, l.mapM f = some vs → vs.length = l.length ∧ ∀ (k n : Nat), l[k]? = some n → ∃ v, vs[k]? = some v ∧ f n = some v
  | [], vs, h => by simp at h; subst h; simp
  | a :: r, vs, h => by
    simp only [List.mapM_cons, Option.bind_eq_bind, Option.bind_eq_some_iff] at h
    obtain ⟨v, hv, us, hus, h⟩ := h
    simp at h; subst h
    obtain ⟨h1, h2⟩ := mapM_cells hus
    refine ⟨by simp [h1], fun k n hk => ?_⟩
    cases k with
    | zero => simp at hk; subst hk; exact ⟨v, rfl, hv⟩
    | succ k => simpa using h2 k n (by simpa using hk)

theorem mapM_any {α β : Type} {f : α → Option β} : ∀ {l : List α} {vs : List β}, l.mapM f = some vs → ∀ (k : Nat) (n : α), l[k]? = some n → ∃ v, f n = some v
  | [], vs, h => by simp
  | a :: r, vs, h => by
    simp only [List.mapM_cons, Option.bind_eq_bind, Option.bind_eq_some_iff] at h
    obtain ⟨v, hv, us, hus, h⟩ := h
    intro k n hk
    cases k with
    | zero => simp at hk; subst hk; exact ⟨v, hv⟩
    | succ k => exact mapM_any hus k n (by simpa using hk)

/-- Rows of elements, one behind the other. -/
theorem reads_rows {s : Shp} {sz : Nat} : ∀ (n : Nat) (rows : Nat → List Value), (∀ j, j < n → (rows j).length = sz ∧ Reads w s (rows j)) →
    ∀ Φ H, Ro Φ H w → ∃ Φ' M avs, Ro Φ' (H ++ M) w ∧ (∀ i q, Φ i = some q → Φ' i = some q) ∧ Rs Φ' avs (((List.range n).map rows).flatten) ∧ avs.length = n * sz ∧
      ∀ j, j < n → Fits (H ++ M) s ((avs.drop (j * sz)).take sz)
  | 0, rows, _, Φ, H, h => ⟨Φ, [], [], by simpa using h, fun _ _ h => h, by simp [Rs], by simp, fun j hj => by omega⟩
  | n + 1, rows, hr, Φ, H, h => by
    obtain ⟨Φ1, M1, a1, r1, m1, R1, l1, F1⟩ := reads_rows n rows (fun j hj => hr j (by omega)) Φ H h
    obtain ⟨Φ2, M2, a2, r2, m2, R2, F2⟩ := (hr n (by omega)).2 Φ1 (H ++ M1) r1
    have l2 : a2.length = sz := by rw [← R2.len]; exact (hr n (by omega)).1
    refine ⟨Φ2, M1 ++ M2, a1 ++ a2, by rw [← List.append_assoc]; exact r2, fun i q hq => m2 i q (m1 i q hq), ?_, ?_, fun j hj => ?_⟩
    · rw [List.range_succ, List.map_append, List.flatten_append]
      simpa using (Rs.mono m2 _ R1).append R2
    · rw [List.length_append, l1, l2, Nat.add_mul]; simp
    · rw [← List.append_assoc]
      by_cases e : j = n
      · subst e
        rw [List.drop_append_of_le_length (by omega), List.drop_of_length_le (by omega), List.nil_append, List.take_of_length_le (by omega)]
        exact F2
      · have hle : (j + 1) * sz ≤ n * sz := Nat.mul_le_mul_right sz (by omega)
        rw [Nat.add_mul, Nat.one_mul] at hle
        rw [List.drop_append_of_le_length (by omega), List.take_append_of_le_length (by simp; omega)]
        exact (F1 j (by omega)).more M2

theorem flat_get {sz : Nat} {rows : Nat → List Value} : ∀ (n : Nat), (∀ j, j < n → (rows j).length = sz) → ∀ (k : Nat) (v : Value), (((List.range n).map rows).flatten)[k]? = some v →
    ∃ j r, j < n ∧ r < sz ∧ k = j * sz + r ∧ (rows j)[r]? = some v
  | 0, _, k, v, h => by simp at h
  | n + 1, hr, k, v, h => by
    rw [List.range_succ, List.map_append, List.flatten_append] at h
    have hl : ∀ m, m ≤ n → (((List.range m).map rows).flatten).length = m * sz := by
      intro m
      induction m with
      | zero => simp
      | succ m ih =>
        intro hm
        rw [List.range_succ, List.map_append, List.flatten_append, List.length_append, ih (by omega), Nat.add_mul]
        simp [hr m (by omega)]
    rcases Nat.lt_or_ge k (n * sz) with hk | hk
    · rw [List.getElem?_append_left (by rw [hl n (Nat.le_refl _)]; exact hk)] at h
      obtain ⟨j, r, h1, h2⟩ := flat_get n (fun j hj => hr j (by omega)) k v h
      exact ⟨j, r, by omega, h2⟩
    · rw [List.getElem?_append_right (by rw [hl n (Nat.le_refl _)]; exact hk), hl n (Nat.le_refl _)] at h
      simp only [List.map_cons, List.map_nil, List.flatten_cons, List.flatten_nil, List.append_nil] at h
      have hrn := hr n (by omega)
      have hlt : k - n * sz < sz := by
        rcases Nat.lt_or_ge (k - n * sz) (rows n).length with h' | h'
        · omega
        · rw [List.getElem?_eq_none h'] at h; simp at h
      exact ⟨n, k - n * sz, by omega, hlt, by omega, h⟩

theorem flat_all {sz : Nat} : ∀ (n : Nat) (cs : List Value), cs.length = n * sz → ((List.range n).map fun j => (cs.drop (j * sz)).take sz).flatten = cs
  | 0, cs, h => by
    have : cs = [] := List.length_eq_zero_iff.1 (by simpa using h)
    simp [this]
  | n + 1, cs, h => by
    rw [Nat.add_mul, Nat.one_mul] at h
    rw [List.range_succ, List.map_append, List.flatten_append]
    have := flat_all (sz := sz) n (cs.take (n * sz)) (by rw [List.length_take, Nat.min_eq_left (by omega)])
    have e : ((List.range n).map fun j => (cs.drop (j * sz)).take sz) = ((List.range n).map fun j => ((cs.take (n * sz)).drop (j * sz)).take sz) := by
      apply List.map_congr_left
      intro j hj
      have hj' := List.mem_range.1 hj
      have hle : (j + 1) * sz ≤ n * sz := Nat.mul_le_mul_right sz (by omega)
      rw [Nat.add_mul, Nat.one_mul] at hle
      rw [List.drop_take, List.take_take, Nat.min_eq_left (by omega)]
    rw [e, this]
    simp only [List.map_cons, List.map_nil, List.flatten_cons, List.flatten_nil, List.append_nil]
    rw [List.take_of_length_le (l := cs.drop (n * sz)) (by simp; omega)]
    exact List.take_append_drop _ _

theorem shapesOf_le : ∀ (m : Nat) (fs : List Field) (o : Nat) {l : List (Nat × Shp)} {n : Nat}, shapesOf P m fs o = some (l, n) → o ≤ n
  | m, [], o, l, n, h => by cases m <;> (simp only [shapesOf, Option.some.injEq, Prod.mk.injEq] at h; omega)
  | 0, _ :: _, o, l, n, h => by simp [shapesOf] at h
  | m + 1, f :: r, o, l, n, h => by
    simp only [shapesOf] at h
    split at h
    · rename_i s l' n' hs hr
      split at h <;> simp only [Option.some.injEq, Prod.mk.injEq, reduceCtorEq] at h
      have := shapesOf_le m r _ hr
      omega
    · simp at h

theorem trod_fields {fuel : Nat} (IH : ∀ m t s cs d ps, shapeOf P m t = some s → DataW.trod enc P w 0 (fun _ => true) held fuel t cs = some (d, ps) → Reads w s cs) (cs0 : List Value) :
    ∀ (fs : List Field) (m o : Nat) {l : List (Nat × Shp)} {n : Nat} {xs : List (DataW HH × List MemPlace)}, shapesOf P m fs o = some (l, n) →
      fs.mapM (fun f => DataW.trod enc P w 0 (fun _ => true) held fuel f.type ((cs0.drop f.offset).take (P.cellsOf f.type))) = some xs → n ≤ cs0.length →
      ∀ Φ H, Ro Φ H w → ∃ Φ' M avs, Ro Φ' (H ++ M) w ∧ (∀ i q, Φ i = some q → Φ' i = some q) ∧ Rs Φ' avs ((cs0.drop o).take (n - o)) ∧ FitsAll (H ++ M) l avs
  | [], m, o, l, n, xs, h, _, _, Φ, H, hro => by
    cases m <;>
    · simp only [shapesOf, Option.some.injEq, Prod.mk.injEq] at h
      obtain ⟨rfl, rfl⟩ := h
      exact ⟨Φ, [], [], by simpa using hro, fun _ _ h => h, by simp [Rs], by simp [FitsAll]⟩
  | f :: r, 0, o, l, n, xs, h, _, _, Φ, H, hro => by simp [shapesOf] at h
  | f :: r, m + 1, o, l, n, xs, h, hx, hn, Φ, H, hro => by
    simp only [shapesOf] at h
    split at h
    · rename_i s l' n' hs hr
      split at h <;> simp only [Option.some.injEq, Prod.mk.injEq, reduceCtorEq] at h
      rename_i hof
      obtain ⟨rfl, rfl⟩ := h
      have hle := shapesOf_le m r _ hr
      simp only [List.mapM_cons, Option.bind_eq_bind, Option.bind_eq_some_iff] at hx
      obtain ⟨⟨d, ps⟩, hv, us, hus, _⟩ := hx
      rw [hof] at hv
      obtain ⟨Φ1, M1, a1, r1, m1, R1, F1⟩ := IH m f.type s _ d ps hs hv Φ H hro
      obtain ⟨Φ2, M2, a2, r2, m2, R2, F2⟩ := trod_fields IH cs0 r m (o + P.cellsOf f.type) hr hus hn Φ1 (H ++ M1) r1
      have l1 : a1.length = P.cellsOf f.type := by
        rw [← R1.len]
        simp; omega
      refine ⟨Φ2, M1 ++ M2, a1 ++ a2, by rw [← List.append_assoc]; exact r2, fun i q hq => m2 i q (m1 i q hq), ?_, ?_⟩
      · have e : (cs0.drop o).take (n' - o) = (cs0.drop o).take (P.cellsOf f.type) ++ (cs0.drop (o + P.cellsOf f.type)).take (n' - (o + P.cellsOf f.type)) := by
          rw [show n' - o = P.cellsOf f.type + (n' - (o + P.cellsOf f.type)) by omega, List.take_add, List.drop_drop]
        rw [e]
        exact (Rs.mono m2 _ R1).append R2
      · simp only [FitsAll]
        rw [List.take_append_of_le_length (by omega), List.drop_append_of_le_length (by omega), List.take_of_length_le (by omega), List.drop_of_length_le (by omega), List.nil_append]
        refine ⟨l1, ?_, by rw [← List.append_assoc]; exact F2⟩
        rw [← List.append_assoc]
        exact F1.more M2
    · simp at h

theorem trod_reads : ∀ (fuel m : Nat) (t : TypeId) (s : Shp) (cs : List Value) (d : DataW HH) (ps : List MemPlace), shapeOf P m t = some s →
    DataW.trod enc P w 0 (fun _ => true) held fuel t cs = some (d, ps) → Reads w s cs := by
  intro fuel
  induction fuel with
  | zero => intro m t s cs d ps _ h; simp [DataW.trod] at h
  | succ fuel IH =>
    intro m t s cs d ps hs h
    cases m with
    | zero => simp [shapeOf] at hs
    | succ m =>
      simp only [shapeOf] at hs
      unfold DataW.trod at h
      cases hu : P.underlying t with
      | none => rw [hu] at hs; simp at hs
      | some td =>
        rw [hu] at hs h
        cases td with
        | bool =>
          simp only [Option.some.injEq] at hs; subst hs
          split at h <;> simp_all
          rename_i b
          intro Φ H hro
          exact ⟨Φ, [], [.bool b], by simpa using hro, fun _ _ h => h, .cons (by simp only [R]) .nil, by simp [Fits]⟩
        | int k =>
          simp only [Option.some.injEq] at hs; subst hs
          split at h
          all_goals try (simp_all; done)
          rename_i k' k2 n heq
          simp only [Option.some.injEq, TypeDesc.int.injEq] at heq
          subst heq
          split at h <;> simp only [Option.some.injEq, reduceCtorEq] at h
          rename_i hc
          obtain ⟨rfl, hwf⟩ := hc
          simp only [Lit.wf, Bool.and_eq_true, decide_eq_true_eq] at hwf
          intro Φ H hro
          exact ⟨Φ, [], [.int k2 n], by simpa using hro, fun _ _ h => h, .cons (by simp only [R]) .nil, by simp only [Fits]; exact ⟨n, rfl, hwf⟩⟩
        | string =>
          simp only [Option.some.injEq] at hs; subst hs
          split at h
          all_goals try (simp_all; done)
          rename_i b heq
          split at h <;> simp only [Option.some.injEq, reduceCtorEq] at h
          rename_i hc
          intro Φ H hro
          exact ⟨Φ, [], [.str b.data.toList], by simpa using hro, fun _ _ h => h, .cons (by simp only [R, Array.toArray_toList]) .nil, by simp only [Fits]; exact ⟨_, rfl, by simpa only [ByteArray.size, Array.length_toList] using hc⟩⟩
        | slice e =>
          simp only at hs
          split at hs <;> simp only [Option.some.injEq, reduceCtorEq] at hs
          rename_i se sz hse hsz
          subst hs
          obtain ⟨ie, hie, hsz1, hsz0⟩ := sizeP_info hsz
          have hco : P.cellsOf e = sz := by simp [Program.cellsOf, hie, hsz1]
          split at h
          all_goals try (simp_all; done)
          · -- nil
            intro Φ H hro
            exact ⟨Φ, [], [.nilsl], by simpa using hro, fun _ _ h => h, .cons (by simp only [R]) .nil, by simp [Fits]⟩
          · rename_i td' e' a len cap heq
            simp only [Option.some.injEq, TypeDesc.slice.injEq] at heq
            subst heq
            split at h
            · rename_i hc
              obtain ⟨_, hlc, hcm⟩ := hc
              simp only [Option.bind_eq_some_iff, Option.map_eq_some_iff] at h
              obtain ⟨elems, hel, rest, hrest, _⟩ := h
              by_cases hcap : cap = 0
              · have hlen : len = 0 := by omega
                subst hcap; subst hlen
                intro Φ H hro
                exact ⟨Φ, [], [.esl], by simpa using hro, fun _ _ h => h, .cons (by simp only [R]; exact ⟨a, rfl⟩) .nil, by simp [Fits]⟩
              · -- the first place
                have hfirst : ∃ x, (w.cells? 0 (a.add (0 * P.cellsOf e)) (P.cellsOf e)).bind (DataW.trod enc P w 0 (fun _ => true) held fuel e) = some x := by
                  by_cases hl : len = 0
                  · simp only [if_true] at hrest
                    obtain ⟨x, hx⟩ := mapM_any hrest 0 0 (List.getElem?_range (by omega))
                    rw [hl] at hx
                    exact ⟨x, hx⟩
                  · exact mapM_any hel 0 0 (List.getElem?_range (by omega))
                rw [hco] at hfirst hel
                obtain ⟨x0, hx0⟩ := hfirst
                simp only [Option.bind_eq_some_iff] at hx0
                obtain ⟨c0, hc0, _⟩ := hx0
                have hcells : ∀ (p : Addr) (vs : List Value), w.cells? 0 p sz = some vs → vs.length = sz ∧ ∀ r, r < sz → ∃ v, vs[r]? = some v ∧ w.cell? (p.add r) = some v := by
                  intro p vs hp
                  unfold World.cells? at hp
                  rw [if_pos (Nat.zero_le _)] at hp
                  obtain ⟨q1, q2⟩ := mapM_cells hp
                  exact ⟨by simpa using q1, fun r hr => q2 r r (by simp [hr])⟩
                obtain ⟨b0, off0, sp0⟩ := a
                obtain ⟨v0, _, hv0⟩ := (hcells _ c0 hc0).2 0 (by omega)
                have hsp : sp0 = none := by
                  simp only [Nat.zero_mul, Addr.add, if_true] at hv0
                  unfold World.cell? at hv0
                  split at hv0
                  · cases sp0 with
                    | none => rfl
                    | some y => simp at hv0
                  · simp at hv0
                subst hsp
                have hb0 : b0 < w.heap.size := by
                  rcases Nat.lt_or_ge b0 w.heap.size with h | h
                  · exact h
                  · simp only [Nat.zero_mul, Addr.add, if_true] at hv0
                    simp [World.cell?, Array.getElem?_eq_none h] at hv0
                let rows : Nat → List Value := fun j => (w.cells? 0 ((⟨b0, off0, none⟩ : Addr).add (j * sz)) sz).getD []
                have hrow : ∀ j, j < len → w.cells? 0 ((⟨b0, off0, none⟩ : Addr).add (j * sz)) sz = some (rows j) ∧ (rows j).length = sz ∧ Reads w se (rows j) := by
                  intro j hj
                  obtain ⟨⟨dj, pj⟩, hx⟩ := mapM_any hel j j (by simp [hj])
                  simp only [Option.bind_eq_some_iff] at hx
                  obtain ⟨cj, hcj, htj⟩ := hx
                  have e1 : rows j = cj := by simp only [rows, hcj, Option.getD_some]
                  rw [e1]
                  exact ⟨hcj, (hcells _ cj hcj).1, IH m e se cj dj pj hse htj⟩
                intro Φ H hro
                obtain ⟨Φ1, M1, a1, r1, m1, R1, l1, F1⟩ := reads_rows len rows (fun j hj => (hrow j hj).2) Φ H hro
                have hok : ∀ Φ', (∀ i q, Φ1 i = some q → Φ' i = some q) → BlkOk Φ' w ⟨b0, off0, 0, sz, false⟩ (.cells sz false a1) := by
                  intro Φ' hm
                  refine ⟨hb0, rfl, rfl, fun k c hk => ?_, fun h => by simp at h⟩
                  obtain ⟨v, hv, hRv⟩ := R1.get hk
                  obtain ⟨j, r, hj, hr, hkj, hrv⟩ := flat_get len (fun j hj => (hrow j hj).2.1) k v hv
                  obtain ⟨q1, q2, _⟩ := hrow j hj
                  obtain ⟨v', hv', hcell⟩ := (hcells _ _ q1).2 r hr
                  rw [hrv] at hv'; simp only [Option.some.injEq] at hv'; subst hv'
                  rw [add_flat, add_flat] at hcell
                  refine ⟨v, ?_, R.mono hm c hRv⟩
                  rw [hkj, ← Nat.add_assoc]; exact hcell
                have hpush := r1.push (l := ⟨b0, off0, 0, sz, false⟩) rfl (blk := .cells sz false a1) (hok _ (fun i q hq => by
                  have := r1.dom i q hq
                  rw [upd_other (by omega)]; exact hq))
                refine ⟨_, M1 ++ [some (.cells sz false a1)], [.sl (H ++ M1).length 0 len], by rw [← List.append_assoc]; exact hpush.1, fun i q hq => hpush.2 i q (m1 i q hq), .cons ?_ .nil, ?_⟩
                · simp only [R]
                  exact ⟨_, _, _, upd_self _ _ _, rfl, hlc, .inr ⟨rfl, fun h => by simp at h⟩⟩
                · simp only [Fits]
                  refine .inr (.inr ⟨_, len, a1, rfl, ?_, l1, by omega, fun j hj => ?_⟩)
                  · rw [← List.append_assoc, getB_append, upd_self]
                  · rw [← List.append_assoc]
                    exact (F1 j hj).more _
            · simp at h
        | struct fs =>
          simp only at hs
          split at hs
          · rename_i l n hl
            split at hs <;> simp only [Option.some.injEq, reduceCtorEq] at hs
            rename_i hn
            subst hs
            split at h
            all_goals try (simp_all; done)
            rename_i cs td' cs2 fs' heq
            simp only [Option.some.injEq, TypeDesc.struct.injEq] at heq
            subst heq
            split at h
            · rename_i hlen
              simp only [Option.map_eq_some_iff] at h
              obtain ⟨xs, hxs, _⟩ := h
              intro Φ H hro
              obtain ⟨Φ1, M1, a1, r1, m1, R1, F1⟩ := trod_fields IH cs fs.toList m 0 hl hxs (by omega) Φ H hro
              refine ⟨Φ1, M1, a1, r1, m1, ?_, by simpa only [Fits] using F1⟩
              rw [List.drop_zero, Nat.sub_zero, List.take_of_length_le (by omega)] at R1
              exact R1
            · simp at h
          · simp at hs
        | array n e =>
          simp only at hs
          split at hs <;> try (simp at hs; done)
          rename_i se sz hse hsz
          split at hs <;> simp only [Option.some.injEq, reduceCtorEq] at hs
          rename_i hn
          subst hs
          obtain ⟨ie, hie, hsz1, hsz0⟩ := sizeP_info hsz
          have hco : P.cellsOf e = sz := by simp [Program.cellsOf, hie, hsz1]
          split at h
          all_goals try (simp_all; done)
          rename_i cs td' cs2 n' e' heq
          simp only [Option.some.injEq, TypeDesc.array.injEq] at heq
          obtain ⟨rfl, rfl⟩ := heq
          split at h
          · rename_i hlen
            simp only [Option.map_eq_some_iff] at h
            obtain ⟨xs, hxs, _⟩ := h
            rw [hco] at hxs
            intro Φ H hro
            obtain ⟨Φ1, M1, a1, r1, m1, R1, l1, F1⟩ := reads_rows (s := se) (sz := sz) n (fun j => (cs.drop (j * sz)).take sz) (fun j hj => by
              obtain ⟨⟨dj, pj⟩, hx⟩ := mapM_any hxs j j (by simp [hj])
              have hle : (j + 1) * sz ≤ n * sz := Nat.mul_le_mul_right sz (by omega)
              rw [Nat.add_mul, Nat.one_mul] at hle
              exact ⟨by simp; omega, IH m e se _ dj pj hse hx⟩) Φ H hro
            rw [flat_all n cs (by omega)] at R1
            exact ⟨Φ1, M1, a1, r1, m1, R1, by simp only [Fits]; exact ⟨l1, F1⟩⟩
          · simp at h
        | _ => simp at hs

end
end Go.Am

/- From an abstract run of a law to what its row says. -/
namespace Go.Am
open Go.RowKit Go.ChangeShapes

/-- An argument of this shape: of more cells, they are together. -/
def FitsArg (H : AHeap) : Shp → AV → Prop
  | .struct fs, a => ∃ cs, a = .agg cs ∧ Fits H (.struct fs) cs
  | .array n sz e, a => ∃ cs, a = .agg cs ∧ Fits H (.array n sz e) cs
  | .bool, a => Fits H .bool [a]
  | .int k, a => Fits H (.int k) [a]
  | .str, a => Fits H .str [a]
  | .slice sz e, a => Fits H (.slice sz e) [a]
/-- Arguments of these shapes. -/
def FitsArgs (H : AHeap) : List Shp → List AV → Prop
  | [], vs => vs = []
  | s :: r, vs => ∃ a vs', vs = a :: vs' ∧ FitsArg H s a ∧ FitsArgs H r vs'

def Shp.isAgg : Shp → Bool
  | .struct _ => true
  | .array _ _ _ => true
  | _ => false
theorem fitsArg_one {H : AHeap} {s : Shp} {a : AV} (hs : s.isAgg = false) (h : Fits H s [a]) : FitsArg H s a := by
  cases s <;> first | exact h | simp [Shp.isAgg] at hs
theorem fitsArg_agg {H : AHeap} {s : Shp} {cs : List AV} (hs : s.isAgg = true) (h : Fits H s cs) : FitsArg H s (.agg cs) := by
  cases s <;> first | exact ⟨_, rfl, h⟩ | simp [Shp.isAgg] at hs
theorem FitsArg.more {H : AHeap} (M : AHeap) {s : Shp} {a : AV} (h : FitsArg H s a) : FitsArg (H ++ M) s a := by
  cases s with
  | struct fs => obtain ⟨cs, h1, h2⟩ := h; exact ⟨cs, h1, h2.more M⟩
  | array n sz e => obtain ⟨cs, h1, h2⟩ := h; exact ⟨cs, h1, h2.more M⟩
  | bool => exact Fits.more M _ (show Fits H .bool [a] from h)
  | int k => exact Fits.more M _ (show Fits H (.int k) [a] from h)
  | str => exact Fits.more M _ (show Fits H .str [a] from h)
  | slice sz e => exact Fits.more M _ (show Fits H (.slice sz e) [a] from h)

theorem FitsArgs.more {H : AHeap} (M : AHeap) : ∀ (ss : List Shp) {vs : List AV}, FitsArgs H ss vs → FitsArgs (H ++ M) ss vs
  | [], vs, h => h
  | s :: r, vs, h => by
    obtain ⟨a, vs', h1, h2, h3⟩ := h
    exact ⟨a, vs', h1, h2.more M, FitsArgs.more M r h3⟩

/-- A type whose values have one cell. -/
def oneCellT (P : Program) (t : TypeId) : Bool :=
  match P.underlying t with
  | some .bool | some (.int _) | some .string | some (.slice _) => true
  | _ => false

/-- A type whose values have more cells. -/
def aggT (P : Program) (t : TypeId) : Bool :=
  match P.underlying t with
  | some (.struct _) | some (.array _ _) => true
  | _ => false

def shapesArgs (P : Program) (m : Nat) : List TypeId → Option (List Shp)
  | [] => some []
  | t :: r => match shapeOf P m t, shapesArgs P m r with
    | some s, some l => if (oneCellT P t && !s.isAgg) || (aggT P t && s.isAgg) then some (s :: l) else none
    | _, _ => none

section
variable {HH : Type} {enc : TypeId × Value → HH} {P : Program} {W W' : World}

theorem okWide_cells {r : Reach} {b : Nat} {t : TypeId} {v : Value} (ht : oneCellT P t = true) (h : Value.okWide P W r b t v) : v.cells = #[v] := by
  cases v with
  | agg cs =>
    exfalso
    unfold oneCellT at ht
    unfold Value.okWide at h
    cases hu : P.underlying t with
    | none => rw [hu] at ht; simp at ht
    | some d =>
      rw [hu] at ht h
      cases d <;> simp at ht <;> simp [Cell.okWide, hu, Cell.ok] at h
  | _ => rfl

theorem okWide_agg {r : Reach} {b : Nat} {t : TypeId} {v : Value} (ht : aggT P t = true) (h : Value.okWide P W r b t v) : ∃ cs, v = .agg cs := by
  unfold aggT at ht
  unfold Value.okWide at h
  cases hu : P.underlying t with
  | none => rw [hu] at ht; simp at ht
  | some d =>
    rw [hu] at ht h
    cases d <;> simp at ht
    all_goals obtain ⟨cs, h, _⟩ := h; exact ⟨cs, h⟩

theorem read_args : ∀ (ts : List TypeId) (m : Nat) (ss : List Shp) (vs : List Value) (ds : List (DataW HH)) (p : List MemPlace), shapesArgs P m ts = some ss →
    (∀ (j : Nat) t v, ts[j]? = some t → vs[j]? = some v → ∃ b, Value.okWide P W .any b t v) → DataW.TrodAll enc P W 0 (fun _ => true) true ts vs ds p →
    ∀ Φ H, Ro Φ H W → ∃ Φ' M avs, Ro Φ' (H ++ M) W ∧ (∀ i q, Φ i = some q → Φ' i = some q) ∧ Rs Φ' avs vs ∧ FitsArgs (H ++ M) ss avs
  | [], m, ss, vs, ds, p, hs, _, h, Φ, H, hro => by
    simp only [shapesArgs, Option.some.injEq] at hs; subst hs
    cases vs with
    | nil => exact ⟨Φ, [], [], by simpa using hro, fun _ _ h => h, .nil, rfl⟩
    | cons v vs => cases ds <;> simp [DataW.TrodAll] at h
  | t :: ts, m, ss, vs, ds, p, hs, hok, h, Φ, H, hro => by
    simp only [shapesArgs] at hs
    split at hs
    · rename_i s l hst hl
      split at hs <;> simp only [Option.some.injEq, reduceCtorEq] at hs
      rename_i hone
      subst hs
      obtain ⟨v, vs', d, ds', p1, q1, rfl, rfl, rfl, h1, h2⟩ := trodAll_cons h
      obtain ⟨b, hb⟩ := hok 0 t v rfl rfl
      obtain ⟨fuel, hf⟩ := h1
      simp only [Bool.or_eq_true, Bool.and_eq_true, Bool.not_eq_true'] at hone
      rcases hone with ⟨hone, hag⟩ | ⟨hagt, hag⟩
      case inr =>
        obtain ⟨cs, rfl⟩ := okWide_agg hagt hb
        rw [show (Value.agg cs).cells = cs from rfl] at hf
        obtain ⟨Φ1, M1, a1, r1, m1, R1, F1⟩ := trod_reads fuel m t s cs.toList d p1 hst hf Φ H hro
        obtain ⟨Φ2, M2, a2, r2, m2, R2, F2⟩ := read_args ts m l vs' ds' q1 hl (fun j t' v' h1 h2 => hok (j + 1) t' v' (by simpa using h1) (by simpa using h2)) h2 Φ1 (H ++ M1) r1
        refine ⟨Φ2, M1 ++ M2, .agg a1 :: a2, by rw [← List.append_assoc]; exact r2, fun i q hq => m2 i q (m1 i q hq), ?_, _, a2, rfl, ?_, ?_⟩
        · refine ⟨_, vs', rfl, ⟨cs.toList, ?_, Rs.mono m2 _ R1⟩, R2⟩
          simp
        · rw [← List.append_assoc]; exact fitsArg_agg hag (F1.more M2)
        · rw [← List.append_assoc]; exact F2
      rw [okWide_cells hone hb] at hf
      obtain ⟨Φ1, M1, a1, r1, m1, R1, F1⟩ := trod_reads fuel m t s [v] d p1 hst hf Φ H hro
      obtain ⟨Φ2, M2, a2, r2, m2, R2, F2⟩ := read_args ts m l vs' ds' q1 hl (fun j t' v' h1 h2 => hok (j + 1) t' v' (by simpa using h1) (by simpa using h2)) h2 Φ1 (H ++ M1) r1
      have l1 := R1.len
      obtain ⟨a, rfl⟩ : ∃ a, a1 = [a] := by
        cases a1 with
        | nil => simp at l1
        | cons a r => cases r with
          | nil => exact ⟨a, rfl⟩
          | cons b r => simp at l1
      refine ⟨Φ2, M1 ++ M2, a :: a2, by rw [← List.append_assoc]; exact r2, fun i q hq => m2 i q (m1 i q hq), ?_, a, a2, rfl, ?_, ?_⟩
      · have := (Rs.mono m2 _ R1).append R2
        simpa using this
      · rw [← List.append_assoc]; exact fitsArg_one hag (F1.more M2)
      · rw [← List.append_assoc]; exact F2
    · simp at hs

theorem trodAll_stays (hl : laidOutB P = true) (hb : Below W.heap.size W W') : ∀ (ts : List TypeId) (vs : List Value) (ds : List (DataW HH)) (p : List MemPlace), (∀ t, t ∈ ts → P.readableRec t = true ∧ t < P.types.size) →
    DataW.TrodAll enc P W 0 (fun _ => true) true ts vs ds p → (∀ x, x ∈ p → x.block < W.heap.size) → ∀ sp : Nat → Bool, (∀ x, x ∈ p → sp x.block = true) → DataW.TrodAll enc P W' 0 sp true ts vs ds p
  | [], vs, ds, p, _, h, _, sp, _ => by
    cases vs <;> cases ds <;> simp [DataW.TrodAll] at h ⊢
    exact h
  | t :: ts, vs, ds, p, ht, h, hlt, sp, hsp => by
    obtain ⟨v, vs', d, ds', p1, q1, rfl, rfl, rfl, h1, h2⟩ := trodAll_cons h
    obtain ⟨r1, r2⟩ := ht t (by simp)
    refine ⟨p1, q1, WideElems.Trod_stays hl r1 r2 h1 (fun x hx => hb.same (hlt x (by simp [hx]))) (fun x hx => hsp x (by simp [hx])), ?_, rfl⟩
    exact trodAll_stays hl hb ts vs' ds' q1 (fun t h => ht t (by simp [h])) h2 (fun x hx => hlt x (by simp [hx])) sp (fun x hx => hsp x (by simp [hx]))

theorem trodAll_app : ∀ {ts : List TypeId} {vs : List Value} {ds : List (DataW HH)} {p : List MemPlace} {tb : TypeId}, P.underlying tb = some .bool → DataW.TrodAll enc P W 0 (fun _ => true) true ts vs ds p →
    DataW.TrodAll enc P W 0 (fun _ => true) true (tb :: ts) (.bool true :: vs) (.lit (.bool true) :: ds) p := by
  intro ts vs ds p tb hb h
  exact ⟨[], p, ⟨1, by simp [DataW.trod, hb, Value.cells]⟩, h, rfl⟩

/-- True, and all that was there as it was. -/
theorem post_below (hl : laidOutB P = true) {fn : Func} {s : ChangeSpec} {apart fresh handsOn again : Bool} {args : Array Value} {ds : List (DataW HH)} {before : List MemPlace}
    (hpar : ∀ t, t ∈ fn.params.toList → P.readableRec t = true ∧ t < P.types.size) (hv : s.vars = []) (hW : DataW.Whole enc P fn.params.toList s.vars apart W args.toList ds [] before)
    (hfn : s.fn HH (ds ++ []) = { results := [.lit (.bool true)], args := ds }) {tb : TypeId} (hr : fn.resultTypes = #[tb]) (htb : P.underlying tb = some .bool)
    (hb : Below W.heap.size W W') : s.post enc P fn apart fresh handsOn again W args (.bool true) W' := by
  have hlt : ∀ x, x ∈ before → x.block < W.heap.size := fun x hx => by simpa using hW.lt x hx
  have hW0 := hW
  obtain ⟨p, q, h1, h2, rfl, hz, hn⟩ := hW0
  rw [hv] at h2
  have hq : q = [] := by simpa [DataW.TrodVars] using h2
  subst hq
  simp only [List.append_nil] at hlt hz hn hW
  have stays := trodAll_stays hl hb fn.params.toList args.toList ds p hpar h1 hlt
  have e1 : fn.resultTypes.toList = [tb] := by rw [hr]
  have e2 : (Value.bool true).resultList fn.resultTypes.size = [.bool true] := by rw [hr]; rfl
  have hvars : ∀ sp : Nat → Bool, DataW.TrodVars (H := HH) enc P W' sp s.vars [] [] := fun sp => by rw [hv]; simp [DataW.TrodVars]
  refine ⟨ds, [], p, [], p, [], hW, ?_, ?_, ?_, hb.frame _, fun _ => ⟨fun j t r hj hr' => ?_, (.lit (.bool true)) :: ds, [], p, ⟨p, [], ?_, ?_, by simp, ?_, ?_⟩, fun x hx _ => hx⟩⟩
  · rw [hfn, e1, e2]
    exact ⟨[], [], ⟨1, by simp [DataW.trod, htb, Value.cells]⟩, rfl, rfl⟩
  · rw [hfn]
    exact stays _ (fun x hx => by simpa using hlt x hx)
  · rw [hfn]; exact hvars _
  · rw [hr] at hj
    rw [e2] at hr'
    cases j with
    | zero =>
      simp at hj hr'
      subst hj; subst hr'
      simp [Value.okWide, htb, Cell.okWide, Cell.ok]
    | succ j => simp at hj
  · rw [e1, e2]
    exact trodAll_app htb (stays _ (fun _ _ => rfl))
  · exact hvars _
  · intro b off hp
    rw [hb.frozen (hlt _ hp)]
    exact hz b off hp
  · exact hn

/-- What a sound run says of a call. -/
theorem call_below {call : CallT} (CS : CallSound P call) {f : FuncId} {args : Array Value} {Φ : Phi} {H H' : AHeap} {avs : List AV} (hro : Ro Φ H W) (hR : Rs Φ avs args.toList)
    (hr : call f avs H = some (.bool true, H')) : Calls P f args W fun e w' => e = .returned (.bool true) ∧ Below W.heap.size W w' := by
  obtain ⟨_, _, h⟩ := CS f avs H _ H' hr
  have hfree : Free Φ H.length H'.length := fun i h1 _ => by
    cases hq : Φ i with
    | none => rfl
    | some q => have := hro.dom i q hq; omega
  have := h Φ W args.toList hro.sim hfree hR
  rw [Array.toArray_toList] at this
  refine this.mono ?_
  rintro e w' ⟨Φ', v, rfl, hRv, s1, s2, s3⟩
  simp only [R] at hRv
  subst hRv
  refine ⟨rfl, s2.os, s2.tape, s2.output, s2.size, fun k hk => s2.frame k hk ?_⟩
  rintro ⟨i, blk, l, _, h2, h3, _⟩
  rw [hro.ro i l h2] at h3
  simp at h3

theorem law_calls (hl : laidOutB P = true) {prog : Nat → Option AFun} {orc : Nat → Option (List AV → AHeap → Option (AV × AHeap))} (CS : ∀ n, CallSound P (aCall prog orc n)) {f : FuncId} {fn : Func} {s : ChangeSpec} {apart fresh handsOn again : Bool}
    {args : Array Value} {ds gs : List (DataW HH)} {before : List MemPlace} {m base : Nat} {ss : List Shp} (hss : shapesArgs P m fn.params.toList = some ss)
    (hpar : ∀ t, t ∈ fn.params.toList → P.readableRec t = true ∧ t < P.types.size) (hv : s.vars = []) {tb : TypeId} (hr : fn.resultTypes = #[tb]) (htb : P.underlying tb = some .bool)
    (hfn : ∀ ds : List (DataW HH), ds.length = fn.params.size → s.fn HH (ds ++ []) = { results := [.lit (.bool true)], args := ds })
    (hval : ∀ (j : Nat) t v, fn.params[j]? = some t → args[j]? = some v → Value.okWide P W .any base t v)
    (hW : DataW.Whole enc P fn.params.toList s.vars apart W args.toList ds gs before)
    (hA : ∀ H avs, FitsArgs H ss avs → ∃ n H', aCall prog orc n f avs H = some (.bool true, H')) :
    Calls P f args W fun e W' => ∃ v, e = .returned v ∧ s.post enc P fn apart fresh handsOn again W args v W' := by
  have hW0 := hW
  obtain ⟨p, q, h1, h2, rfl, hz, hn⟩ := hW0
  have h2' := h2
  rw [hv] at h2'
  have hgs : gs = [] := by cases gs with
    | nil => rfl
    | cons g r => simp [DataW.TrodVars] at h2'
  subst hgs
  obtain ⟨Φ, M, avs, r1, _, R1, F1⟩ := read_args fn.params.toList m ss args.toList ds p hss (fun j t v h3 h4 => ⟨base, hval j t v (by simpa using h3) (by simpa using h4)⟩) h1 _ [] (Ro.empty W)
  obtain ⟨n, H', hrun⟩ := hA _ avs F1
  refine (call_below (CS n) r1 R1 hrun).mono ?_
  rintro e W' ⟨rfl, hb⟩
  have hlen : ds.length = fn.params.size := by
    clear hA hrun F1 R1 r1 hz hn hW hss hpar hval
    have : ∀ (ts : List TypeId) (vs : List Value) (ds : List (DataW HH)) (p : List MemPlace), DataW.TrodAll enc P W 0 (fun _ => true) true ts vs ds p → ds.length = ts.length := by
      intro ts
      induction ts with
      | nil => intro vs ds p h; cases vs <;> cases ds <;> simp [DataW.TrodAll] at h ⊢
      | cons t ts ih =>
        intro vs ds p h
        obtain ⟨v, vs', d, ds', p1, q1, rfl, rfl, rfl, _, h2⟩ := trodAll_cons h
        simp [ih vs' ds' q1 h2]
    simpa using this _ _ _ _ h1
  exact ⟨_, rfl, post_below hl hpar hv hW (hfn ds hlen) hr htb hb⟩

end

def orcClosed (b : Bool) : List AV → AHeap → Option (AV × AHeap)
  | [], H => some (.bool b, H)
  | _, _ => none

/-- A call without arguments that was run to its end from nothing: it answers so from wherever it is called, and nothing that is there turns. -/
theorem closed_sound {P : Program} {call : CallT} (CS : CallSound P call) {f : FuncId} {b : Bool} {H1 : AHeap} (h : call f [] [] = some (.bool b, H1)) :
    CallSound P (fun f' xs H => if f' = f then orcClosed b xs H else none) := by
  obtain ⟨_, hc, hrun⟩ := CS f [] [] _ H1 h
  refine .one hc (fun args H r H' hr => ?_)
  unfold orcClosed at hr
  split at hr
  · simp only [Option.some.injEq, Prod.mk.injEq] at hr
    obtain ⟨rfl, rfl⟩ := hr
    refine ⟨Nat.le_refl _, fun Φ w vs S _ hR => ?_⟩
    simp only [Rs] at hR
    subst hR
    refine (hrun (fun _ => none) w [] (Ro.empty w).sim (fun _ _ _ => rfl) .nil).mono ?_
    rintro e w' ⟨Φ', v, rfl, hRv, s1, s2, s3⟩
    simp only [R] at hRv
    subst hRv
    have hfr : ∀ k, k < w.heap.size → w'.heap[k]? = w.heap[k]? := fun k hk => s2.frame k hk (by rintro ⟨i, blk, l, h1, _⟩; have := getB_lt h1; simp at this)
    exact ⟨Φ, _, rfl, by simp only [R], S.world s2.size hfr, Ext.world s2.size hfr s2.os s2.tape s2.output, Dom.refl _ _ _⟩
  · simp at hr

end Go.Am

/- Rules by which a run of compact code is shown: each an equivalence, so that simp goes through a region by itself. -/
namespace Go.Am

structure Prg where
  prog : Nat → Option AFun
  orc : Nat → Option (List AV → AHeap → Option (AV × AHeap))

def Prg.call (p : Prg) (n : Nat) : CallT := aCall p.prog p.orc n

/-- A call ends so. -/
def WF (p : Prg) (f : Nat) (xs : List AV) (H : AHeap) (K : AV → AHeap → Prop) : Prop := ∃ n r HF, p.call n f xs H = some (r, HF) ∧ K r HF

/-- Operations end so. -/
def XO (p : Prg) (all : List AOper) (env : List AV) (l : List AOper) (vals : List AV) (env' : List AV) (H : AHeap) (K : List AV → AHeap → Prop) : Prop :=
  (∀ o, o ∈ l → o.bef = []) ∧ ∃ m eF HF, runOps (p.call m) all env l vals [] env' H = some (eF, HF) ∧ K eF HF

/-- Code ends so. -/
def WC (p : Prg) (c : ACode) (env : List AV) (H : AHeap) (K : AExit → List AV → AHeap → Prop) : Prop :=
  ∃ m n e eF HF, aCode (p.call m) n c env H = some (e, eF, HF) ∧ K e eF HF

theorem runOps_hs {c : CallT} {all : List AOper} {env : List AV} : ∀ (l : List AOper) (vals : List AV) (hs hs' : List AHeap) (env' : List AV) (H : AHeap), (∀ o, o ∈ l → o.bef = []) →
    runOps c all env l vals hs env' H = runOps c all env l vals hs' env' H
  | [], _, _, _, _, _, _ => by simp only [runOps]
  | o :: r, vals, hs, hs', env', H, h => by
    have h1 := h o (by simp)
    have h2 : ∀ o, o ∈ r → o.bef = [] := fun o ho => h o (by simp [ho])
    simp only [runOps, h1, List.all_nil, Bool.and_true]
    split
    · rfl
    · exact runOps_hs r _ _ _ _ _ h2
    · split
      · rfl
      · split
        · exact runOps_hs r _ _ _ _ _ h2
        · rfl

section
variable {p : Prg} {all : List AOper} {env vals env' : List AV} {H : AHeap} {K : List AV → AHeap → Prop} {r : List AOper} {op : AOp} {dst : Option Nat} {aft : List Nat}

/-- One more value. -/
def snoc : List AV → AV → List AV
  | [], v => [v]
  | a :: l, v => a :: snoc l v
theorem snoc_eq : ∀ (l : List AV) (v : AV), snoc l v = l ++ [v]
  | [], _ => rfl
  | a :: l, v => by simp [snoc, snoc_eq l v]

theorem call_le {n m : Nat} (h : n ≤ m) : CallLe (p.call n) (p.call m) := aCall_le _ _ h

theorem XO_nil : XO p all env [] vals env' H K ↔ K env' H := by
  unfold XO
  constructor
  · rintro ⟨_, m, eF, HF, h1, h2⟩
    simp only [runOps, Option.some.injEq, Prod.mk.injEq] at h1
    obtain ⟨rfl, rfl⟩ := h1
    exact h2
  · intro h
    exact ⟨by simp, 0, env', H, by simp only [runOps], h⟩

theorem XO_step {v : AV} {H1 : AHeap} (hop : ∀ n, aOp (p.call n) env vals H op = some (v, H1)) :
    XO p all env ({ op := op, dst := dst, aft := aft } :: r) vals env' H K ↔ aft.all (sameAt all env vals H1) = true ∧ XO p all env r (snoc vals v) (put env' dst v) H1 K := by
  unfold XO
  rw [snoc_eq]
  constructor
  · rintro ⟨h1, m, eF, HF, h2, h3⟩
    have hb : ∀ o, o ∈ r → o.bef = [] := fun o ho => h1 o (by simp [ho])
    simp only [runOps, wantedA, hop] at h2
    split at h2
    · rename_i hc
      simp only [Bool.and_eq_true] at hc
      refine ⟨hc.1, hb, m, eF, HF, ?_, h3⟩
      rw [runOps_hs r _ _ _ _ _ hb]; exact h2
    · simp at h2
  · rintro ⟨h0, h1, m, eF, HF, h2, h3⟩
    refine ⟨fun o ho => ?_, m, eF, HF, ?_, h3⟩
    · simp only [List.mem_cons] at ho
      rcases ho with rfl | ho
      · rfl
      · exact h1 o ho
    · simp only [runOps, wantedA, hop, h0, List.all_nil, Bool.and_true, if_true]
      rw [runOps_hs r _ _ _ _ _ h1]; exact h2

theorem XO_stuck (hop : ∀ n, aOp (p.call n) env vals H op = none) : ¬ XO p all env ({ op := op, dst := dst, aft := aft } :: r) vals env' H K := by
  rintro ⟨h1, m, eF, HF, h2, h3⟩
  simp [runOps, wantedA, hop] at h2

theorem XO_pure (hc : op.cls = .pure) : XO p all env ({ op := op, dst := dst } :: r) vals env' H K ↔ ∃ v, aPure env vals op = some v ∧ XO p all env r (snoc vals v) (put env' dst v) H K := by
  cases hv : aPure env vals op with
  | none =>
    have := XO_stuck (p := p) (all := all) (env := env) (vals := vals) (env' := env') (H := H) (K := K) (r := r) (op := op) (dst := dst) (aft := []) (fun n => by simp [aOp, hc, hv])
    exact ⟨fun h => absurd h this, fun ⟨v, h, _⟩ => by simp at h⟩
  | some v =>
    rw [XO_step (v := v) (H1 := H) (fun n => by simp [aOp, hc, hv])]
    simp

theorem XO_read (hc : op.cls = .read) : XO p all env ({ op := op, dst := dst } :: r) vals env' H K ↔ ∃ v, aRead env vals H op = some v ∧ XO p all env r (snoc vals v) (put env' dst v) H K := by
  cases hv : aRead env vals H op with
  | none =>
    have := XO_stuck (p := p) (all := all) (env := env) (vals := vals) (env' := env') (H := H) (K := K) (r := r) (op := op) (dst := dst) (aft := []) (fun n => by simp [aOp, hc, hv])
    exact ⟨fun h => absurd h this, fun ⟨v, h, _⟩ => by simp at h⟩
  | some v =>
    rw [XO_step (v := v) (H1 := H) (fun n => by simp [aOp, hc, hv])]
    simp

theorem XO_new (hc : op.cls = .new) : XO p all env ({ op := op, dst := dst } :: r) vals env' H K ↔
    ∃ q, aNew env vals op = some q ∧ XO p all env r (snoc vals (q.1 H.length)) (put env' dst (q.1 H.length)) (H ++ [some q.2]) K := by
  cases hv : aNew env vals op with
  | none =>
    have := XO_stuck (p := p) (all := all) (env := env) (vals := vals) (env' := env') (H := H) (K := K) (r := r) (op := op) (dst := dst) (aft := []) (fun n => by simp [aOp, hc, hv])
    exact ⟨fun h => absurd h this, fun ⟨v, h, _⟩ => by simp at h⟩
  | some q =>
    rw [XO_step (v := q.1 H.length) (H1 := H ++ [some q.2]) (fun n => by simp [aOp, hc, hv])]
    simp

def noCall : CallT := fun _ _ _ => none

def AOp.plainEff : AOp → Bool
  | .store .. | .append .. | .copy .. | .clear .. | .mapset .. | .delete .. => true
  | _ => false

theorem plainEff_call {op : AOp} (hc : op.plainEff = true) (c : CallT) : aOp c env vals H op = aEff noCall env vals H op := by
  cases op <;> simp [AOp.plainEff] at hc <;> simp [aOp, AOp.cls, aEff]

theorem XO_eff (hc : op.plainEff = true) : XO p all env ({ op := op, dst := dst, aft := aft } :: r) vals env' H K ↔
    ∃ q, aEff noCall env vals H op = some q ∧ aft.all (sameAt all env vals q.2) = true ∧ XO p all env r (snoc vals q.1) (put env' dst q.1) q.2 K := by
  cases hv : aEff noCall env vals H op with
  | none =>
    have := XO_stuck (p := p) (all := all) (env := env) (vals := vals) (env' := env') (H := H) (K := K) (r := r) (op := op) (dst := dst) (aft := aft) (fun n => by rw [plainEff_call hc, hv])
    exact ⟨fun h => absurd h this, fun ⟨v, h, _⟩ => by simp at h⟩
  | some q =>
    rw [XO_step (v := q.1) (H1 := q.2) (fun n => by rw [plainEff_call hc, hv])]
    simp

theorem WF.mono {f : Nat} {xs : List AV} {K K' : AV → AHeap → Prop} (h : WF p f xs H K) (hk : ∀ r H', K r H' → K' r H') : WF p f xs H K' := by
  obtain ⟨n, r, HF, h1, h2⟩ := h
  exact ⟨n, r, HF, h1, hk _ _ h2⟩

theorem XO_call_core {f : Nat} {ys : List AV} (hop : ∀ n, aOp (p.call n) env vals H op = p.call n f ys H) :
    XO p all env ({ op := op, dst := dst, aft := aft } :: r) vals env' H K ↔
      WF p f ys H (fun v H1 => aft.all (sameAt all env vals H1) = true ∧ XO p all env r (snoc vals v) (put env' dst v) H1 K) := by
  unfold XO WF
  simp only [snoc_eq]
  constructor
  · rintro ⟨h1, m, eF, HF, h2, h3⟩
    have hb : ∀ o, o ∈ r → o.bef = [] := fun o ho => h1 o (by simp [ho])
    simp only [runOps, wantedA, hop] at h2
    split at h2
    · simp at h2
    · rename_i v H1 hv
      split at h2
      · rename_i hc
        simp only [Bool.and_eq_true] at hc
        refine ⟨m, v, H1, hv, hc.1, hb, m, eF, HF, ?_, h3⟩
        rw [runOps_hs r _ _ _ _ _ hb]; exact h2
      · simp at h2
  · rintro ⟨n, v, H1, hv, h0, h1, m, eF, HF, h2, h3⟩
    refine ⟨fun o ho => ?_, max n m, eF, HF, ?_, h3⟩
    · simp only [List.mem_cons] at ho
      rcases ho with rfl | ho
      · rfl
      · exact h1 o ho
    · simp only [runOps, wantedA, hop, call_le (Nat.le_max_left n m) _ _ _ _ hv, h0, List.all_nil, Bool.and_true, if_true]
      rw [runOps_hs r _ _ [] _ _ h1]
      exact runOps_mono (call_le (Nat.le_max_right n m)) _ _ _ _ _ h2

theorem XO_call {f : Nat} {xs : List Opd} : XO p all env ({ op := .call f xs, dst := dst, aft := aft } :: r) vals env' H K ↔
    ∃ ys, avals env vals xs = some ys ∧ WF p f ys H (fun v H1 => aft.all (sameAt all env vals H1) = true ∧ XO p all env r (snoc vals v) (put env' dst v) H1 K) := by
  cases hv : avals env vals xs with
  | none =>
    have := XO_stuck (p := p) (all := all) (env := env) (vals := vals) (env' := env') (H := H) (K := K) (r := r) (op := .call f xs) (dst := dst) (aft := aft) (fun n => by simp [aOp, AOp.cls, aEff, hv])
    exact ⟨fun h => absurd h this, fun ⟨v, h, _⟩ => by simp at h⟩
  | some ys =>
    rw [XO_call_core (f := f) (ys := ys) (fun n => by simp [aOp, AOp.cls, aEff, hv])]
    simp

theorem XO_callv {g : Opd} {xs : List Opd} {f : Nat} {a c ys : List AV} (hg : aval env vals g = some (.fn f a c)) (hy : avals env vals xs = some ys) :
    XO p all env ({ op := .callv g xs, dst := dst, aft := aft } :: r) vals env' H K ↔
      WF p f (a ++ ys ++ c) H (fun v H1 => aft.all (sameAt all env vals H1) = true ∧ XO p all env r (snoc vals v) (put env' dst v) H1 K) :=
  XO_call_core (fun n => by simp [aOp, AOp.cls, aEff, hg, hy])

theorem XO_guard {g : Nat × Bool} : XO p all env ({ op := op, dst := dst, guard := some g, aft := aft } :: r) vals env' H K ↔
    ∃ b, wantedA vals (some g) = some b ∧ (b = true → XO p all env ({ op := op, dst := dst, aft := aft } :: r) vals env' H K) ∧
      (b = false → XO p all env r (snoc vals (.tup [])) (put env' dst (.tup [])) H K) := by
  unfold XO
  simp only [snoc_eq]
  constructor
  · rintro ⟨h1, m, eF, HF, h2, h3⟩
    have hb : ∀ o, o ∈ r → o.bef = [] := fun o ho => h1 o (by simp [ho])
    simp only [runOps] at h2
    split at h2
    · simp at h2
    · rename_i hw
      exact ⟨false, hw, by simp, fun _ => ⟨hb, m, eF, HF, by rw [runOps_hs r _ _ _ _ _ hb]; exact h2, h3⟩⟩
    · rename_i hw
      refine ⟨true, hw, fun _ => ⟨fun o ho => ?_, m, eF, HF, ?_, h3⟩, by simp⟩
      · simp only [List.mem_cons] at ho
        rcases ho with rfl | ho
        · rfl
        · exact hb o ho
      · simp only [runOps, wantedA]; exact h2
  · rintro ⟨b, hw, ht, hf⟩
    cases b with
    | true =>
      obtain ⟨h1, m, eF, HF, h2, h3⟩ := ht rfl
      have hb : ∀ o, o ∈ r → o.bef = [] := fun o ho => h1 o (by simp [ho])
      refine ⟨fun o ho => ?_, m, eF, HF, ?_, h3⟩
      · simp only [List.mem_cons] at ho
        rcases ho with rfl | ho
        · rfl
        · exact hb o ho
      · simp only [runOps, hw]
        simp only [runOps, wantedA] at h2
        exact h2
    | false =>
      obtain ⟨hb, m, eF, HF, h2, h3⟩ := hf rfl
      refine ⟨fun o ho => ?_, m, eF, HF, ?_, h3⟩
      · simp only [List.mem_cons] at ho
        rcases ho with rfl | ho
        · rfl
        · exact hb o ho
      · simp only [runOps, hw]
        rw [runOps_hs r _ _ _ _ _ hb]; exact h2

end

section
variable {p : Prg} {env : List AV} {H : AHeap} {K : AExit → List AV → AHeap → Prop} {a b c : ACode}

theorem WC.mono {K' : AExit → List AV → AHeap → Prop} (h : WC p c env H K) (hk : ∀ e env' H', K e env' H' → K' e env' H') : WC p c env H K' := by
  obtain ⟨m, n, e, eF, HF, h1, h2⟩ := h
  exact ⟨m, n, e, eF, HF, h1, hk _ _ _ h2⟩

theorem WC_skip : WC p .skip env H K ↔ K .normal env H :=
  ⟨fun ⟨m, n, e, eF, HF, h1, h2⟩ => by cases n <;> simp [aCode] at h1; obtain ⟨rfl, rfl, rfl⟩ := h1; exact h2, fun h => ⟨0, 1, _, _, _, rfl, h⟩⟩

theorem WC_exit {id : Nat} : WC p (.exit id) env H K ↔ K (.exit id) env H :=
  ⟨fun ⟨m, n, e, eF, HF, h1, h2⟩ => by cases n <;> simp [aCode] at h1; obtain ⟨rfl, rfl, rfl⟩ := h1; exact h2, fun h => ⟨0, 1, _, _, _, rfl, h⟩⟩

theorem WC_ret : WC p .ret env H K ↔ K .ret env H :=
  ⟨fun ⟨m, n, e, eF, HF, h1, h2⟩ => by cases n <;> simp [aCode] at h1; obtain ⟨rfl, rfl, rfl⟩ := h1; exact h2, fun h => ⟨0, 1, _, _, _, rfl, h⟩⟩

theorem WC_region {ops : List AOper} (h : XO p ops env ops [] env H (fun e H' => K .normal e H')) : WC p (.region ops) env H K := by
  obtain ⟨_, m, eF, HF, h2, h3⟩ := h
  exact ⟨m, 1, .normal, eF, HF, by simp [aCode, h2], h3⟩

theorem WC_seq : WC p (.seq a b) env H K ↔ WC p a env H (fun e env' H' => (e = .normal → WC p b env' H' K) ∧ (e ≠ .normal → K e env' H')) := by
  constructor
  · rintro ⟨m, n, e, eF, HF, h1, h2⟩
    cases n with
    | zero => simp [aCode] at h1
    | succ n =>
      simp only [aCode] at h1
      cases h3 : aCode (p.call m) n a env H with
      | none => rw [h3] at h1; simp at h1
      | some q =>
        obtain ⟨e1, env1, H1⟩ := q
        rw [h3] at h1
        refine ⟨m, n, e1, env1, H1, h3, fun he => ?_, fun he => ?_⟩
        · subst he; exact ⟨m, n, e, eF, HF, h1, h2⟩
        · cases e1 with
          | normal => exact absurd rfl he
          | exit id => simp only [Option.some.injEq, Prod.mk.injEq] at h1; obtain ⟨rfl, rfl, rfl⟩ := h1; exact h2
          | ret => simp only [Option.some.injEq, Prod.mk.injEq] at h1; obtain ⟨rfl, rfl, rfl⟩ := h1; exact h2
  · rintro ⟨m, n, e, env1, H1, h1, h2, h3⟩
    cases e with
    | normal =>
      obtain ⟨m2, n2, e2, eF, HF, h4, h5⟩ := h2 rfl
      refine ⟨max m m2, max n n2 + 1, e2, eF, HF, ?_, h5⟩
      simp only [aCode]
      rw [aCode_mono (call_le (Nat.le_max_left m m2)) n (max n n2) a env H (Nat.le_max_left _ _) h1]
      exact aCode_mono (call_le (Nat.le_max_right m m2)) n2 (max n n2) b env1 H1 (Nat.le_max_right _ _) h4
    | exit id => exact ⟨m, n + 1, _, _, _, by simp only [aCode, h1], h3 (by simp)⟩
    | ret => exact ⟨m, n + 1, _, _, _, by simp only [aCode, h1], h3 (by simp)⟩

theorem WC_cond {x : Opd} : WC p (.cond x a b) env H K ↔ ∃ t, aval env [] x = some (.bool t) ∧ (t = true → WC p a env H K) ∧ (t = false → WC p b env H K) := by
  constructor
  · rintro ⟨m, n, e, eF, HF, h1, h2⟩
    cases n with
    | zero => simp [aCode] at h1
    | succ n =>
      simp only [aCode] at h1
      split at h1
      · rename_i t ht
        refine ⟨t, ht, fun he => ?_, fun he => ?_⟩ <;> subst he
        · exact ⟨m, n, e, eF, HF, h1, h2⟩
        · exact ⟨m, n, e, eF, HF, h1, h2⟩
      · simp at h1
  · rintro ⟨t, ht, h1, h2⟩
    cases t with
    | true => obtain ⟨m, n, e, eF, HF, h3, h4⟩ := h1 rfl; exact ⟨m, n + 1, e, eF, HF, by simp only [aCode, ht]; exact h3, h4⟩
    | false => obtain ⟨m, n, e, eF, HF, h3, h4⟩ := h2 rfl; exact ⟨m, n + 1, e, eF, HF, by simp only [aCode, ht]; exact h3, h4⟩

theorem WC_block {id : Nat} : WC p (.block id a) env H K ↔ WC p a env H (fun e env' H' => (e = .exit id → K .normal env' H') ∧ (e ≠ .exit id → K e env' H')) := by
  constructor
  · rintro ⟨m, n, e, eF, HF, h1, h2⟩
    cases n with
    | zero => simp [aCode] at h1
    | succ n =>
      simp only [aCode] at h1
      cases h3 : aCode (p.call m) n a env H with
      | none => rw [h3] at h1; simp at h1
      | some q =>
        obtain ⟨e1, env1, H1⟩ := q
        rw [h3] at h1
        refine ⟨m, n, e1, env1, H1, h3, fun he => ?_, fun he => ?_⟩
        · subst he
          simp only [if_true, Option.some.injEq, Prod.mk.injEq] at h1
          obtain ⟨rfl, rfl, rfl⟩ := h1; exact h2
        · cases e1 with
          | exit id' =>
            simp only at h1
            rw [if_neg (fun e => he (by rw [e]))] at h1
            simp only [Option.some.injEq, Prod.mk.injEq] at h1
            obtain ⟨rfl, rfl, rfl⟩ := h1; exact h2
          | normal => simp only [Option.some.injEq, Prod.mk.injEq] at h1; obtain ⟨rfl, rfl, rfl⟩ := h1; exact h2
          | ret => simp only [Option.some.injEq, Prod.mk.injEq] at h1; obtain ⟨rfl, rfl, rfl⟩ := h1; exact h2
  · rintro ⟨m, n, e, env1, H1, h1, h2, h3⟩
    by_cases he : e = .exit id
    · subst he
      exact ⟨m, n + 1, _, _, _, by simp only [aCode, h1, if_true], h2 rfl⟩
    · refine ⟨m, n + 1, e, env1, H1, ?_, h3 he⟩
      cases e with
      | exit id' => simp only [aCode, h1]; rw [if_neg (fun e => he (by rw [e]))]
      | normal => simp only [aCode, h1]
      | ret => simp only [aCode, h1]

theorem WC_loop (I : Nat → List AV → AHeap → Prop) (step : ∀ n env H, I n env H → WC p c env H (fun e env' H' => (e = .normal → ∃ m, m < n ∧ I m env' H') ∧ (e ≠ .normal → K e env' H'))) :
    ∀ (n : Nat) (env : List AV) (H : AHeap), I n env H → WC p (.loop c) env H K := by
  intro n
  induction n using Nat.strongRecOn with
  | _ n ih =>
    intro env H hI
    obtain ⟨m, k, e, env1, H1, h1, h2, h3⟩ := step n env H hI
    cases e with
    | normal =>
      obtain ⟨n', hn', hI'⟩ := h2 rfl
      obtain ⟨m2, k2, e2, eF, HF, h4, h5⟩ := ih n' hn' env1 H1 hI'
      refine ⟨max m m2, max k k2 + 1, e2, eF, HF, ?_, h5⟩
      simp only [aCode]
      rw [aCode_mono (call_le (Nat.le_max_left m m2)) k (max k k2) c env H (Nat.le_max_left _ _) h1]
      exact aCode_mono (call_le (Nat.le_max_right m m2)) k2 (max k k2) (.loop c) env1 H1 (Nat.le_max_right _ _) h4
    | exit id => exact ⟨m, k + 1, _, _, _, by simp only [aCode, h1], h3 (by simp)⟩
    | ret => exact ⟨m, k + 1, _, _, _, by simp only [aCode, h1], h3 (by simp)⟩

theorem WF_fun {f : Nat} {fn : AFun} {xs : List AV} {K : AV → AHeap → Prop} (ho : p.orc f = none) (hp : p.prog f = some fn) (hl : xs.length = fn.nargs)
    (h : WC p fn.body (env0 fn.ps xs) H (fun e env H' => (e = .normal ∨ e = .ret) ∧ ∃ vs, aRes env H' fn.res = some vs ∧ K (single vs) H')) : WF p f xs H K := by
  obtain ⟨m, n, e, eF, HF, h1, he, vs, h2, h3⟩ := h
  refine ⟨max m n + 1, single vs, HF, ?_, h3⟩
  have h4 := aCode_mono (call_le (Nat.le_max_left m n)) n (max m n) _ _ _ (Nat.le_max_right m n) h1
  unfold Prg.call at h4
  simp only [Prg.call, aCall, ho, hp, aBody, hl, if_true, h4]
  rcases he with rfl | rfl <;> simp only [h2]

theorem WF_orc {f : Nat} {g : List AV → AHeap → Option (AV × AHeap)} {xs : List AV} {K : AV → AHeap → Prop} {r : AV} {H' : AHeap} (ho : p.orc f = some g) (hr : g xs H = some (r, H')) (h : K r H') : WF p f xs H K :=
  ⟨1, r, H', by simp only [Prg.call, aCall, ho]; exact hr, h⟩

end
end Go.Am

/- The rules of AmY in the form in which simp runs through a text by itself. What comes behind an operation is kept as data (kSeq, kBlock, kOp ..), so that it is not looked at before the operation is done. -/
namespace Go.Am

abbrev KC := AExit → List AV → AHeap → Prop
abbrev KO := List AV → AHeap → Prop

def bindV {α : Type} (o : Option α) (K : α → Prop) : Prop := match o with
  | some v => K v
  | none => False
theorem bindV_some {α : Type} (v : α) (K : α → Prop) : bindV (some v) K = K v := rfl
theorem bindV_none {α : Type} (K : α → Prop) : bindV (none : Option α) K = False := rfl
theorem bindV_ite {α : Type} (c : Prop) [Decidable c] (o : Option α) (K : α → Prop) : bindV (if c then o else none) K = (c ∧ bindV o K) := by
  by_cases h : c <;> simp [h, bindV]
theorem bindV_ite' {α : Type} (c : Prop) [Decidable c] (o : Option α) (K : α → Prop) : bindV (if c then none else o) K = (¬ c ∧ bindV o K) := by
  by_cases h : c <;> simp [h, bindV]
theorem bindV_iff {α : Type} {o : Option α} {K : α → Prop} : bindV o K ↔ ∃ v, o = some v ∧ K v := by
  cases o <;> simp [bindV]

/-- Behind an operation that leaves the heap. -/
def kOp (p : Prg) (all : List AOper) (env : List AV) (r : List AOper) (vals env' : List AV) (dst : Option Nat) (H : AHeap) (K : KO) : AV → Prop :=
  fun v => XO p all env r (snoc vals v) (put env' dst v) H K
/-- Behind an operation that makes a block. -/
def kNew (p : Prg) (all : List AOper) (env : List AV) (r : List AOper) (vals env' : List AV) (dst : Option Nat) (H : AHeap) (K : KO) : ((Nat → AV) × Blk) → Prop :=
  fun q => XO p all env r (snoc vals (q.1 H.length)) (put env' dst (q.1 H.length)) (H ++ [some q.2]) K
/-- Behind an operation that changes the heap. -/
def kEff (p : Prg) (all : List AOper) (env : List AV) (r : List AOper) (vals env' : List AV) (dst : Option Nat) (K : KO) : (AV × AHeap) → Prop :=
  fun q => XO p all env r (snoc vals q.1) (put env' dst q.1) q.2 K
/-- .. where reads ahead of it are looked at again. -/
def kEffA (p : Prg) (all : List AOper) (env : List AV) (r : List AOper) (vals env' : List AV) (dst : Option Nat) (aft : List Nat) (K : KO) : (AV × AHeap) → Prop :=
  fun q => aft.all (sameAt all env vals q.2) = true ∧ XO p all env r (snoc vals q.1) (put env' dst q.1) q.2 K
/-- Behind a call. -/
def kCall (p : Prg) (all : List AOper) (env : List AV) (r : List AOper) (vals env' : List AV) (dst : Option Nat) (K : KO) : AV → AHeap → Prop :=
  fun v H1 => XO p all env r (snoc vals v) (put env' dst v) H1 K
/-- The call itself, its arguments being there. -/
def kArgs (p : Prg) (f : Nat) (H : AHeap) (K : AV → AHeap → Prop) : List AV → Prop := fun ys => WF p f ys H K
/-- Behind a region. -/
def kReg (K : KC) : KO := fun e H => K .normal e H
def kSeq (p : Prg) (b : ACode) (K : KC) : KC := fun e env H => match e with
  | .normal => WC p b env H K
  | e => K e env H
def kBlock (id : Nat) (K : KC) : KC := fun e env H => match e with
  | .exit i => if i = id then K .normal env H else K (.exit i) env H
  | e => K e env H
/-- Behind a function's text. -/
def kFun (res : List ResA) (K : AV → AHeap → Prop) : KC := fun e env H => match e with
  | .exit _ => False
  | _ => bindV (aRes env H res) fun vs => K (single vs) H

def onB (o : Option AV) (p : Prg) (a b : ACode) (env : List AV) (H : AHeap) (K : KC) : Prop := match o with
  | some (.bool t) => (t = true → WC p a env H K) ∧ (t = false → WC p b env H K)
  | _ => False
/-- Behind a guard. -/
def onG (o : Option Bool) (p : Prg) (all : List AOper) (env : List AV) (op : AOp) (dst : Option Nat) (r : List AOper) (vals env' : List AV) (H : AHeap) (K : KO) : Prop := match o with
  | some t => (t = true → XO p all env ({ op := op, dst := dst } :: r) vals env' H K) ∧ (t = false → XO p all env r (snoc vals (.tup [])) (put env' dst (.tup [])) H K)
  | none => False

section
variable {p : Prg} {all : List AOper} {env vals env' : List AV} {H : AHeap} {K : KO} {r : List AOper} {op : AOp} {dst : Option Nat}

theorem zXO_nil : XO p all env [] vals env' H K = K env' H := propext XO_nil
theorem zXO_pure (hc : op.cls = .pure) : XO p all env ({ op := op, dst := dst } :: r) vals env' H K = bindV (aPure env vals op) (kOp p all env r vals env' dst H K) :=
  propext ((XO_pure hc).trans bindV_iff.symm)
theorem zXO_read (hc : op.cls = .read) : XO p all env ({ op := op, dst := dst } :: r) vals env' H K = bindV (aRead env vals H op) (kOp p all env r vals env' dst H K) :=
  propext ((XO_read hc).trans bindV_iff.symm)
theorem zXO_new (hc : op.cls = .new) : XO p all env ({ op := op, dst := dst } :: r) vals env' H K = bindV (aNew env vals op) (kNew p all env r vals env' dst H K) :=
  propext ((XO_new hc).trans bindV_iff.symm)
theorem zXO_eff (hc : op.plainEff = true) : XO p all env ({ op := op, dst := dst } :: r) vals env' H K = bindV (aEff noCall env vals H op) (kEff p all env r vals env' dst K) := by
  refine propext ((XO_eff hc).trans ?_)
  rw [bindV_iff]
  simp [kEff]
theorem zXO_effA {j : Nat} {js : List Nat} (hc : op.plainEff = true) : XO p all env ({ op := op, dst := dst, aft := j :: js } :: r) vals env' H K = bindV (aEff noCall env vals H op) (kEffA p all env r vals env' dst (j :: js) K) := by
  refine propext ((XO_eff hc).trans ?_)
  rw [bindV_iff]
  simp [kEffA]
theorem kEffA_at {aft : List Nat} (q : AV × AHeap) : kEffA p all env r vals env' dst aft K q = (aft.all (sameAt all env vals q.2) = true ∧ XO p all env r (snoc vals q.1) (put env' dst q.1) q.2 K) := rfl
theorem zXO_call {f : Nat} {xs : List Opd} : XO p all env ({ op := .call f xs, dst := dst } :: r) vals env' H K = bindV (avals env vals xs) (kArgs p f H (kCall p all env r vals env' dst K)) := by
  refine propext (XO_call.trans ?_)
  rw [bindV_iff]
  simp [kArgs, kCall, WF]
theorem zXO_guard {g : Nat × Bool} : XO p all env ({ op := op, dst := dst, guard := some g } :: r) vals env' H K = onG (wantedA vals (some g)) p all env op dst r vals env' H K := by
  refine propext (XO_guard.trans ?_)
  unfold onG
  cases wantedA vals (some g) <;> simp

theorem kOp_at (v : AV) : kOp p all env r vals env' dst H K v = XO p all env r (snoc vals v) (put env' dst v) H K := rfl
theorem kNew_at (q : (Nat → AV) × Blk) : kNew p all env r vals env' dst H K q = XO p all env r (snoc vals (q.1 H.length)) (put env' dst (q.1 H.length)) (H ++ [some q.2]) K := rfl
theorem kEff_at (q : AV × AHeap) : kEff p all env r vals env' dst K q = XO p all env r (snoc vals q.1) (put env' dst q.1) q.2 K := rfl
theorem kCall_at (v : AV) (H1 : AHeap) : kCall p all env r vals env' dst K v H1 = XO p all env r (snoc vals v) (put env' dst v) H1 K := rfl
theorem kArgs_at {f : Nat} {K : AV → AHeap → Prop} (ys : List AV) : kArgs p f H K ys = WF p f ys H K := rfl
theorem onG_true : onG (some true) p all env op dst r vals env' H K = XO p all env ({ op := op, dst := dst } :: r) vals env' H K := by simp [onG]
theorem onG_false : onG (some false) p all env op dst r vals env' H K = XO p all env r (snoc vals (.tup [])) (put env' dst (.tup [])) H K := by simp [onG]
theorem onG_bool (t : Bool) : onG (some t) p all env op dst r vals env' H K =
    ((t = true → XO p all env ({ op := op, dst := dst } :: r) vals env' H K) ∧ (t = false → XO p all env r (snoc vals (.tup [])) (put env' dst (.tup [])) H K)) := rfl
end

section
variable {p : Prg} {env : List AV} {H : AHeap} {K : KC} {a b c : ACode}

theorem zWC_region {ops : List AOper} (hb : ops.all (fun o => o.bef.isEmpty) = true) : WC p (.region ops) env H K = XO p ops env ops [] env H (kReg K) := by
  refine propext ⟨?_, fun h => WC_region h⟩
  rintro ⟨m, n, e, eF, HF, h1, h2⟩
  cases n with
  | zero => simp [aCode] at h1
  | succ n =>
    simp only [aCode] at h1
    split at h1 <;> simp only [Option.some.injEq, Prod.mk.injEq, reduceCtorEq] at h1
    rename_i e1 H1 h3
    obtain ⟨rfl, rfl, rfl⟩ := h1
    refine ⟨fun o ho => ?_, m, _, _, h3, h2⟩
    have := List.all_eq_true.1 hb o ho
    simpa using this
theorem kReg_at (e : List AV) : kReg K e H = K .normal e H := rfl
theorem zWC_seq : WC p (.seq a b) env H K = WC p a env H (kSeq p b K) := by
  refine propext (WC_seq.trans ?_)
  have : (fun (e : AExit) (env' : List AV) (H' : AHeap) => (e = .normal → WC p b env' H' K) ∧ (e ≠ .normal → K e env' H')) = kSeq p b K := by
    funext e env' H'
    cases e <;> simp [kSeq]
  rw [this]
theorem kSeq_normal : kSeq p b K .normal env H = WC p b env H K := rfl
theorem kSeq_ret : kSeq p b K .ret env H = K .ret env H := rfl
theorem kSeq_exit (i : Nat) : kSeq p b K (.exit i) env H = K (.exit i) env H := rfl
theorem zWC_skip : WC p .skip env H K = K .normal env H := propext WC_skip
theorem zWC_exit {id : Nat} : WC p (.exit id) env H K = K (.exit id) env H := propext WC_exit
theorem zWC_ret : WC p .ret env H K = K .ret env H := propext WC_ret
theorem zWC_cond {x : Opd} : WC p (.cond x a b) env H K = onB (aval env [] x) p a b env H K := by
  refine propext (WC_cond.trans ?_)
  unfold onB
  constructor
  · rintro ⟨t, h, h1⟩; rw [h]; exact h1
  · intro h
    split at h
    · rename_i t ht; exact ⟨t, ht, h⟩
    · exact h.elim
theorem onB_true : onB (some (.bool true)) p a b env H K = WC p a env H K := by simp [onB]
theorem onB_false : onB (some (.bool false)) p a b env H K = WC p b env H K := by simp [onB]
theorem onB_bool (t : Bool) : onB (some (.bool t)) p a b env H K = ((t = true → WC p a env H K) ∧ (t = false → WC p b env H K)) := rfl
theorem zWC_block {id : Nat} : WC p (.block id a) env H K = WC p a env H (kBlock id K) := by
  refine propext (WC_block.trans ?_)
  have : (fun (e : AExit) (env' : List AV) (H' : AHeap) => (e = .exit id → K .normal env' H') ∧ (e ≠ .exit id → K e env' H')) = kBlock id K := by
    funext e env' H'
    cases e with
    | exit i => by_cases h : i = id <;> simp [kBlock, h]
    | _ => simp [kBlock]
  rw [this]
theorem kBlock_normal (id : Nat) : kBlock id K .normal env H = K .normal env H := rfl
theorem kBlock_ret (id : Nat) : kBlock id K .ret env H = K .ret env H := rfl
theorem kBlock_exit (id i : Nat) : kBlock id K (.exit i) env H = if i = id then K .normal env H else K (.exit i) env H := rfl
theorem kFun_normal (res : List ResA) (K : AV → AHeap → Prop) : kFun res K .normal env H = bindV (aRes env H res) fun vs => K (single vs) H := rfl
theorem kFun_ret (res : List ResA) (K : AV → AHeap → Prop) : kFun res K .ret env H = bindV (aRes env H res) fun vs => K (single vs) H := rfl

theorem zWF {f : Nat} {fn : AFun} {xs : List AV} {K : AV → AHeap → Prop} (ho : p.orc f = none) (hp : p.prog f = some fn) (hl : xs.length = fn.nargs)
    (h : WC p fn.body (env0 fn.ps xs) H (kFun fn.res K)) : WF p f xs H K :=
  WF_fun ho hp hl (h.mono fun e env' H' hk => by
    cases e <;> simp only [kFun] at hk
    · exact ⟨.inl rfl, bindV_iff.1 hk⟩
    · exact ⟨.inr rfl, bindV_iff.1 hk⟩)
end

section
variable {p : Prg} {all : List AOper} {env vals env' : List AV} {H : AHeap} {K : KO} {r : List AOper} {dst : Option Nat}
theorem z_mov {a0} : XO p all env ({ op := (.mov a0), dst := dst } :: r) vals env' H K = bindV (aPure env vals (.mov a0)) (kOp p all env r vals env' dst H K) := zXO_pure rfl
theorem z_pick {a0} {a1} {a2} : XO p all env ({ op := (.pick a0 a1 a2), dst := dst } :: r) vals env' H K = bindV (aPure env vals (.pick a0 a1 a2)) (kOp p all env r vals env' dst H K) := zXO_pure rfl
theorem z_build {a0} {a1} : XO p all env ({ op := (.build a0 a1), dst := dst } :: r) vals env' H K = bindV (aPure env vals (.build a0 a1)) (kOp p all env r vals env' dst H K) := zXO_pure rfl
theorem z_nilchk {a0} : XO p all env ({ op := (.nilchk a0), dst := dst } :: r) vals env' H K = bindV (aPure env vals (.nilchk a0)) (kOp p all env r vals env' dst H K) := zXO_pure rfl
theorem z_bin {a0} {a1} {a2} : XO p all env ({ op := (.bin a0 a1 a2), dst := dst } :: r) vals env' H K = bindV (aPure env vals (.bin a0 a1 a2)) (kOp p all env r vals env' dst H K) := zXO_pure rfl
theorem z_eqs {a0} {a1} {a2} {a3} {a4} : XO p all env ({ op := (.eqs a0 a1 a2 a3 a4), dst := dst } :: r) vals env' H K = bindV (aPure env vals (.eqs a0 a1 a2 a3 a4)) (kOp p all env r vals env' dst H K) := zXO_pure rfl
theorem z_eqnil {a0} {a1} {a2} {a3} : XO p all env ({ op := (.eqnil a0 a1 a2 a3), dst := dst } :: r) vals env' H K = bindV (aPure env vals (.eqnil a0 a1 a2 a3)) (kOp p all env r vals env' dst H K) := zXO_pure rfl
theorem z_un {a0} {a1} : XO p all env ({ op := (.un a0 a1), dst := dst } :: r) vals env' H K = bindV (aPure env vals (.un a0 a1)) (kOp p all env r vals env' dst H K) := zXO_pure rfl
theorem z_conv {a0} {a1} : XO p all env ({ op := (.conv a0 a1), dst := dst } :: r) vals env' H K = bindV (aPure env vals (.conv a0 a1)) (kOp p all env r vals env' dst H K) := zXO_pure rfl
theorem z_str2str {a0} : XO p all env ({ op := (.str2str a0), dst := dst } :: r) vals env' H K = bindV (aPure env vals (.str2str a0)) (kOp p all env r vals env' dst H K) := zXO_pure rfl
theorem z_iface {a0} {a1} : XO p all env ({ op := (.iface a0 a1), dst := dst } :: r) vals env' H K = bindV (aPure env vals (.iface a0 a1)) (kOp p all env r vals env' dst H K) := zXO_pure rfl
theorem z_func {a0} {a1} {a2} : XO p all env ({ op := (.func a0 a1 a2), dst := dst } :: r) vals env' H K = bindV (aPure env vals (.func a0 a1 a2)) (kOp p all env r vals env' dst H K) := zXO_pure rfl
theorem z_slstr {a0} {a1} {a2} : XO p all env ({ op := (.slstr a0 a1 a2), dst := dst } :: r) vals env' H K = bindV (aPure env vals (.slstr a0 a1 a2)) (kOp p all env r vals env' dst H K) := zXO_pure rfl
theorem z_faddr {a0} {a1} : XO p all env ({ op := (.faddr a0 a1), dst := dst } :: r) vals env' H K = bindV (aPure env vals (.faddr a0 a1)) (kOp p all env r vals env' dst H K) := zXO_pure rfl
theorem z_field {a0} {a1} {a2} {a3} : XO p all env ({ op := (.field a0 a1 a2 a3), dst := dst } :: r) vals env' H K = bindV (aPure env vals (.field a0 a1 a2 a3)) (kOp p all env r vals env' dst H K) := zXO_pure rfl
theorem z_iaddr {a0} {a1} {a2} : XO p all env ({ op := (.iaddr a0 a1 a2), dst := dst } :: r) vals env' H K = bindV (aPure env vals (.iaddr a0 a1 a2)) (kOp p all env r vals env' dst H K) := zXO_pure rfl
theorem z_iaddra {a0} {a1} {a2} {a3} : XO p all env ({ op := (.iaddra a0 a1 a2 a3), dst := dst } :: r) vals env' H K = bindV (aPure env vals (.iaddra a0 a1 a2 a3)) (kOp p all env r vals env' dst H K) := zXO_pure rfl
theorem z_istr {a0} {a1} : XO p all env ({ op := (.istr a0 a1), dst := dst } :: r) vals env' H K = bindV (aPure env vals (.istr a0 a1)) (kOp p all env r vals env' dst H K) := zXO_pure rfl
theorem z_iarr {a0} {a1} {a2} {a3} {a4} : XO p all env ({ op := (.iarr a0 a1 a2 a3 a4), dst := dst } :: r) vals env' H K = bindV (aPure env vals (.iarr a0 a1 a2 a3 a4)) (kOp p all env r vals env' dst H K) := zXO_pure rfl
theorem z_extract {a0} {a1} : XO p all env ({ op := (.extract a0 a1), dst := dst } :: r) vals env' H K = bindV (aPure env vals (.extract a0 a1)) (kOp p all env r vals env' dst H K) := zXO_pure rfl
theorem z_lenS {a0} : XO p all env ({ op := (.lenS a0), dst := dst } :: r) vals env' H K = bindV (aPure env vals (.lenS a0)) (kOp p all env r vals env' dst H K) := zXO_pure rfl
theorem z_lenL {a0} : XO p all env ({ op := (.lenL a0), dst := dst } :: r) vals env' H K = bindV (aPure env vals (.lenL a0)) (kOp p all env r vals env' dst H K) := zXO_pure rfl
theorem z_cap {a0} : XO p all env ({ op := (.cap a0), dst := dst } :: r) vals env' H K = bindV (aPure env vals (.cap a0)) (kOp p all env r vals env' dst H K) := zXO_pure rfl
theorem z_minmax {a0} {a1} {a2} : XO p all env ({ op := (.minmax a0 a1 a2), dst := dst } :: r) vals env' H K = bindV (aPure env vals (.minmax a0 a1 a2)) (kOp p all env r vals env' dst H K) := zXO_pure rfl
theorem z_stop : XO p all env ({ op := (.stop), dst := dst } :: r) vals env' H K = bindV (aPure env vals (.stop)) (kOp p all env r vals env' dst H K) := zXO_pure rfl
theorem z_load {a0} {a1} {a2} : XO p all env ({ op := (.load a0 a1 a2), dst := dst } :: r) vals env' H K = bindV (aRead env vals H (.load a0 a1 a2)) (kOp p all env r vals env' dst H K) := zXO_read rfl
theorem z_lookup {a0} {a1} {a2} {a3} {a4} : XO p all env ({ op := (.lookup a0 a1 a2 a3 a4), dst := dst } :: r) vals env' H K = bindV (aRead env vals H (.lookup a0 a1 a2 a3 a4)) (kOp p all env r vals env' dst H K) := zXO_read rfl
theorem z_bytes2str {a0} : XO p all env ({ op := (.bytes2str a0), dst := dst } :: r) vals env' H K = bindV (aRead env vals H (.bytes2str a0)) (kOp p all env r vals env' dst H K) := zXO_read rfl
theorem z_slsl {a0} {a1} {a2} {a3} {a4} : XO p all env ({ op := (.slsl a0 a1 a2 a3 a4), dst := dst } :: r) vals env' H K = bindV (aRead env vals H (.slsl a0 a1 a2 a3 a4)) (kOp p all env r vals env' dst H K) := zXO_read rfl
theorem z_lenM {a0} : XO p all env ({ op := (.lenM a0), dst := dst } :: r) vals env' H K = bindV (aRead env vals H (.lenM a0)) (kOp p all env r vals env' dst H K) := zXO_read rfl
theorem z_alloc {a0} : XO p all env ({ op := (.alloc a0), dst := dst } :: r) vals env' H K = bindV (aNew env vals (.alloc a0)) (kNew p all env r vals env' dst H K) := zXO_new rfl
theorem z_box {a0} : XO p all env ({ op := (.box a0), dst := dst } :: r) vals env' H K = bindV (aNew env vals (.box a0)) (kNew p all env r vals env' dst H K) := zXO_new rfl
theorem z_mkslice {a0} {a1} {a2} {a3} : XO p all env ({ op := (.mkslice a0 a1 a2 a3), dst := dst } :: r) vals env' H K = bindV (aNew env vals (.mkslice a0 a1 a2 a3)) (kNew p all env r vals env' dst H K) := zXO_new rfl
theorem z_str2bytes {a0} : XO p all env ({ op := (.str2bytes a0), dst := dst } :: r) vals env' H K = bindV (aNew env vals (.str2bytes a0)) (kNew p all env r vals env' dst H K) := zXO_new rfl
theorem z_mkmap : XO p all env ({ op := (.mkmap), dst := dst } :: r) vals env' H K = bindV (aNew env vals (.mkmap)) (kNew p all env r vals env' dst H K) := zXO_new rfl
theorem z_make {a0} {a1} {a2} {a3} {a4} : XO p all env ({ op := (.make a0 a1 a2 a3 a4), dst := dst } :: r) vals env' H K = bindV (aNew env vals (.make a0 a1 a2 a3 a4)) (kNew p all env r vals env' dst H K) := zXO_new rfl
theorem z_store {a0} {a1} {a2} : XO p all env ({ op := (.store a0 a1 a2), dst := dst } :: r) vals env' H K = bindV (aEff noCall env vals H (.store a0 a1 a2)) (kEff p all env r vals env' dst K) := zXO_eff rfl
theorem z_append {a0} {a1} {a2} {a3} {a4} : XO p all env ({ op := (.append a0 a1 a2 a3 a4), dst := dst } :: r) vals env' H K = bindV (aEff noCall env vals H (.append a0 a1 a2 a3 a4)) (kEff p all env r vals env' dst K) := zXO_eff rfl
theorem z_copy {a0} {a1} {a2} : XO p all env ({ op := (.copy a0 a1 a2), dst := dst } :: r) vals env' H K = bindV (aEff noCall env vals H (.copy a0 a1 a2)) (kEff p all env r vals env' dst K) := zXO_eff rfl
theorem z_clear {a0} {a1} : XO p all env ({ op := (.clear a0 a1), dst := dst } :: r) vals env' H K = bindV (aEff noCall env vals H (.clear a0 a1)) (kEff p all env r vals env' dst K) := zXO_eff rfl
theorem z_mapset {a0} {a1} {a2} {a3} : XO p all env ({ op := (.mapset a0 a1 a2 a3), dst := dst } :: r) vals env' H K = bindV (aEff noCall env vals H (.mapset a0 a1 a2 a3)) (kEff p all env r vals env' dst K) := zXO_eff rfl
theorem z_delete {a0} {a1} {a2} : XO p all env ({ op := (.delete a0 a1 a2), dst := dst } :: r) vals env' H K = bindV (aEff noCall env vals H (.delete a0 a1 a2)) (kEff p all env r vals env' dst K) := zXO_eff rfl
end

theorem z_store_aft {p : Prg} {all : List AOper} {env vals env' : List AV} {H : AHeap} {K : KO} {r : List AOper} {dst : Option Nat} {a0 a1 a2 j js} :
    XO p all env ({ op := .store a0 a1 a2, dst := dst, aft := j :: js } :: r) vals env' H K = bindV (aEff noCall env vals H (.store a0 a1 a2)) (kEffA p all env r vals env' dst (j :: js) K) := zXO_effA rfl

theorem snoc_nil (v : AV) : snoc [] v = [v] := rfl
theorem snoc_cons (a : AV) (l : List AV) (v : AV) : snoc (a :: l) v = a :: snoc l v := rfl
theorem put_none (env : List AV) (v : AV) : put env none v = env := rfl
theorem put_some (env : List AV) (x : Nat) (v : AV) : put env (some x) v = env.set x v := rfl

theorem btf : (true == false) = false := rfl
theorem bft : (false == true) = false := rfl

end Go.Am

/- Facts for walks through compact code: heaps that grow, slices of one's own, numbers in range. -/
namespace Go.Am

/-- What is there stays. -/
def Keeps (H H' : AHeap) : Prop := H.length ≤ H'.length ∧ ∀ i b, getB H i = some b → getB H' i = some b

theorem Keeps.refl (H : AHeap) : Keeps H H := ⟨Nat.le_refl _, fun _ _ h => h⟩
theorem Keeps.trans {a b c : AHeap} (h : Keeps a b) (k : Keeps b c) : Keeps a c := ⟨Nat.le_trans h.1 k.1, fun i x hx => k.2 i x (h.2 i x hx)⟩

theorem gb_lt {H : AHeap} {i : Nat} {b : Blk} (h : getB H i = some b) : i < H.length := by
  unfold getB at h
  rcases Nat.lt_or_ge i H.length with h' | h'
  · exact h'
  · rw [List.getElem?_eq_none h'] at h; simp at h
theorem gb_new (H : AHeap) (b : Option Blk) : getB (H ++ [b]) H.length = b := by unfold getB; simp
theorem gb_old {H : AHeap} {i : Nat} (b : Option Blk) (h : i < H.length) : getB (H ++ [b]) i = getB H i := by
  unfold getB; rw [List.getElem?_append_left h]
theorem gb_set {H : AHeap} {i : Nat} (b : Option Blk) (h : i < H.length) : getB (H.set i b) i = b := by unfold getB; simp [h]
theorem gb_set_ne {H : AHeap} {i j : Nat} (b : Option Blk) (h : i ≠ j) : getB (H.set i b) j = getB H j := by unfold getB; rw [List.getElem?_set_ne h]

theorem Keeps.push (H : AHeap) (b : Option Blk) : Keeps H (H ++ [b]) := ⟨by simp, fun i x h => by rw [gb_old b (gb_lt h)]; exact h⟩
theorem Keeps.pushed {H0 H : AHeap} (h : Keeps H0 H) (b : Option Blk) : Keeps H0 (H ++ [b]) := h.trans (.push H b)
theorem Keeps.set {H0 H : AHeap} (h : Keeps H0 H) {i : Nat} (hi : H0.length ≤ i) (b : Option Blk) : Keeps H0 (H.set i b) :=
  ⟨by simpa using h.1, fun j x hx => by rw [gb_set_ne b (by have := gb_lt hx; omega)]; exact h.2 j x hx⟩
theorem Keeps.load {H H' : AHeap} (h : Keeps H H') {i o n : Nat} {cs : List AV} (hl : loadA H i o n = some cs) : loadA H' i o n = some cs := by
  unfold loadA at *
  cases hb : getB H i with
  | none => rw [hb] at hl; simp at hl
  | some b => rw [h.2 i b hb]; rw [hb] at hl; exact hl

theorem load_at {H : AHeap} {i sz o n : Nat} {rw : Bool} {cs : List AV} (h : getB H i = some (.cells sz rw cs)) (hl : o + n ≤ cs.length) : loadA H i o n = some ((cs.drop o).take n) := by
  simp [loadA, h, hl]
theorem load_one {H : AHeap} {i sz o : Nat} {rw : Bool} {cs : List AV} {c : AV} (h : getB H i = some (.cells sz rw cs)) (hc : cs[o]? = some c) : loadA H i o 1 = some [c] := by
  have ho : o < cs.length := by
    rcases Nat.lt_or_ge o cs.length with h | h
    · exact h
    · rw [List.getElem?_eq_none h] at hc; simp at hc
  rw [load_at h (by omega)]
  rw [List.drop_eq_getElem_cons ho]
  rw [List.getElem?_eq_getElem ho] at hc
  simp only [Option.some.injEq] at hc
  simp [hc]

/-- A slice of one's own, as it is built by append: its cells. -/
def Own (H : AHeap) (b sz : Nat) (v : AV) (cs : List AV) : Prop :=
  (v = .nilsl ∧ cs = []) ∨ ∃ i n, v = .sl i 0 n ∧ b ≤ i ∧ cs.length = n * sz ∧ getB H i = some (.cells sz true cs)

theorem Own.nil (H : AHeap) (b sz : Nat) : Own H b sz .nilsl [] := .inl ⟨rfl, rfl⟩

def avId : AV → Option Nat
  | .ptr i _ | .sl i _ _ | .map i => some i
  | _ => none

/-- What a step leaves: all blocks but one. -/
def Else (H H' : AHeap) (x : Option Nat) : Prop := H.length ≤ H'.length ∧ ∀ i b, x ≠ some i → getB H i = some b → getB H' i = some b

theorem Own.keep {H H' : AHeap} {b sz : Nat} {v : AV} {cs : List AV} (h : Own H b sz v cs) (hE : ∀ i, avId v = some i → ∀ q, getB H i = some q → getB H' i = some q) : Own H' b sz v cs := by
  rcases h with h | ⟨i, n, rfl, h2, h3, h4⟩
  · exact .inl h
  · exact .inr ⟨i, n, rfl, h2, h3, hE i rfl _ h4⟩

theorem own_append {H : AHeap} {b sz bytes k : Nat} {v x : AV} {cs xs : List AV} (hO : Own H b sz v cs) (hb : b ≤ H.length) (hsz : 0 < sz) (hx : cellsOfSrc H sz x = some (k, xs)) (hxl : xs.length = k * sz)
    (hone : xs.all AV.one = true) (hfit : (cs.length / sz + k) * bytes ≤ maxRoom) :
    ∃ v' H', appendA H sz bytes v x = some (v', H') ∧ Own H' b sz v' (cs ++ xs) ∧ Else H H' (avId v) ∧ (∀ i, avId v' = some i → avId v = some i ∨ H.length ≤ i) := by
  rcases hO with ⟨rfl, rfl⟩ | ⟨i, n, rfl, h2, h3, h4⟩
  · by_cases hk : k = 0
    · subst hk
      have : xs = [] := List.length_eq_zero_iff.1 (by simpa using hxl)
      subst this
      exact ⟨.nilsl, H, by simp [appendA, hx], .inl ⟨rfl, rfl⟩, ⟨Nat.le_refl _, fun _ _ _ h => h⟩, by simp [avId]⟩
    · refine ⟨.sl H.length 0 k, H ++ [some (.cells sz true xs)], ?_, .inr ⟨H.length, k, rfl, hb, by simpa using hxl, gb_new _ _⟩, ⟨by simp, fun i q _ h => by rw [gb_old _ (gb_lt h)]; exact h⟩, fun i hi => .inr (by simp [avId] at hi; omega)⟩
      simp only [List.length_nil, Nat.zero_div, Nat.zero_add] at hfit
      simp [appendA, hx, hk, hfit]
  · have hn : cs.length / sz = n := by rw [h3]; exact Nat.mul_div_cancel n hsz
    rw [hn] at hfit
    by_cases hk : k = 0
    · subst hk
      have : xs = [] := List.length_eq_zero_iff.1 (by simpa using hxl)
      subst this
      exact ⟨.sl i 0 n, H, by simp [appendA, hx], .inr ⟨i, n, rfl, h2, by simpa using h3, by simpa using h4⟩, ⟨Nat.le_refl _, fun _ _ _ h => h⟩, by simp [avId]⟩
    · have hi := gb_lt h4
      refine ⟨.sl H.length 0 (n + k), H.set i none ++ [some (.cells sz true (cs ++ xs))], ?_, .inr ⟨H.length, n + k, rfl, hb, by rw [List.length_append, h3, hxl, Nat.add_mul], ?_⟩,
        ⟨by simp, fun j q hj h => ?_⟩, fun i hi => .inr (by simp [avId] at hi; omega)⟩
      · simp only [appendA, hx, hk, if_false, h4]
        rw [if_pos ⟨trivial, by omega, hfit, hone⟩]
        rw [List.drop_zero, List.take_of_length_le (by omega)]
      · have := gb_new (H.set i none) (some (.cells sz true (cs ++ xs)))
        rwa [List.length_set] at this
      · have hj' : i ≠ j := fun e => hj (by simp [avId, e])
        rw [gb_old _ (by rw [List.length_set]; exact gb_lt h), gb_set_ne _ hj']; exact h

/-- What is appended: a literal of one's own just made. -/
theorem src_new (H : AHeap) (sz n : Nat) (cs : List AV) (h : cs.length = n * sz) : cellsOfSrc (H ++ [some (.cells sz true cs)]) sz (.sl H.length 0 n) = some (n, cs) := by
  simp only [cellsOfSrc, gb_new]
  rw [if_pos ⟨trivial, by omega⟩, List.drop_zero, List.take_of_length_le (by omega)]

theorem wrap_i64 {x : Int} (h1 : -9223372036854775808 ≤ x) (h2 : x < 9223372036854775808) : IntKind.i64.wrap x = x := by
  simp [IntKind.wrap, IntKind.signed, IntKind.bits]; omega
theorem wrap_u8 {x : Int} (h1 : 0 ≤ x) (h2 : x < 256) : IntKind.u8.wrap x = x := by
  simp [IntKind.wrap, IntKind.signed, IntKind.bits]; omega
theorem wrap_u64 {x : Int} (h1 : 0 ≤ x) (h2 : x < 18446744073709551616) : IntKind.u64.wrap x = x := by
  simp [IntKind.wrap, IntKind.signed, IntKind.bits]; omega

theorem ieq (a b : Int) : (a == b) = decide (a = b) := by
  by_cases h : a = b <;> simp [h]
theorem ine (a b : Int) : (a != b) = !decide (a = b) := by
  by_cases h : a = b <;> simp [h]

end Go.Am

/- Slices as lists of cells. -/
namespace Go.Am

/-- v is a slice of n elements of sz cells each; 'cells': all of them. -/
def RowAt (H : AHeap) (sz : Nat) (v : AV) (n : Nat) (cells : List AV) : Prop :=
  ((v = .nilsl ∨ v = .esl) ∧ n = 0 ∧ cells = []) ∨
  ∃ i o rw cs, v = .sl i o n ∧ getB H i = some (.cells sz rw cs) ∧ o + n * sz ≤ cs.length ∧ (cs.drop o).take (n * sz) = cells

theorem RowAt.len {H : AHeap} {sz n : Nat} {v : AV} {cells : List AV} (h : RowAt H sz v n cells) : cells.length = n * sz := by
  rcases h with ⟨_, rfl, rfl⟩ | ⟨i, o, rw, cs, _, _, h3, rfl⟩
  · simp
  · rw [List.length_take, List.length_drop]; omega

theorem RowAt.keep {H H' : AHeap} {sz n : Nat} {v : AV} {cells : List AV} (h : RowAt H sz v n cells) (hk : ∀ i b, avId v = some i → getB H i = some b → getB H' i = some b) : RowAt H' sz v n cells := by
  rcases h with h | ⟨i, o, rw, cs, rfl, h2, h3, h4⟩
  · exact .inl h
  · exact .inr ⟨i, o, rw, cs, rfl, hk i _ rfl h2, h3, h4⟩

theorem RowAt.keeps {H H' : AHeap} (hk : Keeps H H') {sz n : Nat} {v : AV} {cells : List AV} (h : RowAt H sz v n cells) : RowAt H' sz v n cells :=
  h.keep (fun i b _ hb => hk.2 i b hb)

theorem RowAt.src {H : AHeap} {sz n : Nat} {v : AV} {cells : List AV} (h : RowAt H sz v n cells) : cellsOfSrc H sz v = some (n, cells) := by
  rcases h with ⟨rfl | rfl, rfl, rfl⟩ | ⟨i, o, rw, cs, rfl, h2, h3, rfl⟩
  · rfl
  · rfl
  · simp [cellsOfSrc, h2, h3]

theorem Own.row {H : AHeap} {b sz : Nat} {v : AV} {cs : List AV} (h : Own H b sz v cs) : ∃ n, RowAt H sz v n cs := by
  rcases h with ⟨rfl, rfl⟩ | ⟨i, n, rfl, h2, h3, h4⟩
  · exact ⟨0, .inl ⟨.inl rfl, rfl, rfl⟩⟩
  · exact ⟨n, .inr ⟨i, 0, true, cs, rfl, h4, by omega, by rw [List.drop_zero, List.take_of_length_le (by omega)]⟩⟩

/-- The cells of element k. -/
theorem RowAt.elem {H : AHeap} {sz n : Nat} {v : AV} {cells : List AV} (h : RowAt H sz v n cells) {k : Nat} (hk : k < n) :
    ∃ i o, v = .sl i o n ∧ ∀ j m, j + m ≤ sz → loadA H i (o + k * sz + j) m = some ((cells.drop (k * sz + j)).take m) := by
  rcases h with ⟨_, rfl, _⟩ | ⟨i, o, rw, cs, rfl, h2, h3, rfl⟩
  · omega
  · refine ⟨i, o, rfl, fun j m hjm => ?_⟩
    have hle : (k + 1) * sz ≤ n * sz := Nat.mul_le_mul_right sz hk
    rw [Nat.add_mul, Nat.one_mul] at hle
    rw [load_at h2 (by omega)]
    congr 1
    rw [List.drop_take, List.take_take, List.drop_drop, Nat.min_eq_left (by omega)]
    congr 2
    omega

/-- The number of elements, as the machine asks it. -/
theorem RowAt.lenL {H : AHeap} {sz n : Nat} {v : AV} {cells : List AV} (h : RowAt H sz v n cells) : v = .nilsl ∧ n = 0 ∨ v = .esl ∧ n = 0 ∨ ∃ i o, v = .sl i o n := by
  rcases h with ⟨rfl | rfl, rfl, _⟩ | ⟨i, o, rw, cs, rfl, _⟩
  · exact .inl ⟨rfl, rfl⟩
  · exact .inr (.inl ⟨rfl, rfl⟩)
  · exact .inr (.inr ⟨i, o, rfl⟩)

/-- len(v), as compact code computes it. -/
def lenOf : AV → Option AV
  | .sl _ _ n => some (.int .i64 n)
  | .nilsl => some (.int .i64 0)
  | .esl => some (.int .i64 0)
  | _ => none
theorem lenL_eq (env vals : List AV) (x : Opd) : aPure env vals (.lenL x) = (aval env vals x).bind lenOf := by
  simp only [aPure]
  cases h : aval env vals x with
  | none => rfl
  | some v => cases v <;> rfl
theorem RowAt.lenOf {H : AHeap} {sz n : Nat} {v : AV} {cells : List AV} (h : RowAt H sz v n cells) : lenOf v = some (.int .i64 n) := by
  rcases h.lenL with ⟨rfl, rfl⟩ | ⟨rfl, rfl⟩ | ⟨i, o, rfl⟩ <;> rfl

end Go.Am

/- Rows of elements, each told by a property of its cells; heaps with blocks at their end; parting at guards. -/
namespace Go.Am

section
variable {p : Prg} {all : List AOper} {env vals env' : List AV} {H : AHeap} {K : KO} {r : List AOper} {op : AOp} {dst : Option Nat} {a b : ACode} {KK : KC}
theorem onG_t {t : Bool} (h1 : t = true → XO p all env ({ op := op, dst := dst } :: r) vals env' H K) (h2 : t = false → XO p all env r (snoc vals (.tup [])) (put env' dst (.tup [])) H K) :
    onG (some (t == true)) p all env op dst r vals env' H K := ⟨fun h => h1 (by simpa using h), fun h => h2 (by simpa using h)⟩
theorem onG_f {t : Bool} (h1 : t = false → XO p all env ({ op := op, dst := dst } :: r) vals env' H K) (h2 : t = true → XO p all env r (snoc vals (.tup [])) (put env' dst (.tup [])) H K) :
    onG (some (t == false)) p all env op dst r vals env' H K := ⟨fun h => h1 (by simpa using h), fun h => h2 (by simpa using h)⟩
theorem onB_of {t : Bool} (h1 : t = true → WC p a env H KK) (h2 : t = false → WC p b env H KK) : onB (some (.bool t)) p a b env H KK := ⟨h1, h2⟩
end

theorem z_lenL2 {p : Prg} {all : List AOper} {env vals env' : List AV} {H : AHeap} {K : KO} {r : List AOper} {dst : Option Nat} {x : Opd} :
    XO p all env ({ op := .lenL x, dst := dst } :: r) vals env' H K = bindV ((aval env vals x).bind lenOf) (kOp p all env r vals env' dst H K) := by
  rw [z_lenL, lenL_eq]
theorem lenOf_sl (i o n : Nat) : lenOf (.sl i o n) = some (.int .i64 n) := rfl
theorem lenOf_nil : lenOf .nilsl = some (.int .i64 0) := rfl
theorem lenOf_esl : lenOf .esl = some (.int .i64 0) := rfl
theorem eqA_4 (k : IntKind) (a0 a1 a2 a3 b0 b1 b2 b3 : Int) : eqA [.int, .int, .int, .int] true (.agg [.int k a0, .int k a1, .int k a2, .int k a3]) (.agg [.int k b0, .int k b1, .int k b2, .int k b3]) =
    some (a0 == b0 && (a1 == b1 && (a2 == b2 && a3 == b3))) := by
  simp only [eqA, leafsEq, if_true, List.length_cons, List.length_nil, and_self]
  cases a0 == b0 <;> cases a1 == b1 <;> cases a2 == b2 <;> cases a3 == b3 <;> rfl
theorem eqA_b (a b : Bool) : eqA [.bool] false (.bool a) (.bool b) = some (a == b) := by cases a <;> cases b <;> rfl

theorem len_lt1 (H : AHeap) (a : Option Blk) : (H.length < (H ++ [a]).length) = True := by simp
theorem len_lt2 (H : AHeap) (a b : Option Blk) : (H.length < (H ++ [a] ++ [b]).length) = True := by simp <;> omega
theorem len_lt3 (H : AHeap) (a b c : Option Blk) : (H.length < (H ++ [a] ++ [b] ++ [c]).length) = True := by simp <;> omega
theorem len_lt4 (H : AHeap) (a b c d : Option Blk) : (H.length < (H ++ [a] ++ [b] ++ [c] ++ [d]).length) = True := by simp <;> omega

theorem load_new {H : AHeap} {sz o n : Nat} {rw : Bool} {cs : List AV} : loadA (H ++ [some (.cells sz rw cs)]) H.length o n = if o + n ≤ cs.length then some ((cs.drop o).take n) else none := by
  simp [loadA, gb_new]
theorem load_old {H : AHeap} {i o n : Nat} {b : Option Blk} (h : i < H.length) : loadA (H ++ [b]) i o n = loadA H i o n := by
  simp [loadA, gb_old b h]
theorem store_new {H : AHeap} {sz o : Nat} {cs vs : List AV} : storeA (H ++ [some (.cells sz true cs)]) H.length o vs =
    if o + vs.length ≤ cs.length then (if vs.all AV.one = true then some (H ++ [some (.cells sz true (splice cs o vs))]) else none) else none := by
  simp only [storeA, gb_new]
  by_cases h : o + vs.length ≤ cs.length <;> cases h2 : vs.all AV.one <;> simp [h, -List.all_eq_true]
theorem store_old {H : AHeap} {i o : Nat} {vs : List AV} {b : Option Blk} (h : i < H.length) : storeA (H ++ [b]) i o vs = (storeA H i o vs).map (· ++ [b]) := by
  simp only [storeA, gb_old b h]
  cases h2 : getB H i with
  | none => rfl
  | some q => cases q with
    | map es => rfl
    | cells sz rw cs =>
      cases rw with
      | false => rfl
      | true =>
        simp only
        split
        · simp only [Option.map_some]
          rw [List.set_append_left _ _ h]
        · rfl

theorem Keeps.get {H H' : AHeap} (h : Keeps H H') {i : Nat} {b : Blk} (hb : getB H i = some b) : getB H' i = some b := h.2 i b hb
theorem gb_push {H : AHeap} {i : Nat} {b : Blk} (c : Option Blk) (h : getB H i = some b) : getB (H ++ [c]) i = some b := by rw [gb_old c (gb_lt h)]; exact h
theorem load_of {H : AHeap} {i sz : Nat} {rw : Bool} {cs : List AV} (h : getB H i = some (.cells sz rw cs)) (o n : Nat) : loadA H i o n = if o + n ≤ cs.length then some ((cs.drop o).take n) else none := by
  simp [loadA, h]
theorem store_of {H : AHeap} {i sz : Nat} {cs : List AV} (h : getB H i = some (.cells sz true cs)) (o : Nat) (vs : List AV) : storeA H i o vs =
    if o + vs.length ≤ cs.length then (if vs.all AV.one = true then some (H.set i (some (.cells sz true (splice cs o vs)))) else none) else none := by
  simp only [storeA, h]
  by_cases h : o + vs.length ≤ cs.length <;> cases h2 : vs.all AV.one <;> simp [h, -List.all_eq_true]

theorem Keeps.p1 (H : AHeap) (a : Option Blk) : Keeps H (H ++ [a]) := .push H a
theorem Keeps.p2 (H : AHeap) (a b : Option Blk) : Keeps H (H ++ [a] ++ [b]) := (Keeps.p1 H a).pushed b
theorem Keeps.p3 (H : AHeap) (a b c : Option Blk) : Keeps H (H ++ [a] ++ [b] ++ [c]) := (Keeps.p2 H a b).pushed c

/-- v is a slice whose elements are told by P. -/
def Rows {α : Type} (sz : Nat) (P : AHeap → α → List AV → Prop) (H : AHeap) (v : AV) (xs : List α) : Prop :=
  ∃ rs : List (List AV), RowAt H sz v xs.length rs.flatten ∧ rs.length = xs.length ∧ ∀ (k : Nat) (x : α), xs[k]? = some x → ∃ r, rs[k]? = some r ∧ r.length = sz ∧ P H x r

def Mono {α : Type} (P : AHeap → α → List AV → Prop) : Prop := ∀ H H' x r, Keeps H H' → P H x r → P H' x r

theorem Rows.keeps {α : Type} {sz : Nat} {P : AHeap → α → List AV → Prop} (hP : Mono P) {H H' : AHeap} (hk : Keeps H H') {v : AV} {xs : List α} (h : Rows sz P H v xs) : Rows sz P H' v xs := by
  obtain ⟨rs, h1, h2, h3⟩ := h
  exact ⟨rs, h1.keeps hk, h2, fun k x hx => by obtain ⟨r, a, b, c⟩ := h3 k x hx; exact ⟨r, a, b, hP _ _ _ _ hk c⟩⟩

theorem Rows.lenOf {α : Type} {sz : Nat} {P : AHeap → α → List AV → Prop} {H : AHeap} {v : AV} {xs : List α} (h : Rows sz P H v xs) : lenOf v = some (.int .i64 xs.length) := by
  obtain ⟨rs, h1, _⟩ := h; exact h1.lenOf

theorem Rows.nil {α : Type} {sz : Nat} {P : AHeap → α → List AV → Prop} {H : AHeap} : Rows sz P H .nilsl ([] : List α) :=
  ⟨[], .inl ⟨.inl rfl, rfl, rfl⟩, rfl, fun k x hx => by simp at hx⟩
theorem Rows.esl {α : Type} {sz : Nat} {P : AHeap → α → List AV → Prop} {H : AHeap} : Rows sz P H .esl ([] : List α) :=
  ⟨[], .inl ⟨.inr rfl, rfl, rfl⟩, rfl, fun k x hx => by simp at hx⟩

theorem flat_at {sz : Nat} : ∀ (rs : List (List AV)) (k : Nat) (r : List AV), (∀ (j : Nat) (x : List AV), rs[j]? = some x → x.length = sz) → rs[k]? = some r →
    ∀ j m, j + m ≤ sz → ((rs.flatten.drop (k * sz + j)).take m) = (r.drop j).take m
  | [], k, r, _, h => by simp at h
  | q :: rs, 0, r, hl, h => by
    intro j m hjm
    simp only [List.getElem?_cons_zero, Option.some.injEq] at h
    subst h
    have := hl 0 q rfl
    rw [Nat.zero_mul, Nat.zero_add, List.flatten_cons, List.drop_append_of_le_length (by omega), List.take_append_of_le_length (by rw [List.length_drop]; omega)]
  | q :: rs, k + 1, r, hl, h => by
    intro j m hjm
    have h1 := hl 0 q rfl
    have := flat_at rs k r (fun j x hx => hl (j + 1) x (by simpa using hx)) (by simpa using h) j m hjm
    rw [List.flatten_cons, ← this]
    have e : (k + 1) * sz + j = q.length + (k * sz + j) := by rw [h1, Nat.add_mul, Nat.one_mul]; omega
    rw [e, List.drop_append, List.drop_eq_nil_of_le (by omega), List.nil_append]
    congr 2; omega

theorem Rows.elem {α : Type} {sz : Nat} {P : AHeap → α → List AV → Prop} {H : AHeap} {v : AV} {xs : List α} (h : Rows sz P H v xs) {k : Nat} {x : α} (hx : xs[k]? = some x) :
    ∃ i o r, v = .sl i o xs.length ∧ r.length = sz ∧ P H x r ∧ ∀ j m, j + m ≤ sz → loadA H i (o + k * sz + j) m = some ((r.drop j).take m) := by
  obtain ⟨rs, h1, h2, h3⟩ := h
  have hk : k < xs.length := by
    rcases Nat.lt_or_ge k xs.length with h | h
    · exact h
    · rw [List.getElem?_eq_none h] at hx; simp at hx
  obtain ⟨r, a, b, c⟩ := h3 k x hx
  obtain ⟨i, o, rfl, e⟩ := h1.elem hk
  refine ⟨i, o, r, rfl, b, c, fun j m hjm => ?_⟩
  rw [e j m hjm]
  congr 1
  refine flat_at rs k r (fun j x hx => ?_) a j m hjm
  have hj : j < xs.length := by
    rcases Nat.lt_or_ge j rs.length with h | h
    · omega
    · rw [List.getElem?_eq_none h] at hx; simp at hx
  obtain ⟨r', a', b', _⟩ := h3 j xs[j] (List.getElem?_eq_getElem hj)
  rw [a'] at hx; simp only [Option.some.injEq] at hx; subst hx; exact b'

/-- Numbers. -/
def IntP (_ : AHeap) (x : Int) (r : List AV) : Prop := r = [.int .i64 x]
theorem IntP.mono : Mono IntP := fun _ _ _ _ _ h => h
abbrev Ints := Rows 1 IntP

theorem flat_one (xs : List Int) : (xs.map fun x => [AV.int .i64 x]).flatten = xs.map (AV.int .i64) := by
  induction xs with
  | nil => rfl
  | cons a l ih => simp [ih]

theorem ints_of {H : AHeap} {v : AV} {xs : List Int} (h : RowAt H 1 v xs.length (xs.map (AV.int .i64))) : Ints H v xs := by
  refine ⟨xs.map fun x => [.int .i64 x], ?_, by simp, fun k x hx => ⟨[.int .i64 x], by simp [hx], rfl, rfl⟩⟩
  rw [flat_one]; exact h
theorem Rows.ints {H : AHeap} {v : AV} {xs : List Int} (h : Ints H v xs) : RowAt H 1 v xs.length (xs.map (AV.int .i64)) := by
  obtain ⟨rs, h1, h2, h3⟩ := h
  have : rs.flatten = xs.map (AV.int .i64) := by
    have e : rs = xs.map fun x => [.int .i64 x] := by
      apply List.ext_getElem?
      intro k
      rw [List.getElem?_map]
      cases hx : xs[k]? with
      | none =>
        rw [List.getElem?_eq_none_iff] at hx
        simp [List.getElem?_eq_none (show rs.length ≤ k by omega)]
      | some x => obtain ⟨r, a, b, c⟩ := h3 k x hx; rw [a, c]; rfl
    rw [e, flat_one]
  rw [this] at h1; exact h1
theorem Rows.int {H : AHeap} {v : AV} {xs : List Int} (h : Ints H v xs) {k : Nat} {x : Int} (hx : xs[k]? = some x) : ∃ i o, v = .sl i o xs.length ∧ loadA H i (o + k) 1 = some [.int .i64 x] := by
  obtain ⟨i, o, r, rfl, h1, h2, h3⟩ := h.elem hx
  refine ⟨i, o, rfl, ?_⟩
  have := h3 0 1 (by omega)
  rw [h2] at this
  simpa using this

/-- Texts. -/
def StrP (_ : AHeap) (x : List UInt8) (r : List AV) : Prop := r = [.str x]
theorem StrP.mono : Mono StrP := fun _ _ _ _ _ h => h

/-- A node of a tree. -/
structure Nd where
  op : Int
  s0 : Int
  s1 : Int
  s2 : Int
  s3 : Int
  kids : List Int
  lo : Int
  hi : Int
  name : List UInt8
  deriving Inhabited, DecidableEq

def ndRow (n : Nd) (kv : AV) : List AV := [.int .u8 n.op, .int .u64 n.s0, .int .u64 n.s1, .int .u64 n.s2, .int .u64 n.s3, kv, .int .i64 n.lo, .int .i64 n.hi, .str n.name]
def i64In (x : Int) : Prop := -9223372036854775808 ≤ x ∧ x < 9223372036854775808
def u64In (x : Int) : Prop := 0 ≤ x ∧ x < 18446744073709551616
structure Nd.Ok (n : Nd) : Prop where
  op : 0 ≤ n.op ∧ n.op < 256
  s0 : u64In n.s0
  s1 : u64In n.s1
  s2 : u64In n.s2
  s3 : u64In n.s3
  kids : ∀ k, k ∈ n.kids → i64In k
  lo : i64In n.lo
  hi : i64In n.hi
  klen : n.kids.length < 9223372036854775808
  name : n.name.length < 9223372036854775808
def NdP (H : AHeap) (n : Nd) (r : List AV) : Prop := n.Ok ∧ ∃ kv, r = ndRow n kv ∧ Ints H kv n.kids
theorem NdP.mono : Mono NdP := fun _ _ _ _ hk h => ⟨h.1, by obtain ⟨kv, a, b⟩ := h.2; exact ⟨kv, a, Rows.keeps IntP.mono hk b⟩⟩
abbrev Nds := Rows 9 NdP
theorem Rows.nd {H : AHeap} {v : AV} {l : List Nd} (h : Nds H v l) {k : Nat} {n : Nd} (hx : l[k]? = some n) :
    ∃ i o kv, v = .sl i o l.length ∧ n.Ok ∧ Ints H kv n.kids ∧ ∀ j m, j + m ≤ 9 → loadA H i (o + k * 9 + j) m = some (((ndRow n kv).drop j).take m) := by
  obtain ⟨i, o, r, rfl, h1, ⟨hok, kv, rfl, hkv⟩, h3⟩ := h.elem hx
  exact ⟨i, o, kv, rfl, hok, hkv, h3⟩

def zeroS (n : Nd) : Prop := n.s0 = 0 ∧ n.s1 = 0 ∧ n.s2 = 0 ∧ n.s3 = 0

end Go.Am

/- Slices of one's own: cells that may be written; loops once round. -/
namespace Go.Am

-- ---------------------------------------------------------------- loops
def kLoop (p : Prg) (c : ACode) (K : KC) : KC := fun e env H => match e with
  | .normal => WC p (.loop c) env H K
  | e => K e env H
section
variable {p : Prg} {env : List AV} {H : AHeap} {K : KC} {c : ACode} {I : Nat → List AV → AHeap → Prop} {n : Nat}
theorem kLoop_normal : kLoop p c K .normal env H = WC p (.loop c) env H K := rfl
theorem kLoop_ret : kLoop p c K .ret env H = K .ret env H := rfl
theorem kLoop_exit (i : Nat) : kLoop p c K (.exit i) env H = K (.exit i) env H := rfl
theorem WC_unroll (h : WC p c env H (kLoop p c K)) : WC p (.loop c) env H K := by
  obtain ⟨m, k, e, env1, H1, h1, h2⟩ := h
  cases e with
  | normal =>
    obtain ⟨m2, k2, e2, eF, HF, h4, h5⟩ := h2
    refine ⟨max m m2, max k k2 + 1, e2, eF, HF, ?_, h5⟩
    simp only [aCode]
    rw [aCode_mono (call_le (Nat.le_max_left m m2)) k (max k k2) c env H (Nat.le_max_left _ _) h1]
    exact aCode_mono (call_le (Nat.le_max_right m m2)) k2 (max k k2) (.loop c) env1 H1 (Nat.le_max_right _ _) h4
  | exit id => exact ⟨m, k + 1, _, _, _, by simp only [aCode, h1], h2⟩
  | ret => exact ⟨m, k + 1, _, _, _, by simp only [aCode, h1], h2⟩

def kInv (I : Nat → List AV → AHeap → Prop) (n : Nat) (K : KC) : KC := fun e env H => match e with
  | .normal => ∃ m, m < n ∧ I m env H
  | e => K e env H
theorem kInv_normal : kInv I n K .normal env H = ∃ m, m < n ∧ I m env H := rfl
theorem kInv_ret : kInv I n K .ret env H = K .ret env H := rfl
theorem kInv_exit (i : Nat) : kInv I n K (.exit i) env H = K (.exit i) env H := rfl
theorem WCL (I : Nat → List AV → AHeap → Prop) (hI : I n env H) (step : ∀ n env H, I n env H → WC p c env H (kInv I n K)) : WC p (.loop c) env H K := by
  refine WC_loop I (fun n env H h => (step n env H h).mono fun e env' H' hk => ?_) n env H hI
  cases e with
  | normal => exact ⟨fun _ => hk, fun h => absurd rfl h⟩
  | exit i => exact ⟨fun h => by simp at h, fun _ => hk⟩
  | ret => exact ⟨fun h => by simp at h, fun _ => hk⟩
end

theorem z_call_aft {p : Prg} {all : List AOper} {env vals env' : List AV} {H : AHeap} {K : KO} {r : List AOper} {dst : Option Nat} {f : Nat} {xs : List Opd} {j : Nat} {js : List Nat} {ys : List AV} (hy : avals env vals xs = some ys)
    (h : WF p f ys H (fun v H1 => (j :: js).all (sameAt all env vals H1) = true ∧ XO p all env r (snoc vals v) (put env' dst v) H1 K)) :
    XO p all env ({ op := .call f xs, dst := dst, aft := j :: js } :: r) vals env' H K := XO_call.2 ⟨ys, hy, h⟩

/-- A call of a function value. -/
def kFn (p : Prg) (H : AHeap) (K : AV → AHeap → Prop) (o : Option AV) (ys : Option (List AV)) : Prop := match o, ys with
  | some (.fn f a c), some ys => WF p f (a ++ ys ++ c) H K
  | _, _ => False
theorem kFn_at (p : Prg) (H : AHeap) (K : AV → AHeap → Prop) (f : Nat) (a c ys : List AV) : kFn p H K (some (.fn f a c)) (some ys) = WF p f (a ++ ys ++ c) H K := rfl
theorem z_callv {p : Prg} {all : List AOper} {env vals env' : List AV} {H : AHeap} {K : KO} {r : List AOper} {dst : Option Nat} {g : Opd} {xs : List Opd} :
    XO p all env ({ op := .callv g xs, dst := dst } :: r) vals env' H K = kFn p H (kCall p all env r vals env' dst K) (aval env vals g) (avals env vals xs) := by
  have stuck : (∀ n, aOp (p.call n) env vals H (.callv g xs) = none) → XO p all env ({ op := .callv g xs, dst := dst } :: r) vals env' H K = False := fun h => by
    apply propext
    exact ⟨fun h2 => XO_stuck h h2, False.elim⟩
  cases hg : aval env vals g with
  | none => rw [stuck (fun n => by simp [aOp, AOp.cls, aEff, hg])]; rfl
  | some v =>
    cases hy : avals env vals xs with
    | none =>
      have e : XO p all env ({ op := .callv g xs, dst := dst } :: r) vals env' H K = False := stuck (fun n => by cases v <;> simp only [aOp, AOp.cls, aEff, hg, hy])
      rw [e]; cases v <;> rfl
    | some ys =>
      cases v with
      | fn f a c =>
        rw [kFn_at]
        apply propext
        refine (XO_callv hg hy).trans ?_
        simp [kCall, WF]
      | _ => rw [stuck (fun n => by simp only [aOp, AOp.cls, aEff, hg, hy])]; rfl

-- ---------------------------------------------------------------- values
theorem one_int (k : IntKind) (n : Int) : AV.one (.int k n) = true := rfl
theorem cl_int (k : IntKind) (n : Int) : AV.cells (.int k n) = [.int k n] := rfl
theorem jk_int (k : IntKind) (n : Int) : AV.isJunk (.int k n) = false := rfl
theorem st_int (k : IntKind) (n : Int) : AV.isStr (.int k n) = false := rfl
theorem one_bool (b : Bool) : AV.one (.bool b) = true := rfl
theorem cl_bool (b : Bool) : AV.cells (.bool b) = [.bool b] := rfl
theorem jk_bool (b : Bool) : AV.isJunk (.bool b) = false := rfl
theorem st_bool (b : Bool) : AV.isStr (.bool b) = false := rfl
theorem one_str (s : List UInt8) : AV.one (.str s) = true := rfl
theorem cl_str (s : List UInt8) : AV.cells (.str s) = [.str s] := rfl
theorem jk_str (s : List UInt8) : AV.isJunk (.str s) = false := rfl
theorem st_str (s : List UInt8) : AV.isStr (.str s) = true := rfl
theorem one_ptr (i o : Nat) : AV.one (.ptr i o) = true := rfl
theorem cl_ptr (i o : Nat) : AV.cells (.ptr i o) = [.ptr i o] := rfl
theorem jk_ptr (i o : Nat) : AV.isJunk (.ptr i o) = false := rfl
theorem st_ptr (i o : Nat) : AV.isStr (.ptr i o) = false := rfl
theorem one_nilptr  : AV.one (.nilptr) = true := rfl
theorem cl_nilptr  : AV.cells (.nilptr) = [.nilptr] := rfl
theorem jk_nilptr  : AV.isJunk (.nilptr) = false := rfl
theorem st_nilptr  : AV.isStr (.nilptr) = false := rfl
theorem one_sl (i o n : Nat) : AV.one (.sl i o n) = true := rfl
theorem cl_sl (i o n : Nat) : AV.cells (.sl i o n) = [.sl i o n] := rfl
theorem jk_sl (i o n : Nat) : AV.isJunk (.sl i o n) = false := rfl
theorem st_sl (i o n : Nat) : AV.isStr (.sl i o n) = false := rfl
theorem one_nilsl  : AV.one (.nilsl) = true := rfl
theorem cl_nilsl  : AV.cells (.nilsl) = [.nilsl] := rfl
theorem jk_nilsl  : AV.isJunk (.nilsl) = false := rfl
theorem st_nilsl  : AV.isStr (.nilsl) = false := rfl
theorem one_esl  : AV.one (.esl) = true := rfl
theorem cl_esl  : AV.cells (.esl) = [.esl] := rfl
theorem jk_esl  : AV.isJunk (.esl) = false := rfl
theorem st_esl  : AV.isStr (.esl) = false := rfl
theorem one_map (i : Nat) : AV.one (.map i) = true := rfl
theorem cl_map (i : Nat) : AV.cells (.map i) = [.map i] := rfl
theorem jk_map (i : Nat) : AV.isJunk (.map i) = false := rfl
theorem st_map (i : Nat) : AV.isStr (.map i) = false := rfl
theorem one_nilmap  : AV.one (.nilmap) = true := rfl
theorem cl_nilmap  : AV.cells (.nilmap) = [.nilmap] := rfl
theorem jk_nilmap  : AV.isJunk (.nilmap) = false := rfl
theorem st_nilmap  : AV.isStr (.nilmap) = false := rfl
theorem one_fn (f : Nat) (a c : List AV) : AV.one (.fn f a c) = true := rfl
theorem cl_fn (f : Nat) (a c : List AV) : AV.cells (.fn f a c) = [.fn f a c] := rfl
theorem jk_fn (f : Nat) (a c : List AV) : AV.isJunk (.fn f a c) = false := rfl
theorem st_fn (f : Nat) (a c : List AV) : AV.isStr (.fn f a c) = false := rfl
theorem one_nilfn  : AV.one (.nilfn) = true := rfl
theorem cl_nilfn  : AV.cells (.nilfn) = [.nilfn] := rfl
theorem jk_nilfn  : AV.isJunk (.nilfn) = false := rfl
theorem st_nilfn  : AV.isStr (.nilfn) = false := rfl
theorem one_iface (t : Nat) (v : AV) : AV.one (.iface t v) = true := rfl
theorem cl_iface (t : Nat) (v : AV) : AV.cells (.iface t v) = [.iface t v] := rfl
theorem jk_iface (t : Nat) (v : AV) : AV.isJunk (.iface t v) = false := rfl
theorem st_iface (t : Nat) (v : AV) : AV.isStr (.iface t v) = false := rfl
theorem one_nilif  : AV.one (.nilif) = true := rfl
theorem cl_nilif  : AV.cells (.nilif) = [.nilif] := rfl
theorem jk_nilif  : AV.isJunk (.nilif) = false := rfl
theorem st_nilif  : AV.isStr (.nilif) = false := rfl
theorem cl_agg (cs : List AV) : AV.cells (.agg cs) = cs := rfl
theorem jk_agg (cs : List AV) : AV.isJunk (.agg cs) = false := rfl
theorem st_agg (cs : List AV) : AV.isStr (.agg cs) = false := rfl
theorem jk_tup (cs : List AV) : AV.isJunk (.tup cs) = false := rfl
theorem RowAt.flat {H : AHeap} {sz n : Nat} {v : AV} {cells : List AV} (h : RowAt H sz v n cells) : v.one = true ∧ v.cells = [v] ∧ v.isJunk = false ∧ v.isStr = false := by
  rcases h.lenL with ⟨rfl, _⟩ | ⟨rfl, _⟩ | ⟨i, o, rfl⟩ <;> exact ⟨rfl, rfl, rfl, rfl⟩
theorem Rows.flat {α : Type} {sz : Nat} {P : AHeap → α → List AV → Prop} {H : AHeap} {v : AV} {xs : List α} (h : Rows sz P H v xs) : v.one = true ∧ v.cells = [v] ∧ v.isJunk = false ∧ v.isStr = false := by
  obtain ⟨_, h1, _⟩ := h; exact h1.flat
theorem eqn_0  : eqNil .ptr .nilptr .nilptr = some true := rfl
theorem eqn_1 (i o : Nat) : eqNil .ptr (.ptr i o) .nilptr = some false := rfl
theorem eqn_2 (i o : Nat) : eqNil .ptr .nilptr (.ptr i o) = some false := rfl
theorem eqn_3  : eqNil .slice .nilsl .nilsl = some true := rfl
theorem eqn_4 (i o n : Nat) : eqNil .slice (.sl i o n) .nilsl = some false := rfl
theorem eqn_5 (i o n : Nat) : eqNil .slice .nilsl (.sl i o n) = some false := rfl
theorem eqn_6  : eqNil .slice .esl .nilsl = some false := rfl
theorem eqn_7  : eqNil .slice .nilsl .esl = some false := rfl
theorem eqn_8  : eqNil .map .nilmap .nilmap = some true := rfl
theorem eqn_9 (i : Nat) : eqNil .map (.map i) .nilmap = some false := rfl
theorem eqn_10 (i : Nat) : eqNil .map .nilmap (.map i) = some false := rfl
theorem eqn_11  : eqNil .func .nilfn .nilfn = some true := rfl
theorem eqn_12 (f : Nat) (a c : List AV) : eqNil .func (.fn f a c) .nilfn = some false := rfl
theorem eqn_13 (f : Nat) (a c : List AV) : eqNil .func .nilfn (.fn f a c) = some false := rfl
theorem rows_0 (z : List AV) : rows 0 z = [] := rfl
theorem rows_1 (z : List AV) : rows 1 z = z := by simp [rows]
theorem rows_2 (z : List AV) : rows 2 z = z ++ z := by simp [rows, List.replicate]
theorem rows_3 (z : List AV) : rows 3 z = z ++ (z ++ z) := by simp [rows, List.replicate]
theorem rows_4 (z : List AV) : rows 4 z = z ++ (z ++ (z ++ z)) := by simp [rows, List.replicate]

-- ---------------------------------------------------------------- own slices
/-- n elements of sz cells each, in a block from b on, that may be written. -/
def WR (H : AHeap) (b sz : Nat) (v : AV) (n : Nat) (cells : List AV) : Prop :=
  ((v = .nilsl ∨ v = .esl) ∧ n = 0 ∧ cells = []) ∨
  ∃ i o cs, v = .sl i o n ∧ b ≤ i ∧ getB H i = some (.cells sz true cs) ∧ o + n * sz ≤ cs.length ∧ (cs.drop o).take (n * sz) = cells

section
variable {H H' : AHeap} {b sz n : Nat} {v : AV} {cells : List AV}
theorem WR.nil : WR H b sz .nilsl 0 [] := .inl ⟨.inl rfl, rfl, rfl⟩
theorem WR.row (h : WR H b sz v n cells) : RowAt H sz v n cells := by
  rcases h with h | ⟨i, o, cs, rfl, _, h3, h4, h5⟩
  · exact .inl h
  · exact .inr ⟨i, o, true, cs, rfl, h3, h4, h5⟩
theorem WR.len (h : WR H b sz v n cells) : cells.length = n * sz := h.row.len
theorem WR.lenOf (h : WR H b sz v n cells) : lenOf v = some (.int .i64 n) := h.row.lenOf
theorem WR.keep (h : WR H b sz v n cells) (hE : ∀ i q, avId v = some i → getB H i = some q → getB H' i = some q) : WR H' b sz v n cells := by
  rcases h with h | ⟨i, o, cs, rfl, h2, h3, h4, h5⟩
  · exact .inl h
  · exact .inr ⟨i, o, cs, rfl, h2, hE i _ rfl h3, h4, h5⟩
theorem WR.keeps (hk : Keeps H H') (h : WR H b sz v n cells) : WR H' b sz v n cells := h.keep (fun i q _ hq => hk.2 i q hq)
theorem WR.weak {b' : Nat} (hb : b' ≤ b) (h : WR H b sz v n cells) : WR H b' sz v n cells := by
  rcases h with h | ⟨i, o, cs, rfl, h2, h3, h4, h5⟩
  · exact .inl h
  · exact .inr ⟨i, o, cs, rfl, by omega, h3, h4, h5⟩
theorem WR.id (h : WR H b sz v n cells) {i : Nat} (hi : avId v = some i) : b ≤ i ∧ i < H.length := by
  rcases h with ⟨rfl | rfl, _⟩ | ⟨j, o, cs, rfl, h2, h3, _⟩
  · simp [avId] at hi
  · simp [avId] at hi
  · simp [avId] at hi; subst hi; exact ⟨h2, gb_lt h3⟩

theorem WR.new (H : AHeap) (sz n : Nat) (cs : List AV) (h : cs.length = n * sz) {b : Nat} (hb : b ≤ H.length) : WR (H ++ [some (.cells sz true cs)]) b sz (.sl H.length 0 n) n cs :=
  .inr ⟨H.length, 0, cs, rfl, hb, gb_new _ _, by omega, by rw [List.drop_zero, List.take_of_length_le (by omega)]⟩

/-- What a step leaves: all blocks but x. -/
theorem Else.keeps {H0 : AHeap} {x : Option Nat} (hk : Keeps H0 H) (he : Else H H' x) (hx : ∀ i, x = some i → H0.length ≤ i) : Keeps H0 H' :=
  ⟨Nat.le_trans hk.1 he.1, fun i q hq => he.2 i q (fun e => by have := hx i e; have := gb_lt hq; omega) (hk.2 i q hq)⟩

theorem WR.append {bytes k : Nat} {x : AV} {xs : List AV} (hO : WR H b sz v n cells) (hb : b ≤ H.length) (hx : cellsOfSrc H sz x = some (k, xs)) (hxl : xs.length = k * sz)
    (hone : xs.all AV.one = true) (hfit : (n + k) * bytes ≤ maxRoom) :
    ∃ v' H', appendA H sz bytes v x = some (v', H') ∧ WR H' b sz v' (n + k) (cells ++ xs) ∧ Else H H' (avId v) ∧ (∀ i, avId v' = some i → avId v = some i ∨ H.length ≤ i) := by
  rcases hO with ⟨hv, rfl, rfl⟩ | ⟨i, o, cs, rfl, h2, h3, h4, h5⟩
  · by_cases hk : k = 0
    · subst hk
      have : xs = [] := List.length_eq_zero_iff.1 (by simpa using hxl)
      subst this
      exact ⟨v, H, by rcases hv with rfl | rfl <;> simp [appendA, hx], .inl ⟨hv, rfl, rfl⟩, ⟨Nat.le_refl _, fun _ _ _ h => h⟩, by rcases hv with rfl | rfl <;> simp [avId]⟩
    · refine ⟨.sl H.length 0 k, H ++ [some (.cells sz true xs)], ?_, ?_, ⟨by simp, fun i q _ h => by rw [gb_old _ (gb_lt h)]; exact h⟩, fun i hi => .inr (by simp [avId] at hi; omega)⟩
      · simp only [Nat.zero_add] at hfit
        rcases hv with rfl | rfl <;> simp [appendA, hx, hk, hfit]
      · rw [Nat.zero_add, List.nil_append]; exact WR.new H sz k xs hxl hb
  · by_cases hk : k = 0
    · subst hk
      have : xs = [] := List.length_eq_zero_iff.1 (by simpa using hxl)
      subst this
      exact ⟨.sl i o n, H, by simp [appendA, hx], .inr ⟨i, o, cs, rfl, h2, h3, h4, by simpa using h5⟩, ⟨Nat.le_refl _, fun _ _ _ h => h⟩, by simp [avId]⟩
    · have hi := gb_lt h3
      have hcl : cells.length = n * sz := by rw [← h5, List.length_take, List.length_drop]; omega
      refine ⟨.sl H.length 0 (n + k), H.set i none ++ [some (.cells sz true (cells ++ xs))], ?_, ?_, ⟨by simp, fun j q hj h => ?_⟩, fun i hi => .inr (by simp [avId] at hi; omega)⟩
      · simp only [appendA, hx, hk, if_false, h3]
        rw [if_pos ⟨trivial, h4, hfit, hone⟩, h5]
      · have := WR.new (H.set i none) sz (n + k) (cells ++ xs) (by rw [List.length_append, hcl, hxl, Nat.add_mul]) (b := b) (by rw [List.length_set]; exact hb)
        rwa [List.length_set] at this
      · have hj' : i ≠ j := fun e => hj (by simp [avId, e])
        rw [gb_old _ (by rw [List.length_set]; exact gb_lt h), gb_set_ne _ hj']; exact h

end

section
variable {H H' : AHeap} {b sz n : Nat} {v : AV} {cells : List AV}

theorem RowAt.szOk (h : RowAt H sz v n cells) : szOk H sz v = true := by
  rcases h with ⟨rfl | rfl, _⟩ | ⟨i, o, rw, cs, rfl, h2, _⟩ <;> simp [szOk, *]

theorem sliceA_lo {l : Nat} (h : RowAt H sz v n cells) (hl : l ≤ n) : ∃ v', sliceA sz v (some (.int .i64 l)) none none = some v' ∧ RowAt H sz v' (n - l) (cells.drop (l * sz)) ∧ (avId v' = avId v) := by
  rcases h with ⟨hv, rfl, rfl⟩ | ⟨i, o, rw, cs, rfl, h2, h3, rfl⟩
  · have : l = 0 := by omega
    subst this
    refine ⟨v, ?_, .inl ⟨hv, rfl, by simp⟩, rfl⟩
    rcases hv with rfl | rfl <;> simp [sliceA, slLen, bound]
  · refine ⟨.sl i (o + l * sz) (n - l), ?_, .inr ⟨i, o + l * sz, rw, cs, rfl, h2, ?_, ?_⟩, rfl⟩
    · simp [sliceA, slLen, bound, hl]
    · have : (n - l) * sz + l * sz = n * sz := by rw [← Nat.add_mul]; congr 1; omega
      omega
    · have : (n - l) * sz + l * sz = n * sz := by rw [← Nat.add_mul]; congr 1; omega
      rw [List.drop_take, List.drop_drop]
      congr 1; omega
theorem sliceA_hi {l : Nat} (h : RowAt H sz v n cells) (hl : l ≤ n) : ∃ v', sliceA sz v none (some (.int .i64 l)) none = some v' ∧ RowAt H sz v' l (cells.take (l * sz)) ∧ (avId v' = avId v) := by
  rcases h with ⟨hv, rfl, rfl⟩ | ⟨i, o, rw, cs, rfl, h2, h3, rfl⟩
  · have : l = 0 := by omega
    subst this
    refine ⟨v, ?_, .inl ⟨hv, rfl, by simp⟩, rfl⟩
    rcases hv with rfl | rfl <;> simp [sliceA, slLen, bound]
  · have hm : l * sz ≤ n * sz := Nat.mul_le_mul_right sz hl
    refine ⟨.sl i o l, ?_, .inr ⟨i, o, rw, cs, rfl, h2, by omega, ?_⟩, rfl⟩
    · simp [sliceA, slLen, bound, hl]
    · rw [List.take_take, Nat.min_eq_left hm]

theorem WR.sliceLo {l : Nat} (h : WR H b sz v n cells) (hl : l ≤ n) : ∃ v', sliceA sz v (some (.int .i64 l)) none none = some v' ∧ WR H b sz v' (n - l) (cells.drop (l * sz)) ∧ (avId v' = avId v) := by
  rcases h with ⟨hv, rfl, rfl⟩ | ⟨i, o, cs, rfl, hb, h2, h3, rfl⟩
  · have : l = 0 := by omega
    subst this
    refine ⟨v, ?_, .inl ⟨hv, rfl, by simp⟩, rfl⟩
    rcases hv with rfl | rfl <;> simp [sliceA, slLen, bound]
  · refine ⟨.sl i (o + l * sz) (n - l), ?_, .inr ⟨i, o + l * sz, cs, rfl, hb, h2, ?_, ?_⟩, rfl⟩
    · simp [sliceA, slLen, bound, hl]
    · have : (n - l) * sz + l * sz = n * sz := by rw [← Nat.add_mul]; congr 1; omega
      omega
    · have : (n - l) * sz + l * sz = n * sz := by rw [← Nat.add_mul]; congr 1; omega
      rw [List.drop_take, List.drop_drop]
      congr 1; omega
theorem WR.sliceHi {l : Nat} (h : WR H b sz v n cells) (hl : l ≤ n) : ∃ v', sliceA sz v none (some (.int .i64 l)) none = some v' ∧ WR H b sz v' l (cells.take (l * sz)) ∧ (avId v' = avId v) := by
  rcases h with ⟨hv, rfl, rfl⟩ | ⟨i, o, cs, rfl, hb, h2, h3, rfl⟩
  · have : l = 0 := by omega
    subst this
    refine ⟨v, ?_, .inl ⟨hv, rfl, by simp⟩, rfl⟩
    rcases hv with rfl | rfl <;> simp [sliceA, slLen, bound]
  · have hm : l * sz ≤ n * sz := Nat.mul_le_mul_right sz hl
    refine ⟨.sl i o l, ?_, .inr ⟨i, o, cs, rfl, hb, h2, by omega, ?_⟩, rfl⟩
    · simp [sliceA, slLen, bound, hl]
    · rw [List.take_take, Nat.min_eq_left hm]

theorem splice_len (cs : List AV) (o : Nat) (vs : List AV) (h : o + vs.length ≤ cs.length) : (splice cs o vs).length = cs.length := by
  simp only [splice, List.length_append, List.length_take, List.length_drop]
  rw [Nat.min_eq_left (by omega)]; omega
theorem splice_get (cs : List AV) (o : Nat) (vs : List AV) (h : o + vs.length ≤ cs.length) (j : Nat) : (splice cs o vs)[j]? = if j < o then cs[j]? else if j < o + vs.length then vs[j - o]? else cs[j]? := by
  have hl : (cs.take o).length = o := by rw [List.length_take]; exact Nat.min_eq_left (by omega)
  simp only [splice]
  split
  · rename_i h1
    rw [List.append_assoc, List.getElem?_append_left (by omega), List.getElem?_take_of_lt h1]
  · rename_i h1
    rw [List.append_assoc, List.getElem?_append_right (by omega), hl]
    split
    · rw [List.getElem?_append_left (by omega)]
    · rw [List.getElem?_append_right (by omega), List.getElem?_drop]; congr 1; omega
theorem splice_ints (xs : List Int) (k : Nat) (x : Int) (h : k < xs.length) : splice (xs.map (AV.int .i64)) k [.int .i64 x] = (xs.set k x).map (AV.int .i64) := by
  apply List.ext_getElem?
  intro j
  rw [splice_get _ _ _ (by simp; omega), List.getElem?_map, List.getElem?_map, List.getElem?_set]
  rcases Nat.lt_trichotomy j k with h1 | h1 | h1
  · rw [if_pos h1, if_neg (by omega)]
  · subst h1; simp [h]
  · rw [if_neg (by omega), if_neg (by simp; omega), if_neg (by omega)]

/-- A cell is written. -/
theorem WR.store {k : Nat} (h : WR H b sz v n cells) {vs : List AV} (hk : k + vs.length ≤ n * sz) (hn : 0 < n) (hone : vs.all AV.one = true) :
    ∃ i o, v = .sl i o n ∧ ∃ H', storeA H i (o + k) vs = some H' ∧ WR H' b sz v n (splice cells k vs) ∧ Else H H' (some i) ∧ H'.length = H.length := by
  rcases h with ⟨_, rfl, _⟩ | ⟨i, o, cs, rfl, hb, h2, h3, rfl⟩
  · omega
  · refine ⟨i, o, rfl, H.set i (some (.cells sz true (splice cs (o + k) vs))), ?_, .inr ⟨i, o, splice cs (o + k) vs, rfl, hb, gb_set _ (gb_lt h2), ?_, ?_⟩, ⟨by simp, fun j q hj hq => ?_⟩, by simp⟩
    · rw [store_of h2, if_pos (by omega), if_pos hone]
    · rw [splice_len _ _ _ (by omega)]; exact h3
    · apply List.ext_getElem?
      intro j
      have hA : ((cs.drop o).take (n * sz)).length = n * sz := by rw [List.length_take, List.length_drop]; omega
      rw [splice_get _ _ _ (by omega)]
      rcases Nat.lt_or_ge j (n * sz) with hj | hj
      · rw [List.getElem?_take_of_lt hj, List.getElem?_drop, splice_get _ _ _ (by omega), List.getElem?_take_of_lt hj, List.getElem?_drop]
        rcases Nat.lt_or_ge j k with h4 | h4
        · rw [if_pos (by omega), if_pos h4]
        · rcases Nat.lt_or_ge j (k + vs.length) with h5 | h5
          · rw [if_neg (show ¬ o + j < o + k by omega), if_pos (show o + j < o + k + vs.length by omega), if_neg (show ¬ j < k by omega), if_pos h5]; congr 1; omega
          · rw [if_neg (show ¬ o + j < o + k by omega), if_neg (show ¬ o + j < o + k + vs.length by omega), if_neg (show ¬ j < k by omega), if_neg (show ¬ j < k + vs.length by omega)]
      · rw [List.getElem?_eq_none (by rw [List.length_take]; omega), if_neg (by omega), if_neg (by omega), List.getElem?_eq_none (by rw [hA]; exact hj)]
    · exact (gb_set_ne _ (fun e => hj (by rw [e]))).trans hq
end

theorem one_ints (xs : List Int) : (xs.map (AV.int .i64)).all AV.one = true := by
  induction xs with
  | nil => rfl
  | cons a l ih => simp [AV.one]

theorem RowAt.id {H : AHeap} {sz n : Nat} {v : AV} {cells : List AV} (h : RowAt H sz v n cells) {i : Nat} (hi : avId v = some i) : ∃ rw cs, getB H i = some (.cells sz rw cs) := by
  rcases h with ⟨rfl | rfl, _⟩ | ⟨j, o, rw, cs, rfl, h2, _⟩
  · simp [avId] at hi
  · simp [avId] at hi
  · simp [avId] at hi; subst hi; exact ⟨rw, cs, h2⟩
theorem ints_else {H H' : AHeap} {v : AV} {xs : List Int} (h : Ints H v xs) (hk : ∀ i b, avId v = some i → getB H i = some b → getB H' i = some b) : Ints H' v xs := ints_of (h.ints.keep hk)
theorem rows_by {α : Type} {sz : Nat} {P : AHeap → α → List AV → Prop} {H H' : AHeap} {v : AV} {xs : List α} (hP : ∀ x r, P H x r → P H' x r) (hb : ∀ i b, avId v = some i → getB H i = some b → getB H' i = some b)
    (h : Rows sz P H v xs) : Rows sz P H' v xs := by
  obtain ⟨rs, h1, h2, h3⟩ := h
  exact ⟨rs, h1.keep hb, h2, fun k x hx => by obtain ⟨r, a, b, c⟩ := h3 k x hx; exact ⟨r, a, b, hP _ _ c⟩⟩
theorem ints_sz {H H' : AHeap} (hk : ∀ i rw cs, getB H i = some (.cells 1 rw cs) → getB H' i = some (.cells 1 rw cs)) {v : AV} {xs : List Int} (h : Ints H v xs) : Ints H' v xs :=
  ints_else h (fun i b hi hb => by
    obtain ⟨rw, cs, hc⟩ := RowAt.id h.ints hi
    rw [hc] at hb; simp only [Option.some.injEq] at hb; subst hb
    exact hk i rw cs hc)
theorem nds_sz {H H' : AHeap} (hk : ∀ i rw cs, getB H i = some (.cells 1 rw cs) → getB H' i = some (.cells 1 rw cs)) (h9 : ∀ i rw cs, getB H i = some (.cells 9 rw cs) → getB H' i = some (.cells 9 rw cs)) {v : AV} {l : List Nd} (h : Nds H v l) : Nds H' v l := by
  refine rows_by (fun x r hr => ⟨hr.1, by obtain ⟨kv, a, b⟩ := hr.2; exact ⟨kv, a, ints_sz hk b⟩⟩) (fun i b hi hb => ?_) h
  obtain ⟨rs, h1, _⟩ := h
  obtain ⟨rw, cs, hc⟩ := RowAt.id h1 hi
  rw [hc] at hb; simp only [Option.some.injEq] at hb; subst hb
  exact h9 i rw cs hc


end Go.Am

/- All rules of the walk, as one. -/
namespace Go.Am
theorem zz0 : type_of% (And.intro @eq_self.{1} (And.intro @true_and (And.intro @and_true (And.intro @true_implies (And.intro @not_true (And.intro @false_implies (And.intro @List.map_cons.{0, 0} (And.intro @List.map_nil.{0, 0} (And.intro @zWC_seq (And.intro @zWC_skip (And.intro @zWC_exit (And.intro @zWC_ret (And.intro @zWC_cond (And.intro @zWC_block (And.intro @zWC_region (And.intro @kSeq_normal (And.intro @kSeq_ret (And.intro @kSeq_exit (And.intro @kBlock_normal (And.intro @kBlock_ret (And.intro @kBlock_exit (And.intro @kFun_normal (And.intro @kFun_ret (And.intro @kReg_at (And.intro @zXO_nil (And.intro @zXO_call (And.intro @zXO_guard (And.intro @kOp_at (And.intro @kNew_at (@kEff_at)))))))))))))))))))))))))))))) := And.intro @eq_self.{1} (And.intro @true_and (And.intro @and_true (And.intro @true_implies (And.intro @not_true (And.intro @false_implies (And.intro @List.map_cons.{0, 0} (And.intro @List.map_nil.{0, 0} (And.intro @zWC_seq (And.intro @zWC_skip (And.intro @zWC_exit (And.intro @zWC_ret (And.intro @zWC_cond (And.intro @zWC_block (And.intro @zWC_region (And.intro @kSeq_normal (And.intro @kSeq_ret (And.intro @kSeq_exit (And.intro @kBlock_normal (And.intro @kBlock_ret (And.intro @kBlock_exit (And.intro @kFun_normal (And.intro @kFun_ret (And.intro @kReg_at (And.intro @zXO_nil (And.intro @zXO_call (And.intro @zXO_guard (And.intro @kOp_at (And.intro @kNew_at (@kEff_at)))))))))))))))))))))))))))))
theorem zz1 : type_of% (And.intro @kCall_at (And.intro @kArgs_at (And.intro @bindV_some (And.intro @bindV_none (And.intro @bindV_ite (And.intro @onB_true (And.intro @onB_false (And.intro @onG_true (And.intro @onG_false (And.intro @snoc_nil (And.intro @snoc_cons (And.intro @put_none (And.intro @put_some (And.intro @List.set_cons_zero.{0} (And.intro @List.set_cons_succ.{0} (And.intro @List.getElem?_cons_zero.{0} (And.intro @List.getElem?_cons_succ.{0} (And.intro @List.getElem?_nil.{0} (And.intro @Option.getD_some.{0} (And.intro @Option.getD_none.{0} (And.intro @List.all_cons.{0} (And.intro @List.all_nil.{0} (And.intro @List.isEmpty_nil.{0} (And.intro @Bool.and_self (And.intro @Bool.false_eq_true (And.intro @if_false.{1} (And.intro @if_true.{1} (And.intro @beq_self_eq_true.{0} (And.intro @z_mov (@z_pick)))))))))))))))))))))))))))))) := And.intro @kCall_at (And.intro @kArgs_at (And.intro @bindV_some (And.intro @bindV_none (And.intro @bindV_ite (And.intro @onB_true (And.intro @onB_false (And.intro @onG_true (And.intro @onG_false (And.intro @snoc_nil (And.intro @snoc_cons (And.intro @put_none (And.intro @put_some (And.intro @List.set_cons_zero.{0} (And.intro @List.set_cons_succ.{0} (And.intro @List.getElem?_cons_zero.{0} (And.intro @List.getElem?_cons_succ.{0} (And.intro @List.getElem?_nil.{0} (And.intro @Option.getD_some.{0} (And.intro @Option.getD_none.{0} (And.intro @List.all_cons.{0} (And.intro @List.all_nil.{0} (And.intro @List.isEmpty_nil.{0} (And.intro @Bool.and_self (And.intro @Bool.false_eq_true (And.intro @if_false.{1} (And.intro @if_true.{1} (And.intro @beq_self_eq_true.{0} (And.intro @z_mov (@z_pick)))))))))))))))))))))))))))))
theorem zz2 : type_of% (And.intro @z_build (And.intro @z_nilchk (And.intro @z_bin (And.intro @z_eqs (And.intro @z_eqnil (And.intro @z_un (And.intro @z_conv (And.intro @z_str2str (And.intro @z_iface (And.intro @z_func (And.intro @z_slstr (And.intro @z_faddr (And.intro @z_field (And.intro @z_iaddr (And.intro @z_iaddra (And.intro @z_istr (And.intro @z_iarr (And.intro @z_extract (And.intro @z_lenS (And.intro @z_cap (And.intro @z_minmax (And.intro @z_stop (And.intro @z_load (And.intro @z_lookup (And.intro @z_bytes2str (And.intro @z_slsl (And.intro @z_lenM (And.intro @z_alloc (And.intro @z_box (@z_mkslice)))))))))))))))))))))))))))))) := And.intro @z_build (And.intro @z_nilchk (And.intro @z_bin (And.intro @z_eqs (And.intro @z_eqnil (And.intro @z_un (And.intro @z_conv (And.intro @z_str2str (And.intro @z_iface (And.intro @z_func (And.intro @z_slstr (And.intro @z_faddr (And.intro @z_field (And.intro @z_iaddr (And.intro @z_iaddra (And.intro @z_istr (And.intro @z_iarr (And.intro @z_extract (And.intro @z_lenS (And.intro @z_cap (And.intro @z_minmax (And.intro @z_stop (And.intro @z_load (And.intro @z_lookup (And.intro @z_bytes2str (And.intro @z_slsl (And.intro @z_lenM (And.intro @z_alloc (And.intro @z_box (@z_mkslice)))))))))))))))))))))))))))))
theorem zz3 : type_of% (And.intro @z_str2bytes (And.intro @z_mkmap (And.intro @z_make (And.intro @z_store (And.intro @z_append (And.intro @z_copy (And.intro @z_clear (And.intro @z_mapset (And.intro @z_delete (And.intro @ite_self.{1} (And.intro @decide_true (And.intro @decide_false (And.intro @Bool.not_true (And.intro @Bool.not_false (And.intro @bindV_ite' (And.intro @List.length_cons.{0} (And.intro @List.length_nil.{0} (And.intro @kEffA_at (And.intro @z_store_aft (And.intro @btf (And.intro @bft (And.intro @load_new (And.intro @load_old (And.intro @store_new (And.intro @store_old (And.intro @len_lt1 (And.intro @len_lt2 (And.intro @len_lt3 (And.intro @len_lt4 (@Option.map_some.{0, 0})))))))))))))))))))))))))))))) := And.intro @z_str2bytes (And.intro @z_mkmap (And.intro @z_make (And.intro @z_store (And.intro @z_append (And.intro @z_copy (And.intro @z_clear (And.intro @z_mapset (And.intro @z_delete (And.intro @ite_self.{1} (And.intro @decide_true (And.intro @decide_false (And.intro @Bool.not_true (And.intro @Bool.not_false (And.intro @bindV_ite' (And.intro @List.length_cons.{0} (And.intro @List.length_nil.{0} (And.intro @kEffA_at (And.intro @z_store_aft (And.intro @btf (And.intro @bft (And.intro @load_new (And.intro @load_old (And.intro @store_new (And.intro @store_old (And.intro @len_lt1 (And.intro @len_lt2 (And.intro @len_lt3 (And.intro @len_lt4 (@Option.map_some.{0, 0})))))))))))))))))))))))))))))
theorem zz4 : type_of% (And.intro @List.take_succ_cons.{0} (And.intro @List.drop_succ_cons.{0} (And.intro @List.take_zero.{0} (And.intro @List.drop_zero.{0} (And.intro @List.cons_append.{0} (And.intro @List.nil_append.{0} (And.intro @Option.bind_some.{0, 0} (And.intro @Int.toNat_natCast (And.intro @and_self (And.intro @List.append_nil.{0} (And.intro @Nat.zero_add (And.intro @Nat.add_zero (And.intro @List.take_nil.{0} (And.intro @List.drop_nil.{0} (And.intro @Bool.and_true (And.intro @Bool.true_and (And.intro @Nat.le_refl (And.intro @not_false_eq_true (And.intro @z_lenL2 (And.intro @lenOf_sl (And.intro @lenOf_nil (And.intro @lenOf_esl (And.intro @eqA_4 (And.intro @eqA_b (And.intro @ge_iff_le.{0} (And.intro @gt_iff_lt.{0} (And.intro @AV.same_refl (And.intro @kLoop_normal (And.intro @kLoop_ret (@kLoop_exit)))))))))))))))))))))))))))))) := And.intro @List.take_succ_cons.{0} (And.intro @List.drop_succ_cons.{0} (And.intro @List.take_zero.{0} (And.intro @List.drop_zero.{0} (And.intro @List.cons_append.{0} (And.intro @List.nil_append.{0} (And.intro @Option.bind_some.{0, 0} (And.intro @Int.toNat_natCast (And.intro @and_self (And.intro @List.append_nil.{0} (And.intro @Nat.zero_add (And.intro @Nat.add_zero (And.intro @List.take_nil.{0} (And.intro @List.drop_nil.{0} (And.intro @Bool.and_true (And.intro @Bool.true_and (And.intro @Nat.le_refl (And.intro @not_false_eq_true (And.intro @z_lenL2 (And.intro @lenOf_sl (And.intro @lenOf_nil (And.intro @lenOf_esl (And.intro @eqA_4 (And.intro @eqA_b (And.intro @ge_iff_le.{0} (And.intro @gt_iff_lt.{0} (And.intro @AV.same_refl (And.intro @kLoop_normal (And.intro @kLoop_ret (@kLoop_exit)))))))))))))))))))))))))))))
theorem zz5 : type_of% (And.intro @kInv_normal (And.intro @kInv_ret (And.intro @kInv_exit (And.intro @one_int (And.intro @cl_int (And.intro @jk_int (And.intro @st_int (And.intro @one_bool (And.intro @cl_bool (And.intro @jk_bool (And.intro @st_bool (And.intro @one_str (And.intro @cl_str (And.intro @jk_str (And.intro @st_str (And.intro @one_ptr (And.intro @cl_ptr (And.intro @jk_ptr (And.intro @st_ptr (And.intro @one_nilptr (And.intro @cl_nilptr (And.intro @jk_nilptr (And.intro @st_nilptr (And.intro @one_sl (And.intro @cl_sl (And.intro @jk_sl (And.intro @st_sl (And.intro @one_nilsl (And.intro @cl_nilsl (@jk_nilsl)))))))))))))))))))))))))))))) := And.intro @kInv_normal (And.intro @kInv_ret (And.intro @kInv_exit (And.intro @one_int (And.intro @cl_int (And.intro @jk_int (And.intro @st_int (And.intro @one_bool (And.intro @cl_bool (And.intro @jk_bool (And.intro @st_bool (And.intro @one_str (And.intro @cl_str (And.intro @jk_str (And.intro @st_str (And.intro @one_ptr (And.intro @cl_ptr (And.intro @jk_ptr (And.intro @st_ptr (And.intro @one_nilptr (And.intro @cl_nilptr (And.intro @jk_nilptr (And.intro @st_nilptr (And.intro @one_sl (And.intro @cl_sl (And.intro @jk_sl (And.intro @st_sl (And.intro @one_nilsl (And.intro @cl_nilsl (@jk_nilsl)))))))))))))))))))))))))))))
theorem zz6 : type_of% (And.intro @st_nilsl (And.intro @one_esl (And.intro @cl_esl (And.intro @jk_esl (And.intro @st_esl (And.intro @one_map (And.intro @cl_map (And.intro @jk_map (And.intro @st_map (And.intro @one_nilmap (And.intro @cl_nilmap (And.intro @jk_nilmap (And.intro @st_nilmap (And.intro @one_fn (And.intro @cl_fn (And.intro @jk_fn (And.intro @st_fn (And.intro @one_nilfn (And.intro @cl_nilfn (And.intro @jk_nilfn (And.intro @st_nilfn (And.intro @one_iface (And.intro @cl_iface (And.intro @jk_iface (And.intro @st_iface (And.intro @one_nilif (And.intro @cl_nilif (And.intro @jk_nilif (And.intro @st_nilif (@cl_agg)))))))))))))))))))))))))))))) := And.intro @st_nilsl (And.intro @one_esl (And.intro @cl_esl (And.intro @jk_esl (And.intro @st_esl (And.intro @one_map (And.intro @cl_map (And.intro @jk_map (And.intro @st_map (And.intro @one_nilmap (And.intro @cl_nilmap (And.intro @jk_nilmap (And.intro @st_nilmap (And.intro @one_fn (And.intro @cl_fn (And.intro @jk_fn (And.intro @st_fn (And.intro @one_nilfn (And.intro @cl_nilfn (And.intro @jk_nilfn (And.intro @st_nilfn (And.intro @one_iface (And.intro @cl_iface (And.intro @jk_iface (And.intro @st_iface (And.intro @one_nilif (And.intro @cl_nilif (And.intro @jk_nilif (And.intro @st_nilif (@cl_agg)))))))))))))))))))))))))))))
theorem zz7 : type_of% (And.intro @jk_agg (And.intro @st_agg (And.intro @jk_tup (And.intro @Int.cast_ofNat_Int (And.intro @Int.natCast_zero (And.intro @eqn_0 (And.intro @eqn_1 (And.intro @eqn_2 (And.intro @eqn_3 (And.intro @eqn_4 (And.intro @eqn_5 (And.intro @eqn_6 (And.intro @eqn_7 (And.intro @eqn_8 (And.intro @eqn_9 (And.intro @eqn_10 (And.intro @eqn_11 (And.intro @eqn_12 (And.intro @eqn_13 (And.intro @rows_0 (And.intro @rows_1 (And.intro @rows_2 (And.intro @rows_3 (And.intro @rows_4 (And.intro @z_callv (@kFn_at)))))))))))))))))))))))))) := And.intro @jk_agg (And.intro @st_agg (And.intro @jk_tup (And.intro @Int.cast_ofNat_Int (And.intro @Int.natCast_zero (And.intro @eqn_0 (And.intro @eqn_1 (And.intro @eqn_2 (And.intro @eqn_3 (And.intro @eqn_4 (And.intro @eqn_5 (And.intro @eqn_6 (And.intro @eqn_7 (And.intro @eqn_8 (And.intro @eqn_9 (And.intro @eqn_10 (And.intro @eqn_11 (And.intro @eqn_12 (And.intro @eqn_13 (And.intro @rows_0 (And.intro @rows_1 (And.intro @rows_2 (And.intro @rows_3 (And.intro @rows_4 (And.intro @z_callv (@kFn_at)))))))))))))))))))))))))
theorem zz : type_of% (And.intro zz0 (And.intro zz1 (And.intro zz2 (And.intro zz3 (And.intro zz4 (And.intro zz5 (And.intro zz6 (zz7)))))))) := And.intro zz0 (And.intro zz1 (And.intro zz2 (And.intro zz3 (And.intro zz4 (And.intro zz5 (And.intro zz6 (zz7)))))))
end Go.Am

/- Regions with reads that may come ahead; parts of a text. -/
set_option linter.unusedSimpArgs false
namespace Go.Am
/-- Operations end so, the heaps ahead of each known. -/
def XH (p : Prg) (all : List AOper) (env : List AV) (l : List AOper) (vals : List AV) (hs : List AHeap) (env' : List AV) (H : AHeap) (K : List AV → AHeap → Prop) : Prop :=
  ∃ m eF HF, runOps (p.call m) all env l vals hs env' H = some (eF, HF) ∧ K eF HF
section
variable {p : Prg} {all ops r : List AOper} {env vals env' : List AV} {hs : List AHeap} {H : AHeap} {op : AOp} {dst : Option Nat} {aft bef : List Nat}
theorem WC_regionH {K : KC} (h : XH p ops env ops [] [] env H (kReg K)) : WC p (.region ops) env H K := by
  obtain ⟨m, eF, HF, h2, h3⟩ := h
  exact ⟨m, 1, .normal, eF, HF, by simp [aCode, h2], h3⟩
theorem XH_nil {K : KO} (h : K env' H) : XH p all env [] vals hs env' H K := ⟨0, env', H, by simp only [runOps], h⟩
theorem XH_step {K : KO} {v : AV} {H1 : AHeap} (hop : ∀ n, aOp (p.call n) env vals H op = some (v, H1)) (ha : aft.all (sameAt all env vals H1) = true)
    (hb : bef.all (fun j => match hs[j]? with
      | some Hj => (match aRead env vals Hj op with
        | some u => AV.same u v
        | none => false)
      | none => false) = true) (h : XH p all env r (snoc vals v) (hs ++ [H]) (put env' dst v) H1 K) : XH p all env ({ op := op, dst := dst, aft := aft, bef := bef } :: r) vals hs env' H K := by
  obtain ⟨m, eF, HF, h2, h3⟩ := h
  rw [snoc_eq] at h2
  refine ⟨m, eF, HF, ?_, h3⟩
  simp only [runOps, wantedA, hop, ha, Bool.true_and]
  exact (if_pos hb).trans h2
end
section
variable {p : Prg} {all r : List AOper} {env vals env' : List AV} {hs : List AHeap} {H : AHeap} {op : AOp} {dst : Option Nat} {aft bef : List Nat} {g : Option (Nat × Bool)} {K : KO}
theorem XH_stepG {v : AV} {H1 : AHeap} (hw : wantedA vals g = some true) (hop : ∀ n, aOp (p.call n) env vals H op = some (v, H1)) (ha : aft.all (sameAt all env vals H1) = true)
    (hb : bef.all (fun j => match hs[j]? with
      | some Hj => (match aRead env vals Hj op with
        | some u => AV.same u v
        | none => false)
      | none => false) = true) (h : XH p all env r (snoc vals v) (hs ++ [H]) (put env' dst v) H1 K) : XH p all env ({ op := op, dst := dst, guard := g, aft := aft, bef := bef } :: r) vals hs env' H K := by
  obtain ⟨m, eF, HF, h2, h3⟩ := h
  rw [snoc_eq] at h2
  refine ⟨m, eF, HF, ?_, h3⟩
  simp only [runOps, hw, hop, ha, Bool.true_and]
  exact (if_pos hb).trans h2
theorem XH_call {f : Nat} {xs : List Opd} {ys : List AV} (hw : wantedA vals g = some true) (hy : avals env vals xs = some ys)
    (h : WF p f ys H (fun v H1 => XH p all env r (snoc vals v) (hs ++ [H]) (put env' dst v) H1 K)) : XH p all env ({ op := .call f xs, dst := dst, guard := g } :: r) vals hs env' H K := by
  obtain ⟨n, v, H1, hv, m, eF, HF, h2, h3⟩ := h
  rw [snoc_eq] at h2
  refine ⟨max n m, eF, HF, ?_, h3⟩
  simp only [runOps, hw, aOp, AOp.cls, aEff, hy, call_le (Nat.le_max_left n m) _ _ _ _ hv, List.all_nil, Bool.and_self, if_true]
  exact runOps_mono (call_le (Nat.le_max_right n m)) _ _ _ _ _ h2
theorem XH_XO (h : XO p all env r vals env' H K) : XH p all env r vals hs env' H K := by
  obtain ⟨hb, m, eF, HF, h2, h3⟩ := h
  exact ⟨m, eF, HF, by rw [runOps_hs r vals hs [] env' H hb]; exact h2, h3⟩
end
/-- Parts of a text in a row. -/
def hdC : ACode → ACode
  | .seq a _ => a
  | c => c
def tlC : ACode → ACode
  | .seq _ b => b
  | c => c
def tls : Nat → ACode → ACode
  | 0, c => c
  | n + 1, c => tls n (tlC c)

end Go.Am
