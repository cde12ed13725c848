/- One operation: what compact code says is what the machine does. -/
import Derived.Test.YtnblhjpbpobglaaAmN
import Derived.Orders
namespace Go.Am

def Free (Φ : Phi) (n n' : Nat) : Prop := ∀ i, n ≤ i → i < n' → Φ i = none

def Dom (Φ Φ' : Phi) (n n' : Nat) : Prop := ∀ i, Φ' i ≠ Φ i → n ≤ i ∧ i < n'

def Callable (P : Program) (f : FuncId) : Prop := ∃ fn, P.funcs[f]? = some fn ∧ fn.body.isNone = false ∧ (fn.name == "runtime.NumGoroutine") = false

/-- What stands behind a call. -/
def CallPost (Φ : Phi) (H : AHeap) (w : World) (r : AV) (H' : AHeap) : Ending → World → Prop :=
  fun e w' => ∃ Φ' v, e = .returned v ∧ R Φ' r v ∧ Sim Φ' (getB H') w' ∧ Ext Φ (getB H) w Φ' (getB H') w' ∧ Dom Φ Φ' H.length H'.length

def CallSound (P : Program) (call : CallT) : Prop :=
  ∀ f args H r H', call f args H = some (r, H') → H.length ≤ H'.length ∧ Callable P f ∧
    ∀ Φ w vs, Sim Φ (getB H) w → Free Φ H.length H'.length → Rs Φ args vs → Calls P f (List.toArray vs) w (CallPost Φ H w r H')

section
variable {c : Ctx} {env vals : List AV} {Φ : Phi} {w : World} {H : AHeap} {call : CallT}

theorem eff_len (CS : CallSound c.P call) {ao : AOp} {v : AV} {H' : AHeap} (hv : aEff call env vals H ao = some (v, H')) : H.length ≤ H'.length := by
  have hst : ∀ i o cs H1, storeA H i o cs = some H1 → H1.length = H.length := by
    intro i o cs H1 h
    unfold storeA at h
    split at h
    · split at h <;> simp only [Option.some.injEq, reduceCtorEq] at h
      subst h; simp
    · simp at h
  cases ao <;> simp only [aEff, reduceCtorEq] at hv
  case store n a x =>
    split at hv
    · split at hv
      · split at hv <;> simp only [Option.some.injEq, Prod.mk.injEq, reduceCtorEq] at hv
        rename_i H1 h1
        obtain ⟨_, rfl⟩ := hv
        rw [hst _ _ _ _ h1]; exact Nat.le_refl _
      · simp at hv
    · simp at hv
  case mapset =>
    (repeat' split at hv) <;> simp only [Option.some.injEq, Prod.mk.injEq, reduceCtorEq] at hv <;> (obtain ⟨_, rfl⟩ := hv) <;> simp
  case call f xs =>
    split at hv
    · exact (CS _ _ _ _ _ hv).1
    · simp at hv
  case callv f xs =>
    split at hv
    · exact (CS _ _ _ _ _ hv).1
    · simp at hv
  case append =>
    split at hv
    · split at hv
      · unfold appendA at hv
        split at hv
        · simp at hv
        · (repeat' split at hv) <;> simp only [Option.some.injEq, Prod.mk.injEq, reduceCtorEq] at hv <;> (obtain ⟨_, rfl⟩ := hv) <;> simp
      · simp at hv
    · simp at hv
  case copy =>
    split at hv
    · split at hv
      · simp at hv
      · unfold copyA at hv
        split at hv
        · split at hv <;> simp only [Option.some.injEq, Prod.mk.injEq, reduceCtorEq] at hv
          rename_i H1 h1
          obtain ⟨_, rfl⟩ := hv
          rw [hst _ _ _ _ h1]; exact Nat.le_refl _
        · simp only [Option.some.injEq, Prod.mk.injEq] at hv; obtain ⟨_, rfl⟩ := hv; exact Nat.le_refl _
        · simp only [Option.some.injEq, Prod.mk.injEq] at hv; obtain ⟨_, rfl⟩ := hv; exact Nat.le_refl _
        · simp at hv
    · simp at hv
  case clear =>
    split at hv
    · unfold clearA at hv
      split at hv
      · simp only [Option.some.injEq, Prod.mk.injEq] at hv; obtain ⟨_, rfl⟩ := hv; exact Nat.le_refl _
      · simp only [Option.some.injEq, Prod.mk.injEq] at hv; obtain ⟨_, rfl⟩ := hv; exact Nat.le_refl _
      · split at hv
        · simp only [Option.some.injEq, Prod.mk.injEq] at hv; obtain ⟨_, rfl⟩ := hv; exact Nat.le_refl _
        · split at hv <;> simp only [Option.some.injEq, Prod.mk.injEq, reduceCtorEq] at hv
          rename_i H1 h1
          obtain ⟨_, rfl⟩ := hv
          rw [hst _ _ _ _ h1]; exact Nat.le_refl _
      · simp at hv
    · simp at hv
  case delete =>
    (repeat' split at hv) <;> simp only [Option.some.injEq, Prod.mk.injEq, reduceCtorEq] at hv <;> (obtain ⟨_, rfl⟩ := hv) <;> simp

theorem op_len (CS : CallSound c.P call) {ao : AOp} {v : AV} {H' : AHeap} (hv : aOp call env vals H ao = some (v, H')) : H.length ≤ H'.length := by
  unfold aOp at hv
  split at hv
  · split at hv <;> simp only [Option.some.injEq, Prod.mk.injEq, reduceCtorEq] at hv
    obtain ⟨_, rfl⟩ := hv; exact Nat.le_refl _
  · split at hv <;> simp only [Option.some.injEq, Prod.mk.injEq, reduceCtorEq] at hv
    obtain ⟨_, rfl⟩ := hv; exact Nat.le_refl _
  · split at hv <;> simp only [Option.some.injEq, Prod.mk.injEq, reduceCtorEq] at hv
    obtain ⟨_, rfl⟩ := hv; simp
  · exact eff_len CS hv

theorem run_callFunc {P : Program} {f : FuncId} (h : Callable P f) (args : Array Value) : (callFunc f args).run P w = .ok (.enter f args) w := by
  obtain ⟨fn, h1, h2, h3⟩ := h
  simp only [callFunc, Sem.run_bind, run_program, Result.andThen_ok, h1, h2, h3, Bool.false_eq_true, if_false, Sem.run_pure]

theorem trOp_call_inv {op : Op} {ao : AOp} (hc : ao.isCall = true) (h : trOp c op = some ao) : ∃ k, op = .call k ∧ trCall c k = some ao := by
  cases op with
  | call k => exact ⟨k, rfl, by simpa only [trOp] using h⟩
  | binOp op t x y yt =>
    exfalso
    cases op
    case eql => simp only [trOp, trEq] at h; (repeat' split at h) <;> simp only [Option.some.injEq, reduceCtorEq] at h <;> subst h <;> simp [AOp.isCall] at hc
    case neq => simp only [trOp, trEq] at h; (repeat' split at h) <;> simp only [Option.some.injEq, reduceCtorEq] at h <;> subst h <;> simp [AOp.isCall] at hc
    all_goals (simp only [trOp] at h; (repeat' split at h) <;> simp only [Option.some.injEq, reduceCtorEq] at h <;> subst h <;> simp [AOp.isCall] at hc)
  | makeFunc f first caps =>
    exfalso
    cases f <;> simp only [trOp, reduceCtorEq] at h
    (repeat' split at h) <;> simp only [Option.some.injEq, reduceCtorEq] at h
    subst h; simp [AOp.isCall] at hc
  | makeMap t r =>
    exfalso
    cases r <;> simp only [trOp, Option.some.injEq, reduceCtorEq] at h
    subst h; simp [AOp.isCall] at hc
  | panic x => exfalso; simp only [trOp, Option.some.injEq] at h; subst h; simp [AOp.isCall] at hc
  | defer x => exfalso; simp only [trOp, Option.some.injEq] at h; subst h; simp [AOp.isCall] at hc
  | _ =>
    exfalso
    simp only [trOp, reduceCtorEq] at h
    all_goals ((repeat' split at h) <;> simp only [Option.some.injEq, reduceCtorEq] at h <;> subst h <;> simp [AOp.isCall] at hc)

/-- One operation in the machine. -/
theorem op_wp (CS : CallSound c.P call) {a : Act} (O : HO c env vals Φ a.eval) (S : Sim Φ (getB H) w) (o : Oper) {ao : AOp} {v : AV} {H' : AHeap} (h : trOp c o.op = some ao)
    (hv : aOp call env vals H ao = some (v, H')) (hfree : Free Φ H.length H'.length) {K : Act → World → Prop} {Q : Exit → Act → World → Prop}
    (hK : ∀ Φ' v' w', R Φ' v v' → Sim Φ' (getB H') w' → Ext Φ (getB H) w Φ' (getB H') w' → Dom Φ Φ' H.length H'.length → K (a.put o.dst v') w') : o.wp c.P a w K Q := by
  unfold aOp at hv
  split at hv
  · -- no memory
    split at hv <;> simp only [Option.some.injEq, Prod.mk.injEq, reduceCtorEq] at hv
    rename_i u hu
    obtain ⟨rfl, rfl⟩ := hv
    obtain ⟨v', hr, hR⟩ := pure_ok (w := w) O o h hu
    simp only [Oper.wp, hr, Oper.upon_value]
    exact hK Φ v' w hR S (Ext.refl _ _ _) (fun i hi => absurd rfl hi)
  · split at hv <;> simp only [Option.some.injEq, Prod.mk.injEq, reduceCtorEq] at hv
    rename_i u hu
    obtain ⟨rfl, rfl⟩ := hv
    obtain ⟨v', hr, hR⟩ := read_ok O S o h hu
    simp only [Oper.wp, hr, Oper.upon_value]
    exact hK Φ v' w hR S (Ext.refl _ _ _) (fun i hi => absurd rfl hi)
  · split at hv <;> simp only [Option.some.injEq, Prod.mk.injEq, reduceCtorEq] at hv
    rename_i mk blk hu
    obtain ⟨rfl, rfl⟩ := hv
    obtain ⟨v', w', l, hr, hN, hlb, hrw, hall⟩ := new_ok (w := w) O o h hu
    have hnone : Φ H.length = none := hfree _ (Nat.le_refl _) (by simp)
    have mono : ∀ j q, Φ j = some q → upd Φ H.length (some l) j = some q := by
      intro j q hj
      rw [upd_other (fun e => by subst e; rw [hnone] at hj; simp at hj)]; exact hj
    obtain ⟨hok, hR⟩ := hall H.length (upd Φ H.length (some l)) mono (upd_self _ _ _)
    obtain ⟨s1, s2⟩ := new_step S hN hlb hrw hnone hok
    simp only [Oper.wp, hr, Oper.upon_value]
    rw [← getB_append] at s1 s2
    refine hK _ v' w' hR s1 s2 (fun i hi => ?_)
    by_cases e : i = H.length
    · subst e; exact ⟨Nat.le_refl _, by simp⟩
    · exact absurd (upd_other e) hi
  · by_cases hc : ao.isCall = true
    · -- a call
      obtain ⟨dst, op, ty, pos, after, guard⟩ := o
      simp only at h
      cases ao <;> simp [AOp.isCall] at hc
      case call f xs =>
        simp only [aEff] at hv
        split at hv
        · rename_i as has
          obtain ⟨h1, h2, h3⟩ := CS _ _ _ _ _ hv
          obtain ⟨k, rfl, hcl⟩ := trOp_call_inv rfl h
          clear h
          have h := hcl
          clear hcl
          obtain ⟨callee, args, ats⟩ := k
          unfold trCall at h
          split at h
          · rename_i g hg0
            simp only at hg0; subst hg0
            split at h <;> simp only [Option.some.injEq, reduceCtorEq, AOp.call.injEq] at h
            rename_i ys hys
            obtain ⟨rfl, rfl⟩ := h
            have hR := O.list hys has
            have hrun : (execOp a.eval { dst, op := .call { callee := .value (.func g), args, argTypes := ats }, type := ty, pos, after, guard }).run c.P w = .ok (.enter g (args.toList.map a.eval).toArray) w := by
              have e1 : args.map a.eval = (args.toList.map a.eval).toArray := by rw [← List.map_toArray, Array.toArray_toList]
              simp only [execOp, resolve, Act.eval, Deferred.ofValue, Sem.run_bind, Sem.run_pure, Result.andThen_ok, invoke]
              rw [show (#[] : Array Value) ++ args.map a.eval ++ #[] = (args.toList.map a.eval).toArray by rw [← e1]; simp]
              exact run_callFunc h2 _
            simp only [Oper.wp, hrun, Oper.upon_enter]
            refine (h3 Φ w _ S hfree hR).mono ?_
            rintro e w' ⟨Φ', v', rfl, hRv, s1, s2, s3⟩
            exact hK Φ' v' w' hRv s1 s2 s3
          · split at h <;> simp only [Option.some.injEq, reduceCtorEq] at h
          · simp at h
          · exfalso; revert h; (repeat' split) <;> intro h <;> simp only [Option.some.injEq, reduceCtorEq] at h
        · simp at hv
      case callv g xs =>
        simp only [aEff] at hv
        split at hv
        · rename_i f first caps as hg has
          obtain ⟨h1, h2, h3⟩ := CS _ _ _ _ _ hv
          obtain ⟨k, rfl, hcl⟩ := trOp_call_inv rfl h
          clear h
          have h := hcl
          clear hcl
          obtain ⟨callee, args, ats⟩ := k
          unfold trCall at h
          split at h
          · split at h <;> simp only [Option.some.injEq, reduceCtorEq] at h
          · rename_i y hne hy0
            simp only at hy0; subst hy0
            split at h <;> simp only [Option.some.injEq, reduceCtorEq, AOp.callv.injEq] at h
            rename_i z ys hz hys
            obtain ⟨rfl, rfl⟩ := h
            have hR := O.list hys has
            have hRf := O _ _ _ hz hg
            simp only [R] at hRf
            obtain ⟨fs, cps, hfv, hfR, hcR⟩ := hRf
            have hrun : (execOp a.eval { dst, op := .call { callee := .value y, args, argTypes := ats }, type := ty, pos, after, guard }).run c.P w = .ok (.enter f (fs ++ args.toList.map a.eval ++ cps).toArray) w := by
              have e1 : args.map a.eval = (args.toList.map a.eval).toArray := by rw [← List.map_toArray, Array.toArray_toList]
              simp only [execOp, resolve, hfv, Deferred.ofValue, Sem.run_bind, Sem.run_pure, Result.andThen_ok, invoke]
              rw [show fs.toArray ++ args.map a.eval ++ cps.toArray = (fs ++ args.toList.map a.eval ++ cps).toArray by rw [e1]; simp]
              exact run_callFunc h2 _
            simp only [Oper.wp, hrun, Oper.upon_enter]
            refine (h3 Φ w _ S hfree ((hfR.append hR).append hcR)).mono ?_
            rintro e w' ⟨Φ', v', rfl, hRv, s1, s2, s3⟩
            exact hK Φ' v' w' hRv s1 s2 s3
          · simp at h
          · exfalso; revert h; (repeat' split) <;> intro h <;> simp only [Option.some.injEq, reduceCtorEq] at h
        · simp at hv
    · obtain ⟨⟨Φ', nx, w', hr, hnx, s1, s2, s3⟩, _⟩ := eff_ok O S o h (by simpa using hc) hv hfree
      simp only [Oper.wp, hr]
      rcases hnx with ⟨v', rfl, hR⟩ | ⟨rfl, rfl⟩
      · exact hK Φ' v' w' hR s1 s2 s3
      · exact hK Φ' undef w' (by simp only [R]) s1 s2 s3

end
end Go.Am
