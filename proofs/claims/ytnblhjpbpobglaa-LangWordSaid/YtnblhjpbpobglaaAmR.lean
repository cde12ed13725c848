/- Code and calls: what compact code says is what the machine does. -/
import Derived.Test.YtnblhjpbpobglaaAmQ
import Derived.Test.YtnblhjpbpobglaaAmS
namespace Go.Am

theorem least (p : Nat → Prop) (h : ∃ n, p n) : ∃ n, p n ∧ ∀ m, m < n → ¬ p m := by
  obtain ⟨n, hn⟩ := h
  induction n using Nat.strongRecOn with
  | _ n ih =>
    by_cases hm : ∃ m, m < n ∧ p m
    · obtain ⟨m, hm1, hm2⟩ := hm; exact ih m hm1 hm2
    · exact ⟨n, hn, fun m h1 h2 => hm ⟨m, h1, h2⟩⟩

/-- A loop that has so much fuel. -/
theorem wp_loop_fuel {P : Program} {c : Code} {Q : Exit → Act → World → Prop} (I : Nat → Act → World → Prop)
    (round : ∀ n a w, I n a w → c.wp P (Exit.then (fun a' w' => ∃ m, m < n ∧ I m a' w') Q) a w) {n : Nat} {a : Act} {w : World} (h : I n a w) : (Code.loop c).wp P Q a w := by
  classical
  let μ : Act → World → Nat := fun a w => if h : ∃ n, I n a w then (least _ h).choose else 0
  have hμ : ∀ a w, (∃ n, I n a w) → I (μ a w) a w ∧ ∀ m, m < μ a w → ¬ I m a w := by
    intro a w h
    have := (least _ h).choose_spec
    simp only [μ, dif_pos h]
    exact this
  refine wp_loop (fun a w => ∃ n, I n a w) μ ⟨n, h⟩ (fun a w hI => ?_)
  obtain ⟨h1, h2⟩ := hμ a w hI
  refine wp_mono (round _ a w h1) (fun e a' w' hq => ?_)
  cases e with
  | normal =>
    obtain ⟨m, hm, hI'⟩ := hq
    refine ⟨⟨m, hI'⟩, ?_⟩
    obtain ⟨h3, h4⟩ := hμ a' w' ⟨m, hI'⟩
    show μ a' w' < μ a w
    rcases Nat.lt_or_ge (μ a' w') (μ a w) with h | h
    · exact h
    · exact absurd hI' (h4 m (by omega))
  | _ => exact hq

def exitOf : AExit → Exit
  | .normal => .normal
  | .exit id => .exit id
  | .ret => .ret

theorem code_len {P : Program} {call : CallT} (CS : CallSound P call) : ∀ (n : Nat) (ac : ACode) {env : List AV} {H : AHeap} {e : AExit} {envF : List AV} {HF : AHeap},
    aCode call n ac env H = some (e, envF, HF) → H.length ≤ HF.length := by
  intro n
  induction n with
  | zero => intro ac env H e envF HF h; simp [aCode] at h
  | succ n ih =>
    intro ac env H e envF HF h
    cases ac with
    | skip => simp only [aCode, Option.some.injEq, Prod.mk.injEq] at h; obtain ⟨_, _, rfl⟩ := h; exact Nat.le_refl _
    | region ops =>
      simp only [aCode] at h
      split at h <;> simp only [Option.some.injEq, Prod.mk.injEq, reduceCtorEq] at h
      rename_i env' H' h1
      obtain ⟨_, _, rfl⟩ := h
      exact run_len CS _ _ _ _ _ h1
    | seq a b =>
      simp only [aCode] at h
      split at h
      · rename_i env' H' h1
        exact Nat.le_trans (ih a h1) (ih b h)
      · exact ih a h
    | cond c a b =>
      simp only [aCode] at h
      split at h
      · exact ih _ h
      · simp at h
    | block id c =>
      simp only [aCode] at h
      split at h
      · rename_i id' env' H' h1
        have := ih c h1
        split at h <;> simp only [Option.some.injEq, Prod.mk.injEq] at h <;> (obtain ⟨_, _, rfl⟩ := h) <;> exact this
      · exact ih c h
    | loop c =>
      simp only [aCode] at h
      split at h
      · rename_i env' H' h1
        exact Nat.le_trans (ih c h1) (ih _ h)
      · exact ih c h
    | exit id => simp only [aCode, Option.some.injEq, Prod.mk.injEq] at h; obtain ⟨_, _, rfl⟩ := h; exact Nat.le_refl _
    | ret => simp only [aCode, Option.some.injEq, Prod.mk.injEq] at h; obtain ⟨_, _, rfl⟩ := h; exact Nat.le_refl _

/-- What holds of a state. -/
structure St (Φ : Phi) (ps : List Nat) (nt : Nat) (env : List AV) (H : AHeap) (a : Act) (w : World) : Prop where
  env : EnvOk Φ ps env a
  size : a.tmps.size = nt
  defers : a.defers = []
  sim : Sim Φ (getB H) w

theorem code_wp {P : Program} {call : CallT} (CS : CallSound P call) {ps : List Nat} {nt : Nat} (hnd : ps.Nodup) : ∀ (n : Nat) (code : Code) (ac : ACode) (env : List AV) (H : AHeap) (e : AExit) (envF : List AV) (HF : AHeap),
    trCode P ps nt code = some ac → aCode call n ac env H = some (e, envF, HF) → ∀ (Φ : Phi) (a : Act) (w : World) (Q : Exit → Act → World → Prop),
      St Φ ps nt env H a w → Free Φ H.length HF.length →
      (∀ Φ' a' w', St Φ' ps nt envF HF a' w' → Ext Φ (getB H) w Φ' (getB HF) w' → Dom Φ Φ' H.length HF.length → Q (exitOf e) a' w') → code.wp P Q a w := by
  intro n
  induction n with
  | zero => intro code ac env H e envF HF htr h; simp [aCode] at h
  | succ n ih =>
    intro code ac env H e envF HF htr h Φ a w Q hS hfree hQ
    cases code with
    | skip =>
      simp only [trCode, Option.some.injEq] at htr; subst htr
      simp only [aCode, Option.some.injEq, Prod.mk.injEq] at h
      obtain ⟨rfl, rfl, rfl⟩ := h
      exact wp_skip (hQ Φ a w hS (Ext.refl _ _ _) (Dom.refl _ _ _))
    | region id ops draw =>
      simp only [trCode] at htr
      split at htr <;> simp only [Option.some.injEq, reduceCtorEq] at htr
      rename_i l hl; subst htr
      simp only [aCode] at h
      split at h <;> simp only [Option.some.injEq, Prod.mk.injEq, reduceCtorEq] at h
      rename_i env' H' h1
      obtain ⟨rfl, rfl, rfl⟩ := h
      cases draw with
      | true => exact region_draw_wp CS hnd hl h1 hS.env hS.size hS.defers hS.sim hfree (fun Φ' a' w' q1 q2 q3 q4 q5 q6 => hQ Φ' a' w' ⟨q1, q2, q3, q4⟩ q5 q6)
      | false =>
        unfold trRegion at hl
        split at hl
        · simp at hl
        · rename_i l' hl'
          simp only [Bool.false_eq_true, if_false, Option.some.injEq] at hl
          subst hl
          refine wp_region ?_
          have hI : RInv ps nt ops env [] [] env Φ a := ⟨hS.size, hS.defers, by simp, by simp, fun x s e h1 _ h3 => hS.env x s e h1 h3, hS.env⟩
          have := ops_wp CS hnd ops l' env ops.toList [] l' [] [] env H env' H' Φ a w rfl hl' h1 hI hS.sim hfree
            (fun Φ' a' w' q1 q2 q3 q4 q5 q6 => hQ Φ' a' w' ⟨q1, q2, q3, q4⟩ q5 q6)
          simpa [List.range_eq_range'] using this
    | seq x y =>
      simp only [trCode] at htr
      split at htr <;> simp only [Option.some.injEq, reduceCtorEq] at htr
      rename_i p q hp hq; subst htr
      simp only [aCode] at h
      refine wp_seq ?_
      split at h
      · rename_i env' H' h1
        have l1 := code_len CS n _ h1
        have l2 := code_len CS n _ h
        refine ih x p env H .normal env' H' hp h1 Φ a w _ hS (hfree.split l2) (fun Φ' a' w' q1 q2 q3 => ?_)
        exact ih y q env' H' e envF HF hq h Φ' a' w' Q q1 (hfree.next l1 q3) (fun Φ2 a2 w2 r1 r2 r3 => hQ Φ2 a2 w2 r1 (q2.trans r2) (q3.trans r3 l1 l2))
      · rename_i r hr
        refine ih x p env H e envF HF hp h Φ a w _ hS hfree (fun Φ' a' w' q1 q2 q3 => ?_)
        have := hQ Φ' a' w' q1 q2 q3
        cases e with
        | normal => exact absurd h (hr _ _)
        | exit id => exact this
        | ret => exact this
    | cond c x y =>
      simp only [trCode] at htr
      split at htr <;> simp only [Option.some.injEq, reduceCtorEq] at htr
      rename_i k p q hk hp hq; subst htr
      simp only [aCode] at h
      split at h
      · rename_i t ht
        have O : HO ⟨P, ps, []⟩ env [] Φ a.eval := (show RInv ps nt #[] env [] [] env Φ a from ⟨hS.size, hS.defers, by simp, by simp, fun x s e h1 _ h3 => hS.env x s e h1 h3, hS.env⟩).ho
        have hc := O _ _ _ hk ht
        simp only [R] at hc
        refine wp_cond hc ?_
        cases t with
        | true => exact ih x p env H e envF HF hp h Φ a w Q hS hfree hQ
        | false => exact ih y q env H e envF HF hq h Φ a w Q hS hfree hQ
      · simp at h
    | block id c =>
      simp only [trCode] at htr
      split at htr <;> simp only [Option.some.injEq, reduceCtorEq] at htr
      rename_i p hp; subst htr
      simp only [aCode] at h
      refine wp_block ?_
      split at h
      · rename_i id' env' H' h1
        have hlen : H' = HF := by split at h <;> simp only [Option.some.injEq, Prod.mk.injEq] at h <;> exact h.2.2
        subst hlen
        refine ih c p env H (.exit id') env' H' hp h1 Φ a w _ hS hfree (fun Φ' a' w' q1 q2 q3 => ?_)
        simp only [exitOf, Exit.inBlock]
        split at h
        · rename_i hid
          simp only [Option.some.injEq, Prod.mk.injEq] at h
          obtain ⟨rfl, rfl, _⟩ := h
          rw [if_pos hid]
          exact hQ Φ' a' w' q1 q2 q3
        · rename_i hid
          simp only [Option.some.injEq, Prod.mk.injEq] at h
          obtain ⟨rfl, rfl, _⟩ := h
          rw [if_neg hid]
          exact hQ Φ' a' w' q1 q2 q3
      · rename_i r hr
        refine ih c p env H e envF HF hp h Φ a w _ hS hfree (fun Φ' a' w' q1 q2 q3 => ?_)
        have := hQ Φ' a' w' q1 q2 q3
        cases e with
        | normal => exact this
        | exit id' => exact absurd h (hr _ _ _)
        | ret => exact this
    | loop c =>
      simp only [trCode] at htr
      split at htr <;> simp only [Option.some.injEq, reduceCtorEq] at htr
      rename_i p hp; subst htr
      -- what holds at a round's head with so much fuel
      refine wp_loop_fuel (n := n + 1) (I := fun m a' w' => m ≤ n + 1 ∧ ∃ Φ' env' H', St Φ' ps nt env' H' a' w' ∧ aCode call m (.loop p) env' H' = some (e, envF, HF) ∧ Ext Φ (getB H) w Φ' (getB H') w' ∧ Dom Φ Φ' H.length H'.length ∧ H.length ≤ H'.length)
        (fun m a' w' hI => ?_) ⟨Nat.le_refl _, Φ, env, H, hS, h, Ext.refl _ _ _, Dom.refl _ _ _, Nat.le_refl _⟩
      obtain ⟨hm, Φ', env', H', hS', h', hE, hD, hle⟩ := hI
      cases m with
      | zero => simp [aCode] at h'
      | succ m =>
        have hlF := code_len CS (m + 1) _ h'
        simp only [aCode] at h'
        have up : ∀ {e0 env1 H1}, aCode call m p env' H' = some (e0, env1, H1) → aCode call n p env' H' = some (e0, env1, H1) := fun h0 => aCode_mono (.refl _) m n _ _ _ (by omega) h0
        split at h'
        · rename_i env1 H1 h1
          have l1 := code_len CS m _ h1
          have l2 := code_len CS m _ h'
          refine ih c p env' H' .normal env1 H1 hp (up h1) Φ' a' w' _ hS' ((hfree.next hle hD).split l2) (fun Φ2 a2 w2 q1 q2 q3 => ?_)
          exact ⟨m, by omega, by omega, Φ2, env1, H1, q1, h', hE.trans q2, hD.trans q3 hle l1, Nat.le_trans hle l1⟩
        · rename_i r hr
          refine ih c p env' H' e envF HF hp (up h') Φ' a' w' _ hS' (hfree.next hle hD) (fun Φ2 a2 w2 q1 q2 q3 => ?_)
          have := hQ Φ2 a2 w2 q1 (hE.trans q2) (hD.trans q3 hle hlF)
          cases e with
          | normal => exact absurd h' (hr _ _)
          | exit id => exact this
          | ret => exact this
    | exit id =>
      simp only [trCode, Option.some.injEq] at htr; subst htr
      simp only [aCode, Option.some.injEq, Prod.mk.injEq] at h
      obtain ⟨rfl, rfl, rfl⟩ := h
      exact wp_exit (hQ Φ a w hS (Ext.refl _ _ _) (Dom.refl _ _ _))
    | ret =>
      simp only [trCode, Option.some.injEq] at htr; subst htr
      simp only [aCode, Option.some.injEq, Prod.mk.injEq] at h
      obtain ⟨rfl, rfl, rfl⟩ := h
      exact wp_ret (hQ Φ a w hS (Ext.refl _ _ _) (Dom.refl _ _ _))
    | _ => simp [trCode] at htr

/-- What the program's functions are, in compact code. -/
def ProgOk (P : Program) (prog : Nat → Option AFun) : Prop := ∀ f af, prog f = some af → ∃ fn, P.funcs[f]? = some fn ∧ trFun P fn af.ps = some af

/-- Oracles that are sound. -/
def OrcOk (P : Program) (orc : Nat → Option (List AV → AHeap → Option (AV × AHeap))) : Prop := ∀ f g, orc f = some g → CallSound P (fun f' as H => if f' = f then g as H else none)

theorem aRes_ok {P : Program} {ps : List Nat} {Φ : Phi} {env : List AV} {H : AHeap} {a : Act} {w : World} (hE : EnvOk Φ ps env a) (S : Sim Φ (getB H) w) : ∀ (rs : List ResultVar) {ra : List ResA} {vs : List AV},
    trRes P ps rs = some ra → aRes env H ra = some vs → ∃ xs : List Value, Rs Φ vs xs ∧
      (rs.mapM (fun (r : ResultVar) => (match r with
        | .tmp t => pure (a.tmps.getD t undef)
        | .cell b t => do loadVar t (← asAddr (a.tmps.getD b undef)) : Sem Value))).run P w = .ok xs w
  | [], ra, vs, h, h2 => by
    simp only [trRes, Option.some.injEq] at h; subst h
    simp only [aRes, Option.some.injEq] at h2; subst h2
    exact ⟨[], .nil, by simp⟩
  | .tmp t :: rs, ra, vs, h, h2 => by
    simp only [trRes] at h
    split at h <;> simp only [Option.some.injEq, reduceCtorEq] at h
    rename_i x l hx hl; subst h
    simp only [aRes] at h2
    split at h2 <;> simp only [Option.some.injEq, reduceCtorEq] at h2
    rename_i v us hv hus; subst h2
    obtain ⟨xs, h3, h4⟩ := aRes_ok hE S rs hl hus
    refine ⟨a.tmps.getD t undef :: xs, .cons (hE x t v (idxOf_get hx) hv) h3, ?_⟩
    simp only [List.mapM_cons, Sem.run_bind, Sem.run_pure, Result.andThen_ok, h4]
  | .cell b t :: rs, ra, vs, h, h2 => by
    simp only [trRes] at h
    split at h
    · rename_i x n g l hx hn hg hl
      split at h <;> simp only [Option.some.injEq, reduceCtorEq] at h
      subst h
      simp only [aRes] at h2
      split at h2
      · rename_i i o us hv hus
        split at h2
        · rename_i cs hcs
          split at h2 <;> simp only [Option.some.injEq, reduceCtorEq] at h2
          rename_i v hmk; subst h2
          obtain ⟨xs, h3, h4⟩ := aRes_ok hE S rs hl hus
          have hp := hE x b _ (idxOf_get hx) hv
          simp only [R] at hp
          obtain ⟨lc, hlc, hpv⟩ := hp
          obtain ⟨v', hr, hR⟩ := load_ok (c := ⟨P, ps, []⟩) S hn hg hcs hmk hlc
          refine ⟨v' :: xs, .cons hR h3, ?_⟩
          have hadr : (asAddr (a.tmps.getD b undef)).run P w = .ok ⟨lc.b, lc.base + o, none⟩ w := by rw [hpv]; rfl
          simp only [List.mapM_cons, Sem.run_bind, hadr, Sem.run_pure, Result.andThen_ok, hr, h4]
        · simp at h2
      · simp at h2
    · simp at h

theorem single_R {Φ : Phi} {vs : List AV} {xs : List Value} (h : Rs Φ vs xs) : R Φ (single vs) (if h : (List.toArray xs).size = 1 then (List.toArray xs)[0] else .tuple (List.toArray xs)) := by
  cases vs with
  | nil =>
    simp only [Rs] at h; subst h
    simp only [single, R]; exact ⟨[], by simp, .nil⟩
  | cons v r =>
    cases r with
    | nil =>
      simp only [Rs] at h
      obtain ⟨x, xs', rfl, hR, rfl⟩ := h
      simpa [single] using hR
    | cons u r =>
      have hl := h.len
      have : ¬ (List.toArray xs).size = 1 := by simp at hl ⊢; omega
      rw [dif_neg this]
      simp only [single, R]
      exact ⟨xs, rfl, h⟩

theorem body_calls {P : Program} {call : CallT} (CS : CallSound P call) {f : FuncId} {fn : Func} (hf : P.funcs[f]? = some fn) {af : AFun} (htr : trFun P fn af.ps = some af) {n : Nat} {args : List AV} {H H' : AHeap} {r : AV}
    (h : aBody call n af args H = some (r, H')) : H.length ≤ H'.length ∧ Callable P f ∧
    ∀ Φ w vs, Sim Φ (getB H) w → Free Φ H.length H'.length → Rs Φ args vs → Calls P f (List.toArray vs) w (CallPost Φ H w r H') := by
  unfold trFun at htr
  split at htr
  · simp at htr
  · rename_i c hc
    split at htr
    · rename_i hcond
      obtain ⟨hn1, hn2, hn3, hn4⟩ := hcond
      split at htr <;> simp only [Option.some.injEq, reduceCtorEq] at htr
      rename_i b rs hb hrs
      have e1 : af.nargs = fn.nfree + fn.params.size := by rw [← htr]
      have e2 : af.body = b := by rw [← htr]
      have e3 : af.res = rs := by rw [← htr]
      unfold aBody at h
      split at h
      · rename_i hlen
        rw [e1] at hlen
        -- the run of the body
        obtain ⟨ex, env, hcode, hex, us, hus, rfl⟩ : ∃ ex env, aCode call n b (env0 af.ps args) H = some (ex, env, H') ∧ (ex = .normal ∨ ex = .ret) ∧ ∃ us, aRes env H' rs = some us ∧ r = single us := by
          rw [e2, e3] at h
          cases hq : aCode call n b (env0 af.ps args) H with
          | none => rw [hq] at h; simp at h
          | some q =>
            obtain ⟨ex, env, H1⟩ := q
            rw [hq] at h
            cases ex with
            | normal =>
              simp only at h
              split at h <;> simp only [Option.some.injEq, Prod.mk.injEq, reduceCtorEq] at h
              rename_i us hus
              obtain ⟨rfl, rfl⟩ := h
              exact ⟨_, _, rfl, .inl rfl, us, hus, rfl⟩
            | ret =>
              simp only at h
              split at h <;> simp only [Option.some.injEq, Prod.mk.injEq, reduceCtorEq] at h
              rename_i us hus
              obtain ⟨rfl, rfl⟩ := h
              exact ⟨_, _, rfl, .inr rfl, us, hus, rfl⟩
            | exit id => simp at h
        refine ⟨code_len CS n _ hcode, ⟨fn, hf, by rw [hc]; rfl, by simpa using hn4⟩, fun Φ w vs S hfree hR => ?_⟩
        have hvl := hR.len
        refine calls_of_wp hf hc ?_
        refine code_wp CS hn3 n c b _ H ex env H' hb hcode Φ _ w _ ⟨fun x s e h1 h2 => ?_, ?_, rfl, S⟩ hfree (fun Φ' a' w' q1 q2 q3 => ?_)
        · simp only [env0, List.getElem?_map, h1, Option.map_some, Option.some.injEq] at h2
          subst h2
          cases ha : args[s]? with
          | none => simp only [Option.getD_none, R]
          | some v =>
            simp only [Option.getD_some]
            obtain ⟨u, hu, hRu⟩ := hR.get ha
            have hlt : s < vs.length := by
              rcases Nat.lt_or_ge s vs.length with h | h
              · exact h
              · rw [List.getElem?_eq_none h] at hu; simp at hu
            rw [Array.getD_eq_getD_getElem?, Array.getElem?_append_left (by simpa using hlt)]
            simp only [List.getElem?_toArray, hu, Option.getD_some]
            exact hRu
        · simp; omega
        · obtain ⟨xs, hxs, hrun⟩ := aRes_ok (P := P) q1.env q1.sim fn.results.toList hrs hus
          have hres : (results fn a'.tmps).run P w' = .ok (if h : (List.toArray xs).size = 1 then (List.toArray xs)[0] else .tuple (List.toArray xs)) w' := by
            unfold results
            rw [← Array.toArray_toList (xs := fn.results)]
            simp only [List.mapM_toArray, Sem.run_bind, Sem.run_map]
            erw [hrun]
            rfl
          have hpost : CallPost Φ H w (single us) H' (.returned (if h : (List.toArray xs).size = 1 then (List.toArray xs)[0] else .tuple (List.toArray xs))) w' :=
            ⟨Φ', _, rfl, single_R hxs, q1.sim, q2, q3⟩
          rcases hex with rfl | rfl
          · exact ⟨q1.defers, _, hres, hpost⟩
          · exact ⟨q1.defers, _, hres, hpost⟩
      · simp at h
    · simp at htr

/-- A call that compact code carries out is carried out by the machine, with the same answer. -/
theorem call_sound {P : Program} {prog : Nat → Option AFun} {orc : Nat → Option (List AV → AHeap → Option (AV × AHeap))} (hp : ProgOk P prog) (ho : OrcOk P orc) : ∀ n, CallSound P (aCall prog orc n)
  | 0 => by intro f args H r H' h; simp [aCall] at h
  | n + 1 => by
    intro f args H r H' h
    unfold aCall at h
    split at h
    · rename_i g hg
      exact ho f g hg f args H r H' (by simpa using h)
    · split at h
      · rename_i fn hfn
        obtain ⟨fn', h1, h2⟩ := hp f fn hfn
        exact body_calls (call_sound hp ho n) h1 h2 h
      · simp at h

end Go.Am
