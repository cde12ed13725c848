/- Rules by which a run of compact code is shown: each an equivalence, so that simp goes through a region by itself. -/
import Derived.Test.YtnblhjpbpobglaaAmS
namespace Go.Am

structure Prg where
  prog : Nat → Option AFun
  orc : Nat → Option (List AV → AHeap → Option (AV × AHeap))

def Prg.call (p : Prg) (n : Nat) : CallT := aCall p.prog p.orc n

/-- A call ends so. -/
def WF (p : Prg) (f : Nat) (xs : List AV) (H : AHeap) (K : AV → AHeap → Prop) : Prop := ∃ n r HF, p.call n f xs H = some (r, HF) ∧ K r HF

/-- Operations end so. -/
def XO (p : Prg) (all : List AOper) (env : List AV) (l : List AOper) (vals : List AV) (env' : List AV) (H : AHeap) (K : List AV → AHeap → Prop) : Prop :=
  (∀ o, o ∈ l → o.bef = []) ∧ ∃ m eF HF, runOps (p.call m) all env l vals [] env' H = some (eF, HF) ∧ K eF HF

/-- Code ends so. -/
def WC (p : Prg) (c : ACode) (env : List AV) (H : AHeap) (K : AExit → List AV → AHeap → Prop) : Prop :=
  ∃ m n e eF HF, aCode (p.call m) n c env H = some (e, eF, HF) ∧ K e eF HF

theorem runOps_hs {c : CallT} {all : List AOper} {env : List AV} : ∀ (l : List AOper) (vals : List AV) (hs hs' : List AHeap) (env' : List AV) (H : AHeap), (∀ o, o ∈ l → o.bef = []) →
    runOps c all env l vals hs env' H = runOps c all env l vals hs' env' H
  | [], _, _, _, _, _, _ => by simp only [runOps]
  | o :: r, vals, hs, hs', env', H, h => by
    have h1 := h o (by simp)
    have h2 : ∀ o, o ∈ r → o.bef = [] := fun o ho => h o (by simp [ho])
    simp only [runOps, h1, List.all_nil, Bool.and_true]
    split
    · rfl
    · exact runOps_hs r _ _ _ _ _ h2
    · split
      · rfl
      · split
        · exact runOps_hs r _ _ _ _ _ h2
        · rfl

section
variable {p : Prg} {all : List AOper} {env vals env' : List AV} {H : AHeap} {K : List AV → AHeap → Prop} {r : List AOper} {op : AOp} {dst : Option Nat} {aft : List Nat}

/-- One more value. -/
def snoc : List AV → AV → List AV
  | [], v => [v]
  | a :: l, v => a :: snoc l v
theorem snoc_eq : ∀ (l : List AV) (v : AV), snoc l v = l ++ [v]
  | [], _ => rfl
  | a :: l, v => by simp [snoc, snoc_eq l v]

theorem call_le {n m : Nat} (h : n ≤ m) : CallLe (p.call n) (p.call m) := aCall_le _ _ h

theorem XO_nil : XO p all env [] vals env' H K ↔ K env' H := by
  unfold XO
  constructor
  · rintro ⟨_, m, eF, HF, h1, h2⟩
    simp only [runOps, Option.some.injEq, Prod.mk.injEq] at h1
    obtain ⟨rfl, rfl⟩ := h1
    exact h2
  · intro h
    exact ⟨by simp, 0, env', H, by simp only [runOps], h⟩

theorem XO_step {v : AV} {H1 : AHeap} (hop : ∀ n, aOp (p.call n) env vals H op = some (v, H1)) :
    XO p all env ({ op := op, dst := dst, aft := aft } :: r) vals env' H K ↔ aft.all (sameAt all env vals H1) = true ∧ XO p all env r (snoc vals v) (put env' dst v) H1 K := by
  unfold XO
  rw [snoc_eq]
  constructor
  · rintro ⟨h1, m, eF, HF, h2, h3⟩
    have hb : ∀ o, o ∈ r → o.bef = [] := fun o ho => h1 o (by simp [ho])
    simp only [runOps, wantedA, hop] at h2
    split at h2
    · rename_i hc
      simp only [Bool.and_eq_true] at hc
      refine ⟨hc.1, hb, m, eF, HF, ?_, h3⟩
      rw [runOps_hs r _ _ _ _ _ hb]; exact h2
    · simp at h2
  · rintro ⟨h0, h1, m, eF, HF, h2, h3⟩
    refine ⟨fun o ho => ?_, m, eF, HF, ?_, h3⟩
    · simp only [List.mem_cons] at ho
      rcases ho with rfl | ho
      · rfl
      · exact h1 o ho
    · simp only [runOps, wantedA, hop, h0, List.all_nil, Bool.and_true, if_true]
      rw [runOps_hs r _ _ _ _ _ h1]; exact h2

theorem XO_stuck (hop : ∀ n, aOp (p.call n) env vals H op = none) : ¬ XO p all env ({ op := op, dst := dst, aft := aft } :: r) vals env' H K := by
  rintro ⟨h1, m, eF, HF, h2, h3⟩
  simp [runOps, wantedA, hop] at h2

theorem XO_pure (hc : op.cls = .pure) : XO p all env ({ op := op, dst := dst } :: r) vals env' H K ↔ ∃ v, aPure env vals op = some v ∧ XO p all env r (snoc vals v) (put env' dst v) H K := by
  cases hv : aPure env vals op with
  | none =>
    have := XO_stuck (p := p) (all := all) (env := env) (vals := vals) (env' := env') (H := H) (K := K) (r := r) (op := op) (dst := dst) (aft := []) (fun n => by simp [aOp, hc, hv])
    exact ⟨fun h => absurd h this, fun ⟨v, h, _⟩ => by simp at h⟩
  | some v =>
    rw [XO_step (v := v) (H1 := H) (fun n => by simp [aOp, hc, hv])]
    simp

theorem XO_read (hc : op.cls = .read) : XO p all env ({ op := op, dst := dst } :: r) vals env' H K ↔ ∃ v, aRead env vals H op = some v ∧ XO p all env r (snoc vals v) (put env' dst v) H K := by
  cases hv : aRead env vals H op with
  | none =>
    have := XO_stuck (p := p) (all := all) (env := env) (vals := vals) (env' := env') (H := H) (K := K) (r := r) (op := op) (dst := dst) (aft := []) (fun n => by simp [aOp, hc, hv])
    exact ⟨fun h => absurd h this, fun ⟨v, h, _⟩ => by simp at h⟩
  | some v =>
    rw [XO_step (v := v) (H1 := H) (fun n => by simp [aOp, hc, hv])]
    simp

theorem XO_new (hc : op.cls = .new) : XO p all env ({ op := op, dst := dst } :: r) vals env' H K ↔
    ∃ q, aNew env vals op = some q ∧ XO p all env r (snoc vals (q.1 H.length)) (put env' dst (q.1 H.length)) (H ++ [some q.2]) K := by
  cases hv : aNew env vals op with
  | none =>
    have := XO_stuck (p := p) (all := all) (env := env) (vals := vals) (env' := env') (H := H) (K := K) (r := r) (op := op) (dst := dst) (aft := []) (fun n => by simp [aOp, hc, hv])
    exact ⟨fun h => absurd h this, fun ⟨v, h, _⟩ => by simp at h⟩
  | some q =>
    rw [XO_step (v := q.1 H.length) (H1 := H ++ [some q.2]) (fun n => by simp [aOp, hc, hv])]
    simp

def noCall : CallT := fun _ _ _ => none

def AOp.plainEff : AOp → Bool
  | .store .. | .append .. | .copy .. | .clear .. | .mapset .. | .delete .. => true
  | _ => false

theorem plainEff_call {op : AOp} (hc : op.plainEff = true) (c : CallT) : aOp c env vals H op = aEff noCall env vals H op := by
  cases op <;> simp [AOp.plainEff] at hc <;> simp [aOp, AOp.cls, aEff]

theorem XO_eff (hc : op.plainEff = true) : XO p all env ({ op := op, dst := dst, aft := aft } :: r) vals env' H K ↔
    ∃ q, aEff noCall env vals H op = some q ∧ aft.all (sameAt all env vals q.2) = true ∧ XO p all env r (snoc vals q.1) (put env' dst q.1) q.2 K := by
  cases hv : aEff noCall env vals H op with
  | none =>
    have := XO_stuck (p := p) (all := all) (env := env) (vals := vals) (env' := env') (H := H) (K := K) (r := r) (op := op) (dst := dst) (aft := aft) (fun n => by rw [plainEff_call hc, hv])
    exact ⟨fun h => absurd h this, fun ⟨v, h, _⟩ => by simp at h⟩
  | some q =>
    rw [XO_step (v := q.1) (H1 := q.2) (fun n => by rw [plainEff_call hc, hv])]
    simp

theorem WF.mono {f : Nat} {xs : List AV} {K K' : AV → AHeap → Prop} (h : WF p f xs H K) (hk : ∀ r H', K r H' → K' r H') : WF p f xs H K' := by
  obtain ⟨n, r, HF, h1, h2⟩ := h
  exact ⟨n, r, HF, h1, hk _ _ h2⟩

theorem XO_call_core {f : Nat} {ys : List AV} (hop : ∀ n, aOp (p.call n) env vals H op = p.call n f ys H) :
    XO p all env ({ op := op, dst := dst, aft := aft } :: r) vals env' H K ↔
      WF p f ys H (fun v H1 => aft.all (sameAt all env vals H1) = true ∧ XO p all env r (snoc vals v) (put env' dst v) H1 K) := by
  unfold XO WF
  simp only [snoc_eq]
  constructor
  · rintro ⟨h1, m, eF, HF, h2, h3⟩
    have hb : ∀ o, o ∈ r → o.bef = [] := fun o ho => h1 o (by simp [ho])
    simp only [runOps, wantedA, hop] at h2
    split at h2
    · simp at h2
    · rename_i v H1 hv
      split at h2
      · rename_i hc
        simp only [Bool.and_eq_true] at hc
        refine ⟨m, v, H1, hv, hc.1, hb, m, eF, HF, ?_, h3⟩
        rw [runOps_hs r _ _ _ _ _ hb]; exact h2
      · simp at h2
  · rintro ⟨n, v, H1, hv, h0, h1, m, eF, HF, h2, h3⟩
    refine ⟨fun o ho => ?_, max n m, eF, HF, ?_, h3⟩
    · simp only [List.mem_cons] at ho
      rcases ho with rfl | ho
      · rfl
      · exact h1 o ho
    · simp only [runOps, wantedA, hop, call_le (Nat.le_max_left n m) _ _ _ _ hv, h0, List.all_nil, Bool.and_true, if_true]
      rw [runOps_hs r _ _ [] _ _ h1]
      exact runOps_mono (call_le (Nat.le_max_right n m)) _ _ _ _ _ h2

theorem XO_call {f : Nat} {xs : List Opd} : XO p all env ({ op := .call f xs, dst := dst, aft := aft } :: r) vals env' H K ↔
    ∃ ys, avals env vals xs = some ys ∧ WF p f ys H (fun v H1 => aft.all (sameAt all env vals H1) = true ∧ XO p all env r (snoc vals v) (put env' dst v) H1 K) := by
  cases hv : avals env vals xs with
  | none =>
    have := XO_stuck (p := p) (all := all) (env := env) (vals := vals) (env' := env') (H := H) (K := K) (r := r) (op := .call f xs) (dst := dst) (aft := aft) (fun n => by simp [aOp, AOp.cls, aEff, hv])
    exact ⟨fun h => absurd h this, fun ⟨v, h, _⟩ => by simp at h⟩
  | some ys =>
    rw [XO_call_core (f := f) (ys := ys) (fun n => by simp [aOp, AOp.cls, aEff, hv])]
    simp

theorem XO_callv {g : Opd} {xs : List Opd} {f : Nat} {a c ys : List AV} (hg : aval env vals g = some (.fn f a c)) (hy : avals env vals xs = some ys) :
    XO p all env ({ op := .callv g xs, dst := dst, aft := aft } :: r) vals env' H K ↔
      WF p f (a ++ ys ++ c) H (fun v H1 => aft.all (sameAt all env vals H1) = true ∧ XO p all env r (snoc vals v) (put env' dst v) H1 K) :=
  XO_call_core (fun n => by simp [aOp, AOp.cls, aEff, hg, hy])

theorem XO_guard {g : Nat × Bool} : XO p all env ({ op := op, dst := dst, guard := some g, aft := aft } :: r) vals env' H K ↔
    ∃ b, wantedA vals (some g) = some b ∧ (b = true → XO p all env ({ op := op, dst := dst, aft := aft } :: r) vals env' H K) ∧
      (b = false → XO p all env r (snoc vals (.tup [])) (put env' dst (.tup [])) H K) := by
  unfold XO
  simp only [snoc_eq]
  constructor
  · rintro ⟨h1, m, eF, HF, h2, h3⟩
    have hb : ∀ o, o ∈ r → o.bef = [] := fun o ho => h1 o (by simp [ho])
    simp only [runOps] at h2
    split at h2
    · simp at h2
    · rename_i hw
      exact ⟨false, hw, by simp, fun _ => ⟨hb, m, eF, HF, by rw [runOps_hs r _ _ _ _ _ hb]; exact h2, h3⟩⟩
    · rename_i hw
      refine ⟨true, hw, fun _ => ⟨fun o ho => ?_, m, eF, HF, ?_, h3⟩, by simp⟩
      · simp only [List.mem_cons] at ho
        rcases ho with rfl | ho
        · rfl
        · exact hb o ho
      · simp only [runOps, wantedA]; exact h2
  · rintro ⟨b, hw, ht, hf⟩
    cases b with
    | true =>
      obtain ⟨h1, m, eF, HF, h2, h3⟩ := ht rfl
      have hb : ∀ o, o ∈ r → o.bef = [] := fun o ho => h1 o (by simp [ho])
      refine ⟨fun o ho => ?_, m, eF, HF, ?_, h3⟩
      · simp only [List.mem_cons] at ho
        rcases ho with rfl | ho
        · rfl
        · exact hb o ho
      · simp only [runOps, hw]
        simp only [runOps, wantedA] at h2
        exact h2
    | false =>
      obtain ⟨hb, m, eF, HF, h2, h3⟩ := hf rfl
      refine ⟨fun o ho => ?_, m, eF, HF, ?_, h3⟩
      · simp only [List.mem_cons] at ho
        rcases ho with rfl | ho
        · rfl
        · exact hb o ho
      · simp only [runOps, hw]
        rw [runOps_hs r _ _ _ _ _ hb]; exact h2

end

section
variable {p : Prg} {env : List AV} {H : AHeap} {K : AExit → List AV → AHeap → Prop} {a b c : ACode}

theorem WC.mono {K' : AExit → List AV → AHeap → Prop} (h : WC p c env H K) (hk : ∀ e env' H', K e env' H' → K' e env' H') : WC p c env H K' := by
  obtain ⟨m, n, e, eF, HF, h1, h2⟩ := h
  exact ⟨m, n, e, eF, HF, h1, hk _ _ _ h2⟩

theorem WC_skip : WC p .skip env H K ↔ K .normal env H :=
  ⟨fun ⟨m, n, e, eF, HF, h1, h2⟩ => by cases n <;> simp [aCode] at h1; obtain ⟨rfl, rfl, rfl⟩ := h1; exact h2, fun h => ⟨0, 1, _, _, _, rfl, h⟩⟩

theorem WC_exit {id : Nat} : WC p (.exit id) env H K ↔ K (.exit id) env H :=
  ⟨fun ⟨m, n, e, eF, HF, h1, h2⟩ => by cases n <;> simp [aCode] at h1; obtain ⟨rfl, rfl, rfl⟩ := h1; exact h2, fun h => ⟨0, 1, _, _, _, rfl, h⟩⟩

theorem WC_ret : WC p .ret env H K ↔ K .ret env H :=
  ⟨fun ⟨m, n, e, eF, HF, h1, h2⟩ => by cases n <;> simp [aCode] at h1; obtain ⟨rfl, rfl, rfl⟩ := h1; exact h2, fun h => ⟨0, 1, _, _, _, rfl, h⟩⟩

theorem WC_region {ops : List AOper} (h : XO p ops env ops [] env H (fun e H' => K .normal e H')) : WC p (.region ops) env H K := by
  obtain ⟨_, m, eF, HF, h2, h3⟩ := h
  exact ⟨m, 1, .normal, eF, HF, by simp [aCode, h2], h3⟩

theorem WC_seq : WC p (.seq a b) env H K ↔ WC p a env H (fun e env' H' => (e = .normal → WC p b env' H' K) ∧ (e ≠ .normal → K e env' H')) := by
  constructor
  · rintro ⟨m, n, e, eF, HF, h1, h2⟩
    cases n with
    | zero => simp [aCode] at h1
    | succ n =>
      simp only [aCode] at h1
      cases h3 : aCode (p.call m) n a env H with
      | none => rw [h3] at h1; simp at h1
      | some q =>
        obtain ⟨e1, env1, H1⟩ := q
        rw [h3] at h1
        refine ⟨m, n, e1, env1, H1, h3, fun he => ?_, fun he => ?_⟩
        · subst he; exact ⟨m, n, e, eF, HF, h1, h2⟩
        · cases e1 with
          | normal => exact absurd rfl he
          | exit id => simp only [Option.some.injEq, Prod.mk.injEq] at h1; obtain ⟨rfl, rfl, rfl⟩ := h1; exact h2
          | ret => simp only [Option.some.injEq, Prod.mk.injEq] at h1; obtain ⟨rfl, rfl, rfl⟩ := h1; exact h2
  · rintro ⟨m, n, e, env1, H1, h1, h2, h3⟩
    cases e with
    | normal =>
      obtain ⟨m2, n2, e2, eF, HF, h4, h5⟩ := h2 rfl
      refine ⟨max m m2, max n n2 + 1, e2, eF, HF, ?_, h5⟩
      simp only [aCode]
      rw [aCode_mono (call_le (Nat.le_max_left m m2)) n (max n n2) a env H (Nat.le_max_left _ _) h1]
      exact aCode_mono (call_le (Nat.le_max_right m m2)) n2 (max n n2) b env1 H1 (Nat.le_max_right _ _) h4
    | exit id => exact ⟨m, n + 1, _, _, _, by simp only [aCode, h1], h3 (by simp)⟩
    | ret => exact ⟨m, n + 1, _, _, _, by simp only [aCode, h1], h3 (by simp)⟩

theorem WC_cond {x : Opd} : WC p (.cond x a b) env H K ↔ ∃ t, aval env [] x = some (.bool t) ∧ (t = true → WC p a env H K) ∧ (t = false → WC p b env H K) := by
  constructor
  · rintro ⟨m, n, e, eF, HF, h1, h2⟩
    cases n with
    | zero => simp [aCode] at h1
    | succ n =>
      simp only [aCode] at h1
      split at h1
      · rename_i t ht
        refine ⟨t, ht, fun he => ?_, fun he => ?_⟩ <;> subst he
        · exact ⟨m, n, e, eF, HF, h1, h2⟩
        · exact ⟨m, n, e, eF, HF, h1, h2⟩
      · simp at h1
  · rintro ⟨t, ht, h1, h2⟩
    cases t with
    | true => obtain ⟨m, n, e, eF, HF, h3, h4⟩ := h1 rfl; exact ⟨m, n + 1, e, eF, HF, by simp only [aCode, ht]; exact h3, h4⟩
    | false => obtain ⟨m, n, e, eF, HF, h3, h4⟩ := h2 rfl; exact ⟨m, n + 1, e, eF, HF, by simp only [aCode, ht]; exact h3, h4⟩

theorem WC_block {id : Nat} : WC p (.block id a) env H K ↔ WC p a env H (fun e env' H' => (e = .exit id → K .normal env' H') ∧ (e ≠ .exit id → K e env' H')) := by
  constructor
  · rintro ⟨m, n, e, eF, HF, h1, h2⟩
    cases n with
    | zero => simp [aCode] at h1
    | succ n =>
      simp only [aCode] at h1
      cases h3 : aCode (p.call m) n a env H with
      | none => rw [h3] at h1; simp at h1
      | some q =>
        obtain ⟨e1, env1, H1⟩ := q
        rw [h3] at h1
        refine ⟨m, n, e1, env1, H1, h3, fun he => ?_, fun he => ?_⟩
        · subst he
          simp only [if_true, Option.some.injEq, Prod.mk.injEq] at h1
          obtain ⟨rfl, rfl, rfl⟩ := h1; exact h2
        · cases e1 with
          | exit id' =>
            simp only at h1
            rw [if_neg (fun e => he (by rw [e]))] at h1
            simp only [Option.some.injEq, Prod.mk.injEq] at h1
            obtain ⟨rfl, rfl, rfl⟩ := h1; exact h2
          | normal => simp only [Option.some.injEq, Prod.mk.injEq] at h1; obtain ⟨rfl, rfl, rfl⟩ := h1; exact h2
          | ret => simp only [Option.some.injEq, Prod.mk.injEq] at h1; obtain ⟨rfl, rfl, rfl⟩ := h1; exact h2
  · rintro ⟨m, n, e, env1, H1, h1, h2, h3⟩
    by_cases he : e = .exit id
    · subst he
      exact ⟨m, n + 1, _, _, _, by simp only [aCode, h1, if_true], h2 rfl⟩
    · refine ⟨m, n + 1, e, env1, H1, ?_, h3 he⟩
      cases e with
      | exit id' => simp only [aCode, h1]; rw [if_neg (fun e => he (by rw [e]))]
      | normal => simp only [aCode, h1]
      | ret => simp only [aCode, h1]

theorem WC_loop (I : Nat → List AV → AHeap → Prop) (step : ∀ n env H, I n env H → WC p c env H (fun e env' H' => (e = .normal → ∃ m, m < n ∧ I m env' H') ∧ (e ≠ .normal → K e env' H'))) :
    ∀ (n : Nat) (env : List AV) (H : AHeap), I n env H → WC p (.loop c) env H K := by
  intro n
  induction n using Nat.strongRecOn with
  | _ n ih =>
    intro env H hI
    obtain ⟨m, k, e, env1, H1, h1, h2, h3⟩ := step n env H hI
    cases e with
    | normal =>
      obtain ⟨n', hn', hI'⟩ := h2 rfl
      obtain ⟨m2, k2, e2, eF, HF, h4, h5⟩ := ih n' hn' env1 H1 hI'
      refine ⟨max m m2, max k k2 + 1, e2, eF, HF, ?_, h5⟩
      simp only [aCode]
      rw [aCode_mono (call_le (Nat.le_max_left m m2)) k (max k k2) c env H (Nat.le_max_left _ _) h1]
      exact aCode_mono (call_le (Nat.le_max_right m m2)) k2 (max k k2) (.loop c) env1 H1 (Nat.le_max_right _ _) h4
    | exit id => exact ⟨m, k + 1, _, _, _, by simp only [aCode, h1], h3 (by simp)⟩
    | ret => exact ⟨m, k + 1, _, _, _, by simp only [aCode, h1], h3 (by simp)⟩

theorem WF_fun {f : Nat} {fn : AFun} {xs : List AV} {K : AV → AHeap → Prop} (ho : p.orc f = none) (hp : p.prog f = some fn) (hl : xs.length = fn.nargs)
    (h : WC p fn.body (env0 fn.ps xs) H (fun e env H' => (e = .normal ∨ e = .ret) ∧ ∃ vs, aRes env H' fn.res = some vs ∧ K (single vs) H')) : WF p f xs H K := by
  obtain ⟨m, n, e, eF, HF, h1, he, vs, h2, h3⟩ := h
  refine ⟨max m n + 1, single vs, HF, ?_, h3⟩
  have h4 := aCode_mono (call_le (Nat.le_max_left m n)) n (max m n) _ _ _ (Nat.le_max_right m n) h1
  unfold Prg.call at h4
  simp only [Prg.call, aCall, ho, hp, aBody, hl, if_true, h4]
  rcases he with rfl | rfl <;> simp only [h2]

theorem WF_orc {f : Nat} {g : List AV → AHeap → Option (AV × AHeap)} {xs : List AV} {K : AV → AHeap → Prop} {r : AV} {H' : AHeap} (ho : p.orc f = some g) (hr : g xs H = some (r, H')) (h : K r H') : WF p f xs H K :=
  ⟨1, r, H', by simp only [Prg.call, aCall, ho]; exact hr, h⟩

end
end Go.Am
