/- All operations that touch no memory: what compact code says is what the machine does. -/
import Derived.Test.YtnblhjpbpobglaaAmF
namespace Go.Am

section
variable {c : Ctx} {env vals : List AV} {Φ : Phi} {ρ : Operand → Value} {w : World}

theorem eqNil_ok {t : TypeId} {k : NilK} {a b : AV} {x y : Value} {r : Bool} {d : TypeDesc} (hu : c.P.underlying t = some d)
    (hd : (k = .ptr ∧ ∃ e, d = .pointer e) ∨ (k = .slice ∧ ∃ e, d = .slice e) ∨ (k = .map ∧ ∃ k e, d = .map k e) ∨ (k = .func ∧ ∃ p q v, d = .func p q v))
    (ha : R Φ a x) (hb : R Φ b y) (h : eqNil k a b = some r) :
    (∀ d, (Op.equalIn (d + 1) t x y).run c.P w = .ok r w) ∧ (∀ u v, ¬ (x = .nilIface ∧ y = .nilIface) ∧ ¬ (x = .agg u ∧ y = .agg v)) ∧
      (binOp .eql t x y = (do pure (.bool (← Op.equal t x y)))) ∧ (binOp .neq t x y = (do pure (.bool (!(← Op.equal t x y))))) := by
  rcases hd with ⟨rfl, e, rfl⟩ | ⟨rfl, e, rfl⟩ | ⟨rfl, e, e', rfl⟩ | ⟨rfl, e, e', v, rfl⟩
  · cases a <;> cases b <;> simp [eqNil] at h <;> subst h <;> simp only [R] at ha hb
    · obtain ⟨l, _, rfl⟩ := ha
      subst hb
      exact ⟨fun d => by simp [Op.equalIn, run_underlying hu], by simp, rfl, rfl⟩
    · obtain ⟨l, _, rfl⟩ := hb
      subst ha
      exact ⟨fun d => by simp [Op.equalIn, run_underlying hu], by simp, rfl, rfl⟩
    · subst ha; subst hb
      exact ⟨fun d => by simp [Op.equalIn, run_underlying hu], by simp, rfl, rfl⟩
  · cases a <;> cases b <;> simp [eqNil] at h <;> subst h <;> simp only [R] at ha hb
    · obtain ⟨l, a, q, _, rfl, _⟩ := ha
      subst hb
      exact ⟨fun d => by simp [Op.equalIn, run_underlying hu], by simp, rfl, rfl⟩
    · obtain ⟨l, a, q, _, rfl, _⟩ := hb
      subst ha
      exact ⟨fun d => by simp [Op.equalIn, run_underlying hu], by simp, rfl, rfl⟩
    · subst ha; subst hb
      exact ⟨fun d => by simp [Op.equalIn, run_underlying hu], by simp, rfl, rfl⟩
    · obtain ⟨a, rfl⟩ := hb
      subst ha
      exact ⟨fun d => by simp [Op.equalIn, run_underlying hu], by simp, rfl, rfl⟩
    · obtain ⟨a, rfl⟩ := ha
      subst hb
      exact ⟨fun d => by simp [Op.equalIn, run_underlying hu], by simp, rfl, rfl⟩
  · cases a <;> cases b <;> simp [eqNil] at h <;> subst h <;> simp only [R] at ha hb
    · obtain ⟨l, _, rfl⟩ := ha
      subst hb
      exact ⟨fun d => by simp [Op.equalIn, run_underlying hu], by simp, rfl, rfl⟩
    · obtain ⟨l, _, rfl⟩ := hb
      subst ha
      exact ⟨fun d => by simp [Op.equalIn, run_underlying hu], by simp, rfl, rfl⟩
    · subst ha; subst hb
      exact ⟨fun d => by simp [Op.equalIn, run_underlying hu], by simp, rfl, rfl⟩
  · cases a <;> cases b <;> simp [eqNil] at h <;> subst h <;> simp only [R] at ha hb
    · obtain ⟨l, _, rfl, _⟩ := ha
      subst hb
      exact ⟨fun d => by simp [Op.equalIn, run_underlying hu], by simp, rfl, rfl⟩
    · obtain ⟨l, _, rfl, _⟩ := hb
      subst ha
      exact ⟨fun d => by simp [Op.equalIn, run_underlying hu], by simp, rfl, rfl⟩
    · subst ha; subst hb
      exact ⟨fun d => by simp [Op.equalIn, run_underlying hu], by simp, rfl, rfl⟩

theorem eqGuard_agg {op : BinOp} (t : TypeId) (x y : Operand) (a b : Array Value) (h : c.P.eqGuardType c.P.depth t = false) :
    (eqGuard op t x y (.agg a) (.agg b)).run c.P w = .ok () w := by
  unfold eqGuard
  cases op <;> first
    | rfl
    | simp [h]

theorem eq_ok (H : HO c env vals Φ ρ) {neg : Bool} {op : BinOp} (hop : op = if neg then .neq else .eql) {x y : Operand} {ao : AOp} {v : AV} (t yt : TypeId) (o : Oper) (ho : o.op = .binOp op t x y yt)
    (h : trEq c neg op t x y = some ao) (hv : aPure env vals ao = some v) : Yields c Φ ρ w o v := by
  unfold trEq at h
  split at h
  · rename_i p q hp hq
    split at h
    · simp only [Option.some.injEq] at h; subst h; exact bin_ok H t yt o ho hp hq hv
    · simp only [Option.some.injEq] at h; subst h; exact bin_ok H t yt o ho hp hq hv
    · rename_i hu
      simp only [Option.some.injEq] at h; subst h
      simp only [aPure] at hv
      split at hv
      · rename_i a b ha hb
        split at hv
        · rename_i r hr
          simp only [Option.some.injEq] at hv; subst hv
          have h1 := H _ _ _ hp ha
          have h2 := H _ _ _ hq hb
          simp only [eqA, Bool.false_eq_true, if_false] at hr
          cases a <;> cases b <;> simp only [leafsEq, reduceCtorEq] at hr
          simp only [R] at h1 h2
          rename_i b1 b2
          have hr' : r = (b1 == b2) := by
            split at hr <;> simp_all
          refine ⟨.bool (if neg then !r else r), ?_, by simp only [R]⟩
          have hg : (eqGuard op t x y (ρ x) (ρ y)).run c.P w = .ok () w := eqGuard_plain t x y _ _ (by rw [h1]; simp)
          rw [h1, h2] at hg
          cases neg
          · simp only [Bool.false_eq_true, if_false] at hop; subst hop
            simp [execOp, ho, hg, h1, h2, run_eql_bool w t b1 b2 hu, hr']
          · simp only [if_true] at hop; subst hop
            simp [execOp, ho, hg, h1, h2, run_neq_bool w t b1 b2 hu, hr']
        · simp at hv
      · simp at hv
    all_goals try (exfalso; simp at h; done)
    all_goals
      rename_i hu
      first
      | (split at h
         · simp at h
         · rename_i hgt
           split at h
           · rename_i ks hks
             simp only [Option.some.injEq] at h; subst h
             simp only [aPure] at hv
             split at hv
             · rename_i a b ha hb
               split at hv
               · rename_i r hr
                 simp only [Option.some.injEq] at hv; subst hv
                 have h1 := H _ _ _ hp ha
                 have h2 := H _ _ _ hq hb
                 have he := eqs_agg_ok (w := w) hks (by first | exact .inl ⟨_, hu⟩ | exact .inr ⟨_, _, hu⟩) h1 h2 hr
                 have ag : (∃ u, ρ x = .agg u) ∧ ∃ u, ρ y = .agg u := by
                   simp only [eqA, if_true] at hr
                   split at hr
                   · simp only [R] at h1 h2
                     obtain ⟨u, h1, _⟩ := h1
                     obtain ⟨u', h2, _⟩ := h2
                     exact ⟨⟨_, h1⟩, ⟨_, h2⟩⟩
                   · simp at hr
                 obtain ⟨⟨u, hx⟩, u', hy⟩ := ag
                 rw [hx, hy] at he
                 refine ⟨.bool (if neg then !r else r), ?_, by simp only [R]⟩
                 have hg := eqGuard_agg (op := op) (w := w) (c := c) t x y u u' (by simpa using hgt)
                 cases neg
                 · simp only [Bool.false_eq_true, if_false] at hop; subst hop
                   simp [execOp, ho, hx, hy, hg, binOp, he]
                 · simp only [if_true] at hop; subst hop
                   simp [execOp, ho, hx, hy, hg, binOp, he]
               · simp at hv
             · simp at hv
           · simp at h)
      | (simp only [Option.some.injEq] at h; subst h
         simp only [aPure] at hv
         split at hv
         · rename_i a b ha hb
           split at hv
           · rename_i r hr
             simp only [Option.some.injEq] at hv; subst hv
             have h1 := H _ _ _ hp ha
             have h2 := H _ _ _ hq hb
             obtain ⟨he, hn, e1, e2⟩ := eqNil_ok (w := w) hu (by simp) h1 h2 hr
             have he : (Op.equal t (ρ x) (ρ y)).run c.P w = .ok r w := he 9999
             refine ⟨.bool (if neg then !r else r), ?_, by simp only [R]⟩
             have hg : (eqGuard op t x y (ρ x) (ρ y)).run c.P w = .ok () w := eqGuard_plain t x y _ _ hn
             cases neg
             · simp only [Bool.false_eq_true, if_false] at hop; subst hop
               simp [execOp, ho, hg, e1, he]
             · simp only [if_true] at hop; subst hop
               simp [execOp, ho, hg, e2, he]
           · simp at hv
         · simp at hv)
  · simp at h

end
end Go.Am
