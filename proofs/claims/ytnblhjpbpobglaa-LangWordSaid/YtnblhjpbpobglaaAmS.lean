/- More fuel changes no answer. -/
import Derived.Test.YtnblhjpbpobglaaAmA
namespace Go.Am

def CallLe (c c' : CallT) : Prop := ∀ f as H r, c f as H = some r → c' f as H = some r

theorem CallLe.refl (c : CallT) : CallLe c c := fun _ _ _ _ h => h
theorem CallLe.trans {a b c : CallT} (h : CallLe a b) (k : CallLe b c) : CallLe a c := fun f as H r hr => k f as H r (h f as H r hr)

theorem aEff_mono {c c' : CallT} (h : CallLe c c') {env vals : List AV} {H : AHeap} {o : AOp} {r : AV × AHeap} (hr : aEff c env vals H o = some r) : aEff c' env vals H o = some r := by
  cases o with
  | call f xs =>
    simp only [aEff] at hr ⊢
    split at hr
    · rename_i as has; exact h _ _ _ _ hr
    · simp at hr
  | callv f xs =>
    simp only [aEff] at hr ⊢
    split at hr
    · exact h _ _ _ _ hr
    · simp at hr
  | _ => exact hr

theorem aOp_mono {c c' : CallT} (h : CallLe c c') {env vals : List AV} {H : AHeap} {o : AOp} {r : AV × AHeap} (hr : aOp c env vals H o = some r) : aOp c' env vals H o = some r := by
  unfold aOp at hr ⊢
  split at hr
  · exact hr
  · exact hr
  · exact hr
  · exact aEff_mono h hr

theorem runOps_mono {c c' : CallT} (h : CallLe c c') {all : List AOper} {env : List AV} : ∀ (l : List AOper) (vals : List AV) (hs : List AHeap) (env' : List AV) (H : AHeap) {r : List AV × AHeap},
    runOps c all env l vals hs env' H = some r → runOps c' all env l vals hs env' H = some r
  | [], _, _, _, _, r, hr => by simpa only [runOps] using hr
  | o :: l, vals, hs, env', H, r, hr => by
    simp only [runOps] at hr ⊢
    split at hr
    · simp at hr
    · exact runOps_mono h l _ _ _ _ hr
    · split at hr
      · simp at hr
      · rename_i v H' hv
        rw [aOp_mono h hv]
        simp only
        split at hr
        · rename_i hc
          rw [if_pos hc]
          exact runOps_mono h l _ _ _ _ hr
        · simp at hr

theorem aCode_mono {c c' : CallT} (h : CallLe c c') : ∀ (n : Nat) (m : Nat) (ac : ACode) (env : List AV) (H : AHeap) {r : AExit × List AV × AHeap}, n ≤ m → aCode c n ac env H = some r → aCode c' m ac env H = some r := by
  intro n
  induction n with
  | zero => intro m ac env H r _ hr; simp [aCode] at hr
  | succ n ih =>
    intro m ac env H r hm hr
    obtain ⟨m, rfl⟩ : ∃ k, m = k + 1 := ⟨m - 1, by omega⟩
    have hm' : n ≤ m := by omega
    cases ac with
    | skip => simpa only [aCode] using hr
    | region ops =>
      simp only [aCode] at hr ⊢
      split at hr
      · rename_i env' H' h1
        rw [runOps_mono h _ _ _ _ _ h1]; exact hr
      · simp at hr
    | seq a b =>
      simp only [aCode] at hr ⊢
      cases h1 : aCode c n a env H with
      | none => rw [h1] at hr; simp at hr
      | some q =>
        rw [ih m a env H hm' h1]
        rw [h1] at hr
        obtain ⟨e, env', H'⟩ := q
        cases e with
        | normal => exact ih m b env' H' hm' hr
        | exit id => exact hr
        | ret => exact hr
    | cond k a b =>
      simp only [aCode] at hr ⊢
      split at hr
      · exact ih m _ env H hm' hr
      · simp at hr
    | block id a =>
      simp only [aCode] at hr ⊢
      cases h1 : aCode c n a env H with
      | none => rw [h1] at hr; simp at hr
      | some q => rw [ih m a env H hm' h1]; rw [h1] at hr; exact hr
    | loop a =>
      simp only [aCode] at hr ⊢
      cases h1 : aCode c n a env H with
      | none => rw [h1] at hr; simp at hr
      | some q =>
        rw [ih m a env H hm' h1]
        rw [h1] at hr
        obtain ⟨e, env', H'⟩ := q
        cases e with
        | normal => exact ih m (.loop a) env' H' hm' hr
        | exit id => exact hr
        | ret => exact hr
    | exit id => simpa only [aCode] using hr
    | ret => simpa only [aCode] using hr

theorem aBody_mono {c c' : CallT} (h : CallLe c c') {n m : Nat} (hm : n ≤ m) {fn : AFun} {as : List AV} {H : AHeap} {r : AV × AHeap} (hr : aBody c n fn as H = some r) : aBody c' m fn as H = some r := by
  unfold aBody at hr ⊢
  split at hr
  · rename_i hl
    rw [if_pos hl]
    cases h1 : aCode c n fn.body (env0 fn.ps as) H with
    | none => rw [h1] at hr; simp at hr
    | some q => rw [aCode_mono h n m _ _ _ hm h1]; rw [h1] at hr; exact hr
  · simp at hr

theorem aCall_succ (prog : Nat → Option AFun) (orc : Nat → Option (List AV → AHeap → Option (AV × AHeap))) : ∀ n, CallLe (aCall prog orc n) (aCall prog orc (n + 1))
  | 0 => by intro f as H r h; simp [aCall] at h
  | n + 1 => by
    intro f as H r h
    unfold aCall at h ⊢
    split at h
    · rename_i g hg; exact h
    · rename_i hg
      split at h
      · rename_i fn hfn; exact aBody_mono (aCall_succ prog orc n) (Nat.le_succ n) h
      · simp at h

theorem aCall_le (prog : Nat → Option AFun) (orc : Nat → Option (List AV → AHeap → Option (AV × AHeap))) {n m : Nat} (h : n ≤ m) : CallLe (aCall prog orc n) (aCall prog orc m) := by
  induction m with
  | zero => have : n = 0 := by omega
            subst this; exact .refl _
  | succ m ih =>
    by_cases e : n = m + 1
    · subst e; exact .refl _
    · exact (ih (by omega)).trans (aCall_succ prog orc m)

end Go.Am
