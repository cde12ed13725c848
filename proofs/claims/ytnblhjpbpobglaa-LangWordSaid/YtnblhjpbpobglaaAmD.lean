/- Operations that touch no memory: what compact code says is what the machine does. -/
import Derived.Test.YtnblhjpbpobglaaAmC
namespace Go.Am

/-- Operands: what compact code reads is what the machine reads. -/
def HO (c : Ctx) (env vals : List AV) (Φ : Phi) (ρ : Operand → Value) : Prop :=
  ∀ x y a, trOpd c x = some y → aval env vals y = some a → R Φ a (ρ x)

section
variable {c : Ctx} {env vals : List AV} {Φ : Phi} {ρ : Operand → Value}

theorem HO.list (H : HO c env vals Φ ρ) : ∀ {xs : List Operand} {ys : List Opd} {as : List AV}, trOpds c xs = some ys → avals env vals ys = some as → Rs Φ as (xs.map ρ)
  | [], ys, as, h, h2 => by
    simp only [trOpds, Option.some.injEq] at h; subst h
    simp only [avals, Option.some.injEq] at h2; subst h2
    exact .nil
  | x :: r, ys, as, h, h2 => by
    simp only [trOpds] at h
    split at h
    · rename_i y l hy hl
      simp only [Option.some.injEq] at h; subst h
      simp only [avals] at h2
      split at h2
      · rename_i a b ha hb
        simp only [Option.some.injEq] at h2; subst h2
        exact .cons (H _ _ _ hy ha) (HO.list H hl hb)
      · simp at h2
    · simp at h

theorem HO.opt (H : HO c env vals Φ ρ) {x : Option Operand} {y : Option Opd} {a : Option AV} (h : trOptd c x = some y) (h2 : aopt env vals y = some a) :
    (x = none ∧ a = none) ∨ ∃ x' a', x = some x' ∧ a = some a' ∧ R Φ a' (ρ x') := by
  cases x with
  | none =>
    simp only [trOptd, Option.some.injEq] at h; subst h
    simp only [aopt, Option.some.injEq] at h2; subst h2
    exact .inl ⟨rfl, rfl⟩
  | some x =>
    simp only [trOptd] at h
    split at h
    · rename_i y' hy
      simp only [Option.some.injEq] at h; subst h
      simp only [aopt] at h2
      split at h2
      · rename_i a' ha
        simp only [Option.some.injEq] at h2; subst h2
        exact .inr ⟨x, a', rfl, rfl, H _ _ _ hy ha⟩
      · simp at h2
    · simp at h

theorem take_set_succ (cs : List Value) (p : Nat) (v : Value) (h : p < cs.length) : (cs.set p v).take (p + 1) = cs.take p ++ [v] := by
  rw [List.set_eq_take_append_cons_drop, if_pos h, List.take_append, List.length_take, Nat.min_eq_left (Nat.le_of_lt h)]
  have e : p + 1 - p = 1 := by omega
  rw [e, List.take_of_length_le (by simp; omega)]
  simp

theorem toArray_fold_set (cs new : List Value) : ∀ (o : Nat), o + new.length ≤ cs.length →
    new.zipIdx.foldl (fun (a : Array Value) (x : Value × Nat) => a.setIfInBounds (o + x.2) x.1) cs.toArray = (cs.take o ++ new ++ cs.drop (o + new.length)).toArray := by
  have gen : ∀ (new : List Value) (k o : Nat) (cs : List Value), o + k + new.length ≤ cs.length →
      (new.zipIdx k).foldl (fun (a : Array Value) (x : Value × Nat) => a.setIfInBounds (o + x.2) x.1) cs.toArray = (cs.take (o + k) ++ new ++ cs.drop (o + k + new.length)).toArray := by
    intro new
    induction new with
    | nil => intro k o cs h; simp
    | cons v r ih =>
      intro k o cs h
      simp only [List.zipIdx_cons, List.foldl_cons, List.setIfInBounds_toArray]
      simp only [List.length_cons] at h
      rw [ih (k + 1) o (cs.set (o + k) v) (by simp; omega)]
      congr 1
      have e1 : o + (k + 1) = (o + k) + 1 := by omega
      rw [e1, take_set_succ _ _ _ (by omega), List.drop_set_of_lt (by omega)]
      simp only [List.append_assoc, List.cons_append, List.nil_append, List.length_cons]
      congr 4
      omega
  intro o h
  have := gen new 0 o cs (by simpa using h)
  simpa using this

theorem Rs.splice' {a n : List AV} {x y : List Value} (h : Rs Φ a x) (h2 : Rs Φ n y) (o : Nat) : Rs Φ (splice a o n) (x.take o ++ y ++ x.drop (o + y.length)) := by
  unfold splice
  rw [h2.len]
  exact ((h.take o).append h2).append (h.drop _)

theorem fill_ok (place : Nat → Option (Nat × Nat)) (H : HO c env vals Φ ρ) : ∀ (parts : List (Nat × Operand)) {ps : List (Nat × Nat × Opd)} {as : List (Nat × Nat × AV)} {zero cs : List AV} {zs : List Value},
    trParts c place parts = some ps → aparts env vals ps = some as → fillA zero as = some cs → Rs Φ zero zs →
    ∃ vs : List Value, Instr.fill place zs.toArray (parts.map fun p => (p.1, ρ p.2)) = some vs.toArray ∧ Rs Φ cs vs
  | [], ps, as, zero, cs, zs, h, h2, h3, hz => by
    simp only [trParts, Option.some.injEq] at h; subst h
    simp only [aparts, Option.some.injEq] at h2; subst h2
    simp only [fillA, Option.some.injEq] at h3; subst h3
    exact ⟨zs, by simp [Instr.fill], hz⟩
  | (i, x) :: r, ps, as, zero, cs, zs, h, h2, h3, hz => by
    simp only [trParts] at h
    split at h
    · rename_i o n y l hp hy hl
      simp only [Option.some.injEq] at h; subst h
      simp only [aparts] at h2
      split at h2
      · rename_i a b ha hb
        simp only [Option.some.injEq] at h2; subst h2
        simp only [fillA] at h3
        split at h3
        · rename_i hc
          simp only [Bool.and_eq_true, Bool.not_eq_true', beq_iff_eq, decide_eq_true_eq] at hc
          obtain ⟨⟨hj, hn⟩, hlen⟩ := hc
          have hcells := R.cells (H _ _ _ hy ha) hj
          obtain ⟨vs, hv, hR⟩ := fill_ok place H r hl hb h3 (hz.splice' hcells o)
          refine ⟨vs, ?_, hR⟩
          have l1 := hcells.len
          have l2 := hz.len
          simp only [List.map_cons, Instr.fill, hp]
          have e1 : (ρ x).cells.size = n := by rw [← hn, ← l1]; simp
          have e2 : ¬ ((ρ x).cells.size ≠ n || decide (o + (ρ x).cells.size > zs.toArray.size)) = true := by
            simp [e1, l2]; omega
          rw [if_neg e2]
          have e3 := toArray_fold_set zs (ρ x).cells.toList o (by rw [l1, hn, l2]; omega)
          rw [← hv]
          congr 1
          rw [← e3, ← Array.foldl_toList]
          simp
        · simp at h3
      · simp at h2
    · simp at h
end
end Go.Am
