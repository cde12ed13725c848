/- What trees mean: where a node may end. -/
import Derived.Test.YtnblhjpbpobglaaSI
set_option maxRecDepth 100000
set_option linter.unusedSimpArgs false
namespace Go.Proofs.Ytnblhjpbpobglaa
open Go.Am

def setW (s0 s1 s2 s3 : Int) (c : Nat) : Int := if c < 64 then s0 else if c < 128 then s1 else if c < 192 then s2 else s3
/-- Is a byte in a set? -/
def SetHas (s0 s1 s2 s3 : Int) (c : Nat) : Prop := (setW s0 s1 s2 s3 c / 2 ^ (c % 64)) % 2 = 1
def ndHas (n : Nd) (c : UInt8) : Prop := SetHas n.s0 n.s1 n.s2 n.s3 c.toNat

def chain : List (Nat → Nat → Prop) → Nat → Nat → Prop
  | [], i, j => i = j
  | r :: rs, i, j => ∃ m, r i m ∧ chain rs m j
def iterN (r : Nat → Nat → Prop) : Nat → Nat → Nat → Prop
  | 0, i, j => i = j
  | n + 1, i, j => ∃ m, r i m ∧ iterN r n m j

theorem chain_snoc (rs : List (Nat → Nat → Prop)) (r : Nat → Nat → Prop) : ∀ i j, chain (rs ++ [r]) i j ↔ ∃ m, chain rs i m ∧ r m j := by
  induction rs with
  | nil => intro i j; simp [chain]
  | cons q rs ih =>
    intro i j
    simp only [List.cons_append, chain, ih]
    constructor
    · rintro ⟨m, h1, k, h2, h3⟩; exact ⟨k, ⟨m, h1, h2⟩, h3⟩
    · rintro ⟨k, ⟨m, h1, h2⟩, h3⟩; exact ⟨m, h1, k, h2, h3⟩
theorem iterN_snoc (r : Nat → Nat → Prop) : ∀ n i j, iterN r (n + 1) i j ↔ ∃ m, iterN r n i m ∧ r m j := by
  intro n
  induction n with
  | zero => intro i j; simp [iterN]
  | succ n ih =>
    intro i j
    constructor
    · rintro ⟨m, h1, h2⟩
      obtain ⟨k, h3, h4⟩ := (ih m j).1 h2
      exact ⟨k, ⟨m, h1, h3⟩, h4⟩
    · rintro ⟨k, ⟨m, h1, h3⟩, h4⟩
      exact ⟨m, h1, (ih m j).2 ⟨k, h3, h4⟩⟩
theorem iterN_add (r : Nat → Nat → Prop) : ∀ n m i j, iterN r (n + m) i j ↔ ∃ k, iterN r n i k ∧ iterN r m k j := by
  intro n
  induction n with
  | zero => intro m i j; simp [iterN]
  | succ n ih =>
    intro m i j
    have e : n + 1 + m = (n + m) + 1 := by omega
    rw [e]
    simp only [iterN, ih]
    constructor
    · rintro ⟨a, h1, b, h2, h3⟩; exact ⟨b, ⟨a, h1, h2⟩, h3⟩
    · rintro ⟨b, ⟨a, h1, h2⟩, h3⟩; exact ⟨a, h1, b, h2, h3⟩

/-- May the tree of a node go from i to j in a text? -/
def den (l : List Nd) (w : List UInt8) (a : Nat) (i j : Nat) : Prop :=
  match l[a]? with
  | none => False
  | some n =>
    let kid : Int → Nat → Nat → Prop := fun k => if _h : k.toNat < a then den l w k.toNat else fun _ _ => False
    if n.op = 2 then (∃ c, w[i]? = some c ∧ ndHas n c) ∧ j = i + 1
    else if n.op = 3 then chain (n.kids.map kid) i j
    else if n.op = 4 then ∃ k, k ∈ n.kids ∧ kid k i j
    else if n.op = 5 then ∃ c : Nat, n.lo ≤ c ∧ (n.hi = -1 ∨ (c : Int) ≤ n.hi) ∧ iterN (kid (n.kids.headD 0)) c i j
    else i = j
termination_by a

/-- .. of a kid. -/
def kidDen (l : List Nd) (w : List UInt8) (a : Nat) (k : Int) : Nat → Nat → Prop := if k.toNat < a then den l w k.toNat else fun _ _ => False

theorem den_eq (l : List Nd) (w : List UInt8) (a : Nat) (n : Nd) (hn : l[a]? = some n) (i j : Nat) : den l w a i j ↔
    if n.op = 2 then (∃ c, w[i]? = some c ∧ ndHas n c) ∧ j = i + 1
    else if n.op = 3 then chain (n.kids.map (kidDen l w a)) i j
    else if n.op = 4 then ∃ k, k ∈ n.kids ∧ kidDen l w a k i j
    else if n.op = 5 then ∃ c : Nat, n.lo ≤ c ∧ (n.hi = -1 ∨ (c : Int) ≤ n.hi) ∧ iterN (kidDen l w a (n.kids.headD 0)) c i j
    else i = j := by
  rw [den, hn]
  rfl

theorem chain_le {rs : List (Nat → Nat → Prop)} {m : Nat} (h : ∀ r, r ∈ rs → ∀ i j, r i j → i ≤ j ∧ (i ≤ m → j ≤ m)) : ∀ i j, chain rs i j → i ≤ j ∧ (i ≤ m → j ≤ m) := by
  induction rs with
  | nil => intro i j h; simp only [chain] at h; subst h; exact ⟨Nat.le_refl _, id⟩
  | cons r rs ih =>
    rintro i j ⟨k, h1, h2⟩
    have a := h r (by simp) i k h1
    have b := ih (fun r hr => h r (by simp [hr])) k j h2
    exact ⟨by omega, fun hi => b.2 (a.2 hi)⟩
theorem iterN_le {r : Nat → Nat → Prop} {m : Nat} (h : ∀ i j, r i j → i ≤ j ∧ (i ≤ m → j ≤ m)) : ∀ n i j, iterN r n i j → i ≤ j ∧ (i ≤ m → j ≤ m) := by
  intro n
  induction n with
  | zero => intro i j h; simp only [iterN] at h; subst h; exact ⟨Nat.le_refl _, id⟩
  | succ n ih =>
    rintro i j ⟨k, h1, h2⟩
    have a := h i k h1
    have b := ih k j h2
    exact ⟨by omega, fun hi => b.2 (a.2 hi)⟩

theorem den_le (l : List Nd) (w : List UInt8) : ∀ a i j, den l w a i j → i ≤ j ∧ (i ≤ w.length → j ≤ w.length) := by
  intro a
  induction a using Nat.strongRecOn with
  | _ a ih =>
    intro i j h
    have hk : ∀ k i j, kidDen l w a k i j → i ≤ j ∧ (i ≤ w.length → j ≤ w.length) := fun k i j h => by
      unfold kidDen at h
      split at h
      · rename_i hlt; exact ih _ hlt i j h
      · exact h.elim
    cases hn : l[a]? with
    | none => rw [den, hn] at h; exact h.elim
    | some n =>
      rw [den_eq l w a n hn] at h
      split at h
      · obtain ⟨⟨c, hc, _⟩, rfl⟩ := h
        have : i < w.length := by
          rcases Nat.lt_or_ge i w.length with h | h
          · exact h
          · rw [List.getElem?_eq_none h] at hc; simp at hc
        exact ⟨by omega, fun _ => by omega⟩
      split at h
      · exact chain_le (fun r hr i j hij => by
          obtain ⟨k, _, rfl⟩ := List.mem_map.1 hr
          exact hk k i j hij) i j h
      split at h
      · obtain ⟨k, _, h⟩ := h; exact hk k i j h
      split at h
      · obtain ⟨c, _, _, h⟩ := h; exact iterN_le (hk _) c i j h
      · subst h; exact ⟨Nat.le_refl _, id⟩

-- ---------------------------------------------------------------- lists of places that rise
def Pls (ns : List Nat) (m : Nat) : Prop := ns.Pairwise (· < ·) ∧ ∀ n, n ∈ ns → n ≤ m
theorem Pls.len {ns : List Nat} {m : Nat} (h : Pls ns m) : ns.length ≤ m + 1 := by
  obtain ⟨h1, h2⟩ := h
  have : ∀ (ns : List Nat) (lo m : Nat), ns.Pairwise (· < ·) → (∀ n, n ∈ ns → lo ≤ n ∧ n < m) → ns.length ≤ m - lo := by
    intro ns
    induction ns with
    | nil => intro _ _ _ _; simp
    | cons x l ih =>
      intro lo m h1 h2
      rw [List.pairwise_cons] at h1
      have hx := h2 x (by simp)
      have := ih (x + 1) m h1.2 (fun n hn => ⟨h1.1 n hn, (h2 n (by simp [hn])).2⟩)
      simp only [List.length_cons]; omega
  exact this ns 0 (m + 1) h1 (fun n hn => ⟨Nat.zero_le _, by have := h2 n hn; omega⟩)

theorem sorted_ext {a b : List Nat} (ha : a.Pairwise (· < ·)) (hb : b.Pairwise (· < ·)) (h : ∀ x, x ∈ a ↔ x ∈ b) : a = b := by
  induction a generalizing b with
  | nil => cases b with
    | nil => rfl
    | cons y b => exact absurd ((h y).2 (by simp)) (by simp)
  | cons x a ih => cases b with
    | nil => exact absurd ((h x).1 (by simp)) (by simp)
    | cons y b =>
      rw [List.pairwise_cons] at ha hb
      have hxy : x = y := by
        have h1 := (h x).1 (by simp)
        have h2 := (h y).2 (by simp)
        simp only [List.mem_cons] at h1 h2
        rcases h1 with h1 | h1
        · exact h1
        · rcases h2 with h2 | h2
          · exact h2.symm
          · have := ha.1 y h2; have := hb.1 x h1; omega
      subst hxy
      congr 1
      refine ih ha.2 hb.2 (fun z => ?_)
      have := h z
      simp only [List.mem_cons] at this
      constructor
      · intro hz
        rcases this.1 (.inr hz) with e | e
        · subst e; have := ha.1 z hz; omega
        · exact e
      · intro hz
        rcases this.2 (.inr hz) with e | e
        · subst e; have := hb.1 z hz; omega
        · exact e

theorem sub_len {a b : List Nat} (ha : a.Pairwise (· < ·)) (hb : b.Pairwise (· < ·)) (h : ∀ x, x ∈ a → x ∈ b) (hl : b.length ≤ a.length) : a = b := by
  have : ∀ (a b : List Nat), a.Pairwise (· < ·) → b.Pairwise (· < ·) → (∀ x, x ∈ a → x ∈ b) → a.Sublist b := by
    intro a b
    induction b generalizing a with
    | nil => intro _ _ h; cases a with
      | nil => exact .slnil
      | cons x a => exact absurd (h x (by simp)) (by simp)
    | cons y b ih =>
      intro ha hb h
      cases a with
      | nil => simp
      | cons x a =>
        rw [List.pairwise_cons] at ha hb
        have hx := h x (by simp)
        simp only [List.mem_cons] at hx
        rcases hx with rfl | hx
        · refine .cons_cons _ (ih a ha.2 hb.2 (fun z hz => ?_))
          have := h z (by simp [hz])
          simp only [List.mem_cons] at this
          rcases this with rfl | h'
          · have := ha.1 z hz; omega
          · exact h'
        · refine .cons _ (ih (x :: a) (List.pairwise_cons.2 ha) hb.2 (fun z hz => ?_))
          have h1 := h z hz
          simp only [List.mem_cons] at h1 hz
          have hyx := hb.1 x hx
          rcases h1 with rfl | h'
          · rcases hz with rfl | hz
            · omega
            · have := ha.1 z hz; omega
          · exact h'
  exact (this a b ha hb h).eq_of_length_le hl

def nts (ns : List Nat) : List Int := ns.map Int.ofNat
theorem nts_len (ns : List Nat) : (nts ns).length = ns.length := by simp [nts]
theorem nts_get {ns : List Nat} {k n : Nat} (h : ns[k]? = some n) : (nts ns)[k]? = some (n : Int) := by simp [nts, h]
theorem nts_inj {a b : List Nat} (h : nts a = nts b) : a = b := by
  have := congrArg (List.map Int.toNat) h
  simpa [nts, Function.comp_def] using this
theorem nts_mem {ns : List Nat} {x : Int} : x ∈ nts ns ↔ ∃ n, n ∈ ns ∧ x = n := by
  simp only [nts, List.mem_map]
  constructor
  · rintro ⟨a, h, rfl⟩; exact ⟨a, h, rfl⟩
  · rintro ⟨a, h, rfl⟩; exact ⟨a, h, rfl⟩
theorem nts_sorted {ns : List Nat} (h : ns.Pairwise (· < ·)) : (nts ns).Pairwise (· < ·) := by
  rw [nts, List.pairwise_map]
  exact h.imp (fun {a b} hab => by show (a : Int) < b; omega)

/-- Two lists of places, as one. -/
def mergeN (a b : List Nat) : List Nat := (mergeL (nts a) (nts b)).map Int.toNat
theorem mergeN_nts (a b : List Nat) : nts (mergeN a b) = mergeL (nts a) (nts b) := by
  have : ∀ x, x ∈ mergeL (nts a) (nts b) → 0 ≤ x := fun x hx => by
    rw [mergeL_mem, nts_mem, nts_mem] at hx
    rcases hx with ⟨n, _, rfl⟩ | ⟨n, _, rfl⟩ <;> omega
  simp only [nts, mergeN, List.map_map] at *
  conv => rhs; rw [← List.map_id (mergeL (List.map Int.ofNat a) (List.map Int.ofNat b))]
  apply List.map_congr_left
  intro x hx
  have := this x hx
  simp; omega
theorem mergeN_mem (a b : List Nat) (x : Nat) : x ∈ mergeN a b ↔ x ∈ a ∨ x ∈ b := by
  have : (x : Int) ∈ nts (mergeN a b) ↔ x ∈ a ∨ x ∈ b := by
    rw [mergeN_nts, mergeL_mem, nts_mem, nts_mem]
    constructor
    · rintro (⟨n, h, e⟩ | ⟨n, h, e⟩)
      · left; have : x = n := by omega
        rw [this]; exact h
      · right; have : x = n := by omega
        rw [this]; exact h
    · rintro (h | h)
      · exact .inl ⟨x, h, rfl⟩
      · exact .inr ⟨x, h, rfl⟩
  rw [← this, nts_mem]
  constructor
  · intro h; exact ⟨x, h, rfl⟩
  · rintro ⟨n, h, e⟩
    have : x = n := by omega
    rw [this]; exact h
theorem mergeN_sorted (a b : List Nat) : (mergeN a b).Pairwise (· < ·) := by
  have h := mergeL_sorted (nts a) (nts b)
  rw [← mergeN_nts, nts, List.pairwise_map] at h
  exact h.imp (fun {a b} hab => by
    have : (a : Int) < b := hab
    omega)
end Go.Proofs.Ytnblhjpbpobglaa
