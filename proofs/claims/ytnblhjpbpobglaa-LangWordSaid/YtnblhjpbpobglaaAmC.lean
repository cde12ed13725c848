/- How abstract values and heaps lie in the machine's memory. -/
import Derived.Test.YtnblhjpbpobglaaAmB
import Derived.WalkKit
namespace Go.Am

/-- Where an abstract block lies: a block of the machine, the first cell in it, how many cells that block has, cells an element; may it be written. -/
structure Loc where
  b : Nat
  base : Nat
  lim : Nat
  sz : Nat
  rw : Bool

abbrev Phi := Nat → Option Loc

mutual
def R (Φ : Phi) : AV → Value → Prop
  | .int k n, v => v = .int k n
  | .bool b, v => v = .bool b
  | .str s, v => v = .string ⟨s.toArray⟩
  | .ptr i o, v => ∃ l, Φ i = some l ∧ v = .pointer (some ⟨l.b, l.base + o, none⟩)
  | .nilptr, v => v = .pointer none
  | .sl i o n, v => ∃ l a c, Φ i = some l ∧ v = .slice (some a) n c ∧ n ≤ c ∧
      (c = 0 ∨ (a = ⟨l.b, l.base + o, none⟩ ∧ (l.rw = true → l.base + o + c * l.sz ≤ l.lim)))
  | .nilsl, v => v = .slice none 0 0
  | .esl, v => ∃ a, v = .slice (some a) 0 0
  | .map i, v => ∃ l, Φ i = some l ∧ v = .map (some l.b)
  | .nilmap, v => v = .map none
  | .fn f a b, v => ∃ xs ys, v = .func (.func f) (List.toArray xs) (List.toArray ys) ∧ Rs Φ a xs ∧ Rs Φ b ys
  | .nilfn, v => v = .nilFunc
  | .iface t a, v => ∃ u, v = .iface t u ∧ R Φ a u
  | .nilif, v => v = .nilIface
  | .agg cs, v => ∃ vs, v = .agg (List.toArray vs) ∧ Rs Φ cs vs
  | .tup cs, v => ∃ vs, v = .tuple (List.toArray vs) ∧ Rs Φ cs vs
  | .junk, _ => True
def Rs (Φ : Phi) : List AV → List Value → Prop
  | [], vs => vs = []
  | a :: r, vs => ∃ v vs', vs = v :: vs' ∧ R Φ a v ∧ Rs Φ r vs'
end

theorem Rs.len {Φ : Phi} : ∀ {cs : List AV} {vs : List Value}, Rs Φ cs vs → vs.length = cs.length
  | [], vs, h => by simp only [Rs] at h; simp [h]
  | a :: r, vs, h => by
    simp only [Rs] at h
    obtain ⟨v, vs', rfl, _, h2⟩ := h
    simp [h2.len]

theorem Rs.get {Φ : Phi} : ∀ {cs : List AV} {vs : List Value}, Rs Φ cs vs → ∀ {k : Nat} {c : AV}, cs[k]? = some c → ∃ v, vs[k]? = some v ∧ R Φ c v
  | [], vs, h, k, c, hk => by simp at hk
  | a :: r, vs, h, k, c, hk => by
    simp only [Rs] at h
    obtain ⟨v, vs', rfl, h1, h2⟩ := h
    cases k with
    | zero => simp at hk; subst hk; exact ⟨v, by simp, h1⟩
    | succ k => simp at hk; obtain ⟨u, hu, hr⟩ := h2.get hk; exact ⟨u, by simpa using hu, hr⟩

theorem Rs.mk {Φ : Phi} : ∀ {cs : List AV} {vs : List Value}, vs.length = cs.length → (∀ (k : Nat) (c : AV), cs[k]? = some c → ∃ v, vs[k]? = some v ∧ R Φ c v) → Rs Φ cs vs
  | [], vs, hl, _ => by simp only [Rs]; simpa using hl
  | a :: r, [], hl, _ => by simp at hl
  | a :: r, v :: vs, hl, h => by
    simp only [Rs]
    refine ⟨v, vs, rfl, ?_, Rs.mk (by simpa using hl) fun k c hk => ?_⟩
    · obtain ⟨u, hu, hr⟩ := h 0 a (by simp); simp at hu; subst hu; exact hr
    · obtain ⟨u, hu, hr⟩ := h (k + 1) c (by simpa using hk); exact ⟨u, by simpa using hu, hr⟩

theorem Rs.nil {Φ : Phi} : Rs Φ [] [] := by simp [Rs]
theorem Rs.cons {Φ : Phi} {a : AV} {r : List AV} {v : Value} {vs : List Value} (h : R Φ a v) (h2 : Rs Φ r vs) : Rs Φ (a :: r) (v :: vs) := by
  simp only [Rs]; exact ⟨v, vs, rfl, h, h2⟩

theorem Rs.append {Φ : Phi} : ∀ {a b : List AV} {x y : List Value}, Rs Φ a x → Rs Φ b y → Rs Φ (a ++ b) (x ++ y)
  | [], b, x, y, h, h2 => by simp only [Rs] at h; subst h; simpa using h2
  | c :: a, b, x, y, h, h2 => by
    simp only [Rs] at h
    obtain ⟨v, vs, rfl, h1, h3⟩ := h
    exact .cons h1 (h3.append h2)

theorem Rs.take {Φ : Phi} : ∀ {a : List AV} {x : List Value} (n : Nat), Rs Φ a x → Rs Φ (a.take n) (x.take n)
  | [], x, n, h => by simp only [Rs] at h; subst h; simpa using Rs.nil
  | c :: a, x, n, h => by
    simp only [Rs] at h
    obtain ⟨v, vs, rfl, h1, h3⟩ := h
    cases n with
    | zero => simpa using Rs.nil
    | succ n => simpa using Rs.cons h1 (h3.take n)

theorem Rs.drop {Φ : Phi} : ∀ {a : List AV} {x : List Value} (n : Nat), Rs Φ a x → Rs Φ (a.drop n) (x.drop n)
  | [], x, n, h => by simp only [Rs] at h; subst h; simpa using Rs.nil
  | c :: a, x, n, h => by
    cases n with
    | zero => simpa using h
    | succ n =>
      simp only [Rs] at h
      obtain ⟨v, vs, rfl, h1, h3⟩ := h
      simpa using h3.drop n

mutual
theorem R.mono {Φ Φ' : Phi} (hm : ∀ i l, Φ i = some l → Φ' i = some l) : ∀ (a : AV) {v : Value}, R Φ a v → R Φ' a v
  | .int _ _, v, h => by simpa only [R] using h
  | .bool _, v, h => by simpa only [R] using h
  | .str _, v, h => by simpa only [R] using h
  | .ptr _ _, v, h => by
    simp only [R] at h ⊢; obtain ⟨l, hl, hv⟩ := h; exact ⟨l, hm _ _ hl, hv⟩
  | .nilptr, v, h => by simpa only [R] using h
  | .sl _ _ _, v, h => by
    simp only [R] at h ⊢; obtain ⟨l, a, c, hl, hv⟩ := h; exact ⟨l, a, c, hm _ _ hl, hv⟩
  | .nilsl, v, h => by simpa only [R] using h
  | .esl, v, h => by simpa only [R] using h
  | .map _, v, h => by
    simp only [R] at h ⊢; obtain ⟨l, hl, hv⟩ := h; exact ⟨l, hm _ _ hl, hv⟩
  | .nilmap, v, h => by simpa only [R] using h
  | .fn _ a b, v, h => by
    simp only [R] at h ⊢; obtain ⟨xs, ys, hv, h1, h2⟩ := h; exact ⟨xs, ys, hv, Rs.mono hm a h1, Rs.mono hm b h2⟩
  | .nilfn, v, h => by simpa only [R] using h
  | .iface _ a, v, h => by
    simp only [R] at h ⊢; obtain ⟨u, hv, h1⟩ := h; exact ⟨u, hv, R.mono hm a h1⟩
  | .nilif, v, h => by simpa only [R] using h
  | .agg cs, v, h => by
    simp only [R] at h ⊢; obtain ⟨vs, hv, h1⟩ := h; exact ⟨vs, hv, Rs.mono hm cs h1⟩
  | .tup cs, v, h => by
    simp only [R] at h ⊢; obtain ⟨vs, hv, h1⟩ := h; exact ⟨vs, hv, Rs.mono hm cs h1⟩
  | .junk, v, h => by simp only [R]
theorem Rs.mono {Φ Φ' : Phi} (hm : ∀ i l, Φ i = some l → Φ' i = some l) : ∀ (a : List AV) {v : List Value}, Rs Φ a v → Rs Φ' a v
  | [], v, h => by simpa only [Rs] using h
  | a :: r, v, h => by
    simp only [Rs] at h ⊢; obtain ⟨u, us, hv, h1, h2⟩ := h; exact ⟨u, us, hv, R.mono hm a h1, Rs.mono hm r h2⟩
end

mutual
theorem trConst_R {Φ : Phi} : ∀ (v : Value) {a : AV}, trConst v = some a → R Φ a v
  | .int _ _, a, h => by simp only [trConst, Option.some.injEq] at h; subst h; simp only [R]
  | .bool _, a, h => by simp only [trConst, Option.some.injEq] at h; subst h; simp only [R]
  | .string s, a, h => by simp only [trConst, Option.some.injEq] at h; subst h; simp only [R, Array.toArray_toList]
  | .pointer p, a, h => by
    cases p with
    | none => simp only [trConst, Option.some.injEq] at h; subst h; simp only [R]
    | some p => simp [trConst] at h
  | .slice p n c, a, h => by
    cases p with
    | some p => simp [trConst] at h
    | none => cases n with
      | succ n => simp [trConst] at h
      | zero => cases c with
        | succ c => simp [trConst] at h
        | zero => simp only [trConst, Option.some.injEq] at h; subst h; simp only [R]
  | .map p, a, h => by
    cases p with
    | none => simp only [trConst, Option.some.injEq] at h; subst h; simp only [R]
    | some p => simp [trConst] at h
  | .nilFunc, a, h => by simp only [trConst, Option.some.injEq] at h; subst h; simp only [R]
  | .nilIface, a, h => by simp only [trConst, Option.some.injEq] at h; subst h; simp only [R]
  | .agg ⟨cs⟩, a, h => by
    simp only [trConst] at h
    split at h
    · rename_i l hl
      simp only [Option.some.injEq] at h; subst h; simp only [R]
      exact ⟨cs, rfl, trConsts_R cs hl⟩
    · simp at h
  | .float _ _, a, h => by simp [trConst] at h
  | .complex _ _ _, a, h => by simp [trConst] at h
  | .chan _, a, h => by simp [trConst] at h
  | .func _ _ _, a, h => by simp [trConst] at h
  | .iface _ _, a, h => by simp [trConst] at h
  | .tuple _, a, h => by simp [trConst] at h
theorem trConsts_R {Φ : Phi} : ∀ (v : List Value) {a : List AV}, trConsts v = some a → Rs Φ a v
  | [], a, h => by simp only [trConsts, Option.some.injEq] at h; subst h; simp only [Rs]
  | v :: r, a, h => by
    simp only [trConsts] at h
    split at h
    · rename_i x l hx hl
      simp only [Option.some.injEq] at h; subst h
      exact .cons (trConst_R v hx) (trConsts_R r hl)
    · simp at h
end

mutual
theorem AV.same_eq : ∀ (a b : AV), AV.same a b = true → a = b
  | .int k n, b, h => by cases b <;> simp [AV.same] at h; simp [h]
  | .bool x, b, h => by cases b <;> simp [AV.same] at h; simp [h]
  | .str s, b, h => by cases b <;> simp [AV.same] at h; simp [h]
  | .ptr i o, b, h => by cases b <;> simp [AV.same] at h; simp [h]
  | .nilptr, b, h => by cases b <;> simp [AV.same] at h; rfl
  | .sl i o n, b, h => by cases b <;> simp [AV.same] at h; simp [h]
  | .nilsl, b, h => by cases b <;> simp [AV.same] at h; rfl
  | .esl, b, h => by cases b <;> simp [AV.same] at h; rfl
  | .map i, b, h => by cases b <;> simp [AV.same] at h; simp [h]
  | .nilmap, b, h => by cases b <;> simp [AV.same] at h; rfl
  | .fn f x y, b, h => by
    cases b <;> simp [AV.same] at h
    rename_i f' x' y'
    rw [h.1.1, AV.sames_eq x x' h.1.2, AV.sames_eq y y' h.2]
  | .nilfn, b, h => by cases b <;> simp [AV.same] at h; rfl
  | .iface t x, b, h => by
    cases b <;> simp [AV.same] at h
    rename_i t' x'
    rw [h.1, AV.same_eq x x' h.2]
  | .nilif, b, h => by cases b <;> simp [AV.same] at h; rfl
  | .agg x, b, h => by
    cases b <;> simp [AV.same] at h
    rename_i x'
    rw [AV.sames_eq x x' h]
  | .tup x, b, h => by
    cases b <;> simp [AV.same] at h
    rename_i x'
    rw [AV.sames_eq x x' h]
  | .junk, b, h => by cases b <;> simp [AV.same] at h; rfl
theorem AV.sames_eq : ∀ (a b : List AV), AV.sames a b = true → a = b
  | [], b, h => by cases b <;> simp [AV.sames] at h; rfl
  | a :: r, b, h => by
    cases b <;> simp [AV.sames] at h
    rename_i b s
    rw [AV.same_eq a b h.1, AV.sames_eq r s h.2]
end

mutual
theorem AV.same_refl : ∀ (a : AV), AV.same a a = true
  | .int k n => by simp [AV.same]
  | .bool x => by simp [AV.same]
  | .str s => by simp [AV.same]
  | .ptr i o => by simp [AV.same]
  | .nilptr => by simp [AV.same]
  | .sl i o n => by simp [AV.same]
  | .nilsl => by simp [AV.same]
  | .esl => by simp [AV.same]
  | .map i => by simp [AV.same]
  | .nilmap => by simp [AV.same]
  | .fn f x y => by simp [AV.same, AV.sames_refl x, AV.sames_refl y]
  | .nilfn => by simp [AV.same]
  | .iface t x => by simp [AV.same, AV.same_refl x]
  | .nilif => by simp [AV.same]
  | .agg x => by simp [AV.same, AV.sames_refl x]
  | .tup x => by simp [AV.same, AV.sames_refl x]
  | .junk => by simp [AV.same]
theorem AV.sames_refl : ∀ (a : List AV), AV.sames a a = true
  | [] => by simp [AV.sames]
  | a :: r => by simp [AV.sames, AV.same_refl a, AV.sames_refl r]
end

theorem R.one {Φ : Phi} {a : AV} {v : Value} (h : R Φ a v) (ho : a.one = true) : v.oneCell' = true := by
  cases a <;> simp [AV.one] at ho <;> simp only [R] at h <;> first
    | (subst h; rfl)
    | (obtain ⟨_, _, rfl⟩ := h; rfl)
    | (obtain ⟨_, _, _, _, rfl, _⟩ := h; rfl)
    | (obtain ⟨_, rfl⟩ := h; rfl)
    | (obtain ⟨_, _, rfl, _⟩ := h; rfl)
    | (obtain ⟨_, rfl, _⟩ := h; rfl)

/-- The cells of a value that is not junk. -/
theorem R.cells {Φ : Phi} {a : AV} {v : Value} (h : R Φ a v) (hj : a.isJunk = false) : Rs Φ a.cells v.cells.toList := by
  cases a <;> simp [AV.isJunk] at hj <;> simp only [R] at h <;> first
    | (subst h; exact .cons (by simp only [R]) .nil)
    | (obtain ⟨vs, rfl, h⟩ := h; simpa [Value.cells, AV.cells] using h; done)
    | (obtain ⟨l, h1, rfl⟩ := h; exact .cons (by simp only [R]; exact ⟨l, h1, rfl⟩) .nil)
    | (obtain ⟨l, a, c, h1, rfl, h2⟩ := h; exact .cons (by simp only [R]; exact ⟨l, a, c, h1, rfl, h2⟩) .nil)
    | (obtain ⟨a, rfl⟩ := h; exact .cons (by simp only [R]; exact ⟨a, rfl⟩) .nil)
    | (obtain ⟨xs, ys, rfl, h1, h2⟩ := h; exact .cons (by simp only [R]; exact ⟨xs, ys, rfl, h1, h2⟩) .nil)
    | (obtain ⟨u, rfl, h1⟩ := h; exact .cons (by simp only [R]; exact ⟨u, rfl, h1⟩) .nil)

/-- A block as it lies in memory. -/
def BlkOk (Φ : Phi) (w : World) (l : Loc) : Blk → Prop
  | .cells sz rw cs => l.b < w.heap.size ∧ l.sz = sz ∧ l.rw = rw ∧
      (∀ (k : Nat) (c : AV), cs[k]? = some c → ∃ v, w.cell? ⟨l.b, l.base + k, none⟩ = some v ∧ R Φ c v) ∧
      (rw = true → l.base + cs.length ≤ l.lim ∧ ∀ k, k < l.lim → (∃ v, w.cell? ⟨l.b, k, none⟩ = some v) ∧ w.frozen? ⟨l.b, k, none⟩ = false)
  | .map es => l.b < w.heap.size ∧ l.rw = true ∧ ∃ entries clock, w.heap[l.b]? = some (.map entries clock) ∧
      Rs Φ (es.map (·.1)) (entries.toList.map (·.key)) ∧ Rs Φ (es.map (·.2)) (entries.toList.map (·.val))

structure Sim (Φ : Phi) (G : Nat → Option Blk) (w : World) : Prop where
  ok : ∀ i blk, G i = some blk → ∃ l, Φ i = some l ∧ BlkOk Φ w l blk
  apart : ∀ i j bi bj li lj, i ≠ j → G i = some bi → G j = some bj → Φ i = some li → Φ j = some lj → li.rw = true → li.b ≠ lj.b

/-- The machine's blocks that may be written. -/
def Owned (Φ : Phi) (G : Nat → Option Blk) (b : Nat) : Prop := ∃ i blk l, G i = some blk ∧ Φ i = some l ∧ l.rw = true ∧ l.b = b

structure Ext (Φ : Phi) (G : Nat → Option Blk) (w : World) (Φ' : Phi) (G' : Nat → Option Blk) (w' : World) : Prop where
  mono : ∀ i l, Φ i = some l → Φ' i = some l
  os : w'.os = w.os
  tape : w'.tape = w.tape
  output : w'.output = w.output
  size : w.heap.size ≤ w'.heap.size
  frame : ∀ b, b < w.heap.size → ¬ Owned Φ G b → w'.heap[b]? = w.heap[b]?
  own : ∀ b, Owned Φ' G' b → Owned Φ G b ∨ w.heap.size ≤ b
  ro : ∀ j blk l, G' j = some blk → Φ' j = some l → l.rw = false → Φ j = some l ∧ ∃ blk', G j = some blk'

theorem Ext.refl (Φ : Phi) (G : Nat → Option Blk) (w : World) : Ext Φ G w Φ G w :=
  ⟨fun _ _ h => h, rfl, rfl, rfl, Nat.le_refl _, fun _ _ _ => rfl, fun _ h => .inl h, fun _ blk _ h1 h2 _ => ⟨h2, blk, h1⟩⟩

theorem Ext.trans {Φ Φ' Φ'' : Phi} {G G' G'' : Nat → Option Blk} {w w' w'' : World} (h : Ext Φ G w Φ' G' w') (k : Ext Φ' G' w' Φ'' G'' w'') :
    Ext Φ G w Φ'' G'' w'' where
  mono := fun i l hl => k.mono i l (h.mono i l hl)
  os := k.os.trans h.os
  tape := k.tape.trans h.tape
  output := k.output.trans h.output
  size := Nat.le_trans h.size k.size
  frame := fun b hb hn => by
    rw [k.frame b (Nat.lt_of_lt_of_le hb h.size) (fun ho => by
      rcases h.own b ho with h1 | h1
      · exact hn h1
      · omega)]
    exact h.frame b hb hn
  own := fun b ho => by
    rcases k.own b ho with h1 | h1
    · exact h.own b h1
    · exact .inr (Nat.le_trans h.size h1)
  ro := fun j blk l h1 h2 h3 => by
    obtain ⟨h4, blk', h5⟩ := k.ro j blk l h1 h2 h3
    exact h.ro j blk' l h5 h4 h3

theorem cell_of_block {w w' : World} {b : Nat} (h : w'.heap[b]? = w.heap[b]?) (k : Nat) : w'.cell? ⟨b, k, none⟩ = w.cell? ⟨b, k, none⟩ := by
  simp [World.cell?, h]
theorem frozen_of_block {w w' : World} {b : Nat} (h : w'.heap[b]? = w.heap[b]?) (k : Nat) : w'.frozen? ⟨b, k, none⟩ = w.frozen? ⟨b, k, none⟩ := by
  simp [World.frozen?, h]

/-- A block stays as it is where the machine's block stays. -/
theorem BlkOk.keep {Φ Φ' : Phi} {w w' : World} {l : Loc} {blk : Blk} (h : BlkOk Φ w l blk) (hm : ∀ i l, Φ i = some l → Φ' i = some l)
    (hs : w.heap.size ≤ w'.heap.size) (hb : w'.heap[l.b]? = w.heap[l.b]?) : BlkOk Φ' w' l blk := by
  cases blk with
  | cells sz rw cs =>
    obtain ⟨h1, h2, h3, h4, h5⟩ := h
    refine ⟨Nat.lt_of_lt_of_le h1 hs, h2, h3, fun k c hk => ?_, fun hr => ⟨(h5 hr).1, fun k hk => ?_⟩⟩
    · obtain ⟨v, hv, hR⟩ := h4 k c hk
      exact ⟨v, by rw [cell_of_block hb]; exact hv, R.mono hm c hR⟩
    · rw [cell_of_block hb, frozen_of_block hb]; exact (h5 hr).2 k hk
  | map es =>
    obtain ⟨h1, h2, en, cl, h3, h4, h5⟩ := h
    exact ⟨Nat.lt_of_lt_of_le h1 hs, h2, en, cl, by rw [hb]; exact h3, Rs.mono hm _ h4, Rs.mono hm _ h5⟩

theorem BlkOk.lt {Φ : Phi} {w : World} {l : Loc} {blk : Blk} (h : BlkOk Φ w l blk) : l.b < w.heap.size := by
  cases blk <;> exact h.1

/-- Fewer blocks. -/
theorem Sim.less {Φ : Phi} {G G' : Nat → Option Blk} {w : World} (h : Sim Φ G w) (hl : ∀ i b, G' i = some b → G i = some b) : Sim Φ G' w :=
  ⟨fun i b hi => h.ok i b (hl i b hi), fun i j bi bj li lj hn hi hj => h.apart i j bi bj li lj hn (hl i bi hi) (hl j bj hj)⟩

/-- A world that differs in what is drawn alone. -/
theorem Sim.drew {Φ : Phi} {G : Nat → Option Blk} {w : World} (h : Sim Φ G w) : Sim Φ G w.drew :=
  ⟨fun i b hi => by
    obtain ⟨l, h1, h2⟩ := h.ok i b hi
    exact ⟨l, h1, h2.keep (fun _ _ h => h) (Nat.le_refl _) rfl⟩, h.apart⟩

end Go.Am
