/- Operations that change memory: what compact code says is what the machine does. -/
import Derived.Test.YtnblhjpbpobglaaAmK
import Derived.Deep.Upon
namespace Go.Am

def upd {α : Type} (f : Nat → Option α) (i : Nat) (x : Option α) : Nat → Option α := fun j => if j = i then x else f j

theorem upd_self {α : Type} (f : Nat → Option α) (i : Nat) (x : Option α) : upd f i x i = x := by simp [upd]
theorem upd_other {α : Type} {f : Nat → Option α} {i j : Nat} {x : Option α} (h : j ≠ i) : upd f i x j = f j := by simp [upd, h]

theorem getB_append (H : AHeap) (x : Option Blk) : getB (H ++ [x]) = upd (getB H) H.length x := by
  funext j
  unfold getB upd
  by_cases h : j = H.length
  · subst h; simp
  · rw [if_neg h]
    rcases Nat.lt_or_ge j H.length with h' | h'
    · rw [List.getElem?_append_left h']
    · rw [List.getElem?_eq_none (by simp; omega)]
      show none = (H[j]?).join
      rw [List.getElem?_eq_none h']
      rfl

theorem getB_set (H : AHeap) (i : Nat) (x : Option Blk) (h : i < H.length) : getB (H.set i x) = upd (getB H) i x := by
  funext j
  unfold getB upd
  by_cases hj : j = i
  · subst hj; simp [h]
  · rw [if_neg hj, List.getElem?_set_ne (fun e => hj e.symm)]

theorem getB_lt {H : AHeap} {i : Nat} {b : Blk} (h : getB H i = some b) : i < H.length := by
  unfold getB at h
  rcases Nat.lt_or_ge i H.length with h' | h'
  · exact h'
  · rw [List.getElem?_eq_none h'] at h; simp at h

theorem setCells_facts (b : Nat) : ∀ (vs : List Value) (o : Nat) (w : World), (w.setCells b o vs).os = w.os ∧ (w.setCells b o vs).tape = w.tape ∧ (w.setCells b o vs).output = w.output ∧
    (w.setCells b o vs).heap.size = w.heap.size ∧ ∀ k, k ≠ b → (w.setCells b o vs).heap[k]? = w.heap[k]?
  | [], _, _ => ⟨rfl, rfl, rfl, rfl, fun _ _ => rfl⟩
  | v :: r, o, w => by
    obtain ⟨h1, h2, h3, h4, h5⟩ := setCells_facts b r (o + 1) (w.setCell ⟨b, o, none⟩ v)
    refine ⟨h1, h2, h3, by rw [World.setCells, h4]; simp, fun k hk => ?_⟩
    rw [World.setCells, h5 k hk]
    simp [World.setCell, Array.getElem?_modify, Ne.symm hk]

section
variable {Φ : Phi} {G : Nat → Option Blk} {w w' : World}

/-- A new block. -/
theorem new_step (S : Sim Φ G w) (N : NewAt w w') {i : Nat} {l : Loc} {blk : Blk} (hb : l.b = w.heap.size) (hr : l.rw = true) (hf : Φ i = none) (hok : BlkOk (upd Φ i (some l)) w' l blk) :
    Sim (upd Φ i (some l)) (upd G i (some blk)) w' ∧ Ext Φ G w (upd Φ i (some l)) (upd G i (some blk)) w' := by
  have mono : ∀ j q, Φ j = some q → upd Φ i (some l) j = some q := by
    intro j q hj
    rw [upd_other (fun e => by subst e; rw [hf] at hj; simp at hj)]; exact hj
  have hlt : ∀ j b, G j = some b → ∃ q, Φ j = some q ∧ BlkOk Φ w q b := S.ok
  refine ⟨⟨fun j b hj => ?_, fun j k bj bk lj lk hne hj hk hlj hlk hrw => ?_⟩, ⟨mono, N.os, N.tape, N.output, by rw [N.size]; omega, fun b hb' _ => N.old b hb', fun b hb' => ?_, fun j blk' l' h1 h2 h3 => ?_⟩⟩
  · by_cases e : j = i
    · subst e; rw [upd_self] at hj ⊢; simp only [Option.some.injEq] at hj; subst hj; exact ⟨l, rfl, hok⟩
    · rw [upd_other e] at hj
      obtain ⟨q, hq, hq2⟩ := S.ok j b hj
      exact ⟨q, mono _ _ hq, hq2.keep mono (by rw [N.size]; omega) (N.old _ hq2.lt)⟩
  · by_cases e : j = i
    · subst e
      rw [upd_self] at hlj; simp only [Option.some.injEq] at hlj; subst hlj
      have hk' : k ≠ j := fun e => hne e.symm
      rw [upd_other hk'] at hk hlk
      obtain ⟨q, hq, hq2⟩ := S.ok k bk hk
      rw [hlk] at hq; simp only [Option.some.injEq] at hq; subst hq
      have := hq2.lt; omega
    · rw [upd_other e] at hj hlj
      by_cases e2 : k = i
      · subst e2
        rw [upd_self] at hlk; simp only [Option.some.injEq] at hlk; subst hlk
        obtain ⟨q, hq, hq2⟩ := S.ok j bj hj
        rw [hlj] at hq; simp only [Option.some.injEq] at hq; subst hq
        have := hq2.lt; omega
      · rw [upd_other e2] at hk hlk
        exact S.apart j k bj bk lj lk hne hj hk hlj hlk hrw
  · obtain ⟨j, bb, q, hj, hq, hrw, hqb⟩ := hb'
    by_cases e : j = i
    · subst e; rw [upd_self] at hq; simp only [Option.some.injEq] at hq; subst hq; right; omega
    · rw [upd_other e] at hj hq; exact .inl ⟨j, bb, q, hj, hq, hrw, hqb⟩
  · by_cases e : j = i
    · subst e; rw [upd_self] at h2; simp only [Option.some.injEq] at h2; subst h2; rw [hr] at h3; simp at h3
    · rw [upd_other e] at h1 h2; exact ⟨h2, blk', h1⟩

/-- A block that is written. -/
theorem write_step (S : Sim Φ G w) {i : Nat} {l : Loc} {old blk : Blk} (hi : G i = some old) (hl : Φ i = some l) (hr : l.rw = true)
    (hos : w'.os = w.os) (htp : w'.tape = w.tape) (hou : w'.output = w.output) (hsz : w'.heap.size = w.heap.size) (hoth : ∀ b, b ≠ l.b → w'.heap[b]? = w.heap[b]?) (hok : BlkOk Φ w' l blk) :
    Sim Φ (upd G i (some blk)) w' ∧ Ext Φ G w Φ (upd G i (some blk)) w' := by
  have back : ∀ j b, upd G i (some blk) j = some b → ∃ b', G j = some b' := by
    intro j b hj
    by_cases e : j = i
    · subst e; exact ⟨old, hi⟩
    · rw [upd_other e] at hj; exact ⟨b, hj⟩
  refine ⟨⟨fun j b hj => ?_, fun j k bj bk lj lk hne hj hk hlj hlk hrw => ?_⟩, ⟨fun _ _ h => h, hos, htp, hou, by omega, fun b hb' hn => hoth b (fun e => hn ⟨i, old, l, hi, hl, hr, e.symm⟩), fun b hb' => ?_, fun j blk' l' h1 h2 h3 => ⟨h2, back j blk' h1⟩⟩⟩
  · by_cases e : j = i
    · subst e; rw [upd_self] at hj; simp only [Option.some.injEq] at hj; subst hj; exact ⟨l, hl, hok⟩
    · rw [upd_other e] at hj
      obtain ⟨q, hq, hq2⟩ := S.ok j b hj
      exact ⟨q, hq, hq2.keep (fun _ _ h => h) (by omega) (hoth _ (fun e2 => S.apart i j old b l q (fun e3 => e e3.symm) hi hj hl hq hr e2.symm))⟩
  · obtain ⟨bj', hj'⟩ := back j bj hj
    obtain ⟨bk', hk'⟩ := back k bk hk
    exact S.apart j k bj' bk' lj lk hne hj' hk' hlj hlk hrw
  · obtain ⟨j, bb, q, hj, hq, hrw, hqb⟩ := hb'
    obtain ⟨bj', hj'⟩ := back j bb hj
    exact .inl ⟨j, bj', q, hj', hq, hrw, hqb⟩

/-- A block that goes on, written, under a new number. -/
theorem move_step (S : Sim Φ G w) {i n : Nat} {l l' : Loc} {old blk : Blk} (hi : G i = some old) (hl : Φ i = some l) (hr : l.rw = true) (hf : Φ n = none) (hb : l'.b = l.b) (hr' : l'.rw = true)
    (hos : w'.os = w.os) (htp : w'.tape = w.tape) (hou : w'.output = w.output) (hsz : w'.heap.size = w.heap.size) (hoth : ∀ b, b ≠ l.b → w'.heap[b]? = w.heap[b]?) (hok : BlkOk (upd Φ n (some l')) w' l' blk) :
    Sim (upd Φ n (some l')) (upd (upd G i none) n (some blk)) w' ∧ Ext Φ G w (upd Φ n (some l')) (upd (upd G i none) n (some blk)) w' := by
  have mono : ∀ j q, Φ j = some q → upd Φ n (some l') j = some q := by
    intro j q hj
    rw [upd_other (fun e => by subst e; rw [hf] at hj; simp at hj)]; exact hj
  have hin : i ≠ n := fun e => by subst e; rw [hf] at hl; simp at hl
  have back : ∀ j b q, upd (upd G i none) n (some blk) j = some b → upd Φ n (some l') j = some q → (j = n ∧ q = l' ∧ b = blk) ∨ (j ≠ n ∧ j ≠ i ∧ G j = some b ∧ Φ j = some q) := by
    intro j b q hj hq
    by_cases e : j = n
    · subst e; rw [upd_self] at hj hq; simp only [Option.some.injEq] at hj hq; exact .inl ⟨rfl, hq.symm, hj.symm⟩
    · rw [upd_other e] at hj hq
      by_cases e2 : j = i
      · subst e2; rw [upd_self] at hj; simp at hj
      · rw [upd_other e2] at hj; exact .inr ⟨e, e2, hj, hq⟩
  refine ⟨⟨fun j b hj => ?_, fun j k bj bk lj lk hne hj hk hlj hlk hrw => ?_⟩, ⟨mono, hos, htp, hou, by omega, fun b hb' hn => hoth b (fun e => hn ⟨i, old, l, hi, hl, hr, e.symm⟩), fun b hb' => ?_, fun j blk' l'' h1 h2 h3 => ?_⟩⟩
  · by_cases e : j = n
    · subst e; rw [upd_self] at hj; simp only [Option.some.injEq] at hj; subst hj; exact ⟨l', upd_self _ _ _, hok⟩
    · rw [upd_other e] at hj
      by_cases e2 : j = i
      · subst e2; rw [upd_self] at hj; simp at hj
      · rw [upd_other e2] at hj
        obtain ⟨q, hq, hq2⟩ := S.ok j b hj
        exact ⟨q, mono _ _ hq, hq2.keep mono (by omega) (hoth _ (fun e3 => S.apart i j old b l q (fun e4 => e2 e4.symm) hi hj hl hq hr e3.symm))⟩
  · rcases back j bj lj hj hlj with ⟨rfl, rfl, rfl⟩ | ⟨e1, e2, hj', hlj'⟩ <;> rcases back k bk lk hk hlk with ⟨rfl, rfl, rfl⟩ | ⟨e3, e4, hk', hlk'⟩
    · exact absurd rfl hne
    · rw [hb]; exact S.apart i k old bk l lk (fun e => e4 e.symm) hi hk' hl hlk' hr
    · rw [hb]; exact S.apart j i bj old lj l e2 hj' hi hlj' hl hrw
    · exact S.apart j k bj bk lj lk hne hj' hk' hlj' hlk' hrw
  · obtain ⟨j, bb, q, hj, hq, hrw, hqb⟩ := hb'
    rcases back j bb q hj hq with ⟨rfl, rfl, rfl⟩ | ⟨e1, e2, hj', hlj'⟩
    · exact .inl ⟨i, old, l, hi, hl, hr, by omega⟩
    · exact .inl ⟨j, bb, q, hj', hlj', hrw, hqb⟩
  · rcases back j blk' l'' h1 h2 with ⟨rfl, rfl, rfl⟩ | ⟨e1, e2, hj', hlj'⟩
    · rw [hr'] at h3; simp at h3
    · exact ⟨hlj', blk', hj'⟩

/-- Fewer blocks own less. -/
theorem Ext.less {Φ' : Phi} {G' G'' : Nat → Option Blk} (h : Ext Φ G w Φ' G' w') (hl : ∀ i b, G'' i = some b → G' i = some b) : Ext Φ G w Φ' G'' w' :=
  ⟨h.mono, h.os, h.tape, h.output, h.size, h.frame, fun b ⟨i, bb, l, hi, hrest⟩ => h.own b ⟨i, bb, l, hl i bb hi, hrest⟩, fun j blk l h1 h2 h3 => h.ro j blk l (hl j blk h1) h2 h3⟩

end

section
variable {c : Ctx} {env vals : List AV} {Φ : Phi} {ρ : Operand → Value} {w : World} {H : AHeap}

def EffOk (P : Program) (Φ : Phi) (H : AHeap) (w : World) (ρ : Operand → Value) (o : Oper) (v : AV) (H' : AHeap) : Prop :=
  ∃ Φ' nx w', (execOp ρ o).run P w = .ok nx w' ∧ ((∃ v', nx = .value v' ∧ R Φ' v v') ∨ (nx = .skip ∧ v = .junk)) ∧
    Sim Φ' (getB H') w' ∧ Ext Φ (getB H) w Φ' (getB H') w' ∧ (∀ i, Φ' i ≠ Φ i → H.length ≤ i ∧ i < H'.length)

/-- Cells that are written into a block. -/
theorem store_world (S : Sim Φ (getB H) w) {i o : Nat} {cs : List AV} {H' : AHeap} (h : storeA H i o cs = some H') {vs : List Value} (hR : Rs Φ cs vs) {l : Loc} (hl : Φ i = some l) :
    (∀ P : Program, (storeCells ⟨l.b, l.base + o, none⟩ vs).run P w = .ok () (w.setCells l.b (l.base + o) vs)) ∧
      Sim Φ (getB H') (w.setCells l.b (l.base + o) vs) ∧ Ext Φ (getB H) w Φ (getB H') (w.setCells l.b (l.base + o) vs) ∧ H'.length = H.length := by
  unfold storeA at h
  split at h
  · rename_i sz cs0 hB
    split at h <;> simp only [Option.some.injEq, reduceCtorEq] at h
    rename_i hc
    simp only [Bool.and_eq_true, decide_eq_true_eq] at hc
    subst h
    obtain ⟨l', hl', hok⟩ := S.ok i _ hB
    rw [hl] at hl'; simp only [Option.some.injEq] at hl'; subst hl'
    have hok0 := hok
    obtain ⟨h1, h2, h3, h4, h5⟩ := hok
    obtain ⟨h6, h7⟩ := h5 rfl
    have hlen := hR.len
    have hin : ∀ j, j < vs.length → l.base + o + j < l.lim := by intro j hj; omega
    have hsome : ∀ j, j < vs.length → (w.cell? ⟨l.b, l.base + o + j, none⟩).isSome = true := by
      intro j hj; obtain ⟨v, hv⟩ := (h7 _ (hin j hj)).1; simp [hv]
    have hone : ∀ v ∈ vs, v.oneCell' = true := by
      intro v hv
      obtain ⟨k, hk, rfl⟩ := List.getElem_of_mem hv
      have hk' : k < cs.length := by omega
      obtain ⟨u, hu, hRu⟩ := hR.get (k := k) (c := cs[k]) (by simp [hk'])
      rw [List.getElem?_eq_getElem hk] at hu
      simp only [Option.some.injEq] at hu
      rw [hu]
      exact hRu.one (List.all_eq_true.1 hc.2 _ (List.getElem_mem hk'))
    refine ⟨fun P => ?_, ?_⟩
    · have := run_storeCells_cells (P := P) l.b (l.base + o) vs 0 w (by simpa using hsome) (fun j hj => by simpa using (h7 _ (hin j hj)).2) hone
      simpa using this
    · have hsp : (splice cs0 o cs).length = cs0.length := by simp [splice]; omega
      have hnew : BlkOk Φ (w.setCells l.b (l.base + o) vs) l (.cells sz true (splice cs0 o cs)) := by
        have hfr := World.frozen?_setCells l.b vs (l.base + o) w
        have hcell : ∀ k, k < l.lim → ∃ v, (w.setCells l.b (l.base + o) vs).cell? ⟨l.b, k, none⟩ = some v := by
          intro k hk
          by_cases hr : l.base + o ≤ k ∧ k < l.base + o + vs.length
          · have := World.cell?_setCells_in l.b vs (l.base + o) w hsome (k - (l.base + o)) (by omega)
            rw [show l.base + o + (k - (l.base + o)) = k by omega] at this
            exact ⟨_, this⟩
          · rw [World.cell?_setCells_out l.b vs (l.base + o) w ⟨l.b, k, none⟩ (fun _ _ => by simp only; omega)]
            exact (h7 k hk).1
        have hsize := (setCells_facts l.b vs (l.base + o) w).2.2.2.1
        refine ⟨by rw [hsize]; exact h1, h2, h3, fun k x hk => ?_, fun _ => ⟨by rw [hsp]; exact h6, fun k hk => ⟨hcell k hk, by rw [hfr]; exact (h7 k hk).2⟩⟩⟩
        unfold splice at hk
        by_cases ha : k < o
        · rw [List.append_assoc, List.getElem?_append_left (by simp; omega), List.getElem?_take_of_lt ha] at hk
          obtain ⟨v, hv, hRv⟩ := h4 k x hk
          exact ⟨v, by rw [World.cell?_setCells_out l.b vs (l.base + o) w _ (fun _ _ => by simp only; omega)]; exact hv, hRv⟩
        · by_cases hb : k < o + cs.length
          · rw [List.append_assoc, List.getElem?_append_right (by simp; omega), List.getElem?_append_left (by simp; omega)] at hk
            rw [List.length_take, Nat.min_eq_left (by omega)] at hk
            obtain ⟨u, hu, hRu⟩ := hR.get hk
            have hlt : k - o < vs.length := by omega
            have := World.cell?_setCells_in l.b vs (l.base + o) w hsome (k - o) hlt
            rw [show l.base + o + (k - o) = l.base + k by omega] at this
            rw [List.getElem?_eq_getElem hlt] at hu
            exact ⟨u, by rw [this, hu], hRu⟩
          · rw [List.append_assoc, List.getElem?_append_right (by simp; omega), List.getElem?_append_right (by simp; omega)] at hk
            rw [List.length_take, Nat.min_eq_left (by omega), List.getElem?_drop] at hk
            obtain ⟨v, hv, hRv⟩ := h4 k x (by rw [← hk]; congr 1; omega)
            exact ⟨v, by rw [World.cell?_setCells_out l.b vs (l.base + o) w _ (fun _ _ => by simp only; omega)]; exact hv, hRv⟩
      obtain ⟨q1, q2, q3, q4, q5⟩ := setCells_facts l.b vs (l.base + o) w
      obtain ⟨s1, s2⟩ := write_step S hB hl h3 q1 q2 q3 q4 q5 hnew
      rw [← getB_set H i _ (getB_lt hB)] at s1 s2
      exact ⟨s1, s2, by simp⟩
  · simp at h
end
end Go.Am
