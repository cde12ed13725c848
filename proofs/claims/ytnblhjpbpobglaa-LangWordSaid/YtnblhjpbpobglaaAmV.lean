/- The library's sort and slices.Grow, met by their contracts. -/
import Derived.Test.YtnblhjpbpobglaaAmR
import Derived.Shelf.Sort.Plain
import Derived.Shelf.Slices.In.SortNone
import Derived.Shelf.Spec.SlicesGrow
namespace Go.Am
open Go.Sort Go.Shelf

def intsOf : List AV → Option (List Int)
  | [] => some []
  | .int .i64 n :: r => match intsOf r with
    | some l => some (n :: l)
    | none => none
  | _ => none

def ins (x : Int) : List Int → List Int
  | [] => [x]
  | y :: r => if x ≤ y then x :: y :: r else y :: ins x r
def sortI : List Int → List Int
  | [] => []
  | x :: r => ins x (sortI r)

theorem ins_perm (x : Int) : ∀ l, (ins x l).Perm (x :: l)
  | [] => .refl _
  | y :: r => by
    simp only [ins]
    split
    · exact .refl _
    · exact ((ins_perm x r).cons y).trans (.swap x y r)
theorem sortI_perm : ∀ l, (sortI l).Perm l
  | [] => .refl _
  | x :: r => by
    simp only [sortI]
    exact (ins_perm x _).trans ((sortI_perm r).cons x)
theorem ins_sorted (x : Int) : ∀ l : List Int, l.Pairwise (· ≤ ·) → (ins x l).Pairwise (· ≤ ·)
  | [], _ => by simp [ins]
  | y :: r, h => by
    simp only [ins]
    rw [List.pairwise_cons] at h
    split
    · rename_i hxy
      refine List.pairwise_cons.2 ⟨fun z hz => ?_, List.pairwise_cons.2 h⟩
      simp only [List.mem_cons] at hz
      rcases hz with rfl | hz
      · exact hxy
      · exact Int.le_trans hxy (h.1 z hz)
    · rename_i hxy
      refine List.pairwise_cons.2 ⟨fun z hz => ?_, ins_sorted x r h.2⟩
      have := (ins_perm x r).mem_iff.1 hz
      simp only [List.mem_cons] at this
      rcases this with rfl | hz
      · omega
      · exact h.1 z hz
theorem sortI_sorted : ∀ l, (sortI l).Pairwise (· ≤ ·)
  | [] => .nil
  | x :: r => ins_sorted x _ (sortI_sorted r)

theorem sorted_uniq : ∀ (a b : List Int), a.Perm b → a.Pairwise (· ≤ ·) → b.Pairwise (· ≤ ·) → a = b
  | [], b, h, _, _ => by rw [List.nil_perm.1 h]
  | x :: r, [], h, _, _ => by have := h.length_eq; simp at this
  | x :: r, y :: s, h, h1, h2 => by
    rw [List.pairwise_cons] at h1 h2
    have e : x = y := by
      have hx := h.mem_iff.1 (List.mem_cons_self (a := x) (l := r))
      have hy := h.mem_iff.2 (List.mem_cons_self (a := y) (l := s))
      simp only [List.mem_cons] at hx hy
      rcases hx with hx | hx
      · exact hx
      · rcases hy with hy | hy
        · exact hy.symm
        · have := h1.1 y hy; have := h2.1 x hx; omega
    subst e
    rw [sorted_uniq r s ((List.perm_cons _).1 h) h1.2 h2.2]

theorem sortI_eq (l : List Int) : sortI l = l.mergeSort (fun x y => decide (x ≤ y)) := by
  refine sorted_uniq _ _ ((sortI_perm l).trans (List.mergeSort_perm l _).symm) (sortI_sorted l) ?_
  have := List.pairwise_mergeSort (le := fun x y : Int => decide (x ≤ y)) (fun a b c h1 h2 => by simp at *; omega) (fun a b => by simp; omega) l
  exact this.imp (fun h => by simpa using h)

theorem sortI_len (l : List Int) : (sortI l).length = l.length := (sortI_perm l).length_eq

theorem intsOf_eq : ∀ {cs : List AV} {xs : List Int}, intsOf cs = some xs → cs = xs.map (AV.int .i64)
  | [], xs, h => by simp only [intsOf, Option.some.injEq] at h; subst h; rfl
  | c :: r, xs, h => by
    unfold intsOf at h
    split at h
    · simp_all
    · rename_i n r' e
      simp only [List.cons.injEq] at e
      obtain ⟨rfl, rfl⟩ := e
      split at h <;> simp only [Option.some.injEq, reduceCtorEq] at h
      rename_i l hl
      subst h
      rw [intsOf_eq hl]; rfl
    · simp at h

def orcSort : List AV → AHeap → Option (AV × AHeap)
  | [.nilsl], H => some (.tup [], H)
  | [.esl], H => some (.tup [], H)
  | [.sl i o n], H => if n = 0 then some (.tup [], H) else match loadA H i o n with
    | some cs => match intsOf cs with
      | some xs => if n < 4611686018427387904 then (match storeA H i o ((sortI xs).map (.int .i64)) with
        | some H' => some (.tup [], H')
        | none => none) else none
      | none => none
    | none => none
  | _, _ => none

section
variable {Φ : Phi} {G : Nat → Option Blk} {w : World}

theorem Sim.world {w' : World} (S : Sim Φ G w) (hs : w.heap.size ≤ w'.heap.size) (h : ∀ b, b < w.heap.size → w'.heap[b]? = w.heap[b]?) : Sim Φ G w' :=
  ⟨fun i b hi => by
    obtain ⟨l, h1, h2⟩ := S.ok i b hi
    exact ⟨l, h1, h2.keep (fun _ _ h => h) hs (h _ h2.lt)⟩, S.apart⟩

theorem Ext.world {w' : World} (hs : w.heap.size ≤ w'.heap.size) (h : ∀ b, b < w.heap.size → w'.heap[b]? = w.heap[b]?) (h1 : w'.os = w.os) (h2 : w'.tape = w.tape) (h3 : w'.output = w.output) : Ext Φ G w Φ G w' :=
  ⟨fun _ _ h => h, h1, h2, h3, hs, fun b hb _ => h b hb, fun _ h => .inl h, fun _ blk _ h1 h2 _ => ⟨h2, blk, h1⟩⟩

end

theorem CallSound.one {P : Program} {f : FuncId} {g : List AV → AHeap → Option (AV × AHeap)} (hc : Callable P f)
    (h : ∀ args H r H', g args H = some (r, H') → H.length ≤ H'.length ∧ ∀ Φ w vs, Sim Φ (getB H) w → Free Φ H.length H'.length → Rs Φ args vs → Calls P f (List.toArray vs) w (CallPost Φ H w r H')) :
    CallSound P (fun f' xs H => if f' = f then g xs H else none) := by
  intro f' args H r H' hr
  simp only at hr
  split at hr
  · rename_i e; subst e
    obtain ⟨h1, h2⟩ := h args H r H' hr
    exact ⟨h1, hc, h2⟩
  · simp at hr

theorem R.tup0 (Φ : Phi) : R Φ (.tup []) (.tuple #[]) := by simp only [R]; exact ⟨[], rfl, by simp only [Rs]⟩

theorem CallPost.same {Φ : Phi} {H : AHeap} {w : World} (S : Sim Φ (getB H) w) {r : AV} {v : Value} (hR : R Φ r v) : CallPost Φ H w r H (.returned v) w :=
  ⟨Φ, v, rfl, hR, S, Ext.refl _ _ _, Dom.refl _ _ _⟩

theorem sort_sound {P : Program} {ρ : Ren} (Ly : Go.Proofs.Lays.n189 P ρ) (hc : Callable P (ρ.f 189)) : CallSound P (fun f' xs H => if f' = ρ.f 189 then orcSort xs H else none) := by
  refine .one hc (fun args H r H' h => ?_)
  have none_ok : ∀ (p : Option Addr) (cap : Nat) (Φ : Phi) (w : World), Sim Φ (getB H) w → Calls P (ρ.f 189) #[.slice p 0 cap] w (CallPost Φ H w (.tup []) H) := fun p cap Φ w S => by
    refine (Go.Proofs.Any.slices_Sort_int_none Ly p cap w).mono ?_
    rintro e w' ⟨rfl, rfl⟩
    exact CallPost.same S (R.tup0 Φ)
  unfold orcSort at h
  split at h
  · simp only [Option.some.injEq, Prod.mk.injEq] at h; obtain ⟨rfl, rfl⟩ := h
    refine ⟨Nat.le_refl _, fun Φ w vs S _ hR => ?_⟩
    simp only [Rs, R] at hR
    obtain ⟨v, vs', rfl, rfl, rfl⟩ := hR
    exact none_ok _ _ Φ w S
  · simp only [Option.some.injEq, Prod.mk.injEq] at h; obtain ⟨rfl, rfl⟩ := h
    refine ⟨Nat.le_refl _, fun Φ w vs S _ hR => ?_⟩
    simp only [Rs, R] at hR
    obtain ⟨v, vs', rfl, ⟨a, rfl⟩, rfl⟩ := hR
    exact none_ok _ _ Φ w S
  · rename_i i o n
    split at h
    · rename_i hn; subst hn
      simp only [Option.some.injEq, Prod.mk.injEq] at h; obtain ⟨rfl, rfl⟩ := h
      refine ⟨Nat.le_refl _, fun Φ w vs S _ hR => ?_⟩
      simp only [Rs, R] at hR
      obtain ⟨v, vs', rfl, ⟨l, a, c, _, rfl, _⟩, rfl⟩ := hR
      exact none_ok _ _ Φ w S
    · rename_i hn
      split at h <;> try (simp at h; done)
      rename_i cs hl
      split at h <;> try (simp at h; done)
      rename_i xs hx
      split at h <;> try (simp at h; done)
      rename_i hbig
      split at h <;> simp only [Option.some.injEq, Prod.mk.injEq, reduceCtorEq] at h
      rename_i H1 hst
      obtain ⟨rfl, rfl⟩ := h
      have hxs := intsOf_eq hx
      -- the block
      have hst0 := hst
      unfold storeA at hst0
      split at hst0 <;> try (simp at hst0; done)
      rename_i sz cs0 hB
      split at hst0 <;> simp only [Option.some.injEq, reduceCtorEq] at hst0
      rename_i hcnd
      simp only [Bool.and_eq_true, decide_eq_true_eq] at hcnd
      have hl0 := hl
      unfold loadA at hl0
      rw [hB] at hl0
      simp only at hl0
      split at hl0 <;> simp only [Option.some.injEq, reduceCtorEq] at hl0
      rename_i hon
      have hlen : xs.length = n := by
        have : cs.length = n := by rw [← hl0]; simp; omega
        rw [hxs] at this; simpa using this
      have hlenH : H1.length = H.length := by rw [← hst0]; simp
      refine ⟨by omega, fun Φ w vs S _ hR => ?_⟩
      simp only [Rs, R] at hR
      obtain ⟨v, vs', rfl, ⟨l, a, c, hΦ, rfl, hnc, hac⟩, rfl⟩ := hR
      have ha : a = ⟨l.b, l.base + o, none⟩ := by
        rcases hac with h | h
        · omega
        · exact h.1
      subst ha
      obtain ⟨l', hl', hok⟩ := S.ok i _ hB
      rw [hΦ] at hl'; simp only [Option.some.injEq] at hl'; subst hl'
      have hok' := hok
      obtain ⟨h1, h2, h3, h4, h5⟩ := hok'
      obtain ⟨h6, h7⟩ := h5 rfl
      have hcell : ∀ j, (hj : j < xs.length) → cs0[o + j]? = some (.int .i64 xs[j]) := by
        intro j hj
        have e : ((cs0.drop o).take n)[j]? = some (.int .i64 xs[j]) := by rw [hl0, hxs]; simp [hj]
        rw [List.getElem?_take_of_lt (by omega), List.getElem?_drop] at e
        exact e
      have hH : Holds (Value.int .i64) w l.b (l.base + o) xs.toArray := by
        intro j hj
        have hj' : j < xs.length := by simpa using hj
        obtain ⟨v, hv, hRv⟩ := h4 (o + j) _ (hcell j hj')
        simp only [R] at hRv
        subst hRv
        rw [show l.base + (o + j) = l.base + o + j by omega] at hv
        refine ⟨?_, (h7 _ (by omega)).2⟩
        rw [hv]
        simp [hj']
      have C := Go.Proofs.Any.slices_Sort_int Ly l.b (l.base + o) c xs w hH h1 (by omega)
      rw [hlen] at C
      refine C.mono ?_
      rintro e w' ⟨rfl, m, os, rfl⟩
      rw [← sortI_eq]
      -- the world with the cells written
      have hsz : (sortI xs).toArray.size = xs.toArray.size := by simp [sortI_len]
      have hoth : ∀ b, b ≠ l.b → (putRow (Value.int .i64) (Sort.ahead w m) l.b (l.base + o) (sortI xs).toArray).heap[b]? = w.heap[b]? := by
        intro b hb
        simp [putRow, mapBlock, Sort.ahead, Array.getElem?_modify, Ne.symm hb]
      have hnew : BlkOk Φ (putRow (Value.int .i64) (Sort.ahead w m) l.b (l.base + o) (sortI xs).toArray) l (.cells sz true (splice cs0 o ((sortI xs).map (.int .i64)))) := by
        have hsp : (splice cs0 o ((sortI xs).map (AV.int .i64))).length = cs0.length := by simp [splice]; rw [sortI_len]; omega
        have hHa : Holds (Value.int .i64) (Sort.ahead w m) l.b (l.base + o) xs.toArray := hH
        have hin : ∀ j, (hj : j < xs.length) → (putRow (Value.int .i64) (Sort.ahead w m) l.b (l.base + o) (sortI xs).toArray).cell? ⟨l.b, l.base + o + j, none⟩ = some (.int .i64 ((sortI xs)[j]'(by rw [sortI_len]; exact hj))) := by
          intro j hj
          rw [cell?_putRow (Value.int .i64) (Sort.ahead w m) l.b (l.base + o) xs.toArray (sortI xs).toArray hHa hsz j (by simp [sortI_len]; exact hj)]
          simp [sortI_len, hj]
        have hout : ∀ k, (k < l.base + o ∨ l.base + o + xs.length ≤ k) → (putRow (Value.int .i64) (Sort.ahead w m) l.b (l.base + o) (sortI xs).toArray).cell? ⟨l.b, k, none⟩ = w.cell? ⟨l.b, k, none⟩ := by
          intro k hk
          rw [cell?_putRow_other (Value.int .i64) (Sort.ahead w m) l.b (l.base + o) (sortI xs).toArray ⟨l.b, k, none⟩ (.inr (by simp [sortI_len]; exact hk))]
          rfl
        refine ⟨by simpa [Sort.ahead] using h1, h2, h3, fun k x hk => ?_, fun _ => ⟨by rw [hsp]; exact h6, fun k hk => ⟨?_, ?_⟩⟩⟩
        · unfold splice at hk
          by_cases hko : k < o
          · rw [List.append_assoc, List.getElem?_append_left (by simp; omega), List.getElem?_take_of_lt hko] at hk
            obtain ⟨v, hv, hRv⟩ := h4 k x hk
            exact ⟨v, by rw [hout _ (by omega)]; exact hv, hRv⟩
          · by_cases hkn : k < o + xs.length
            · rw [List.append_assoc, List.getElem?_append_right (by simp; omega), List.getElem?_append_left (by simp; rw [sortI_len]; omega)] at hk
              rw [List.length_take, Nat.min_eq_left (by omega)] at hk
              have := hin (k - o) (by omega)
              rw [show l.base + o + (k - o) = l.base + k by omega] at this
              refine ⟨_, this, ?_⟩
              rw [List.getElem?_map, List.getElem?_eq_getElem (by rw [sortI_len]; omega)] at hk
              simp only [Option.map_some, Option.some.injEq] at hk
              subst hk
              simp only [R]
            · rw [List.append_assoc, List.getElem?_append_right (by simp; omega), List.getElem?_append_right (by simp; rw [sortI_len]; omega)] at hk
              rw [List.length_take, Nat.min_eq_left (by omega), List.getElem?_drop, List.length_map, sortI_len] at hk
              obtain ⟨v, hv, hRv⟩ := h4 k x (by rw [← hk]; congr 1; omega)
              exact ⟨v, by rw [hout _ (by omega)]; exact hv, hRv⟩
        · by_cases hr : l.base + o ≤ k ∧ k < l.base + o + xs.length
          · have := hin (k - (l.base + o)) (by omega)
            rw [show l.base + o + (k - (l.base + o)) = k by omega] at this
            exact ⟨_, this⟩
          · rw [hout _ (by omega)]; exact (h7 k hk).1
        · rw [frozen?_putRow]; exact (h7 k hk).2
      obtain ⟨s1, s2⟩ := write_step S hB hΦ h3 (w' := putRow (Value.int .i64) (Sort.ahead w m) l.b (l.base + o) (sortI xs).toArray) rfl rfl rfl (by simp [Sort.ahead]) hoth hnew
      rw [← getB_set H i _ (getB_lt hB)] at s1 s2
      rw [hst0] at s1 s2
      have hg1 : (putRow (Value.int .i64) (Sort.ahead w m) l.b (l.base + o) (sortI xs).toArray).heap.size ≤ (grow (putRow (Value.int .i64) (Sort.ahead w m) l.b (l.base + o) (sortI xs).toArray) os).heap.size := by rw [size_grow]; omega
      have hg2 := fun b (hb : b < (putRow (Value.int .i64) (Sort.ahead w m) l.b (l.base + o) (sortI xs).toArray).heap.size) => heap_grow_old (putRow (Value.int .i64) (Sort.ahead w m) l.b (l.base + o) (sortI xs).toArray) os hb
      exact ⟨Φ, _, rfl, R.tup0 Φ, s1.world hg1 hg2, s2.trans (Ext.world hg1 hg2 rfl rfl rfl), Dom.refl _ _ _⟩
  · simp at h


/-- slices.Grow of nil. 'sz', 'bytes': cells and bytes of an element. -/
def orcGrow (sz bytes : Nat) : List AV → AHeap → Option (AV × AHeap)
  | [.nilsl, .int .i64 n], H => if n = 0 then some (.nilsl, H) else
    if 0 < n ∧ n * bytes ≤ (maxRoom : Int) ∧ n ≤ 4611686018427387904 then some (.sl H.length 0 0, H ++ [some (.cells sz true [])]) else none
  | _, _ => none

theorem grow_sound {P : Program} {ρ : Ren} (Ly : Go.Proofs.Lays8.n4 P ρ) (hc : Callable P (ρ.f 4)) {sz bytes : Nat} {z0 : List AV} (hz0 : zeroP P (ρ.t 25) = some z0) (hs0 : sizeP P (ρ.t 25) = some sz)
    (hb : bytesP P (ρ.t 25) = some bytes) : CallSound P (fun f' xs H => if f' = ρ.f 4 then orcGrow sz bytes xs H else none) := by
  refine .one hc (fun args H r H' h => ?_)
  unfold orcGrow at h
  split at h
  · rename_i n
    split at h
    · rename_i hn
      simp only [Option.some.injEq, Prod.mk.injEq] at h; obtain ⟨rfl, rfl⟩ := h
      refine ⟨Nat.le_refl _, fun Φ w vs S _ hR => ?_⟩
      simp only [Rs, R] at hR
      obtain ⟨v, vs', rfl, rfl, v2, vs2, rfl, rfl, rfl⟩ := hR
      subst hn
      refine (Go.Proofs.Any8.slices_Grow_room Ly none 0 0 0 w (Nat.le_refl _) (by omega) (by omega) (by omega)).mono ?_
      rintro e w' ⟨rfl, rfl⟩
      exact CallPost.same S (by simp only [R])
    · split at h <;> simp only [Option.some.injEq, Prod.mk.injEq, reduceCtorEq] at h
      rename_i hn
      obtain ⟨rfl, rfl⟩ := h
      obtain ⟨hn0, hfit, hn63⟩ := hn
      refine ⟨by simp, fun Φ w vs S hfree hR => ?_⟩
      simp only [Rs, R] at hR
      obtain ⟨v, vs', rfl, rfl, v2, vs2, rfl, rfl, rfl⟩ := hR
      obtain ⟨zi, zv, hi, hzv, hzl, hzne, hzR⟩ := zeroP_info hz0
      obtain ⟨i', hi', hszi, hsz0⟩ := sizeP_info hs0
      rw [hi] at hi'; simp only [Option.some.injEq] at hi'; subst hi'
      have hbytes : zi.bytes = bytes := by unfold bytesP at hb; rw [hi] at hb; simpa using hb
      obtain ⟨m, rfl⟩ : ∃ m : Nat, n = (m : Int) := ⟨n.toNat, by omega⟩
      have hfit' : (0 + m) * zi.bytes ≤ 140737488355328 := by
        rw [hbytes, Nat.zero_add]
        have : ((m * bytes : Nat) : Int) ≤ 140737488355328 := by
          push_cast
          exact hfit
        omega
      refine (Go.Proofs.Any8.slices_Grow_grow Ly zi zv hi hzv (by omega) none 0 0 m [] w (Nat.le_refl _) (by omega) hfit' (by omega) (by simp) (fun _ => rfl) (by simp)).mono ?_
      rintro e w' ⟨rfl, rfl⟩
      have hcap : m ≤ grownCap w (0 + m) 0 (ρ.t 25) := by simp [grownCap, Question.cut]
      have hzs : zv.cells.size = sz := by rw [← Array.length_toList, (hzR Φ).len, hzl, hszi]
      generalize grownCap w (0 + m) 0 (ρ.t 25) = C at hcap
      generalize harr : ((#[] : Array Value) ++ Builtin.zeroCells zv.cells (0 + m - 0) ++ Builtin.zeroCells zv.cells (C - (0 + m))) = arr
      have hasz : arr.size = C * sz := by
        rw [← harr]
        simp [Builtin.zeroCells, hzs]
        rw [← Nat.add_mul]
        congr 1
        omega
      have hnone : Φ H.length = none := hfree _ (Nat.le_refl _) (by simp)
      have mono : ∀ j q, Φ j = some q → upd Φ H.length (some ⟨w.heap.size, 0, arr.size, sz, true⟩) j = some q := by
        intro j q hj
        rw [upd_other (fun e => by subst e; rw [hnone] at hj; simp at hj)]; exact hj
      have hN : NewAt w (w.drew.alloc (.cells arr (ρ.t 25))) := NewAt.drew (NewAt.alloc _ _)
      have hok : BlkOk (upd Φ H.length (some ⟨w.heap.size, 0, arr.size, sz, true⟩)) (w.drew.alloc (.cells arr (ρ.t 25))) ⟨w.heap.size, 0, arr.size, sz, true⟩ (.cells sz true []) :=
        fresh_ok (alloc_new w.drew _) (.inl rfl) (vs := []) (rest := arr.toList) (by simp) .nil sz
      obtain ⟨s1, s2⟩ := new_step S hN (l := ⟨w.heap.size, 0, arr.size, sz, true⟩) rfl rfl hnone hok
      rw [← getB_append] at s1 s2
      refine ⟨_, _, rfl, ?_, s1, s2, fun i hi => ?_⟩
      · simp only [R]
        exact ⟨_, _, _, upd_self _ _ _, rfl, Nat.zero_le _, .inr ⟨by simp, fun _ => by simp [hasz]⟩⟩
      · by_cases e : i = H.length
        · subst e; exact ⟨Nat.le_refl _, by simp⟩
        · exact absurd (upd_other e) hi
  · simp at h

end Go.Am
