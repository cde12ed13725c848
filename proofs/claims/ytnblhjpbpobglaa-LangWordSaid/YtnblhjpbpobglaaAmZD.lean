/- Slices of one's own: cells that may be written; loops once round. -/
import Derived.Test.YtnblhjpbpobglaaAmZC
namespace Go.Am

-- ---------------------------------------------------------------- loops
def kLoop (p : Prg) (c : ACode) (K : KC) : KC := fun e env H => match e with
  | .normal => WC p (.loop c) env H K
  | e => K e env H
section
variable {p : Prg} {env : List AV} {H : AHeap} {K : KC} {c : ACode} {I : Nat → List AV → AHeap → Prop} {n : Nat}
theorem kLoop_normal : kLoop p c K .normal env H = WC p (.loop c) env H K := rfl
theorem kLoop_ret : kLoop p c K .ret env H = K .ret env H := rfl
theorem kLoop_exit (i : Nat) : kLoop p c K (.exit i) env H = K (.exit i) env H := rfl
theorem WC_unroll (h : WC p c env H (kLoop p c K)) : WC p (.loop c) env H K := by
  obtain ⟨m, k, e, env1, H1, h1, h2⟩ := h
  cases e with
  | normal =>
    obtain ⟨m2, k2, e2, eF, HF, h4, h5⟩ := h2
    refine ⟨max m m2, max k k2 + 1, e2, eF, HF, ?_, h5⟩
    simp only [aCode]
    rw [aCode_mono (call_le (Nat.le_max_left m m2)) k (max k k2) c env H (Nat.le_max_left _ _) h1]
    exact aCode_mono (call_le (Nat.le_max_right m m2)) k2 (max k k2) (.loop c) env1 H1 (Nat.le_max_right _ _) h4
  | exit id => exact ⟨m, k + 1, _, _, _, by simp only [aCode, h1], h2⟩
  | ret => exact ⟨m, k + 1, _, _, _, by simp only [aCode, h1], h2⟩

def kInv (I : Nat → List AV → AHeap → Prop) (n : Nat) (K : KC) : KC := fun e env H => match e with
  | .normal => ∃ m, m < n ∧ I m env H
  | e => K e env H
theorem kInv_normal : kInv I n K .normal env H = ∃ m, m < n ∧ I m env H := rfl
theorem kInv_ret : kInv I n K .ret env H = K .ret env H := rfl
theorem kInv_exit (i : Nat) : kInv I n K (.exit i) env H = K (.exit i) env H := rfl
theorem WCL (I : Nat → List AV → AHeap → Prop) (hI : I n env H) (step : ∀ n env H, I n env H → WC p c env H (kInv I n K)) : WC p (.loop c) env H K := by
  refine WC_loop I (fun n env H h => (step n env H h).mono fun e env' H' hk => ?_) n env H hI
  cases e with
  | normal => exact ⟨fun _ => hk, fun h => absurd rfl h⟩
  | exit i => exact ⟨fun h => by simp at h, fun _ => hk⟩
  | ret => exact ⟨fun h => by simp at h, fun _ => hk⟩
end

theorem z_call_aft {p : Prg} {all : List AOper} {env vals env' : List AV} {H : AHeap} {K : KO} {r : List AOper} {dst : Option Nat} {f : Nat} {xs : List Opd} {j : Nat} {js : List Nat} {ys : List AV} (hy : avals env vals xs = some ys)
    (h : WF p f ys H (fun v H1 => (j :: js).all (sameAt all env vals H1) = true ∧ XO p all env r (snoc vals v) (put env' dst v) H1 K)) :
    XO p all env ({ op := .call f xs, dst := dst, aft := j :: js } :: r) vals env' H K := XO_call.2 ⟨ys, hy, h⟩

-- ---------------------------------------------------------------- values
theorem one_int (k : IntKind) (n : Int) : AV.one (.int k n) = true := rfl
theorem cl_int (k : IntKind) (n : Int) : AV.cells (.int k n) = [.int k n] := rfl
theorem jk_int (k : IntKind) (n : Int) : AV.isJunk (.int k n) = false := rfl
theorem st_int (k : IntKind) (n : Int) : AV.isStr (.int k n) = false := rfl
theorem one_bool (b : Bool) : AV.one (.bool b) = true := rfl
theorem cl_bool (b : Bool) : AV.cells (.bool b) = [.bool b] := rfl
theorem jk_bool (b : Bool) : AV.isJunk (.bool b) = false := rfl
theorem st_bool (b : Bool) : AV.isStr (.bool b) = false := rfl
theorem one_str (s : List UInt8) : AV.one (.str s) = true := rfl
theorem cl_str (s : List UInt8) : AV.cells (.str s) = [.str s] := rfl
theorem jk_str (s : List UInt8) : AV.isJunk (.str s) = false := rfl
theorem st_str (s : List UInt8) : AV.isStr (.str s) = true := rfl
theorem one_ptr (i o : Nat) : AV.one (.ptr i o) = true := rfl
theorem cl_ptr (i o : Nat) : AV.cells (.ptr i o) = [.ptr i o] := rfl
theorem jk_ptr (i o : Nat) : AV.isJunk (.ptr i o) = false := rfl
theorem st_ptr (i o : Nat) : AV.isStr (.ptr i o) = false := rfl
theorem one_nilptr  : AV.one (.nilptr) = true := rfl
theorem cl_nilptr  : AV.cells (.nilptr) = [.nilptr] := rfl
theorem jk_nilptr  : AV.isJunk (.nilptr) = false := rfl
theorem st_nilptr  : AV.isStr (.nilptr) = false := rfl
theorem one_sl (i o n : Nat) : AV.one (.sl i o n) = true := rfl
theorem cl_sl (i o n : Nat) : AV.cells (.sl i o n) = [.sl i o n] := rfl
theorem jk_sl (i o n : Nat) : AV.isJunk (.sl i o n) = false := rfl
theorem st_sl (i o n : Nat) : AV.isStr (.sl i o n) = false := rfl
theorem one_nilsl  : AV.one (.nilsl) = true := rfl
theorem cl_nilsl  : AV.cells (.nilsl) = [.nilsl] := rfl
theorem jk_nilsl  : AV.isJunk (.nilsl) = false := rfl
theorem st_nilsl  : AV.isStr (.nilsl) = false := rfl
theorem one_esl  : AV.one (.esl) = true := rfl
theorem cl_esl  : AV.cells (.esl) = [.esl] := rfl
theorem jk_esl  : AV.isJunk (.esl) = false := rfl
theorem st_esl  : AV.isStr (.esl) = false := rfl
theorem one_map (i : Nat) : AV.one (.map i) = true := rfl
theorem cl_map (i : Nat) : AV.cells (.map i) = [.map i] := rfl
theorem jk_map (i : Nat) : AV.isJunk (.map i) = false := rfl
theorem st_map (i : Nat) : AV.isStr (.map i) = false := rfl
theorem one_nilmap  : AV.one (.nilmap) = true := rfl
theorem cl_nilmap  : AV.cells (.nilmap) = [.nilmap] := rfl
theorem jk_nilmap  : AV.isJunk (.nilmap) = false := rfl
theorem st_nilmap  : AV.isStr (.nilmap) = false := rfl
theorem one_fn (f : Nat) (a c : List AV) : AV.one (.fn f a c) = true := rfl
theorem cl_fn (f : Nat) (a c : List AV) : AV.cells (.fn f a c) = [.fn f a c] := rfl
theorem jk_fn (f : Nat) (a c : List AV) : AV.isJunk (.fn f a c) = false := rfl
theorem st_fn (f : Nat) (a c : List AV) : AV.isStr (.fn f a c) = false := rfl
theorem one_nilfn  : AV.one (.nilfn) = true := rfl
theorem cl_nilfn  : AV.cells (.nilfn) = [.nilfn] := rfl
theorem jk_nilfn  : AV.isJunk (.nilfn) = false := rfl
theorem st_nilfn  : AV.isStr (.nilfn) = false := rfl
theorem one_iface (t : Nat) (v : AV) : AV.one (.iface t v) = true := rfl
theorem cl_iface (t : Nat) (v : AV) : AV.cells (.iface t v) = [.iface t v] := rfl
theorem jk_iface (t : Nat) (v : AV) : AV.isJunk (.iface t v) = false := rfl
theorem st_iface (t : Nat) (v : AV) : AV.isStr (.iface t v) = false := rfl
theorem one_nilif  : AV.one (.nilif) = true := rfl
theorem cl_nilif  : AV.cells (.nilif) = [.nilif] := rfl
theorem jk_nilif  : AV.isJunk (.nilif) = false := rfl
theorem st_nilif  : AV.isStr (.nilif) = false := rfl
theorem cl_agg (cs : List AV) : AV.cells (.agg cs) = cs := rfl
theorem jk_agg (cs : List AV) : AV.isJunk (.agg cs) = false := rfl
theorem st_agg (cs : List AV) : AV.isStr (.agg cs) = false := rfl
theorem jk_tup (cs : List AV) : AV.isJunk (.tup cs) = false := rfl
theorem RowAt.flat {H : AHeap} {sz n : Nat} {v : AV} {cells : List AV} (h : RowAt H sz v n cells) : v.one = true ∧ v.cells = [v] ∧ v.isJunk = false ∧ v.isStr = false := by
  rcases h.lenL with ⟨rfl, _⟩ | ⟨rfl, _⟩ | ⟨i, o, rfl⟩ <;> exact ⟨rfl, rfl, rfl, rfl⟩
theorem Rows.flat {α : Type} {sz : Nat} {P : AHeap → α → List AV → Prop} {H : AHeap} {v : AV} {xs : List α} (h : Rows sz P H v xs) : v.one = true ∧ v.cells = [v] ∧ v.isJunk = false ∧ v.isStr = false := by
  obtain ⟨_, h1, _⟩ := h; exact h1.flat
theorem eqn_0  : eqNil .ptr .nilptr .nilptr = some true := rfl
theorem eqn_1 (i o : Nat) : eqNil .ptr (.ptr i o) .nilptr = some false := rfl
theorem eqn_2 (i o : Nat) : eqNil .ptr .nilptr (.ptr i o) = some false := rfl
theorem eqn_3  : eqNil .slice .nilsl .nilsl = some true := rfl
theorem eqn_4 (i o n : Nat) : eqNil .slice (.sl i o n) .nilsl = some false := rfl
theorem eqn_5 (i o n : Nat) : eqNil .slice .nilsl (.sl i o n) = some false := rfl
theorem eqn_6  : eqNil .slice .esl .nilsl = some false := rfl
theorem eqn_7  : eqNil .slice .nilsl .esl = some false := rfl
theorem eqn_8  : eqNil .map .nilmap .nilmap = some true := rfl
theorem eqn_9 (i : Nat) : eqNil .map (.map i) .nilmap = some false := rfl
theorem eqn_10 (i : Nat) : eqNil .map .nilmap (.map i) = some false := rfl
theorem eqn_11  : eqNil .func .nilfn .nilfn = some true := rfl
theorem eqn_12 (f : Nat) (a c : List AV) : eqNil .func (.fn f a c) .nilfn = some false := rfl
theorem eqn_13 (f : Nat) (a c : List AV) : eqNil .func .nilfn (.fn f a c) = some false := rfl
theorem rows_0 (z : List AV) : rows 0 z = [] := rfl
theorem rows_1 (z : List AV) : rows 1 z = z := by simp [rows]
theorem rows_2 (z : List AV) : rows 2 z = z ++ z := by simp [rows, List.replicate]
theorem rows_3 (z : List AV) : rows 3 z = z ++ (z ++ z) := by simp [rows, List.replicate]
theorem rows_4 (z : List AV) : rows 4 z = z ++ (z ++ (z ++ z)) := by simp [rows, List.replicate]

-- ---------------------------------------------------------------- own slices
/-- n elements of sz cells each, in a block from b on, that may be written. -/
def WR (H : AHeap) (b sz : Nat) (v : AV) (n : Nat) (cells : List AV) : Prop :=
  ((v = .nilsl ∨ v = .esl) ∧ n = 0 ∧ cells = []) ∨
  ∃ i o cs, v = .sl i o n ∧ b ≤ i ∧ getB H i = some (.cells sz true cs) ∧ o + n * sz ≤ cs.length ∧ (cs.drop o).take (n * sz) = cells

section
variable {H H' : AHeap} {b sz n : Nat} {v : AV} {cells : List AV}
theorem WR.nil : WR H b sz .nilsl 0 [] := .inl ⟨.inl rfl, rfl, rfl⟩
theorem WR.row (h : WR H b sz v n cells) : RowAt H sz v n cells := by
  rcases h with h | ⟨i, o, cs, rfl, _, h3, h4, h5⟩
  · exact .inl h
  · exact .inr ⟨i, o, true, cs, rfl, h3, h4, h5⟩
theorem WR.len (h : WR H b sz v n cells) : cells.length = n * sz := h.row.len
theorem WR.lenOf (h : WR H b sz v n cells) : lenOf v = some (.int .i64 n) := h.row.lenOf
theorem WR.keep (h : WR H b sz v n cells) (hE : ∀ i q, avId v = some i → getB H i = some q → getB H' i = some q) : WR H' b sz v n cells := by
  rcases h with h | ⟨i, o, cs, rfl, h2, h3, h4, h5⟩
  · exact .inl h
  · exact .inr ⟨i, o, cs, rfl, h2, hE i _ rfl h3, h4, h5⟩
theorem WR.keeps (hk : Keeps H H') (h : WR H b sz v n cells) : WR H' b sz v n cells := h.keep (fun i q _ hq => hk.2 i q hq)
theorem WR.weak {b' : Nat} (hb : b' ≤ b) (h : WR H b sz v n cells) : WR H b' sz v n cells := by
  rcases h with h | ⟨i, o, cs, rfl, h2, h3, h4, h5⟩
  · exact .inl h
  · exact .inr ⟨i, o, cs, rfl, by omega, h3, h4, h5⟩
theorem WR.id (h : WR H b sz v n cells) {i : Nat} (hi : avId v = some i) : b ≤ i ∧ i < H.length := by
  rcases h with ⟨rfl | rfl, _⟩ | ⟨j, o, cs, rfl, h2, h3, _⟩
  · simp [avId] at hi
  · simp [avId] at hi
  · simp [avId] at hi; subst hi; exact ⟨h2, gb_lt h3⟩

theorem WR.new (H : AHeap) (sz n : Nat) (cs : List AV) (h : cs.length = n * sz) {b : Nat} (hb : b ≤ H.length) : WR (H ++ [some (.cells sz true cs)]) b sz (.sl H.length 0 n) n cs :=
  .inr ⟨H.length, 0, cs, rfl, hb, gb_new _ _, by omega, by rw [List.drop_zero, List.take_of_length_le (by omega)]⟩

/-- What a step leaves: all blocks but x. -/
theorem Else.keeps {H0 : AHeap} {x : Option Nat} (hk : Keeps H0 H) (he : Else H H' x) (hx : ∀ i, x = some i → H0.length ≤ i) : Keeps H0 H' :=
  ⟨Nat.le_trans hk.1 he.1, fun i q hq => he.2 i q (fun e => by have := hx i e; have := gb_lt hq; omega) (hk.2 i q hq)⟩

theorem WR.append {bytes k : Nat} {x : AV} {xs : List AV} (hO : WR H b sz v n cells) (hb : b ≤ H.length) (hx : cellsOfSrc H sz x = some (k, xs)) (hxl : xs.length = k * sz)
    (hone : xs.all AV.one = true) (hfit : (n + k) * bytes ≤ maxRoom) :
    ∃ v' H', appendA H sz bytes v x = some (v', H') ∧ WR H' b sz v' (n + k) (cells ++ xs) ∧ Else H H' (avId v) ∧ (∀ i, avId v' = some i → avId v = some i ∨ H.length ≤ i) := by
  rcases hO with ⟨hv, rfl, rfl⟩ | ⟨i, o, cs, rfl, h2, h3, h4, h5⟩
  · by_cases hk : k = 0
    · subst hk
      have : xs = [] := List.length_eq_zero_iff.1 (by simpa using hxl)
      subst this
      exact ⟨v, H, by rcases hv with rfl | rfl <;> simp [appendA, hx], .inl ⟨hv, rfl, rfl⟩, ⟨Nat.le_refl _, fun _ _ _ h => h⟩, by rcases hv with rfl | rfl <;> simp [avId]⟩
    · refine ⟨.sl H.length 0 k, H ++ [some (.cells sz true xs)], ?_, ?_, ⟨by simp, fun i q _ h => by rw [gb_old _ (gb_lt h)]; exact h⟩, fun i hi => .inr (by simp [avId] at hi; omega)⟩
      · simp only [Nat.zero_add] at hfit
        rcases hv with rfl | rfl <;> simp [appendA, hx, hk, hfit]
      · rw [Nat.zero_add, List.nil_append]; exact WR.new H sz k xs hxl hb
  · by_cases hk : k = 0
    · subst hk
      have : xs = [] := List.length_eq_zero_iff.1 (by simpa using hxl)
      subst this
      exact ⟨.sl i o n, H, by simp [appendA, hx], .inr ⟨i, o, cs, rfl, h2, h3, h4, by simpa using h5⟩, ⟨Nat.le_refl _, fun _ _ _ h => h⟩, by simp [avId]⟩
    · have hi := gb_lt h3
      have hcl : cells.length = n * sz := by rw [← h5, List.length_take, List.length_drop]; omega
      refine ⟨.sl H.length 0 (n + k), H.set i none ++ [some (.cells sz true (cells ++ xs))], ?_, ?_, ⟨by simp, fun j q hj h => ?_⟩, fun i hi => .inr (by simp [avId] at hi; omega)⟩
      · simp only [appendA, hx, hk, if_false, h3]
        rw [if_pos ⟨trivial, h4, hfit, hone⟩, h5]
      · have := WR.new (H.set i none) sz (n + k) (cells ++ xs) (by rw [List.length_append, hcl, hxl, Nat.add_mul]) (b := b) (by rw [List.length_set]; exact hb)
        rwa [List.length_set] at this
      · have hj' : i ≠ j := fun e => hj (by simp [avId, e])
        rw [gb_old _ (by rw [List.length_set]; exact gb_lt h), gb_set_ne _ hj']; exact h

end

section
variable {H H' : AHeap} {b sz n : Nat} {v : AV} {cells : List AV}

theorem RowAt.szOk (h : RowAt H sz v n cells) : szOk H sz v = true := by
  rcases h with ⟨rfl | rfl, _⟩ | ⟨i, o, rw, cs, rfl, h2, _⟩ <;> simp [szOk, *]

theorem sliceA_lo {l : Nat} (h : RowAt H sz v n cells) (hl : l ≤ n) : ∃ v', sliceA sz v (some (.int .i64 l)) none none = some v' ∧ RowAt H sz v' (n - l) (cells.drop (l * sz)) ∧ (avId v' = avId v) := by
  rcases h with ⟨hv, rfl, rfl⟩ | ⟨i, o, rw, cs, rfl, h2, h3, rfl⟩
  · have : l = 0 := by omega
    subst this
    refine ⟨v, ?_, .inl ⟨hv, rfl, by simp⟩, rfl⟩
    rcases hv with rfl | rfl <;> simp [sliceA, slLen, bound]
  · refine ⟨.sl i (o + l * sz) (n - l), ?_, .inr ⟨i, o + l * sz, rw, cs, rfl, h2, ?_, ?_⟩, rfl⟩
    · simp [sliceA, slLen, bound, hl]
    · have : (n - l) * sz + l * sz = n * sz := by rw [← Nat.add_mul]; congr 1; omega
      omega
    · have : (n - l) * sz + l * sz = n * sz := by rw [← Nat.add_mul]; congr 1; omega
      rw [List.drop_take, List.drop_drop]
      congr 1; omega
theorem sliceA_hi {l : Nat} (h : RowAt H sz v n cells) (hl : l ≤ n) : ∃ v', sliceA sz v none (some (.int .i64 l)) none = some v' ∧ RowAt H sz v' l (cells.take (l * sz)) ∧ (avId v' = avId v) := by
  rcases h with ⟨hv, rfl, rfl⟩ | ⟨i, o, rw, cs, rfl, h2, h3, rfl⟩
  · have : l = 0 := by omega
    subst this
    refine ⟨v, ?_, .inl ⟨hv, rfl, by simp⟩, rfl⟩
    rcases hv with rfl | rfl <;> simp [sliceA, slLen, bound]
  · have hm : l * sz ≤ n * sz := Nat.mul_le_mul_right sz hl
    refine ⟨.sl i o l, ?_, .inr ⟨i, o, rw, cs, rfl, h2, by omega, ?_⟩, rfl⟩
    · simp [sliceA, slLen, bound, hl]
    · rw [List.take_take, Nat.min_eq_left hm]

theorem WR.sliceLo {l : Nat} (h : WR H b sz v n cells) (hl : l ≤ n) : ∃ v', sliceA sz v (some (.int .i64 l)) none none = some v' ∧ WR H b sz v' (n - l) (cells.drop (l * sz)) ∧ (avId v' = avId v) := by
  rcases h with ⟨hv, rfl, rfl⟩ | ⟨i, o, cs, rfl, hb, h2, h3, rfl⟩
  · have : l = 0 := by omega
    subst this
    refine ⟨v, ?_, .inl ⟨hv, rfl, by simp⟩, rfl⟩
    rcases hv with rfl | rfl <;> simp [sliceA, slLen, bound]
  · refine ⟨.sl i (o + l * sz) (n - l), ?_, .inr ⟨i, o + l * sz, cs, rfl, hb, h2, ?_, ?_⟩, rfl⟩
    · simp [sliceA, slLen, bound, hl]
    · have : (n - l) * sz + l * sz = n * sz := by rw [← Nat.add_mul]; congr 1; omega
      omega
    · have : (n - l) * sz + l * sz = n * sz := by rw [← Nat.add_mul]; congr 1; omega
      rw [List.drop_take, List.drop_drop]
      congr 1; omega
theorem WR.sliceHi {l : Nat} (h : WR H b sz v n cells) (hl : l ≤ n) : ∃ v', sliceA sz v none (some (.int .i64 l)) none = some v' ∧ WR H b sz v' l (cells.take (l * sz)) ∧ (avId v' = avId v) := by
  rcases h with ⟨hv, rfl, rfl⟩ | ⟨i, o, cs, rfl, hb, h2, h3, rfl⟩
  · have : l = 0 := by omega
    subst this
    refine ⟨v, ?_, .inl ⟨hv, rfl, by simp⟩, rfl⟩
    rcases hv with rfl | rfl <;> simp [sliceA, slLen, bound]
  · have hm : l * sz ≤ n * sz := Nat.mul_le_mul_right sz hl
    refine ⟨.sl i o l, ?_, .inr ⟨i, o, cs, rfl, hb, h2, by omega, ?_⟩, rfl⟩
    · simp [sliceA, slLen, bound, hl]
    · rw [List.take_take, Nat.min_eq_left hm]

theorem splice_len (cs : List AV) (o : Nat) (vs : List AV) (h : o + vs.length ≤ cs.length) : (splice cs o vs).length = cs.length := by
  simp only [splice, List.length_append, List.length_take, List.length_drop]
  rw [Nat.min_eq_left (by omega)]; omega
theorem splice_get (cs : List AV) (o : Nat) (vs : List AV) (h : o + vs.length ≤ cs.length) (j : Nat) : (splice cs o vs)[j]? = if j < o then cs[j]? else if j < o + vs.length then vs[j - o]? else cs[j]? := by
  have hl : (cs.take o).length = o := by rw [List.length_take]; exact Nat.min_eq_left (by omega)
  simp only [splice]
  split
  · rename_i h1
    rw [List.append_assoc, List.getElem?_append_left (by omega), List.getElem?_take_of_lt h1]
  · rename_i h1
    rw [List.append_assoc, List.getElem?_append_right (by omega), hl]
    split
    · rw [List.getElem?_append_left (by omega)]
    · rw [List.getElem?_append_right (by omega), List.getElem?_drop]; congr 1; omega
theorem splice_ints (xs : List Int) (k : Nat) (x : Int) (h : k < xs.length) : splice (xs.map (AV.int .i64)) k [.int .i64 x] = (xs.set k x).map (AV.int .i64) := by
  apply List.ext_getElem?
  intro j
  rw [splice_get _ _ _ (by simp; omega), List.getElem?_map, List.getElem?_map, List.getElem?_set]
  rcases Nat.lt_trichotomy j k with h1 | h1 | h1
  · rw [if_pos h1, if_neg (by omega)]
  · subst h1; simp [h]
  · rw [if_neg (by omega), if_neg (by simp; omega), if_neg (by omega)]

/-- A cell is written. -/
theorem WR.store {k : Nat} (h : WR H b sz v n cells) {vs : List AV} (hk : k + vs.length ≤ n * sz) (hn : 0 < n) (hone : vs.all AV.one = true) :
    ∃ i o, v = .sl i o n ∧ ∃ H', storeA H i (o + k) vs = some H' ∧ WR H' b sz v n (splice cells k vs) ∧ Else H H' (some i) ∧ H'.length = H.length := by
  rcases h with ⟨_, rfl, _⟩ | ⟨i, o, cs, rfl, hb, h2, h3, rfl⟩
  · omega
  · refine ⟨i, o, rfl, H.set i (some (.cells sz true (splice cs (o + k) vs))), ?_, .inr ⟨i, o, splice cs (o + k) vs, rfl, hb, gb_set _ (gb_lt h2), ?_, ?_⟩, ⟨by simp, fun j q hj hq => ?_⟩, by simp⟩
    · rw [store_of h2, if_pos (by omega), if_pos hone]
    · rw [splice_len _ _ _ (by omega)]; exact h3
    · apply List.ext_getElem?
      intro j
      have hA : ((cs.drop o).take (n * sz)).length = n * sz := by rw [List.length_take, List.length_drop]; omega
      rw [splice_get _ _ _ (by omega)]
      rcases Nat.lt_or_ge j (n * sz) with hj | hj
      · rw [List.getElem?_take_of_lt hj, List.getElem?_drop, splice_get _ _ _ (by omega), List.getElem?_take_of_lt hj, List.getElem?_drop]
        rcases Nat.lt_or_ge j k with h4 | h4
        · rw [if_pos (by omega), if_pos h4]
        · rcases Nat.lt_or_ge j (k + vs.length) with h5 | h5
          · rw [if_neg (show ¬ o + j < o + k by omega), if_pos (show o + j < o + k + vs.length by omega), if_neg (show ¬ j < k by omega), if_pos h5]; congr 1; omega
          · rw [if_neg (show ¬ o + j < o + k by omega), if_neg (show ¬ o + j < o + k + vs.length by omega), if_neg (show ¬ j < k by omega), if_neg (show ¬ j < k + vs.length by omega)]
      · rw [List.getElem?_eq_none (by rw [List.length_take]; omega), if_neg (by omega), if_neg (by omega), List.getElem?_eq_none (by rw [hA]; exact hj)]
    · exact (gb_set_ne _ (fun e => hj (by rw [e]))).trans hq
end

theorem one_ints (xs : List Int) : (xs.map (AV.int .i64)).all AV.one = true := by
  induction xs with
  | nil => rfl
  | cons a l ih => simp [AV.one]

theorem RowAt.id {H : AHeap} {sz n : Nat} {v : AV} {cells : List AV} (h : RowAt H sz v n cells) {i : Nat} (hi : avId v = some i) : ∃ rw cs, getB H i = some (.cells sz rw cs) := by
  rcases h with ⟨rfl | rfl, _⟩ | ⟨j, o, rw, cs, rfl, h2, _⟩
  · simp [avId] at hi
  · simp [avId] at hi
  · simp [avId] at hi; subst hi; exact ⟨rw, cs, h2⟩
theorem ints_else {H H' : AHeap} {v : AV} {xs : List Int} (h : Ints H v xs) (hk : ∀ i b, avId v = some i → getB H i = some b → getB H' i = some b) : Ints H' v xs := ints_of (h.ints.keep hk)
theorem rows_by {α : Type} {sz : Nat} {P : AHeap → α → List AV → Prop} {H H' : AHeap} {v : AV} {xs : List α} (hP : ∀ x r, P H x r → P H' x r) (hb : ∀ i b, avId v = some i → getB H i = some b → getB H' i = some b)
    (h : Rows sz P H v xs) : Rows sz P H' v xs := by
  obtain ⟨rs, h1, h2, h3⟩ := h
  exact ⟨rs, h1.keep hb, h2, fun k x hx => by obtain ⟨r, a, b, c⟩ := h3 k x hx; exact ⟨r, a, b, hP _ _ c⟩⟩
theorem ints_sz {H H' : AHeap} (hk : ∀ i rw cs, getB H i = some (.cells 1 rw cs) → getB H' i = some (.cells 1 rw cs)) {v : AV} {xs : List Int} (h : Ints H v xs) : Ints H' v xs :=
  ints_else h (fun i b hi hb => by
    obtain ⟨rw, cs, hc⟩ := RowAt.id h.ints hi
    rw [hc] at hb; simp only [Option.some.injEq] at hb; subst hb
    exact hk i rw cs hc)
theorem nds_sz {H H' : AHeap} (hk : ∀ i rw cs, getB H i = some (.cells 1 rw cs) → getB H' i = some (.cells 1 rw cs)) (h9 : ∀ i rw cs, getB H i = some (.cells 9 rw cs) → getB H' i = some (.cells 9 rw cs)) {v : AV} {l : List Nd} (h : Nds H v l) : Nds H' v l := by
  refine rows_by (fun x r hr => ⟨hr.1, by obtain ⟨kv, a, b⟩ := hr.2; exact ⟨kv, a, ints_sz hk b⟩⟩) (fun i b hi hb => ?_) h
  obtain ⟨rs, h1, _⟩ := h
  obtain ⟨rw, cs, hc⟩ := RowAt.id h1 hi
  rw [hc] at hb; simp only [Option.some.injEq] at hb; subst hb
  exact h9 i rw cs hc


end Go.Am
