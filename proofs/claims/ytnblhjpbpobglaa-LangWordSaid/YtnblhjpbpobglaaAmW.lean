/- Arguments: what a reading of the machine's memory gives is an abstract heap that is only read. -/
import Derived.Test.YtnblhjpbpobglaaAmV
import GoSem.ClaimChange
namespace Go.Am

/-- The shape of a type. -/
inductive Shp where
  | bool | int (k : IntKind) | str
  | slice (sz : Nat) (e : Shp)
  | struct (fs : List (Nat × Shp))
  | array (n sz : Nat) (e : Shp)
  deriving Inhabited

mutual
def shapeOf (P : Program) : Nat → TypeId → Option Shp
  | 0, _ => none
  | m + 1, t => match P.underlying t with
    | some .bool => some .bool
    | some (.int k) => some (.int k)
    | some .string => some .str
    | some (.slice e) => match shapeOf P m e, sizeP P e with
      | some s, some n => some (.slice n s)
      | _, _ => none
    | some (.struct fs) => match shapesOf P m fs.toList 0 with
      | some (l, n) => if n = P.cellsOf t then some (.struct l) else none
      | none => none
    | some (.array n e) => match shapeOf P m e, sizeP P e with
      | some s, some k => if n * k = P.cellsOf t then some (.array n k s) else none
      | _, _ => none
    | _ => none
def shapesOf (P : Program) : Nat → List Field → Nat → Option (List (Nat × Shp) × Nat)
  | _, [], o => some ([], o)
  | 0, _ :: _, _ => none
  | m + 1, f :: r, o => match shapeOf P m f.type, shapesOf P m r (o + P.cellsOf f.type) with
    | some s, some (l, n) => if f.offset = o then some ((P.cellsOf f.type, s) :: l, n) else none
    | _, _ => none
end

mutual
def Fits (H : AHeap) : Shp → List AV → Prop
  | .bool, cs => ∃ b, cs = [.bool b]
  | .int k, cs => ∃ n, cs = [.int k n] ∧ k.min ≤ n ∧ n ≤ k.max
  | .str, cs => ∃ s, cs = [.str s] ∧ s.length ≤ maxLen
  | .slice sz e, cs => cs = [.nilsl] ∨ cs = [.esl] ∨ ∃ i n bs, cs = [.sl i 0 n] ∧ getB H i = some (.cells sz false bs) ∧ bs.length = n * sz ∧ n ≤ maxLen ∧
      ∀ j, j < n → Fits H e ((bs.drop (j * sz)).take sz)
  | .struct fs, cs => FitsAll H fs cs
  | .array n sz e, cs => cs.length = n * sz ∧ ∀ j, j < n → Fits H e ((cs.drop (j * sz)).take sz)
def FitsAll (H : AHeap) : List (Nat × Shp) → List AV → Prop
  | [], cs => cs = []
  | (n, s) :: r, cs => (cs.take n).length = n ∧ Fits H s (cs.take n) ∧ FitsAll H r (cs.drop n)
end

theorem getB_more {H M : AHeap} {i : Nat} {b : Blk} (h : getB H i = some b) : getB (H ++ M) i = some b := by
  have hl := getB_lt h
  unfold getB at *
  rw [List.getElem?_append_left hl]; exact h

mutual
theorem Fits.more {H : AHeap} (M : AHeap) : ∀ (s : Shp) {cs : List AV}, Fits H s cs → Fits (H ++ M) s cs
  | .bool, cs, h => by simpa only [Fits] using h
  | .int k, cs, h => by simpa only [Fits] using h
  | .str, cs, h => by simpa only [Fits] using h
  | .slice sz e, cs, h => by
    simp only [Fits] at h ⊢
    rcases h with h | h | ⟨i, n, bs, h1, h2, h3, h4, h5⟩
    · exact .inl h
    · exact .inr (.inl h)
    · exact .inr (.inr ⟨i, n, bs, h1, getB_more h2, h3, h4, fun j hj => Fits.more M e (h5 j hj)⟩)
  | .struct fs, cs, h => by
    simp only [Fits] at h ⊢; exact FitsAll.more M fs h
  | .array n sz e, cs, h => by
    simp only [Fits] at h ⊢
    exact ⟨h.1, fun j hj => Fits.more M e (h.2 j hj)⟩
theorem FitsAll.more {H : AHeap} (M : AHeap) : ∀ (fs : List (Nat × Shp)) {cs : List AV}, FitsAll H fs cs → FitsAll (H ++ M) fs cs
  | [], cs, h => by simpa only [FitsAll] using h
  | (n, s) :: r, cs, h => by
    simp only [FitsAll] at h ⊢
    exact ⟨h.1, Fits.more M s h.2.1, FitsAll.more M r h.2.2⟩
end

/-- An abstract heap that is only read. -/
structure Ro (Φ : Phi) (H : AHeap) (w : World) : Prop where
  sim : Sim Φ (getB H) w
  dom : ∀ i l, Φ i = some l → i < H.length
  ro : ∀ i l, Φ i = some l → l.rw = false

theorem Ro.empty (w : World) : Ro (fun _ => none) [] w :=
  ⟨⟨fun i b h => by have := getB_lt h; simp at this, fun i j bi bj li lj _ h => by have := getB_lt h; simp at this⟩, by simp, by simp⟩

theorem Ro.push {Φ : Phi} {H : AHeap} {w : World} (h : Ro Φ H w) {l : Loc} (hr : l.rw = false) {blk : Blk} (hok : BlkOk (upd Φ H.length (some l)) w l blk) :
    Ro (upd Φ H.length (some l)) (H ++ [some blk]) w ∧ ∀ i q, Φ i = some q → upd Φ H.length (some l) i = some q := by
  have mono : ∀ i q, Φ i = some q → upd Φ H.length (some l) i = some q := by
    intro i q hq
    have := h.dom i q hq
    rw [upd_other (by omega)]; exact hq
  have ro' : ∀ i q, upd Φ H.length (some l) i = some q → q.rw = false := by
    intro i q hq
    by_cases e : i = H.length
    · subst e; rw [upd_self] at hq; simp only [Option.some.injEq] at hq; subst hq; exact hr
    · rw [upd_other e] at hq; exact h.ro i q hq
  refine ⟨⟨⟨fun i b hi => ?_, fun i j bi bj li lj _ _ _ hli _ hrw => ?_⟩, fun i q hq => ?_, ro'⟩, mono⟩
  · rw [getB_append] at hi
    by_cases e : i = H.length
    · subst e; rw [upd_self] at hi ⊢; simp only [Option.some.injEq] at hi; subst hi; exact ⟨l, rfl, hok⟩
    · rw [upd_other e] at hi
      obtain ⟨q, hq, hok'⟩ := h.sim.ok i b hi
      exact ⟨q, mono _ _ hq, hok'.keep mono (Nat.le_refl _) rfl⟩
  · rw [ro' i li hli] at hrw; simp at hrw
  · by_cases e : i = H.length
    · subst e; simp
    · rw [upd_other e] at hq
      have := h.dom i q hq
      simp; omega

section
variable {HH : Type} {enc : TypeId × Value → HH} {P : Program} {w : World} {held : Bool}

/-- What a reading of cells gives. -/
def Reads (w : World) (s : Shp) (cs : List Value) : Prop :=
  ∀ Φ H, Ro Φ H w → ∃ Φ' M avs, Ro Φ' (H ++ M) w ∧ (∀ i q, Φ i = some q → Φ' i = some q) ∧ Rs Φ' avs cs ∧ Fits (H ++ M) s avs

theorem mapM_cells {f : Nat → Option Value} : ∀ {l : List Nat} {vs : List Value}, l.mapM f = some vs → vs.length = l.length ∧ ∀ (k n : Nat), l[k]? = some n → ∃ v, vs[k]? = some v ∧ f n = some v
  | [], vs, h => by simp at h; subst h; simp
  | a :: r, vs, h => by
    simp only [List.mapM_cons, Option.bind_eq_bind, Option.bind_eq_some_iff] at h
    obtain ⟨v, hv, us, hus, h⟩ := h
    simp at h; subst h
    obtain ⟨h1, h2⟩ := mapM_cells hus
    refine ⟨by simp [h1], fun k n hk => ?_⟩
    cases k with
    | zero => simp at hk; subst hk; exact ⟨v, rfl, hv⟩
    | succ k => simpa using h2 k n (by simpa using hk)

theorem mapM_any {α β : Type} {f : α → Option β} : ∀ {l : List α} {vs : List β}, l.mapM f = some vs → ∀ (k : Nat) (n : α), l[k]? = some n → ∃ v, f n = some v
  | [], vs, h => by simp
  | a :: r, vs, h => by
    simp only [List.mapM_cons, Option.bind_eq_bind, Option.bind_eq_some_iff] at h
    obtain ⟨v, hv, us, hus, h⟩ := h
    intro k n hk
    cases k with
    | zero => simp at hk; subst hk; exact ⟨v, hv⟩
    | succ k => exact mapM_any hus k n (by simpa using hk)

/-- Rows of elements, one behind the other. -/
theorem reads_rows {s : Shp} {sz : Nat} : ∀ (n : Nat) (rows : Nat → List Value), (∀ j, j < n → (rows j).length = sz ∧ Reads w s (rows j)) →
    ∀ Φ H, Ro Φ H w → ∃ Φ' M avs, Ro Φ' (H ++ M) w ∧ (∀ i q, Φ i = some q → Φ' i = some q) ∧ Rs Φ' avs (((List.range n).map rows).flatten) ∧ avs.length = n * sz ∧
      ∀ j, j < n → Fits (H ++ M) s ((avs.drop (j * sz)).take sz)
  | 0, rows, _, Φ, H, h => ⟨Φ, [], [], by simpa using h, fun _ _ h => h, by simp [Rs], by simp, fun j hj => by omega⟩
  | n + 1, rows, hr, Φ, H, h => by
    obtain ⟨Φ1, M1, a1, r1, m1, R1, l1, F1⟩ := reads_rows n rows (fun j hj => hr j (by omega)) Φ H h
    obtain ⟨Φ2, M2, a2, r2, m2, R2, F2⟩ := (hr n (by omega)).2 Φ1 (H ++ M1) r1
    have l2 : a2.length = sz := by rw [← R2.len]; exact (hr n (by omega)).1
    refine ⟨Φ2, M1 ++ M2, a1 ++ a2, by rw [← List.append_assoc]; exact r2, fun i q hq => m2 i q (m1 i q hq), ?_, ?_, fun j hj => ?_⟩
    · rw [List.range_succ, List.map_append, List.flatten_append]
      simpa using (Rs.mono m2 _ R1).append R2
    · rw [List.length_append, l1, l2, Nat.add_mul]; simp
    · rw [← List.append_assoc]
      by_cases e : j = n
      · subst e
        rw [List.drop_append_of_le_length (by omega), List.drop_of_length_le (by omega), List.nil_append, List.take_of_length_le (by omega)]
        exact F2
      · have hle : (j + 1) * sz ≤ n * sz := Nat.mul_le_mul_right sz (by omega)
        rw [Nat.add_mul, Nat.one_mul] at hle
        rw [List.drop_append_of_le_length (by omega), List.take_append_of_le_length (by simp; omega)]
        exact (F1 j (by omega)).more M2

theorem flat_get {sz : Nat} {rows : Nat → List Value} : ∀ (n : Nat), (∀ j, j < n → (rows j).length = sz) → ∀ (k : Nat) (v : Value), (((List.range n).map rows).flatten)[k]? = some v →
    ∃ j r, j < n ∧ r < sz ∧ k = j * sz + r ∧ (rows j)[r]? = some v
  | 0, _, k, v, h => by simp at h
  | n + 1, hr, k, v, h => by
    rw [List.range_succ, List.map_append, List.flatten_append] at h
    have hl : ∀ m, m ≤ n → (((List.range m).map rows).flatten).length = m * sz := by
      intro m
      induction m with
      | zero => simp
      | succ m ih =>
        intro hm
        rw [List.range_succ, List.map_append, List.flatten_append, List.length_append, ih (by omega), Nat.add_mul]
        simp [hr m (by omega)]
    rcases Nat.lt_or_ge k (n * sz) with hk | hk
    · rw [List.getElem?_append_left (by rw [hl n (Nat.le_refl _)]; exact hk)] at h
      obtain ⟨j, r, h1, h2⟩ := flat_get n (fun j hj => hr j (by omega)) k v h
      exact ⟨j, r, by omega, h2⟩
    · rw [List.getElem?_append_right (by rw [hl n (Nat.le_refl _)]; exact hk), hl n (Nat.le_refl _)] at h
      simp only [List.map_cons, List.map_nil, List.flatten_cons, List.flatten_nil, List.append_nil] at h
      have hrn := hr n (by omega)
      have hlt : k - n * sz < sz := by
        rcases Nat.lt_or_ge (k - n * sz) (rows n).length with h' | h'
        · omega
        · rw [List.getElem?_eq_none h'] at h; simp at h
      exact ⟨n, k - n * sz, by omega, hlt, by omega, h⟩

theorem flat_all {sz : Nat} : ∀ (n : Nat) (cs : List Value), cs.length = n * sz → ((List.range n).map fun j => (cs.drop (j * sz)).take sz).flatten = cs
  | 0, cs, h => by
    have : cs = [] := List.length_eq_zero_iff.1 (by simpa using h)
    simp [this]
  | n + 1, cs, h => by
    rw [Nat.add_mul, Nat.one_mul] at h
    rw [List.range_succ, List.map_append, List.flatten_append]
    have := flat_all (sz := sz) n (cs.take (n * sz)) (by rw [List.length_take, Nat.min_eq_left (by omega)])
    have e : ((List.range n).map fun j => (cs.drop (j * sz)).take sz) = ((List.range n).map fun j => ((cs.take (n * sz)).drop (j * sz)).take sz) := by
      apply List.map_congr_left
      intro j hj
      have hj' := List.mem_range.1 hj
      have hle : (j + 1) * sz ≤ n * sz := Nat.mul_le_mul_right sz (by omega)
      rw [Nat.add_mul, Nat.one_mul] at hle
      rw [List.drop_take, List.take_take, Nat.min_eq_left (by omega)]
    rw [e, this]
    simp only [List.map_cons, List.map_nil, List.flatten_cons, List.flatten_nil, List.append_nil]
    rw [List.take_of_length_le (l := cs.drop (n * sz)) (by simp; omega)]
    exact List.take_append_drop _ _

theorem shapesOf_le : ∀ (m : Nat) (fs : List Field) (o : Nat) {l : List (Nat × Shp)} {n : Nat}, shapesOf P m fs o = some (l, n) → o ≤ n
  | m, [], o, l, n, h => by cases m <;> (simp only [shapesOf, Option.some.injEq, Prod.mk.injEq] at h; omega)
  | 0, _ :: _, o, l, n, h => by simp [shapesOf] at h
  | m + 1, f :: r, o, l, n, h => by
    simp only [shapesOf] at h
    split at h
    · rename_i s l' n' hs hr
      split at h <;> simp only [Option.some.injEq, Prod.mk.injEq, reduceCtorEq] at h
      have := shapesOf_le m r _ hr
      omega
    · simp at h

theorem trod_fields {fuel : Nat} (IH : ∀ m t s cs d ps, shapeOf P m t = some s → DataW.trod enc P w 0 (fun _ => true) held fuel t cs = some (d, ps) → Reads w s cs) (cs0 : List Value) :
    ∀ (fs : List Field) (m o : Nat) {l : List (Nat × Shp)} {n : Nat} {xs : List (DataW HH × List MemPlace)}, shapesOf P m fs o = some (l, n) →
      fs.mapM (fun f => DataW.trod enc P w 0 (fun _ => true) held fuel f.type ((cs0.drop f.offset).take (P.cellsOf f.type))) = some xs → n ≤ cs0.length →
      ∀ Φ H, Ro Φ H w → ∃ Φ' M avs, Ro Φ' (H ++ M) w ∧ (∀ i q, Φ i = some q → Φ' i = some q) ∧ Rs Φ' avs ((cs0.drop o).take (n - o)) ∧ FitsAll (H ++ M) l avs
  | [], m, o, l, n, xs, h, _, _, Φ, H, hro => by
    cases m <;>
    · simp only [shapesOf, Option.some.injEq, Prod.mk.injEq] at h
      obtain ⟨rfl, rfl⟩ := h
      exact ⟨Φ, [], [], by simpa using hro, fun _ _ h => h, by simp [Rs], by simp [FitsAll]⟩
  | f :: r, 0, o, l, n, xs, h, _, _, Φ, H, hro => by simp [shapesOf] at h
  | f :: r, m + 1, o, l, n, xs, h, hx, hn, Φ, H, hro => by
    simp only [shapesOf] at h
    split at h
    · rename_i s l' n' hs hr
      split at h <;> simp only [Option.some.injEq, Prod.mk.injEq, reduceCtorEq] at h
      rename_i hof
      obtain ⟨rfl, rfl⟩ := h
      have hle := shapesOf_le m r _ hr
      simp only [List.mapM_cons, Option.bind_eq_bind, Option.bind_eq_some_iff] at hx
      obtain ⟨⟨d, ps⟩, hv, us, hus, _⟩ := hx
      rw [hof] at hv
      obtain ⟨Φ1, M1, a1, r1, m1, R1, F1⟩ := IH m f.type s _ d ps hs hv Φ H hro
      obtain ⟨Φ2, M2, a2, r2, m2, R2, F2⟩ := trod_fields IH cs0 r m (o + P.cellsOf f.type) hr hus hn Φ1 (H ++ M1) r1
      have l1 : a1.length = P.cellsOf f.type := by
        rw [← R1.len]
        simp; omega
      refine ⟨Φ2, M1 ++ M2, a1 ++ a2, by rw [← List.append_assoc]; exact r2, fun i q hq => m2 i q (m1 i q hq), ?_, ?_⟩
      · have e : (cs0.drop o).take (n' - o) = (cs0.drop o).take (P.cellsOf f.type) ++ (cs0.drop (o + P.cellsOf f.type)).take (n' - (o + P.cellsOf f.type)) := by
          rw [show n' - o = P.cellsOf f.type + (n' - (o + P.cellsOf f.type)) by omega, List.take_add, List.drop_drop]
        rw [e]
        exact (Rs.mono m2 _ R1).append R2
      · simp only [FitsAll]
        rw [List.take_append_of_le_length (by omega), List.drop_append_of_le_length (by omega), List.take_of_length_le (by omega), List.drop_of_length_le (by omega), List.nil_append]
        refine ⟨l1, ?_, by rw [← List.append_assoc]; exact F2⟩
        rw [← List.append_assoc]
        exact F1.more M2
    · simp at h

theorem trod_reads : ∀ (fuel m : Nat) (t : TypeId) (s : Shp) (cs : List Value) (d : DataW HH) (ps : List MemPlace), shapeOf P m t = some s →
    DataW.trod enc P w 0 (fun _ => true) held fuel t cs = some (d, ps) → Reads w s cs := by
  intro fuel
  induction fuel with
  | zero => intro m t s cs d ps _ h; simp [DataW.trod] at h
  | succ fuel IH =>
    intro m t s cs d ps hs h
    cases m with
    | zero => simp [shapeOf] at hs
    | succ m =>
      simp only [shapeOf] at hs
      unfold DataW.trod at h
      cases hu : P.underlying t with
      | none => rw [hu] at hs; simp at hs
      | some td =>
        rw [hu] at hs h
        cases td with
        | bool =>
          simp only [Option.some.injEq] at hs; subst hs
          split at h <;> simp_all
          rename_i b
          intro Φ H hro
          exact ⟨Φ, [], [.bool b], by simpa using hro, fun _ _ h => h, .cons (by simp only [R]) .nil, by simp [Fits]⟩
        | int k =>
          simp only [Option.some.injEq] at hs; subst hs
          split at h
          all_goals try (simp_all; done)
          rename_i k' k2 n heq
          simp only [Option.some.injEq, TypeDesc.int.injEq] at heq
          subst heq
          split at h <;> simp only [Option.some.injEq, reduceCtorEq] at h
          rename_i hc
          obtain ⟨rfl, hwf⟩ := hc
          simp only [Lit.wf, Bool.and_eq_true, decide_eq_true_eq] at hwf
          intro Φ H hro
          exact ⟨Φ, [], [.int k2 n], by simpa using hro, fun _ _ h => h, .cons (by simp only [R]) .nil, by simp only [Fits]; exact ⟨n, rfl, hwf⟩⟩
        | string =>
          simp only [Option.some.injEq] at hs; subst hs
          split at h
          all_goals try (simp_all; done)
          rename_i b heq
          split at h <;> simp only [Option.some.injEq, reduceCtorEq] at h
          rename_i hc
          intro Φ H hro
          exact ⟨Φ, [], [.str b.data.toList], by simpa using hro, fun _ _ h => h, .cons (by simp only [R, Array.toArray_toList]) .nil, by simp only [Fits]; exact ⟨_, rfl, by simpa only [ByteArray.size, Array.length_toList] using hc⟩⟩
        | slice e =>
          simp only at hs
          split at hs <;> simp only [Option.some.injEq, reduceCtorEq] at hs
          rename_i se sz hse hsz
          subst hs
          obtain ⟨ie, hie, hsz1, hsz0⟩ := sizeP_info hsz
          have hco : P.cellsOf e = sz := by simp [Program.cellsOf, hie, hsz1]
          split at h
          all_goals try (simp_all; done)
          · -- nil
            intro Φ H hro
            exact ⟨Φ, [], [.nilsl], by simpa using hro, fun _ _ h => h, .cons (by simp only [R]) .nil, by simp [Fits]⟩
          · rename_i td' e' a len cap heq
            simp only [Option.some.injEq, TypeDesc.slice.injEq] at heq
            subst heq
            split at h
            · rename_i hc
              obtain ⟨_, hlc, hcm⟩ := hc
              simp only [Option.bind_eq_some_iff, Option.map_eq_some_iff] at h
              obtain ⟨elems, hel, rest, hrest, _⟩ := h
              by_cases hcap : cap = 0
              · have hlen : len = 0 := by omega
                subst hcap; subst hlen
                intro Φ H hro
                exact ⟨Φ, [], [.esl], by simpa using hro, fun _ _ h => h, .cons (by simp only [R]; exact ⟨a, rfl⟩) .nil, by simp [Fits]⟩
              · -- the first place
                have hfirst : ∃ x, (w.cells? 0 (a.add (0 * P.cellsOf e)) (P.cellsOf e)).bind (DataW.trod enc P w 0 (fun _ => true) held fuel e) = some x := by
                  by_cases hl : len = 0
                  · simp only [if_true] at hrest
                    obtain ⟨x, hx⟩ := mapM_any hrest 0 0 (List.getElem?_range (by omega))
                    rw [hl] at hx
                    exact ⟨x, hx⟩
                  · exact mapM_any hel 0 0 (List.getElem?_range (by omega))
                rw [hco] at hfirst hel
                obtain ⟨x0, hx0⟩ := hfirst
                simp only [Option.bind_eq_some_iff] at hx0
                obtain ⟨c0, hc0, _⟩ := hx0
                have hcells : ∀ (p : Addr) (vs : List Value), w.cells? 0 p sz = some vs → vs.length = sz ∧ ∀ r, r < sz → ∃ v, vs[r]? = some v ∧ w.cell? (p.add r) = some v := by
                  intro p vs hp
                  unfold World.cells? at hp
                  rw [if_pos (Nat.zero_le _)] at hp
                  obtain ⟨q1, q2⟩ := mapM_cells hp
                  exact ⟨by simpa using q1, fun r hr => q2 r r (by simp [hr])⟩
                obtain ⟨b0, off0, sp0⟩ := a
                obtain ⟨v0, _, hv0⟩ := (hcells _ c0 hc0).2 0 (by omega)
                have hsp : sp0 = none := by
                  simp only [Nat.zero_mul, Addr.add, if_true] at hv0
                  unfold World.cell? at hv0
                  split at hv0
                  · cases sp0 with
                    | none => rfl
                    | some y => simp at hv0
                  · simp at hv0
                subst hsp
                have hb0 : b0 < w.heap.size := by
                  rcases Nat.lt_or_ge b0 w.heap.size with h | h
                  · exact h
                  · simp only [Nat.zero_mul, Addr.add, if_true] at hv0
                    simp [World.cell?, Array.getElem?_eq_none h] at hv0
                let rows : Nat → List Value := fun j => (w.cells? 0 ((⟨b0, off0, none⟩ : Addr).add (j * sz)) sz).getD []
                have hrow : ∀ j, j < len → w.cells? 0 ((⟨b0, off0, none⟩ : Addr).add (j * sz)) sz = some (rows j) ∧ (rows j).length = sz ∧ Reads w se (rows j) := by
                  intro j hj
                  obtain ⟨⟨dj, pj⟩, hx⟩ := mapM_any hel j j (by simp [hj])
                  simp only [Option.bind_eq_some_iff] at hx
                  obtain ⟨cj, hcj, htj⟩ := hx
                  have e1 : rows j = cj := by simp only [rows, hcj, Option.getD_some]
                  rw [e1]
                  exact ⟨hcj, (hcells _ cj hcj).1, IH m e se cj dj pj hse htj⟩
                intro Φ H hro
                obtain ⟨Φ1, M1, a1, r1, m1, R1, l1, F1⟩ := reads_rows len rows (fun j hj => (hrow j hj).2) Φ H hro
                have hok : ∀ Φ', (∀ i q, Φ1 i = some q → Φ' i = some q) → BlkOk Φ' w ⟨b0, off0, 0, sz, false⟩ (.cells sz false a1) := by
                  intro Φ' hm
                  refine ⟨hb0, rfl, rfl, fun k c hk => ?_, fun h => by simp at h⟩
                  obtain ⟨v, hv, hRv⟩ := R1.get hk
                  obtain ⟨j, r, hj, hr, hkj, hrv⟩ := flat_get len (fun j hj => (hrow j hj).2.1) k v hv
                  obtain ⟨q1, q2, _⟩ := hrow j hj
                  obtain ⟨v', hv', hcell⟩ := (hcells _ _ q1).2 r hr
                  rw [hrv] at hv'; simp only [Option.some.injEq] at hv'; subst hv'
                  rw [add_flat, add_flat] at hcell
                  refine ⟨v, ?_, R.mono hm c hRv⟩
                  rw [hkj, ← Nat.add_assoc]; exact hcell
                have hpush := r1.push (l := ⟨b0, off0, 0, sz, false⟩) rfl (blk := .cells sz false a1) (hok _ (fun i q hq => by
                  have := r1.dom i q hq
                  rw [upd_other (by omega)]; exact hq))
                refine ⟨_, M1 ++ [some (.cells sz false a1)], [.sl (H ++ M1).length 0 len], by rw [← List.append_assoc]; exact hpush.1, fun i q hq => hpush.2 i q (m1 i q hq), .cons ?_ .nil, ?_⟩
                · simp only [R]
                  exact ⟨_, _, _, upd_self _ _ _, rfl, hlc, .inr ⟨rfl, fun h => by simp at h⟩⟩
                · simp only [Fits]
                  refine .inr (.inr ⟨_, len, a1, rfl, ?_, l1, by omega, fun j hj => ?_⟩)
                  · rw [← List.append_assoc, getB_append, upd_self]
                  · rw [← List.append_assoc]
                    exact (F1 j hj).more _
            · simp at h
        | struct fs =>
          simp only at hs
          split at hs
          · rename_i l n hl
            split at hs <;> simp only [Option.some.injEq, reduceCtorEq] at hs
            rename_i hn
            subst hs
            split at h
            all_goals try (simp_all; done)
            rename_i cs td' cs2 fs' heq
            simp only [Option.some.injEq, TypeDesc.struct.injEq] at heq
            subst heq
            split at h
            · rename_i hlen
              simp only [Option.map_eq_some_iff] at h
              obtain ⟨xs, hxs, _⟩ := h
              intro Φ H hro
              obtain ⟨Φ1, M1, a1, r1, m1, R1, F1⟩ := trod_fields IH cs fs.toList m 0 hl hxs (by omega) Φ H hro
              refine ⟨Φ1, M1, a1, r1, m1, ?_, by simpa only [Fits] using F1⟩
              rw [List.drop_zero, Nat.sub_zero, List.take_of_length_le (by omega)] at R1
              exact R1
            · simp at h
          · simp at hs
        | array n e =>
          simp only at hs
          split at hs <;> try (simp at hs; done)
          rename_i se sz hse hsz
          split at hs <;> simp only [Option.some.injEq, reduceCtorEq] at hs
          rename_i hn
          subst hs
          obtain ⟨ie, hie, hsz1, hsz0⟩ := sizeP_info hsz
          have hco : P.cellsOf e = sz := by simp [Program.cellsOf, hie, hsz1]
          split at h
          all_goals try (simp_all; done)
          rename_i cs td' cs2 n' e' heq
          simp only [Option.some.injEq, TypeDesc.array.injEq] at heq
          obtain ⟨rfl, rfl⟩ := heq
          split at h
          · rename_i hlen
            simp only [Option.map_eq_some_iff] at h
            obtain ⟨xs, hxs, _⟩ := h
            rw [hco] at hxs
            intro Φ H hro
            obtain ⟨Φ1, M1, a1, r1, m1, R1, l1, F1⟩ := reads_rows (s := se) (sz := sz) n (fun j => (cs.drop (j * sz)).take sz) (fun j hj => by
              obtain ⟨⟨dj, pj⟩, hx⟩ := mapM_any hxs j j (by simp [hj])
              have hle : (j + 1) * sz ≤ n * sz := Nat.mul_le_mul_right sz (by omega)
              rw [Nat.add_mul, Nat.one_mul] at hle
              exact ⟨by simp; omega, IH m e se _ dj pj hse hx⟩) Φ H hro
            rw [flat_all n cs (by omega)] at R1
            exact ⟨Φ1, M1, a1, r1, m1, R1, by simp only [Fits]; exact ⟨l1, F1⟩⟩
          · simp at h
        | _ => simp at hs

end
end Go.Am
