/- From an abstract run of a law to what its row says. -/
import Derived.Test.YtnblhjpbpobglaaAmW
import Derived.ProofKit
namespace Go.Am
open Go.RowKit Go.ChangeShapes

/-- Arguments of these shapes. -/
def FitsArgs (H : AHeap) : List Shp → List AV → Prop
  | [], vs => vs = []
  | s :: r, vs => ∃ a vs', vs = a :: vs' ∧ Fits H s [a] ∧ FitsArgs H r vs'

theorem FitsArgs.more {H : AHeap} (M : AHeap) : ∀ (ss : List Shp) {vs : List AV}, FitsArgs H ss vs → FitsArgs (H ++ M) ss vs
  | [], vs, h => h
  | s :: r, vs, h => by
    obtain ⟨a, vs', h1, h2, h3⟩ := h
    exact ⟨a, vs', h1, h2.more M, FitsArgs.more M r h3⟩

/-- A type whose values have one cell. -/
def oneCellT (P : Program) (t : TypeId) : Bool :=
  match P.underlying t with
  | some .bool | some (.int _) | some .string | some (.slice _) => true
  | _ => false

def shapesArgs (P : Program) (m : Nat) : List TypeId → Option (List Shp)
  | [] => some []
  | t :: r => match shapeOf P m t, shapesArgs P m r with
    | some s, some l => if oneCellT P t then some (s :: l) else none
    | _, _ => none

section
variable {HH : Type} {enc : TypeId × Value → HH} {P : Program} {W W' : World}

theorem okWide_cells {r : Reach} {b : Nat} {t : TypeId} {v : Value} (ht : oneCellT P t = true) (h : Value.okWide P W r b t v) : v.cells = #[v] := by
  cases v with
  | agg cs =>
    exfalso
    unfold oneCellT at ht
    unfold Value.okWide at h
    cases hu : P.underlying t with
    | none => rw [hu] at ht; simp at ht
    | some d =>
      rw [hu] at ht h
      cases d <;> simp at ht <;> simp [Cell.okWide, hu, Cell.ok] at h
  | _ => rfl

theorem read_args : ∀ (ts : List TypeId) (m : Nat) (ss : List Shp) (vs : List Value) (ds : List (DataW HH)) (p : List MemPlace), shapesArgs P m ts = some ss →
    (∀ (j : Nat) t v, ts[j]? = some t → vs[j]? = some v → ∃ b, Value.okWide P W .any b t v) → DataW.TrodAll enc P W 0 (fun _ => true) true ts vs ds p →
    ∀ Φ H, Ro Φ H W → ∃ Φ' M avs, Ro Φ' (H ++ M) W ∧ (∀ i q, Φ i = some q → Φ' i = some q) ∧ Rs Φ' avs vs ∧ FitsArgs (H ++ M) ss avs
  | [], m, ss, vs, ds, p, hs, _, h, Φ, H, hro => by
    simp only [shapesArgs, Option.some.injEq] at hs; subst hs
    cases vs with
    | nil => exact ⟨Φ, [], [], by simpa using hro, fun _ _ h => h, .nil, rfl⟩
    | cons v vs => cases ds <;> simp [DataW.TrodAll] at h
  | t :: ts, m, ss, vs, ds, p, hs, hok, h, Φ, H, hro => by
    simp only [shapesArgs] at hs
    split at hs
    · rename_i s l hst hl
      split at hs <;> simp only [Option.some.injEq, reduceCtorEq] at hs
      rename_i hone
      subst hs
      obtain ⟨v, vs', d, ds', p1, q1, rfl, rfl, rfl, h1, h2⟩ := trodAll_cons h
      obtain ⟨b, hb⟩ := hok 0 t v rfl rfl
      obtain ⟨fuel, hf⟩ := h1
      rw [okWide_cells hone hb] at hf
      obtain ⟨Φ1, M1, a1, r1, m1, R1, F1⟩ := trod_reads fuel m t s [v] d p1 hst hf Φ H hro
      obtain ⟨Φ2, M2, a2, r2, m2, R2, F2⟩ := read_args ts m l vs' ds' q1 hl (fun j t' v' h1 h2 => hok (j + 1) t' v' (by simpa using h1) (by simpa using h2)) h2 Φ1 (H ++ M1) r1
      have l1 := R1.len
      obtain ⟨a, rfl⟩ : ∃ a, a1 = [a] := by
        cases a1 with
        | nil => simp at l1
        | cons a r => cases r with
          | nil => exact ⟨a, rfl⟩
          | cons b r => simp at l1
      refine ⟨Φ2, M1 ++ M2, a :: a2, by rw [← List.append_assoc]; exact r2, fun i q hq => m2 i q (m1 i q hq), ?_, a, a2, rfl, ?_, ?_⟩
      · have := (Rs.mono m2 _ R1).append R2
        simpa using this
      · rw [← List.append_assoc]; exact F1.more M2
      · rw [← List.append_assoc]; exact F2
    · simp at hs

theorem trodAll_stays (hl : laidOutB P = true) (hb : Below W.heap.size W W') : ∀ (ts : List TypeId) (vs : List Value) (ds : List (DataW HH)) (p : List MemPlace), (∀ t, t ∈ ts → P.readableRec t = true ∧ t < P.types.size) →
    DataW.TrodAll enc P W 0 (fun _ => true) true ts vs ds p → (∀ x, x ∈ p → x.block < W.heap.size) → ∀ sp : Nat → Bool, (∀ x, x ∈ p → sp x.block = true) → DataW.TrodAll enc P W' 0 sp true ts vs ds p
  | [], vs, ds, p, _, h, _, sp, _ => by
    cases vs <;> cases ds <;> simp [DataW.TrodAll] at h ⊢
    exact h
  | t :: ts, vs, ds, p, ht, h, hlt, sp, hsp => by
    obtain ⟨v, vs', d, ds', p1, q1, rfl, rfl, rfl, h1, h2⟩ := trodAll_cons h
    obtain ⟨r1, r2⟩ := ht t (by simp)
    refine ⟨p1, q1, WideElems.Trod_stays hl r1 r2 h1 (fun x hx => hb.same (hlt x (by simp [hx]))) (fun x hx => hsp x (by simp [hx])), ?_, rfl⟩
    exact trodAll_stays hl hb ts vs' ds' q1 (fun t h => ht t (by simp [h])) h2 (fun x hx => hlt x (by simp [hx])) sp (fun x hx => hsp x (by simp [hx]))

theorem trodAll_app : ∀ {ts : List TypeId} {vs : List Value} {ds : List (DataW HH)} {p : List MemPlace} {tb : TypeId}, P.underlying tb = some .bool → DataW.TrodAll enc P W 0 (fun _ => true) true ts vs ds p →
    DataW.TrodAll enc P W 0 (fun _ => true) true (tb :: ts) (.bool true :: vs) (.lit (.bool true) :: ds) p := by
  intro ts vs ds p tb hb h
  exact ⟨[], p, ⟨1, by simp [DataW.trod, hb, Value.cells]⟩, h, rfl⟩

/-- True, and all that was there as it was. -/
theorem post_below (hl : laidOutB P = true) {fn : Func} {s : ChangeSpec} {apart fresh handsOn again : Bool} {args : Array Value} {ds : List (DataW HH)} {before : List MemPlace}
    (hpar : ∀ t, t ∈ fn.params.toList → P.readableRec t = true ∧ t < P.types.size) (hv : s.vars = []) (hW : DataW.Whole enc P fn.params.toList s.vars apart W args.toList ds [] before)
    (hfn : s.fn HH (ds ++ []) = { results := [.lit (.bool true)], args := ds }) {tb : TypeId} (hr : fn.resultTypes = #[tb]) (htb : P.underlying tb = some .bool)
    (hb : Below W.heap.size W W') : s.post enc P fn apart fresh handsOn again W args (.bool true) W' := by
  have hlt : ∀ x, x ∈ before → x.block < W.heap.size := fun x hx => by simpa using hW.lt x hx
  have hW0 := hW
  obtain ⟨p, q, h1, h2, rfl, hz, hn⟩ := hW0
  rw [hv] at h2
  have hq : q = [] := by simpa [DataW.TrodVars] using h2
  subst hq
  simp only [List.append_nil] at hlt hz hn hW
  have stays := trodAll_stays hl hb fn.params.toList args.toList ds p hpar h1 hlt
  have e1 : fn.resultTypes.toList = [tb] := by rw [hr]
  have e2 : (Value.bool true).resultList fn.resultTypes.size = [.bool true] := by rw [hr]; rfl
  have hvars : ∀ sp : Nat → Bool, DataW.TrodVars (H := HH) enc P W' sp s.vars [] [] := fun sp => by rw [hv]; simp [DataW.TrodVars]
  refine ⟨ds, [], p, [], p, [], hW, ?_, ?_, ?_, hb.frame _, fun _ => ⟨fun j t r hj hr' => ?_, (.lit (.bool true)) :: ds, [], p, ⟨p, [], ?_, ?_, by simp, ?_, ?_⟩, fun x hx _ => hx⟩⟩
  · rw [hfn, e1, e2]
    exact ⟨[], [], ⟨1, by simp [DataW.trod, htb, Value.cells]⟩, rfl, rfl⟩
  · rw [hfn]
    exact stays _ (fun x hx => by simpa using hlt x hx)
  · rw [hfn]; exact hvars _
  · rw [hr] at hj
    rw [e2] at hr'
    cases j with
    | zero =>
      simp at hj hr'
      subst hj; subst hr'
      simp [Value.okWide, htb, Cell.okWide, Cell.ok]
    | succ j => simp at hj
  · rw [e1, e2]
    exact trodAll_app htb (stays _ (fun _ _ => rfl))
  · exact hvars _
  · intro b off hp
    rw [hb.frozen (hlt _ hp)]
    exact hz b off hp
  · exact hn

/-- What a sound run says of a call. -/
theorem call_below {call : CallT} (CS : CallSound P call) {f : FuncId} {args : Array Value} {Φ : Phi} {H H' : AHeap} {avs : List AV} (hro : Ro Φ H W) (hR : Rs Φ avs args.toList)
    (hr : call f avs H = some (.bool true, H')) : Calls P f args W fun e w' => e = .returned (.bool true) ∧ Below W.heap.size W w' := by
  obtain ⟨_, _, h⟩ := CS f avs H _ H' hr
  have hfree : Free Φ H.length H'.length := fun i h1 _ => by
    cases hq : Φ i with
    | none => rfl
    | some q => have := hro.dom i q hq; omega
  have := h Φ W args.toList hro.sim hfree hR
  rw [Array.toArray_toList] at this
  refine this.mono ?_
  rintro e w' ⟨Φ', v, rfl, hRv, s1, s2, s3⟩
  simp only [R] at hRv
  subst hRv
  refine ⟨rfl, s2.os, s2.tape, s2.output, s2.size, fun k hk => s2.frame k hk ?_⟩
  rintro ⟨i, blk, l, _, h2, h3, _⟩
  rw [hro.ro i l h2] at h3
  simp at h3

theorem law_calls (hl : laidOutB P = true) {prog : Nat → Option AFun} {orc : Nat → Option (List AV → AHeap → Option (AV × AHeap))} (CS : ∀ n, CallSound P (aCall prog orc n)) {f : FuncId} {fn : Func} {s : ChangeSpec} {apart fresh handsOn again : Bool}
    {args : Array Value} {ds gs : List (DataW HH)} {before : List MemPlace} {m base : Nat} {ss : List Shp} (hss : shapesArgs P m fn.params.toList = some ss)
    (hpar : ∀ t, t ∈ fn.params.toList → P.readableRec t = true ∧ t < P.types.size) (hv : s.vars = []) {tb : TypeId} (hr : fn.resultTypes = #[tb]) (htb : P.underlying tb = some .bool)
    (hfn : ∀ ds : List (DataW HH), ds.length = fn.params.size → s.fn HH (ds ++ []) = { results := [.lit (.bool true)], args := ds })
    (hval : ∀ (j : Nat) t v, fn.params[j]? = some t → args[j]? = some v → Value.okWide P W .any base t v)
    (hW : DataW.Whole enc P fn.params.toList s.vars apart W args.toList ds gs before)
    (hA : ∀ H avs, FitsArgs H ss avs → ∃ n H', aCall prog orc n f avs H = some (.bool true, H')) :
    Calls P f args W fun e W' => ∃ v, e = .returned v ∧ s.post enc P fn apart fresh handsOn again W args v W' := by
  have hW0 := hW
  obtain ⟨p, q, h1, h2, rfl, hz, hn⟩ := hW0
  have h2' := h2
  rw [hv] at h2'
  have hgs : gs = [] := by cases gs with
    | nil => rfl
    | cons g r => simp [DataW.TrodVars] at h2'
  subst hgs
  obtain ⟨Φ, M, avs, r1, _, R1, F1⟩ := read_args fn.params.toList m ss args.toList ds p hss (fun j t v h3 h4 => ⟨base, hval j t v (by simpa using h3) (by simpa using h4)⟩) h1 _ [] (Ro.empty W)
  obtain ⟨n, H', hrun⟩ := hA _ avs F1
  refine (call_below (CS n) r1 R1 hrun).mono ?_
  rintro e W' ⟨rfl, hb⟩
  have hlen : ds.length = fn.params.size := by
    clear hA hrun F1 R1 r1 hz hn hW hss hpar hval
    have : ∀ (ts : List TypeId) (vs : List Value) (ds : List (DataW HH)) (p : List MemPlace), DataW.TrodAll enc P W 0 (fun _ => true) true ts vs ds p → ds.length = ts.length := by
      intro ts
      induction ts with
      | nil => intro vs ds p h; cases vs <;> cases ds <;> simp [DataW.TrodAll] at h ⊢
      | cons t ts ih =>
        intro vs ds p h
        obtain ⟨v, vs', d, ds', p1, q1, rfl, rfl, rfl, _, h2⟩ := trodAll_cons h
        simp [ih vs' ds' q1 h2]
    simpa using this _ _ _ _ h1
  exact ⟨_, rfl, post_below hl hpar hv hW (hfn ds hlen) hr htb hb⟩

end

def orcClosed (b : Bool) : List AV → AHeap → Option (AV × AHeap)
  | [], H => some (.bool b, H)
  | _, _ => none

/-- A call without arguments that was run to its end from nothing: it answers so from wherever it is called, and nothing that is there turns. -/
theorem closed_sound {P : Program} {call : CallT} (CS : CallSound P call) {f : FuncId} {b : Bool} {H1 : AHeap} (h : call f [] [] = some (.bool b, H1)) :
    CallSound P (fun f' xs H => if f' = f then orcClosed b xs H else none) := by
  obtain ⟨_, hc, hrun⟩ := CS f [] [] _ H1 h
  refine .one hc (fun args H r H' hr => ?_)
  unfold orcClosed at hr
  split at hr
  · simp only [Option.some.injEq, Prod.mk.injEq] at hr
    obtain ⟨rfl, rfl⟩ := hr
    refine ⟨Nat.le_refl _, fun Φ w vs S _ hR => ?_⟩
    simp only [Rs] at hR
    subst hR
    refine (hrun (fun _ => none) w [] (Ro.empty w).sim (fun _ _ _ => rfl) .nil).mono ?_
    rintro e w' ⟨Φ', v, rfl, hRv, s1, s2, s3⟩
    simp only [R] at hRv
    subst hRv
    have hfr : ∀ k, k < w.heap.size → w'.heap[k]? = w.heap[k]? := fun k hk => s2.frame k hk (by rintro ⟨i, blk, l, h1, _⟩; have := getB_lt h1; simp at this)
    exact ⟨Φ, _, rfl, by simp only [R], S.world s2.size hfr, Ext.world s2.size hfr s2.os s2.tape s2.output, Dom.refl _ _ _⟩
  · simp at hr

end Go.Am
