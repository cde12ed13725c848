/- Rows of elements, each told by a property of its cells; heaps with blocks at their end; parting at guards. -/
import Derived.Test.YtnblhjpbpobglaaAmZB
namespace Go.Am

section
variable {p : Prg} {all : List AOper} {env vals env' : List AV} {H : AHeap} {K : KO} {r : List AOper} {op : AOp} {dst : Option Nat} {a b : ACode} {KK : KC}
theorem onG_t {t : Bool} (h1 : t = true → XO p all env ({ op := op, dst := dst } :: r) vals env' H K) (h2 : t = false → XO p all env r (snoc vals (.tup [])) (put env' dst (.tup [])) H K) :
    onG (some (t == true)) p all env op dst r vals env' H K := ⟨fun h => h1 (by simpa using h), fun h => h2 (by simpa using h)⟩
theorem onG_f {t : Bool} (h1 : t = false → XO p all env ({ op := op, dst := dst } :: r) vals env' H K) (h2 : t = true → XO p all env r (snoc vals (.tup [])) (put env' dst (.tup [])) H K) :
    onG (some (t == false)) p all env op dst r vals env' H K := ⟨fun h => h1 (by simpa using h), fun h => h2 (by simpa using h)⟩
theorem onB_of {t : Bool} (h1 : t = true → WC p a env H KK) (h2 : t = false → WC p b env H KK) : onB (some (.bool t)) p a b env H KK := ⟨h1, h2⟩
end

theorem z_lenL2 {p : Prg} {all : List AOper} {env vals env' : List AV} {H : AHeap} {K : KO} {r : List AOper} {dst : Option Nat} {x : Opd} :
    XO p all env ({ op := .lenL x, dst := dst } :: r) vals env' H K = bindV ((aval env vals x).bind lenOf) (kOp p all env r vals env' dst H K) := by
  rw [z_lenL, lenL_eq]
theorem lenOf_sl (i o n : Nat) : lenOf (.sl i o n) = some (.int .i64 n) := rfl
theorem lenOf_nil : lenOf .nilsl = some (.int .i64 0) := rfl
theorem lenOf_esl : lenOf .esl = some (.int .i64 0) := rfl
theorem eqA_4 (k : IntKind) (a0 a1 a2 a3 b0 b1 b2 b3 : Int) : eqA [.int, .int, .int, .int] true (.agg [.int k a0, .int k a1, .int k a2, .int k a3]) (.agg [.int k b0, .int k b1, .int k b2, .int k b3]) =
    some (a0 == b0 && (a1 == b1 && (a2 == b2 && a3 == b3))) := by
  simp only [eqA, leafsEq, if_true, List.length_cons, List.length_nil, and_self]
  cases a0 == b0 <;> cases a1 == b1 <;> cases a2 == b2 <;> cases a3 == b3 <;> rfl
theorem eqA_b (a b : Bool) : eqA [.bool] false (.bool a) (.bool b) = some (a == b) := by cases a <;> cases b <;> rfl

theorem len_lt1 (H : AHeap) (a : Option Blk) : (H.length < (H ++ [a]).length) = True := by simp
theorem len_lt2 (H : AHeap) (a b : Option Blk) : (H.length < (H ++ [a] ++ [b]).length) = True := by simp <;> omega
theorem len_lt3 (H : AHeap) (a b c : Option Blk) : (H.length < (H ++ [a] ++ [b] ++ [c]).length) = True := by simp <;> omega
theorem len_lt4 (H : AHeap) (a b c d : Option Blk) : (H.length < (H ++ [a] ++ [b] ++ [c] ++ [d]).length) = True := by simp <;> omega

theorem load_new {H : AHeap} {sz o n : Nat} {rw : Bool} {cs : List AV} : loadA (H ++ [some (.cells sz rw cs)]) H.length o n = if o + n ≤ cs.length then some ((cs.drop o).take n) else none := by
  simp [loadA, gb_new]
theorem load_old {H : AHeap} {i o n : Nat} {b : Option Blk} (h : i < H.length) : loadA (H ++ [b]) i o n = loadA H i o n := by
  simp [loadA, gb_old b h]
theorem store_new {H : AHeap} {sz o : Nat} {cs vs : List AV} : storeA (H ++ [some (.cells sz true cs)]) H.length o vs =
    if o + vs.length ≤ cs.length then (if vs.all AV.one = true then some (H ++ [some (.cells sz true (splice cs o vs))]) else none) else none := by
  simp only [storeA, gb_new]
  by_cases h : o + vs.length ≤ cs.length <;> cases h2 : vs.all AV.one <;> simp [h, -List.all_eq_true]
theorem store_old {H : AHeap} {i o : Nat} {vs : List AV} {b : Option Blk} (h : i < H.length) : storeA (H ++ [b]) i o vs = (storeA H i o vs).map (· ++ [b]) := by
  simp only [storeA, gb_old b h]
  cases h2 : getB H i with
  | none => rfl
  | some q => cases q with
    | map es => rfl
    | cells sz rw cs =>
      cases rw with
      | false => rfl
      | true =>
        simp only
        split
        · simp only [Option.map_some]
          rw [List.set_append_left _ _ h]
        · rfl

theorem Keeps.get {H H' : AHeap} (h : Keeps H H') {i : Nat} {b : Blk} (hb : getB H i = some b) : getB H' i = some b := h.2 i b hb
theorem gb_push {H : AHeap} {i : Nat} {b : Blk} (c : Option Blk) (h : getB H i = some b) : getB (H ++ [c]) i = some b := by rw [gb_old c (gb_lt h)]; exact h
theorem load_of {H : AHeap} {i sz : Nat} {rw : Bool} {cs : List AV} (h : getB H i = some (.cells sz rw cs)) (o n : Nat) : loadA H i o n = if o + n ≤ cs.length then some ((cs.drop o).take n) else none := by
  simp [loadA, h]
theorem store_of {H : AHeap} {i sz : Nat} {cs : List AV} (h : getB H i = some (.cells sz true cs)) (o : Nat) (vs : List AV) : storeA H i o vs =
    if o + vs.length ≤ cs.length then (if vs.all AV.one = true then some (H.set i (some (.cells sz true (splice cs o vs)))) else none) else none := by
  simp only [storeA, h]
  by_cases h : o + vs.length ≤ cs.length <;> cases h2 : vs.all AV.one <;> simp [h, -List.all_eq_true]

theorem Keeps.p1 (H : AHeap) (a : Option Blk) : Keeps H (H ++ [a]) := .push H a
theorem Keeps.p2 (H : AHeap) (a b : Option Blk) : Keeps H (H ++ [a] ++ [b]) := (Keeps.p1 H a).pushed b
theorem Keeps.p3 (H : AHeap) (a b c : Option Blk) : Keeps H (H ++ [a] ++ [b] ++ [c]) := (Keeps.p2 H a b).pushed c

/-- v is a slice whose elements are told by P. -/
def Rows {α : Type} (sz : Nat) (P : AHeap → α → List AV → Prop) (H : AHeap) (v : AV) (xs : List α) : Prop :=
  ∃ rs : List (List AV), RowAt H sz v xs.length rs.flatten ∧ rs.length = xs.length ∧ ∀ (k : Nat) (x : α), xs[k]? = some x → ∃ r, rs[k]? = some r ∧ r.length = sz ∧ P H x r

def Mono {α : Type} (P : AHeap → α → List AV → Prop) : Prop := ∀ H H' x r, Keeps H H' → P H x r → P H' x r

theorem Rows.keeps {α : Type} {sz : Nat} {P : AHeap → α → List AV → Prop} (hP : Mono P) {H H' : AHeap} (hk : Keeps H H') {v : AV} {xs : List α} (h : Rows sz P H v xs) : Rows sz P H' v xs := by
  obtain ⟨rs, h1, h2, h3⟩ := h
  exact ⟨rs, h1.keeps hk, h2, fun k x hx => by obtain ⟨r, a, b, c⟩ := h3 k x hx; exact ⟨r, a, b, hP _ _ _ _ hk c⟩⟩

theorem Rows.lenOf {α : Type} {sz : Nat} {P : AHeap → α → List AV → Prop} {H : AHeap} {v : AV} {xs : List α} (h : Rows sz P H v xs) : lenOf v = some (.int .i64 xs.length) := by
  obtain ⟨rs, h1, _⟩ := h; exact h1.lenOf

theorem Rows.nil {α : Type} {sz : Nat} {P : AHeap → α → List AV → Prop} {H : AHeap} : Rows sz P H .nilsl ([] : List α) :=
  ⟨[], .inl ⟨.inl rfl, rfl, rfl⟩, rfl, fun k x hx => by simp at hx⟩
theorem Rows.esl {α : Type} {sz : Nat} {P : AHeap → α → List AV → Prop} {H : AHeap} : Rows sz P H .esl ([] : List α) :=
  ⟨[], .inl ⟨.inr rfl, rfl, rfl⟩, rfl, fun k x hx => by simp at hx⟩

theorem flat_at {sz : Nat} : ∀ (rs : List (List AV)) (k : Nat) (r : List AV), (∀ (j : Nat) (x : List AV), rs[j]? = some x → x.length = sz) → rs[k]? = some r →
    ∀ j m, j + m ≤ sz → ((rs.flatten.drop (k * sz + j)).take m) = (r.drop j).take m
  | [], k, r, _, h => by simp at h
  | q :: rs, 0, r, hl, h => by
    intro j m hjm
    simp only [List.getElem?_cons_zero, Option.some.injEq] at h
    subst h
    have := hl 0 q rfl
    rw [Nat.zero_mul, Nat.zero_add, List.flatten_cons, List.drop_append_of_le_length (by omega), List.take_append_of_le_length (by rw [List.length_drop]; omega)]
  | q :: rs, k + 1, r, hl, h => by
    intro j m hjm
    have h1 := hl 0 q rfl
    have := flat_at rs k r (fun j x hx => hl (j + 1) x (by simpa using hx)) (by simpa using h) j m hjm
    rw [List.flatten_cons, ← this]
    have e : (k + 1) * sz + j = q.length + (k * sz + j) := by rw [h1, Nat.add_mul, Nat.one_mul]; omega
    rw [e, List.drop_append, List.drop_eq_nil_of_le (by omega), List.nil_append]
    congr 2; omega

theorem Rows.elem {α : Type} {sz : Nat} {P : AHeap → α → List AV → Prop} {H : AHeap} {v : AV} {xs : List α} (h : Rows sz P H v xs) {k : Nat} {x : α} (hx : xs[k]? = some x) :
    ∃ i o r, v = .sl i o xs.length ∧ r.length = sz ∧ P H x r ∧ ∀ j m, j + m ≤ sz → loadA H i (o + k * sz + j) m = some ((r.drop j).take m) := by
  obtain ⟨rs, h1, h2, h3⟩ := h
  have hk : k < xs.length := by
    rcases Nat.lt_or_ge k xs.length with h | h
    · exact h
    · rw [List.getElem?_eq_none h] at hx; simp at hx
  obtain ⟨r, a, b, c⟩ := h3 k x hx
  obtain ⟨i, o, rfl, e⟩ := h1.elem hk
  refine ⟨i, o, r, rfl, b, c, fun j m hjm => ?_⟩
  rw [e j m hjm]
  congr 1
  refine flat_at rs k r (fun j x hx => ?_) a j m hjm
  have hj : j < xs.length := by
    rcases Nat.lt_or_ge j rs.length with h | h
    · omega
    · rw [List.getElem?_eq_none h] at hx; simp at hx
  obtain ⟨r', a', b', _⟩ := h3 j xs[j] (List.getElem?_eq_getElem hj)
  rw [a'] at hx; simp only [Option.some.injEq] at hx; subst hx; exact b'

/-- Numbers. -/
def IntP (_ : AHeap) (x : Int) (r : List AV) : Prop := r = [.int .i64 x]
theorem IntP.mono : Mono IntP := fun _ _ _ _ _ h => h
abbrev Ints := Rows 1 IntP

theorem flat_one (xs : List Int) : (xs.map fun x => [AV.int .i64 x]).flatten = xs.map (AV.int .i64) := by
  induction xs with
  | nil => rfl
  | cons a l ih => simp [ih]

theorem ints_of {H : AHeap} {v : AV} {xs : List Int} (h : RowAt H 1 v xs.length (xs.map (AV.int .i64))) : Ints H v xs := by
  refine ⟨xs.map fun x => [.int .i64 x], ?_, by simp, fun k x hx => ⟨[.int .i64 x], by simp [hx], rfl, rfl⟩⟩
  rw [flat_one]; exact h
theorem Rows.ints {H : AHeap} {v : AV} {xs : List Int} (h : Ints H v xs) : RowAt H 1 v xs.length (xs.map (AV.int .i64)) := by
  obtain ⟨rs, h1, h2, h3⟩ := h
  have : rs.flatten = xs.map (AV.int .i64) := by
    have e : rs = xs.map fun x => [.int .i64 x] := by
      apply List.ext_getElem?
      intro k
      rw [List.getElem?_map]
      cases hx : xs[k]? with
      | none =>
        rw [List.getElem?_eq_none_iff] at hx
        simp [List.getElem?_eq_none (show rs.length ≤ k by omega)]
      | some x => obtain ⟨r, a, b, c⟩ := h3 k x hx; rw [a, c]; rfl
    rw [e, flat_one]
  rw [this] at h1; exact h1
theorem Rows.int {H : AHeap} {v : AV} {xs : List Int} (h : Ints H v xs) {k : Nat} {x : Int} (hx : xs[k]? = some x) : ∃ i o, v = .sl i o xs.length ∧ loadA H i (o + k) 1 = some [.int .i64 x] := by
  obtain ⟨i, o, r, rfl, h1, h2, h3⟩ := h.elem hx
  refine ⟨i, o, rfl, ?_⟩
  have := h3 0 1 (by omega)
  rw [h2] at this
  simpa using this

/-- Texts. -/
def StrP (_ : AHeap) (x : List UInt8) (r : List AV) : Prop := r = [.str x]
theorem StrP.mono : Mono StrP := fun _ _ _ _ _ h => h

/-- A node of a tree. -/
structure Nd where
  op : Int
  s0 : Int
  s1 : Int
  s2 : Int
  s3 : Int
  kids : List Int
  lo : Int
  hi : Int
  name : List UInt8
  deriving Inhabited, DecidableEq

def ndRow (n : Nd) (kv : AV) : List AV := [.int .u8 n.op, .int .u64 n.s0, .int .u64 n.s1, .int .u64 n.s2, .int .u64 n.s3, kv, .int .i64 n.lo, .int .i64 n.hi, .str n.name]
def i64In (x : Int) : Prop := -9223372036854775808 ≤ x ∧ x < 9223372036854775808
def u64In (x : Int) : Prop := 0 ≤ x ∧ x < 18446744073709551616
structure Nd.Ok (n : Nd) : Prop where
  op : 0 ≤ n.op ∧ n.op < 256
  s0 : u64In n.s0
  s1 : u64In n.s1
  s2 : u64In n.s2
  s3 : u64In n.s3
  kids : ∀ k, k ∈ n.kids → i64In k
  lo : i64In n.lo
  hi : i64In n.hi
  klen : n.kids.length < 9223372036854775808
  name : n.name.length < 9223372036854775808
def NdP (H : AHeap) (n : Nd) (r : List AV) : Prop := n.Ok ∧ ∃ kv, r = ndRow n kv ∧ Ints H kv n.kids
theorem NdP.mono : Mono NdP := fun _ _ _ _ hk h => ⟨h.1, by obtain ⟨kv, a, b⟩ := h.2; exact ⟨kv, a, Rows.keeps IntP.mono hk b⟩⟩
abbrev Nds := Rows 9 NdP
theorem Rows.nd {H : AHeap} {v : AV} {l : List Nd} (h : Nds H v l) {k : Nat} {n : Nd} (hx : l[k]? = some n) :
    ∃ i o kv, v = .sl i o l.length ∧ n.Ok ∧ Ints H kv n.kids ∧ ∀ j m, j + m ≤ 9 → loadA H i (o + k * 9 + j) m = some (((ndRow n kv).drop j).take m) := by
  obtain ⟨i, o, r, rfl, h1, ⟨hok, kv, rfl, hkv⟩, h3⟩ := h.elem hx
  exact ⟨i, o, kv, rfl, hok, hkv, h3⟩

def zeroS (n : Nd) : Prop := n.s0 = 0 ∧ n.s1 = 0 ∧ n.s2 = 0 ∧ n.s3 = 0

end Go.Am
