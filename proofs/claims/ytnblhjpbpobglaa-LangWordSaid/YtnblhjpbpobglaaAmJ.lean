/- Operations that read memory: what compact code says is what the machine does. -/
import Derived.Test.YtnblhjpbpobglaaAmI
namespace Go.Am

section
variable {c : Ctx} {env vals : List AV} {Φ : Phi} {ρ : Operand → Value} {w : World} {H : AHeap}

theorem add_flat (b o n : Nat) : (⟨b, o, none⟩ : Addr).add n = ⟨b, o + n, none⟩ := by
  unfold Addr.add; split <;> simp_all

/-- Cells as they lie in memory, as a list of values. -/
theorem cells_read {b base : Nat} : ∀ (cs : List AV), (∀ (k : Nat) (x : AV), cs[k]? = some x → ∃ v, w.cell? ⟨b, base + k, none⟩ = some v ∧ R Φ x v) →
    ∃ vs, Rs Φ cs vs ∧ ∀ (k : Nat) (v : Value), vs[k]? = some v → w.cell? ((⟨b, base, none⟩ : Addr).add k) = some v := by
  intro cs
  induction cs generalizing base with
  | nil => intro _; exact ⟨[], .nil, by simp⟩
  | cons x r ih =>
    intro h
    obtain ⟨v, hv, hR⟩ := h 0 x (by simp)
    obtain ⟨vs, h1, h2⟩ := ih (base := base + 1) (fun k y hk => by
      obtain ⟨u, hu, hRu⟩ := h (k + 1) y (by simpa using hk)
      exact ⟨u, by rw [← hu]; congr 2; omega, hRu⟩)
    refine ⟨v :: vs, .cons hR h1, fun k u hk => ?_⟩
    cases k with
    | zero => simp at hk; subst hk; rw [add_flat]; simpa using hv
    | succ k =>
      have := h2 k u (by simpa using hk)
      rw [add_flat] at this ⊢
      rw [← this]; congr 2; omega

theorem loadA_cells (S : Sim Φ (getB H) w) {i o n : Nat} {cs : List AV} (h : loadA H i o n = some cs) {l : Loc} (hl : Φ i = some l) :
    cs.length = n ∧ ∃ vs, Rs Φ cs vs ∧ vs.length = n ∧ ∀ (k : Nat) (v : Value), vs[k]? = some v → w.cell? ((⟨l.b, l.base + o, none⟩ : Addr).add k) = some v := by
  unfold loadA at h
  split at h
  · rename_i sz rw' cs0 hB
    split at h
    · rename_i hle
      simp only [Option.some.injEq] at h; subst h
      obtain ⟨l', hl', hok⟩ := S.ok i _ hB
      rw [hl] at hl'; simp only [Option.some.injEq] at hl'; subst hl'
      obtain ⟨_, _, _, h4, _⟩ := hok
      have hlen : ((cs0.drop o).take n).length = n := by simp; omega
      obtain ⟨vs, h1, h2⟩ := cells_read (w := w) (Φ := Φ) (b := l.b) (base := l.base + o) ((cs0.drop o).take n) (fun k x hk => by
        have hk' : k < n := by
          rcases Nat.lt_or_ge k n with h | h
          · exact h
          · rw [List.getElem?_eq_none (by omega)] at hk; simp at hk
        rw [List.getElem?_take_of_lt hk', List.getElem?_drop] at hk
        obtain ⟨v, hv, hR⟩ := h4 (o + k) x hk
        exact ⟨v, by rw [← hv]; congr 2; omega, hR⟩)
      exact ⟨hlen, vs, h1, by rw [h1.len, hlen], h2⟩
    · simp at h
  · simp at h

theorem load_ok (S : Sim Φ (getB H) w) {t : TypeId} {n : Nat} {g : Bool} (hn : sizeP c.P t = some n) (hg : aggP c.P t = some g) {i o : Nat} {cs : List AV} {v : AV}
    (h : loadA H i o n = some cs) (hv : mkv g cs = some v) {l : Loc} (hl : Φ i = some l) :
    ∃ v', (loadVar t ⟨l.b, l.base + o, none⟩).run c.P w = .ok v' w ∧ R Φ v v' := by
  obtain ⟨hlen, vs, hR, hvl, hcell⟩ := loadA_cells S h hl
  have hload := run_loadCells_list (P := c.P) w ⟨l.b, l.base + o, none⟩ vs hcell
  rw [hvl] at hload
  cases g with
  | true =>
    simp only [mkv, if_true, Option.some.injEq] at hv
    subst hv
    exact ⟨.agg vs.toArray, by simp [loadVar, run_agg hg, run_size hn, hload], by simp only [R]; exact ⟨vs, rfl, hR⟩⟩
  | false =>
    simp only [mkv, Bool.false_eq_true, if_false] at hv
    split at hv <;> simp only [Option.some.injEq, reduceCtorEq] at hv
    rename_i x
    subst hv
    obtain ⟨u, hu, hRu⟩ := hR.get (k := 0) (c := x) (by simp)
    have := hcell 0 u hu
    rw [add_flat] at this
    refine ⟨u, ?_, hRu⟩
    simp only [loadVar, Sem.run_bind, run_agg hg, Result.andThen_ok, Bool.false_eq_true, if_false, run_load]
    simp only [Nat.add_zero] at this
    rw [this]

/-- The kind of a map's keys. -/
def keyDesc (kk : EqK) (d : TypeDesc) : Prop :=
  match kk with
  | .int => ∃ k, d = .int k
  | .str => d = .string
  | .bool => d = .bool

theorem keyP_desc {P : Program} {t : TypeId} {kk : EqK} (h : keyP P t = some kk) : ∃ d, P.underlying t = some d ∧ keyDesc kk d := by
  unfold keyP at h
  split at h <;> simp only [Option.some.injEq, reduceCtorEq] at h <;> subst h
  · rename_i k hu; exact ⟨_, hu, k, rfl⟩
  · rename_i hu; exact ⟨_, hu, rfl⟩
  · rename_i hu; exact ⟨_, hu, rfl⟩

theorem checkKey_ok {P : Program} {kk : EqK} {t : TypeId} {d : TypeDesc} (hu : P.underlying t = some d) (hd : keyDesc kk d) (e : Bool) (n : Nat) (x : Value) :
    (Instr.checkKey e (n + 1) t x).run P w = .ok () w := by
  cases kk
  · obtain ⟨k, rfl⟩ := hd; simp [Instr.checkKey, run_underlying hu]
  · simp only [keyDesc] at hd; subst hd; simp [Instr.checkKey, run_underlying hu]
  · simp only [keyDesc] at hd; subst hd; simp [Instr.checkKey, run_underlying hu]

theorem keyEq_now {kk : EqK} {d : TypeDesc} (hd : keyDesc kk d) {a b : AV} {x y : Value} (ha : R Φ a x) (hb : R Φ b y) {r : Bool} (h : keyEq kk a b = some r) :
    Instr.sameNow d x y = some r := by
  unfold keyEq at h
  split at h
  · obtain ⟨k, rfl⟩ := hd
    simp only [R] at ha hb; subst ha; subst hb
    simpa [Instr.sameNow] using h
  · simp only [keyDesc] at hd; subst hd
    simp only [R] at ha hb; subst ha; subst hb
    simp only [Option.some.injEq] at h
    simp only [Instr.sameNow, Option.some.injEq]
    rw [beq_toListBytes, ByteArray.toList_mk, ByteArray.toList_mk]; exact h
  · simp only [keyDesc] at hd; subst hd
    simp only [R] at ha hb; subst ha; subst hb
    simpa [Instr.sameNow] using h
  · simp at h

theorem findI_now {kk : EqK} {d : TypeDesc} (hd : keyDesc kk d) {k : AV} {x : Value} (hk : R Φ k x) : ∀ (es : List (AV × AV)) (en : List MapEntry) (i : Nat) {r : Option Nat},
    Rs Φ (es.map (·.1)) (en.map (·.key)) → findI kk k es i = some r →
    Instr.findNow d x en i = some (r.bind fun j => (en[j - i]?).map fun e => (j, e.val)) ∧ (∀ j, r = some j → i ≤ j ∧ j - i < es.length)
  | [], en, i, r, hR, h => by
    simp only [List.map_nil, Rs, List.map_eq_nil_iff] at hR; subst hR
    simp only [findI, Option.some.injEq] at h; subst h
    exact ⟨by simp [Instr.findNow], by simp⟩
  | (a, b) :: es, en, i, r, hR, h => by
    simp only [List.map_cons, Rs] at hR
    obtain ⟨v, vs, he, hRa, hRr⟩ := hR
    cases en with
    | nil => simp at he
    | cons e en =>
      simp only [List.map_cons, List.cons.injEq] at he
      obtain ⟨rfl, rfl⟩ := he
      simp only [findI] at h
      split at h
      · rename_i hq
        simp only [Option.some.injEq] at h; subst h
        have := keyEq_now hd hk hRa hq
        refine ⟨by simp [Instr.findNow, this], fun j hj => ?_⟩
        simp only [Option.some.injEq] at hj; subst hj
        simp
      · rename_i hq
        have := keyEq_now hd hk hRa hq
        obtain ⟨h1, h2⟩ := findI_now hd hk es en (i + 1) hRr h
        refine ⟨?_, fun j hj => ?_⟩
        · simp only [Instr.findNow, this, h1]
          cases r with
          | none => rfl
          | some j =>
            have := h2 j rfl
            simp only [Option.bind_some]
            have e1 : j - i = (j - (i + 1)) + 1 := by omega
            rw [e1, List.getElem?_cons_succ]
        · have := h2 j hj
          simp only [List.length_cons]; omega
      · simp at h

theorem bytesOf_ok : ∀ {cs : List AV} {s : List UInt8} {vs : List Value}, bytesOf cs = some s → Rs Φ cs vs →
    ∃ ns : List Int, vs = ns.map (Value.int .u8) ∧ s = ns.map fun n => UInt8.ofNat n.toNat
  | [], s, vs, h, hR => by
    simp only [bytesOf, Option.some.injEq] at h; subst h
    simp only [Rs] at hR; subst hR
    exact ⟨[], rfl, rfl⟩
  | a :: r, s, vs, h, hR => by
    simp only [Rs] at hR
    obtain ⟨v, vs', rfl, hRa, hRr⟩ := hR
    cases a with
    | int k n =>
      cases k <;> simp only [bytesOf, reduceCtorEq] at h
      split at h <;> simp only [Option.some.injEq, reduceCtorEq] at h
      rename_i l hl; subst h
      simp only [R] at hRa; subst hRa
      obtain ⟨ns, rfl, rfl⟩ := bytesOf_ok hl hRr
      exact ⟨n :: ns, rfl, rfl⟩
    | _ => simp [bytesOf] at h

theorem push_fold : ∀ (ns : List Int) (acc : ByteArray), ns.foldl (fun r n => r.push (UInt8.ofNat n.toNat)) acc = ⟨(acc.data.toList ++ ns.map fun n => UInt8.ofNat n.toNat).toArray⟩
  | [], acc => by simp
  | n :: ns, acc => by
    simp only [List.foldl_cons, push_fold ns, List.map_cons]
    simp [ByteArray.push]

theorem read_ok (O : HO c env vals Φ ρ) (S : Sim Φ (getB H) w) (o : Oper) {ao : AOp} {v : AV} (h : trOp c o.op = some ao) (hv : aRead env vals H ao = some v) : Yields c Φ ρ w o v := by
  obtain ⟨dst, op, ty, pos, after, guard⟩ := o
  simp only at h
  cases op with
  | load t a =>
    simp only [trOp] at h
    split at h
    · rename_i n g x hn hg hx
      split at h <;> simp only [Option.some.injEq, reduceCtorEq] at h
      subst h
      simp only [aRead] at hv
      split at hv
      · rename_i i k hk
        split at hv
        · rename_i cs hcs
          have h1 := O _ _ _ hx hk
          simp only [R] at h1
          obtain ⟨l, hl, hp⟩ := h1
          obtain ⟨v', hr, hR⟩ := load_ok S hn hg hcs hv hl
          exact ⟨v', by simp [execOp, Instr.loadAt, hp, Instr.sureAddr, hr], hR⟩
        · simp at hv
      · simp at hv
    · simp at h
  | lookup t m k ok =>
    simp only [trOp] at h
    split at h
    · rename_i kt et a b hu ha hb
      split at h
      · rename_i kk iz hkk hz
        split at h <;> (try (simp at h; done))
        rename_i z hzz
        split at h <;> simp only [Option.some.injEq, reduceCtorEq] at h
        rename_i zv hzv
        subst h
        simp only [aRead] at hv
        split at hv
        · rename_i mv kv hm hk
          obtain ⟨kd, hkd, hkdd⟩ := keyP_desc hkk
          have hRm := O _ _ _ ha hm
          have hRk := O _ _ _ hb hk
          -- what the map holds
          have hmap : ∀ es, (match mv with
              | .nilmap => some []
              | .map i => match getB H i with
                | some (.map es) => some es
                | _ => none
              | _ => none) = some es → ∃ en : Array MapEntry, Rs Φ (es.map (·.1)) (en.toList.map (·.key)) ∧ Rs Φ (es.map (·.2)) (en.toList.map (·.val)) ∧
                ((ρ m = .map none ∧ en = #[]) ∨ ∃ r cl, ρ m = .map (some r) ∧ w.heap[r]? = some (.map en cl)) := by
            intro es hes
            split at hes
            · simp only [Option.some.injEq] at hes; subst hes
              simp only [R] at hRm
              exact ⟨#[], .nil, .nil, .inl ⟨hRm, rfl⟩⟩
            · rename_i i
              split at hes <;> simp only [Option.some.injEq, reduceCtorEq] at hes
              rename_i es' hB; subst hes
              simp only [R] at hRm
              obtain ⟨l, hl, hmv⟩ := hRm
              obtain ⟨l', hl', hok⟩ := S.ok i _ hB
              rw [hl] at hl'; simp only [Option.some.injEq] at hl'; subst hl'
              obtain ⟨_, _, en, cl, hh, h1, h2⟩ := hok
              exact ⟨en, h1, h2, .inr ⟨_, cl, hmv, hh⟩⟩
            · simp at hes
          have run : ∀ (en : Array MapEntry), ((ρ m = .map none ∧ en = #[]) ∨ ∃ r cl, ρ m = .map (some r) ∧ w.heap[r]? = some (.map en cl)) →
              ∀ q, Instr.findNow kd (ρ k) en.toList 0 = some q → (Instr.lookup t (ρ m) (ρ k) ok).run c.P w =
                .ok (if ok then .tuple #[(match q with | some p => p.2 | none => z), .bool q.isSome] else (match q with | some p => p.2 | none => z)) w := by
            intro en hen q hq
            have hg : ∀ r cl, w.heap[r]? = some (.map en cl) → (getObj r).run c.P w = .ok (.map en cl) w := by
              intro r cl hh; simp [getObj, Sem.run, hh]
            have hz' := run_zero (w := w) hz hzz
            rcases hen with ⟨h1, rfl⟩ | ⟨r, cl, h1, h2⟩
            · unfold Instr.lookup
              simp only [Sem.run_bind, run_underlying hu, Result.andThen_ok, h1, Sem.run_pure, checkKey_ok hkd hkdd _ 9999, Instr.findKey, run_underlying hkd, hq]
              cases q with
              | none => simp [hz']
              | some p => simp
            · unfold Instr.lookup
              simp only [Sem.run_bind, run_underlying hu, Result.andThen_ok, h1, hg r cl h2, Sem.run_pure, checkKey_ok hkd hkdd _ 9999, Instr.findKey, run_underlying hkd, hq]
              cases q with
              | none => simp [hz']
              | some p => simp
          split at hv
          · simp at hv
          · rename_i es hes
            obtain ⟨en, he1, he2, hen⟩ := hmap es hes
            split at hv
            · split at hv
              · -- found
                rename_i j hj
                split at hv <;> simp only [Option.some.injEq, reduceCtorEq] at hv
                rename_i e hej
                obtain ⟨hf1, hf2⟩ := findI_now hkdd hRk es en.toList 0 he1 hj
                simp only [Option.bind_some, Nat.sub_zero] at hf1
                obtain ⟨u, hu', hRu⟩ := he2.get (k := j) (c := e.2) (by simp [hej])
                obtain ⟨en', hen1, hen2⟩ : ∃ en', en.toList[j]? = some en' ∧ en'.val = u := by
                  simp only [List.getElem?_map, Option.map_eq_some_iff] at hu'
                  exact hu'
                rw [hen1] at hf1
                have hr := run en hen _ hf1
                refine ⟨_, by simp only [execOp, Sem.run_bind, hr, Result.andThen_ok, Sem.run_pure]; rfl, ?_⟩
                subst hv
                cases ok with
                | true =>
                  simp only [if_true, R]
                  exact ⟨[u, .bool true], by simp [hen2], .cons hRu (.cons (by simp only [R]) .nil)⟩
                | false => simpa [hen2] using hRu
              · -- not found
                rename_i hj
                simp only [Option.some.injEq] at hv
                obtain ⟨hf1, hf2⟩ := findI_now hkdd hRk es en.toList 0 he1 hj
                simp only [Option.bind_none] at hf1
                have hzu : R Φ zv z := trConst_R z hzv
                have hr := run en hen _ hf1
                refine ⟨_, by simp only [execOp, Sem.run_bind, hr, Result.andThen_ok, Sem.run_pure]; rfl, ?_⟩
                subst hv
                cases ok with
                | true =>
                  simp only [if_true, R]
                  exact ⟨[z, .bool false], by simp, .cons hzu (.cons (by simp only [R]) .nil)⟩
                | false => simpa using hzu
              · simp at hv
            · simp at hv
        · simp at hv
      · simp at h
    · simp at h
  | convert s d x =>
    simp only [trOp] at h
    split at h
    · simp only [Option.some.injEq] at h; subst h; simp [aRead] at hv
    · simp only [Option.some.injEq] at h; subst h; simp [aRead] at hv
    · split at h <;> simp only [Option.some.injEq, reduceCtorEq] at h
      subst h; simp [aRead] at hv
    · rename_i e a hu1 hu2 ha
      split at h <;> simp only [Option.some.injEq, reduceCtorEq] at h
      rename_i hue; subst h
      simp only [aRead] at hv
      split at hv
      · rename_i hs
        simp only [Option.some.injEq] at hv; subst hv
        have := O _ _ _ ha hs; simp only [R] at this
        exact ⟨.string .empty, by simp [execOp, convert, run_underlying hu1, run_underlying hu2, run_underlying hue, this, Conv.bytesToString], by simp only [R]; rfl⟩
      · rename_i hs
        simp only [Option.some.injEq] at hv; subst hv
        have := O _ _ _ ha hs; simp only [R] at this
        obtain ⟨b, hb⟩ := this
        exact ⟨.string .empty, by simp [execOp, convert, run_underlying hu1, run_underlying hu2, run_underlying hue, hb, Conv.bytesToString, loadCells, loadCellsFrom], by simp only [R]; rfl⟩
      · rename_i i k n hs
        split at hv
        · rename_i cs hcs
          split at hv <;> simp only [Option.some.injEq, reduceCtorEq] at hv
          rename_i s hs'; subst hv
          have := O _ _ _ ha hs; simp only [R] at this
          obtain ⟨l, aa, cc, hl, hx, hle, hcap⟩ := this
          obtain ⟨hlen, vs, hR, hvl, hcell⟩ := loadA_cells S hcs hl
          have hlc : (loadCells aa n).run c.P w = .ok vs.toArray w := by
            rcases hcap with h0 | ⟨rfl, _⟩
            · have h0 : n = 0 := by omega
              subst h0
              have : vs = [] := by simpa using hvl
              subst this
              simp [loadCells, loadCellsFrom]
            · have := run_loadCells_list (P := c.P) w _ vs hcell
              rw [hvl] at this; exact this
          obtain ⟨ns, rfl, rfl⟩ := bytesOf_ok hs' hR
          refine ⟨.string ⟨(ns.map fun n => UInt8.ofNat n.toNat).toArray⟩, ?_, by simp only [R]⟩
          have hb := run_bytesToString w aa n cc ns hlc
          rw [push_fold] at hb
          simp only [execOp, hx, run_convert_bytes_string w s d e _ _ _ hu1 hue hu2, hb, Sem.run_bind, Result.andThen_ok, Sem.run_pure]
          rfl
        · simp at hv
      · simp at hv
    · simp at h
  | slice t x lo hi mx =>
    simp only [trOp] at h
    split at h
    · simp only [Option.some.injEq] at h; subst h; simp [aRead] at hv
    · rename_i e a l hh m hu ha hl hhi hmx
      split at h
      · simp at h
      · rename_i hmh
        split at h <;> simp only [Option.some.injEq, reduceCtorEq] at h
        rename_i n hn; subst h
        simp only [aRead] at hv
        split at hv
        · rename_i v0 l' h' m' hs hl' hh' hm'
          have h1 := O _ _ _ ha hs
          have q1 := O.opt hl hl'
          have q2 := O.opt hhi hh'
          have q3 := O.opt hmx hm'
          have hmh' : ¬ (mx.isSome = true ∧ hi.isNone = true) := by
            rintro ⟨e1, e2⟩
            apply hmh
            cases mx with
            | none => simp at e1
            | some mo => cases hi with
              | some ho => simp at e2
              | none =>
                simp only [trOptd, Option.some.injEq] at hhi
                simp only [trOptd] at hmx
                split at hmx <;> simp at hmx
                subst hhi; subst hmx; rfl
          split at hv
          · rename_i hok
            obtain ⟨v', hr, hR⟩ := sliceA_ok (w := w) hu hn h1 q1 q2 q3 hmh' (fun i o' n' e l'' hl'' => by
              subst e
              simp only [szOk] at hok
              split at hok
              · rename_i sz' rw' cs' hB
                obtain ⟨l3, hl3, hok3⟩ := S.ok i _ hB
                rw [hl''] at hl3; simp only [Option.some.injEq] at hl3; subst hl3
                rw [hok3.2.1]; simpa using hok
              · simp at hok) hv
            refine ⟨v', ?_, hR⟩
            simp only [execOp, Instr.sliceAt, Sem.run_bind, run_underlying hu, Result.andThen_ok, hr, Sem.run_pure]
          · simp at hv
        · simp at hv
    · simp at h
  | call k =>
    simp only [trOp, trCall] at h
    obtain ⟨callee, args, ats⟩ := k
    split at h
    · split at h <;> simp only [Option.some.injEq, reduceCtorEq] at h
      subst h; simp [aRead] at hv
    · split at h <;> simp only [Option.some.injEq, reduceCtorEq] at h
      subst h; simp [aRead] at hv
    · simp at h
    · rename_i b hcal
      simp only at hcal; subst hcal
      split at h
      · -- len
        rename_i x t hargs hats
        have ea : args = #[x] := by apply Array.ext'; simpa using hargs
        have et : ats = #[t] := by apply Array.ext'; simpa using hats
        subst ea; subst et
        split at h
        · simp only [Option.some.injEq] at h; subst h; simp [aRead] at hv
        · simp only [Option.some.injEq] at h; subst h; simp [aRead] at hv
        · rename_i kt et a hu ha
          simp only [Option.some.injEq] at h; subst h
          simp only [aRead] at hv
          split at hv
          · rename_i hs
            simp only [Option.some.injEq] at hv; subst hv
            have := O _ _ _ ha hs; simp only [R] at this
            exact ⟨.int .i64 0, by simp [execOp, resolve, invoke, builtin, Builtin.len_, run_underlying hu, this, goInt], by simp only [R]⟩
          · rename_i i hs
            split at hv <;> simp only [Option.some.injEq, reduceCtorEq] at hv
            rename_i es hB; subst hv
            have := O _ _ _ ha hs; simp only [R] at this
            obtain ⟨l, hl, hmv⟩ := this
            obtain ⟨l', hl', hok⟩ := S.ok i _ hB
            rw [hl] at hl'; simp only [Option.some.injEq] at hl'; subst hl'
            obtain ⟨_, _, en, cl, hh, h1, h2⟩ := hok
            have hg : (getObj l.b).run c.P w = .ok (.map en cl) w := by simp [getObj, Sem.run, hh]
            have hlen : en.size = es.length := by
              have := h1.len; simpa using this
            exact ⟨.int .i64 es.length, by simp [execOp, resolve, invoke, builtin, Builtin.len_, run_underlying hu, hmv, hg, goInt, hlen], by simp only [R]⟩
          · simp at hv
        · simp only [Option.some.injEq] at h; subst h; simp [aRead] at hv
        · simp at h
      all_goals (exfalso; revert h; (repeat' split) <;> intro h <;> simp only [Option.some.injEq, reduceCtorEq] at h <;> subst h <;> simp [aRead] at hv)
  | binOp op t x y yt =>
    exfalso
    cases op
    case eql => simp only [trOp, trEq] at h; (repeat' split at h) <;> simp only [Option.some.injEq, reduceCtorEq] at h <;> subst h <;> simp [aRead] at hv
    case neq => simp only [trOp, trEq] at h; (repeat' split at h) <;> simp only [Option.some.injEq, reduceCtorEq] at h <;> subst h <;> simp [aRead] at hv
    all_goals (simp only [trOp] at h; (repeat' split at h) <;> simp only [Option.some.injEq, reduceCtorEq] at h <;> subst h <;> simp [aRead] at hv)
  | makeFunc f first caps =>
    exfalso
    cases f <;> simp only [trOp, reduceCtorEq] at h
    (repeat' split at h) <;> simp only [Option.some.injEq, reduceCtorEq] at h
    subst h; simp [aRead] at hv
  | makeMap t r =>
    exfalso
    cases r <;> simp only [trOp, Option.some.injEq, reduceCtorEq] at h
    subst h; simp [aRead] at hv
  | _ =>
    exfalso
    simp only [trOp, reduceCtorEq] at h
    all_goals ((repeat' split at h) <;> simp only [Option.some.injEq, reduceCtorEq] at h <;> subst h <;> simp [aRead] at hv)

end
end Go.Am
