/- Comparing values leaf by leaf: what compact code says is what the machine does. -/
import Derived.Test.YtnblhjpbpobglaaAmE
namespace Go.Am

theorem leafsEq_append : ∀ (k1 a1 b1 k2 a2 b2 : List _), a1.length = k1.length → b1.length = k1.length →
    leafsEq (k1 ++ k2) (a1 ++ a2) (b1 ++ b2) = (match leafsEq k1 a1 b1 with
      | some true => leafsEq k2 a2 b2
      | r => r)
  | [], [], [], k2, a2, b2, _, _ => by simp [leafsEq]
  | [], _ :: _, _, _, _, _, h, _ => by simp at h
  | [], [], _ :: _, _, _, _, _, h => by simp at h
  | _ :: _, [], _, _, _, _, h, _ => by simp at h
  | _ :: _, _ :: _, [], _, _, _, _, h => by simp at h
  | k :: k1, a :: a1, b :: b1, k2, a2, b2, h1, h2 => by
    have ih := leafsEq_append k1 a1 b1 k2 a2 b2 (by simpa using h1) (by simpa using h2)
    cases k <;> cases a <;> cases b <;> simp only [List.cons_append, leafsEq] <;> (try rfl)
    all_goals (repeat' split) <;> first | exact ih | rfl | (simp_all; done)

theorem leafsEq_take (k1 k2 a b : List _) (ha : k1.length ≤ a.length) (hb : k1.length ≤ b.length) :
    leafsEq (k1 ++ k2) a b = (match leafsEq k1 (a.take k1.length) (b.take k1.length) with
      | some true => leafsEq k2 (a.drop k1.length) (b.drop k1.length)
      | r => r) := by
  rw [← leafsEq_append k1 (a.take k1.length) (b.take k1.length) k2 (a.drop k1.length) (b.drop k1.length) (by simp; omega) (by simp; omega)]
  rw [List.take_append_drop, List.take_append_drop]

/-- A value of a type out of its cells. -/
def asV (P : Program) (t : TypeId) (xs : List Value) : Value :=
  match P.underlying t with
  | some (.struct _) | some (.array _ _) => .agg xs.toArray
  | _ => xs.headD undef

section
variable {P : Program} {Φ : Phi} {w : World}

theorem leafK_pos : ∀ {d : Nat} {t : TypeId} {ks : List EqK}, leafK P d t = some ks → ∃ i dd, P.info? t = some i ∧ P.underlying t = some dd ∧ ks.length = i.size
  | 0, t, ks, h => by simp [leafK] at h
  | d + 1, t, ks, h => by
    unfold leafK at h
    split at h
    · simp at h
    · rename_i i hi
      split at h
      · rename_i hu; split at h
        · rename_i hs; simp only [Option.some.injEq] at h; subst h; exact ⟨i, _, hi, hu, by simp [hs]⟩
        · simp at h
      · rename_i hu; split at h
        · rename_i hs; simp only [Option.some.injEq] at h; subst h; exact ⟨i, _, hi, hu, by simp [hs]⟩
        · simp at h
      · rename_i hu; split at h
        · rename_i hs; simp only [Option.some.injEq] at h; subst h; exact ⟨i, _, hi, hu, by simp [hs]⟩
        · simp at h
      · rename_i n e hu
        split at h
        · rename_i l hl
          split at h
          · rename_i hs; simp only [Option.some.injEq] at h; subst h
            refine ⟨i, _, hi, hu, ?_⟩
            rw [← hs.1]; simp [Nat.mul_comm]
          · simp at h
        · simp at h
      · rename_i fs hu
        split at h
        · simp at h
        · split at h
          · rename_i l hl
            split at h
            · rename_i hs; simp only [Option.some.injEq] at h; subst h; exact ⟨i, _, hi, hu, hs⟩
            · simp at h
          · simp at h
      · simp at h

theorem run_part_asV {d : Nat} {e : TypeId} {l : List EqK} (hl : leafK P d e = some l) (hs : (P.info? e).map (·.size) = some l.length) (hn : l.length ≠ 0) (vs : List Value) (off : Nat) (ho : off + l.length ≤ vs.length) :
    (part e vs.toArray off).run P w = .ok (asV P e ((vs.drop off).take l.length)) w := by
  obtain ⟨i, dd, hi, hu, hz⟩ := leafK_pos hl
  have hsz : (sizeOf e).run P w = .ok l.length w := by simp [sizeOf, run_info hi, hz]
  have cellcase : (∀ fs, dd ≠ .struct fs) → (∀ n k, dd ≠ .array n k) → l.length = 1 → (part e vs.toArray off).run P w = .ok (asV P e ((vs.drop off).take l.length)) w := by
    intro h1 h2 h3
    have ha : aggP P e = some false := by
      unfold aggP; rw [hu]
      cases dd <;> first | rfl | exact absurd rfl (h1 _) | exact absurd rfl (h2 _ _)
    have hv : vs.toArray[off]? = some (vs[off]'(by omega)) := by simp
    have he : (vs.drop off).take l.length = [vs[off]'(by omega)] := by
      rw [h3, List.drop_eq_getElem_cons (by omega), List.take_succ_cons, List.take_zero]
    rw [he]
    simp only [part, Sem.run_bind, run_agg ha, Result.andThen_ok, Bool.false_eq_true, if_false, hv, Sem.run_pure]
    congr 1
    unfold asV; rw [hu]
    cases dd <;> first | rfl | exact absurd rfl (h1 _) | exact absurd rfl (h2 _ _)
  have aggcase : aggP P e = some true → asV P e ((vs.drop off).take l.length) = .agg ((vs.drop off).take l.length).toArray → (part e vs.toArray off).run P w = .ok (asV P e ((vs.drop off).take l.length)) w := by
    intro ha hv
    rw [hv]
    simp only [part, Sem.run_bind, run_agg ha, Result.andThen_ok, if_true, hsz, Sem.run_pure]
    congr 2
    simp [List.extract_eq_take_drop]
  cases d with
  | zero => simp [leafK] at hl
  | succ d =>
    unfold leafK at hl
    rw [hi] at hl
    simp only at hl
    rw [hu] at hl
    cases dd with
    | struct fs => exact aggcase (by simp [aggP, hu]) (by simp [asV, hu])
    | array n k => exact aggcase (by simp [aggP, hu]) (by simp [asV, hu])
    | bool => simp only at hl; split at hl <;> simp at hl; subst hl; exact cellcase (by simp) (by simp) rfl
    | int k => simp only at hl; split at hl <;> simp at hl; subst hl; exact cellcase (by simp) (by simp) rfl
    | string => simp only at hl; split at hl <;> simp at hl; subst hl; exact cellcase (by simp) (by simp) rfl
    | _ => simp at hl

/-- Equality at a depth, of values that are compared leaf by leaf. -/
def EqLeaf (P : Program) (dd d : Nat) : Prop :=
  ∀ (t : TypeId) (ks : List EqK), leafK P d t = some ks → ∀ (Φ : Phi) (w : World) (as bs : List AV) (xs ys : List Value) (r : Bool),
    Rs Φ as xs → Rs Φ bs ys → as.length = ks.length → bs.length = ks.length → leafsEq ks as bs = some r →
    (Op.equalIn dd t (asV P t xs) (asV P t ys)).run P w = .ok r w

theorem eqItems_leaf {dd d : Nat} (IH : EqLeaf P dd d) {e : TypeId} {l : List EqK} (hl : leafK P d e = some l) (hs : (P.info? e).map (·.size) = some l.length) (hn : l.length ≠ 0) :
    ∀ (m i : Nat) (as bs : List AV) (xs ys : List Value) (r : Bool), Rs Φ as xs → Rs Φ bs ys → as.length = (i + m) * l.length → bs.length = (i + m) * l.length →
      leafsEq ((List.replicate m l).flatten) (as.drop (i * l.length)) (bs.drop (i * l.length)) = some r →
      (Op.eqItems dd e (P.cellsOf e) xs.toArray ys.toArray (List.range' i m)).run P w = .ok r w
  | 0, i, as, bs, xs, ys, r, hx, hy, ha, hb, h => by
    have e1 : as.drop (i * l.length) = [] := List.drop_of_length_le (by rw [ha]; simp)
    have e2 : bs.drop (i * l.length) = [] := List.drop_of_length_le (by rw [hb]; simp)
    rw [e1, e2] at h
    simp [leafsEq] at h
    subst h
    simp [Op.eqItems]
  | m + 1, i, as, bs, xs, ys, r, hx, hy, ha, hb, h => by
    have hc : P.cellsOf e = l.length := by unfold Program.cellsOf; rw [hs]; rfl
    have hlen : i * l.length + l.length ≤ (i + (m + 1)) * l.length := by
      have := Nat.mul_le_mul_right l.length (show i + 1 ≤ i + (m + 1) by omega)
      rw [Nat.add_mul] at this; omega
    have hlx := hx.len
    have hly := hy.len
    rw [List.replicate_succ, List.flatten_cons, leafsEq_take _ _ _ _ (by simp; omega) (by simp; omega)] at h
    have p1 := run_part_asV (w := w) hl hs hn xs (i * l.length) (by omega)
    have p2 := run_part_asV (w := w) hl hs hn ys (i * l.length) (by omega)
    simp only [List.range'_succ, Op.eqItems, hc, Sem.run_bind, p1, p2, Result.andThen_ok]
    cases hq : leafsEq l (List.take l.length (List.drop (i * l.length) as)) (List.take l.length (List.drop (i * l.length) bs)) with
    | none => rw [hq] at h; simp at h
    | some q =>
      have hqr := IH e l hl Φ w _ _ _ _ q ((hx.drop (i * l.length)).take l.length) ((hy.drop (i * l.length)).take l.length) (by simp; omega) (by simp; omega) hq
      rw [hqr]
      rw [hq] at h
      cases q with
      | false => simp only [Option.some.injEq] at h; subst h; simp
      | true =>
        simp only [List.drop_drop] at h
        have := eqItems_leaf IH hl hs hn m (i + 1) as bs xs ys r hx hy (by rw [ha]; congr 1; omega) (by rw [hb]; congr 1; omega)
          (by rw [show (i + 1) * l.length = i * l.length + l.length by rw [Nat.add_mul]; omega]; exact h)
        rw [hc] at this
        simpa using this

theorem eqFields_leaf {dd d : Nat} (IH : EqLeaf P dd d) : ∀ (fs : List Field) (o : Nat) (ks : List EqK) (as bs : List AV) (xs ys : List Value) (r : Bool),
    fieldsK P (leafK P d) fs o = some ks → Rs Φ as xs → Rs Φ bs ys → as.length = o + ks.length → bs.length = o + ks.length → leafsEq ks (as.drop o) (bs.drop o) = some r →
    (Op.eqFields dd xs.toArray ys.toArray fs).run P w = .ok r w
  | [], o, ks, as, bs, xs, ys, r, hk, hx, hy, ha, hb, h => by
    simp only [fieldsK, Option.some.injEq] at hk; subst hk
    have e1 : as.drop o = [] := List.drop_of_length_le (by rw [ha]; simp)
    have e2 : bs.drop o = [] := List.drop_of_length_le (by rw [hb]; simp)
    rw [e1, e2] at h
    simp [leafsEq] at h
    subst h
    simp [Op.eqFields]
  | f :: fs, o, ks, as, bs, xs, ys, r, hk, hx, hy, ha, hb, h => by
    simp only [fieldsK] at hk
    split at hk
    · simp at hk
    · rename_i hno
      have hname : f.name ≠ "_" := fun e => hno (.inl e)
      have hoff : f.offset = o := Classical.byContradiction fun e => hno (.inr e)
      split at hk
      · rename_i l hl
        split at hk
        · rename_i hs
          split at hk
          · rename_i m hm
            simp only [Option.some.injEq] at hk; subst hk
            simp only [List.length_append] at ha hb
            rw [leafsEq_take _ _ _ _ (by simp; omega) (by simp; omega)] at h
            have hlx := hx.len
            have hly := hy.len
            simp only [Op.eqFields, hname, ne_eq, not_false_eq_true, if_true, Sem.run_bind]
            have p1 := run_part_asV (w := w) hl hs.1 hs.2 xs f.offset (by omega)
            have p2 := run_part_asV (w := w) hl hs.1 hs.2 ys f.offset (by omega)
            rw [p1]
            simp only [Result.andThen_ok, p2]
            rw [hoff]
            cases hq : leafsEq l (List.take l.length (List.drop o as)) (List.take l.length (List.drop o bs)) with
            | none => rw [hq] at h; simp at h
            | some q =>
              have hqr := IH f.type l hl Φ w _ _ _ _ q ((hx.drop o).take l.length) ((hy.drop o).take l.length) (by simp; omega) (by simp; omega) hq
              rw [hqr]
              rw [hq] at h
              cases q with
              | false => simp only [Option.some.injEq] at h; subst h; simp
              | true =>
                simp only [List.drop_drop] at h
                have := eqFields_leaf IH fs (o + l.length) m as bs xs ys r hm hx hy (by omega) (by omega) h
                simpa using this
          · simp at hk
        · simp at hk
      · simp at hk

theorem eqLeaf (P : Program) (x : Nat) : ∀ (d : Nat), EqLeaf P (x + d) d
  | 0 => by intro t ks h; simp [leafK] at h
  | d + 1 => by
    intro t ks h Φ w as bs xs ys r hx hy ha hb hq
    have IH := eqLeaf P x d
    obtain ⟨i, dd, hi, hu, hz⟩ := leafK_pos h
    have h0 := h
    unfold leafK at h
    rw [hi] at h
    simp only at h
    rw [hu] at h
    have one : ks.length = 1 → ∃ a b v u, as = [a] ∧ bs = [b] ∧ xs = [v] ∧ ys = [u] ∧ R Φ a v ∧ R Φ b u := by
      intro h1
      match as, ha.trans h1, bs, hb.trans h1, hx, hy with
      | [a], _, [b], _, hx, hy =>
        simp only [Rs] at hx hy
        obtain ⟨v, vs, rfl, h2, rfl⟩ := hx
        obtain ⟨u, us, rfl, h3, rfl⟩ := hy
        exact ⟨a, b, v, u, rfl, rfl, rfl, rfl, h2, h3⟩
    cases dd with
    | bool =>
      simp only at h; split at h <;> simp at h; subst h
      obtain ⟨a, b, v, u, rfl, rfl, rfl, rfl, hR, hR'⟩ := one rfl
      cases a <;> cases b <;> simp [leafsEq] at hq
      simp only [R] at hR hR'; subst hR; subst hR'
      simp only [asV, hu, List.headD_cons]
      rw [show x + (d + 1) = (x + d) + 1 from rfl, run_equalIn_bool w _ _ _ _ hu]
      split at hq <;> simp_all
    | int k =>
      simp only at h; split at h <;> simp at h; subst h
      obtain ⟨a, b, v, u, rfl, rfl, rfl, rfl, hR, hR'⟩ := one rfl
      cases a <;> cases b <;> simp only [leafsEq, reduceCtorEq] at hq
      split at hq
      · rename_i hk
        subst hk
        simp only [R] at hR hR'; subst hR; subst hR'
        simp only [asV, hu, List.headD_cons]
        rw [show x + (d + 1) = (x + d) + 1 from rfl, run_equalIn_int w _ _ _ _ _ _ hu]
        split at hq <;> simp_all
      · simp at hq
    | string =>
      simp only at h; split at h <;> simp at h; subst h
      obtain ⟨a, b, v, u, rfl, rfl, rfl, rfl, hR, hR'⟩ := one rfl
      cases a <;> cases b <;> simp only [leafsEq, reduceCtorEq] at hq
      simp only [R] at hR hR'; subst hR; subst hR'
      simp only [asV, hu, List.headD_cons]
      rw [show x + (d + 1) = (x + d) + 1 from rfl, run_equalIn_string w _ _ _ _ hu]
      split at hq <;> simp_all
    | array n e =>
      simp only at h
      split at h
      · rename_i l hl
        split at h
        · rename_i hs
          simp only [Option.some.injEq] at h; subst h
          obtain ⟨j, _, hj, _, _⟩ := leafK_pos hl
          simp only [asV, hu]
          rw [show x + (d + 1) = (x + d) + 1 from rfl, run_equalIn_array w _ _ _ hu hj, List.range_eq_range']
          have hlen : ((List.replicate n l).flatten).length = n * l.length := by simp
          exact eqItems_leaf IH hl hs.2.1 hs.2.2 n 0 as bs xs ys r hx hy (by rw [ha, hlen]; simp) (by rw [hb, hlen]; simp) (by simpa using hq)
        · simp at h
      · simp at h
    | struct fs =>
      simp only at h
      split at h
      · simp at h
      · rename_i hp
        split at h
        · rename_i l hl
          split at h
          · simp only [Option.some.injEq] at h; subst h
            simp only [asV, hu]
            have hf : P.fieldsOf t = fs := by simp [Program.fieldsOf, hu]
            rw [show x + (d + 1) = (x + d) + 1 from rfl, run_equalIn_struct w _ _ _ _ (by rw [hf]; exact hu) (by simpa using hp), hf]
            exact eqFields_leaf IH fs.toList 0 l as bs xs ys r hl hx hy (by omega) (by omega) (by simpa using hq)
          · simp at h
        · simp at h
    | _ => simp at h

/-- '==' of structs and arrays. -/
theorem eqs_agg_ok {t : TypeId} {ks : List EqK} (hl : leafK P 20 t = some ks) (hu : (∃ fs, P.underlying t = some (.struct fs)) ∨ ∃ n e, P.underlying t = some (.array n e))
    {a b : AV} {x y : Value} {r : Bool} (ha : R Φ a x) (hb : R Φ b y) (h : eqA ks true a b = some r) : (Op.equal t x y).run P w = .ok r w := by
  simp only [eqA, if_true] at h
  split at h
  · rename_i p q
    split at h
    · rename_i hlen
      simp only [R] at ha hb
      obtain ⟨xs, rfl, hx⟩ := ha
      obtain ⟨ys, rfl, hy⟩ := hb
      have := eqLeaf P 9980 20 t ks hl Φ w p q xs ys r hx hy hlen.1 hlen.2 h
      have e : ∀ zs : List Value, asV P t zs = .agg zs.toArray := by
        intro zs
        rcases hu with ⟨fs, hu⟩ | ⟨n, e, hu⟩ <;> simp [asV, hu]
      rw [e, e] at this
      exact this
    · simp at h
  · simp at h
end
end Go.Am
