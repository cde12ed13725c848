/- Operations that touch no memory: what compact code says is what the machine does. -/
import Derived.Test.YtnblhjpbpobglaaAmD
namespace Go.Am

section types
variable {P : Program} {t : TypeId} {w : World}

theorem sizeP_info {n : Nat} (h : sizeP P t = some n) : ∃ i, P.info? t = some i ∧ i.size = n ∧ n ≠ 0 := by
  unfold sizeP at h
  split at h
  · rename_i i hi
    split at h
    · simp at h
    · rename_i hz
      simp only [Option.some.injEq] at h
      exact ⟨i, hi, h, by omega⟩
  · simp at h

theorem run_info {i : TypeInfo} (h : P.info? t = some i) : (typeInfo t).run P w = .ok i w := by simp [typeInfo, h]

theorem run_size {n : Nat} (h : sizeP P t = some n) : (sizeOf t).run P w = .ok n w := by
  obtain ⟨i, hi, hn, _⟩ := sizeP_info h
  simp [sizeOf, run_info hi, hn]

theorem run_agg {g : Bool} (h : aggP P t = some g) : (isAgg t).run P w = .ok g w := by
  unfold aggP at h
  split at h <;> simp only [Option.some.injEq, reduceCtorEq] at h
  · rename_i hu; subst h; simp [isAgg, run_underlying hu]
  · rename_i hu; subst h; simp [isAgg, run_underlying hu]
  · rename_i d h1 h2 hu
    subst h
    simp only [isAgg, Sem.run_bind, run_underlying hu, Result.andThen_ok]
    cases d <;> first | rfl | (exact absurd hu (h1 _)) | (exact absurd hu (h2 _ _))

theorem trConst_notJunk {v : Value} {a : AV} (h : trConst v = some a) : a.isJunk = false := by
  cases a <;> first | rfl | skip
  cases v with
  | pointer p => cases p <;> simp [trConst] at h
  | slice p n c => cases p <;> cases n <;> cases c <;> simp [trConst] at h
  | map p => cases p <;> simp [trConst] at h
  | agg cs =>
    simp only [trConst] at h
    split at h <;> simp at h
  | _ => simp [trConst] at h

theorem zeroP_info {l : List AV} (h : zeroP P t = some l) : ∃ i z, P.info? t = some i ∧ i.zero = some z ∧ l.length = i.size ∧ i.size ≠ 0 ∧ ∀ Φ, Rs Φ l z.cells.toList := by
  unfold zeroP at h
  split at h
  · rename_i i hi
    split at h
    · rename_i z hz
      split at h
      · rename_i v hv
        split at h
        · rename_i hc
          simp only [Option.some.injEq] at h
          subst h
          exact ⟨i, z, hi, hz, hc.1, hc.2, fun Φ => R.cells (trConst_R z hv) (trConst_notJunk hv)⟩
        · simp at h
      · simp at h
    · simp at h
  · simp at h

theorem run_zero {i : TypeInfo} {z : Value} (h : P.info? t = some i) (hz : i.zero = some z) : (zeroValue t).run P w = .ok z w := by
  simp [zeroValue, run_info h, hz]

theorem run_part' {Φ : Phi} {n : Nat} {g : Bool} (hs : sizeP P t = some n) (hg : aggP P t = some g) {cs : List AV} {vs : List Value} (hR : Rs Φ cs vs) (off : Nat)
    {v : AV} (hv : mkv g ((cs.drop off).take n) = some v) : ∃ v', (part t vs.toArray off).run P w = .ok v' w ∧ R Φ v v' := by
  unfold part
  cases g with
  | true =>
    simp only [mkv, if_true, Option.some.injEq] at hv
    subst hv
    simp only [Sem.run_bind, run_agg hg, Result.andThen_ok, if_true, run_size hs, Sem.run_pure]
    refine ⟨_, rfl, ?_⟩
    simp only [R]
    refine ⟨((vs.drop off).take n), ?_, (hR.drop off).take n⟩
    simp [List.extract_eq_take_drop]
  | false =>
    simp only [mkv, Bool.false_eq_true, if_false] at hv
    split at hv
    · rename_i x hx
      simp only [Option.some.injEq] at hv
      subst hv
      have hlen : ((cs.drop off).take n).length = 1 := by rw [hx]; rfl
      simp at hlen
      have h0 : cs[off]? = some x := by
        have : ((cs.drop off).take n)[0]? = some x := by rw [hx]; rfl
        rw [List.getElem?_take_of_lt (by omega), List.getElem?_drop] at this
        simpa using this
      obtain ⟨u, hu, hRu⟩ := hR.get h0
      have hu' : vs.toArray[off]? = some u := by simpa using hu
      exact ⟨u, by simp [run_agg hg, hu'], hRu⟩
    · simp at hv
end types

section
variable {c : Ctx} {env vals : List AV} {Φ : Phi} {ρ : Operand → Value} {w : World}

/-- What an operation yields. -/
def Yields (c : Ctx) (Φ : Phi) (ρ : Operand → Value) (w : World) (o : Oper) (v : AV) : Prop :=
  ∃ v', (execOp ρ o).run c.P w = .ok (.value v') w ∧ R Φ v v'

theorem binI_ok {op : BinOp} {k : IntKind} {a b : Int} {v : AV} (t : TypeId) (hs : isShift op = false) (h : binI op k a b = some v) :
    ∃ v', (binOp op t (.int k a) (.int k b)).run c.P w = .ok v' w ∧ R Φ v v' := by
  cases op <;> simp [isShift] at hs <;> simp only [binI] at h <;> first
    | (simp only [Option.some.injEq] at h; subst h; exact ⟨_, by simp [binOp, Op.intArith, Op.intCmp]; rfl, by simp only [R]⟩)
    | (split at h
       · simp at h
       · rename_i hb
         simp only [Option.some.injEq] at h; subst h
         exact ⟨_, by simp [binOp, Op.intDiv, hb]; rfl, by simp only [R]⟩)
    | (simp only [bitsA, Option.some.injEq] at h; subst h; exact ⟨_, by simp only [binOp, ne_eq, not_true_eq_false, if_false, Op.intBits]; rfl, by simp only [R]⟩)

theorem shiftI_ok {op : BinOp} {k k' : IntKind} {a b : Int} {v : AV} (t : TypeId) (hs : isShift op = true) (h : shiftI op k a b = some v) :
    ∃ v', (binOp op t (.int k a) (.int k' b)).run c.P w = .ok v' w ∧ R Φ v v' := by
  unfold shiftI at h
  split at h
  · simp at h
  · rename_i hb
    cases op <;> simp [isShift] at hs <;> simp only [Option.some.injEq] at h <;> subst h
    · exact ⟨_, by simp [binOp, Op.shift, hb]; rfl, by simp only [R]⟩
    · exact ⟨_, by simp [binOp, Op.shift, hb]; rfl, by simp only [R]⟩

theorem binS_ok {op : BinOp} {x y : List UInt8} {v : AV} (t : TypeId) (h : binS op x y = some v) :
    ∃ v', (binOp op t (.string ⟨x.toArray⟩) (.string ⟨y.toArray⟩)).run c.P w = .ok v' w ∧ R Φ v v' := by
  cases op <;> simp only [binS, Option.some.injEq, reduceCtorEq] at h
  · split at h
    · rename_i hl
      simp only [Option.some.injEq] at h; subst h
      refine ⟨.string ⟨(x ++ y).toArray⟩, ?_, by simp only [R]⟩
      have hs : ¬ (((⟨x.toArray⟩ : ByteArray).size + (⟨y.toArray⟩ : ByteArray).size : Nat) : Int) > IntKind.i64.max := by
        simp [ByteArray.size, IntKind.max, IntKind.signed, IntKind.bits]; omega
      simp only [binOp, Op.stringOp]
      rw [if_neg hs]
      simp only [Sem.run_pure]
      congr 2
    · simp at h
  all_goals
    subst h
    exact ⟨_, by simp [binOp, Op.stringOp]; rfl, by simp [R]⟩

theorem binA_ok {op : BinOp} {a b v : AV} {x y : Value} (t : TypeId) (ha : R Φ a x) (hb : R Φ b y) (h : binA op a b = some v) :
    ∃ v', (binOp op t x y).run c.P w = .ok v' w ∧ R Φ v v' := by
  unfold binA at h
  split at h
  · rename_i k m k' n
    simp only [R] at ha hb; subst ha; subst hb
    split at h
    · rename_i hs; exact shiftI_ok t hs h
    · rename_i hs
      split at h
      · rename_i hk; subst hk; exact binI_ok t (by simpa using hs) h
      · simp at h
  · simp only [R] at ha hb; subst ha; subst hb
    exact binS_ok t h
  · simp at h

theorem eqGuard_plain {op : BinOp} (t : TypeId) (x y : Operand) (a b : Value) (h : ∀ u v, ¬ (a = .nilIface ∧ b = .nilIface) ∧ ¬ (a = .agg u ∧ b = .agg v)) :
    (eqGuard op t x y a b).run c.P w = .ok () w := by
  unfold eqGuard
  cases op <;> first
    | rfl
    | (cases a <;> cases b <;> first
        | rfl
        | (exact absurd ⟨rfl, rfl⟩ (h #[] #[]).1)
        | (exact absurd ⟨rfl, rfl⟩ (h _ _).2))

theorem bin_ok (H : HO c env vals Φ ρ) {op : BinOp} {x y : Operand} {a b : Opd} {v : AV} (t yt : TypeId) (o : Oper) (ho : o.op = .binOp op t x y yt)
    (hx : trOpd c x = some a) (hy : trOpd c y = some b) (hv : aPure env vals (.bin op a b) = some v) : Yields c Φ ρ w o v := by
  simp only [aPure] at hv
  split at hv
  · rename_i u u' hu hu'
    have h1 := H _ _ _ hx hu
    have h2 := H _ _ _ hy hu'
    obtain ⟨v', hr, hR⟩ := binA_ok (c := c) (w := w) t h1 h2 hv
    refine ⟨v', ?_, hR⟩
    have hg : (eqGuard op t x y (ρ x) (ρ y)).run c.P w = .ok () w := by
      refine eqGuard_plain t x y _ _ fun p q => ?_
      unfold binA at hv
      split at hv
      · simp only [R] at h1; rw [h1]; simp
      · simp only [R] at h1; rw [h1]; simp
      · simp at hv
    simp [execOp, ho, hg, hr]
  · simp at hv

end
end Go.Am
