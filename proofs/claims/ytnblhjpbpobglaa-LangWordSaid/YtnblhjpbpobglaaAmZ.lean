/- The rules of AmY in the form in which simp runs through a text by itself. What comes behind an operation is kept as data (kSeq, kBlock, kOp ..), so that it is not looked at before the operation is done. -/
import Derived.Test.YtnblhjpbpobglaaAmY
namespace Go.Am

abbrev KC := AExit → List AV → AHeap → Prop
abbrev KO := List AV → AHeap → Prop

def bindV {α : Type} (o : Option α) (K : α → Prop) : Prop := match o with
  | some v => K v
  | none => False
theorem bindV_some {α : Type} (v : α) (K : α → Prop) : bindV (some v) K = K v := rfl
theorem bindV_none {α : Type} (K : α → Prop) : bindV (none : Option α) K = False := rfl
theorem bindV_ite {α : Type} (c : Prop) [Decidable c] (o : Option α) (K : α → Prop) : bindV (if c then o else none) K = (c ∧ bindV o K) := by
  by_cases h : c <;> simp [h, bindV]
theorem bindV_ite' {α : Type} (c : Prop) [Decidable c] (o : Option α) (K : α → Prop) : bindV (if c then none else o) K = (¬ c ∧ bindV o K) := by
  by_cases h : c <;> simp [h, bindV]
theorem bindV_iff {α : Type} {o : Option α} {K : α → Prop} : bindV o K ↔ ∃ v, o = some v ∧ K v := by
  cases o <;> simp [bindV]

/-- Behind an operation that leaves the heap. -/
def kOp (p : Prg) (all : List AOper) (env : List AV) (r : List AOper) (vals env' : List AV) (dst : Option Nat) (H : AHeap) (K : KO) : AV → Prop :=
  fun v => XO p all env r (snoc vals v) (put env' dst v) H K
/-- Behind an operation that makes a block. -/
def kNew (p : Prg) (all : List AOper) (env : List AV) (r : List AOper) (vals env' : List AV) (dst : Option Nat) (H : AHeap) (K : KO) : ((Nat → AV) × Blk) → Prop :=
  fun q => XO p all env r (snoc vals (q.1 H.length)) (put env' dst (q.1 H.length)) (H ++ [some q.2]) K
/-- Behind an operation that changes the heap. -/
def kEff (p : Prg) (all : List AOper) (env : List AV) (r : List AOper) (vals env' : List AV) (dst : Option Nat) (K : KO) : (AV × AHeap) → Prop :=
  fun q => XO p all env r (snoc vals q.1) (put env' dst q.1) q.2 K
/-- .. where reads ahead of it are looked at again. -/
def kEffA (p : Prg) (all : List AOper) (env : List AV) (r : List AOper) (vals env' : List AV) (dst : Option Nat) (aft : List Nat) (K : KO) : (AV × AHeap) → Prop :=
  fun q => aft.all (sameAt all env vals q.2) = true ∧ XO p all env r (snoc vals q.1) (put env' dst q.1) q.2 K
/-- Behind a call. -/
def kCall (p : Prg) (all : List AOper) (env : List AV) (r : List AOper) (vals env' : List AV) (dst : Option Nat) (K : KO) : AV → AHeap → Prop :=
  fun v H1 => XO p all env r (snoc vals v) (put env' dst v) H1 K
/-- The call itself, its arguments being there. -/
def kArgs (p : Prg) (f : Nat) (H : AHeap) (K : AV → AHeap → Prop) : List AV → Prop := fun ys => WF p f ys H K
/-- Behind a region. -/
def kReg (K : KC) : KO := fun e H => K .normal e H
def kSeq (p : Prg) (b : ACode) (K : KC) : KC := fun e env H => match e with
  | .normal => WC p b env H K
  | e => K e env H
def kBlock (id : Nat) (K : KC) : KC := fun e env H => match e with
  | .exit i => if i = id then K .normal env H else K (.exit i) env H
  | e => K e env H
/-- Behind a function's text. -/
def kFun (res : List ResA) (K : AV → AHeap → Prop) : KC := fun e env H => match e with
  | .exit _ => False
  | _ => bindV (aRes env H res) fun vs => K (single vs) H

def onB (o : Option AV) (p : Prg) (a b : ACode) (env : List AV) (H : AHeap) (K : KC) : Prop := match o with
  | some (.bool t) => (t = true → WC p a env H K) ∧ (t = false → WC p b env H K)
  | _ => False
/-- Behind a guard. -/
def onG (o : Option Bool) (p : Prg) (all : List AOper) (env : List AV) (op : AOp) (dst : Option Nat) (r : List AOper) (vals env' : List AV) (H : AHeap) (K : KO) : Prop := match o with
  | some t => (t = true → XO p all env ({ op := op, dst := dst } :: r) vals env' H K) ∧ (t = false → XO p all env r (snoc vals (.tup [])) (put env' dst (.tup [])) H K)
  | none => False

section
variable {p : Prg} {all : List AOper} {env vals env' : List AV} {H : AHeap} {K : KO} {r : List AOper} {op : AOp} {dst : Option Nat}

theorem zXO_nil : XO p all env [] vals env' H K = K env' H := propext XO_nil
theorem zXO_pure (hc : op.cls = .pure) : XO p all env ({ op := op, dst := dst } :: r) vals env' H K = bindV (aPure env vals op) (kOp p all env r vals env' dst H K) :=
  propext ((XO_pure hc).trans bindV_iff.symm)
theorem zXO_read (hc : op.cls = .read) : XO p all env ({ op := op, dst := dst } :: r) vals env' H K = bindV (aRead env vals H op) (kOp p all env r vals env' dst H K) :=
  propext ((XO_read hc).trans bindV_iff.symm)
theorem zXO_new (hc : op.cls = .new) : XO p all env ({ op := op, dst := dst } :: r) vals env' H K = bindV (aNew env vals op) (kNew p all env r vals env' dst H K) :=
  propext ((XO_new hc).trans bindV_iff.symm)
theorem zXO_eff (hc : op.plainEff = true) : XO p all env ({ op := op, dst := dst } :: r) vals env' H K = bindV (aEff noCall env vals H op) (kEff p all env r vals env' dst K) := by
  refine propext ((XO_eff hc).trans ?_)
  rw [bindV_iff]
  simp [kEff]
theorem zXO_effA {j : Nat} {js : List Nat} (hc : op.plainEff = true) : XO p all env ({ op := op, dst := dst, aft := j :: js } :: r) vals env' H K = bindV (aEff noCall env vals H op) (kEffA p all env r vals env' dst (j :: js) K) := by
  refine propext ((XO_eff hc).trans ?_)
  rw [bindV_iff]
  simp [kEffA]
theorem kEffA_at {aft : List Nat} (q : AV × AHeap) : kEffA p all env r vals env' dst aft K q = (aft.all (sameAt all env vals q.2) = true ∧ XO p all env r (snoc vals q.1) (put env' dst q.1) q.2 K) := rfl
theorem zXO_call {f : Nat} {xs : List Opd} : XO p all env ({ op := .call f xs, dst := dst } :: r) vals env' H K = bindV (avals env vals xs) (kArgs p f H (kCall p all env r vals env' dst K)) := by
  refine propext (XO_call.trans ?_)
  rw [bindV_iff]
  simp [kArgs, kCall, WF]
theorem zXO_guard {g : Nat × Bool} : XO p all env ({ op := op, dst := dst, guard := some g } :: r) vals env' H K = onG (wantedA vals (some g)) p all env op dst r vals env' H K := by
  refine propext (XO_guard.trans ?_)
  unfold onG
  cases wantedA vals (some g) <;> simp

theorem kOp_at (v : AV) : kOp p all env r vals env' dst H K v = XO p all env r (snoc vals v) (put env' dst v) H K := rfl
theorem kNew_at (q : (Nat → AV) × Blk) : kNew p all env r vals env' dst H K q = XO p all env r (snoc vals (q.1 H.length)) (put env' dst (q.1 H.length)) (H ++ [some q.2]) K := rfl
theorem kEff_at (q : AV × AHeap) : kEff p all env r vals env' dst K q = XO p all env r (snoc vals q.1) (put env' dst q.1) q.2 K := rfl
theorem kCall_at (v : AV) (H1 : AHeap) : kCall p all env r vals env' dst K v H1 = XO p all env r (snoc vals v) (put env' dst v) H1 K := rfl
theorem kArgs_at {f : Nat} {K : AV → AHeap → Prop} (ys : List AV) : kArgs p f H K ys = WF p f ys H K := rfl
theorem onG_true : onG (some true) p all env op dst r vals env' H K = XO p all env ({ op := op, dst := dst } :: r) vals env' H K := by simp [onG]
theorem onG_false : onG (some false) p all env op dst r vals env' H K = XO p all env r (snoc vals (.tup [])) (put env' dst (.tup [])) H K := by simp [onG]
theorem onG_bool (t : Bool) : onG (some t) p all env op dst r vals env' H K =
    ((t = true → XO p all env ({ op := op, dst := dst } :: r) vals env' H K) ∧ (t = false → XO p all env r (snoc vals (.tup [])) (put env' dst (.tup [])) H K)) := rfl
end

section
variable {p : Prg} {env : List AV} {H : AHeap} {K : KC} {a b c : ACode}

theorem zWC_region {ops : List AOper} (hb : ops.all (fun o => o.bef.isEmpty) = true) : WC p (.region ops) env H K = XO p ops env ops [] env H (kReg K) := by
  refine propext ⟨?_, fun h => WC_region h⟩
  rintro ⟨m, n, e, eF, HF, h1, h2⟩
  cases n with
  | zero => simp [aCode] at h1
  | succ n =>
    simp only [aCode] at h1
    split at h1 <;> simp only [Option.some.injEq, Prod.mk.injEq, reduceCtorEq] at h1
    rename_i e1 H1 h3
    obtain ⟨rfl, rfl, rfl⟩ := h1
    refine ⟨fun o ho => ?_, m, _, _, h3, h2⟩
    have := List.all_eq_true.1 hb o ho
    simpa using this
theorem kReg_at (e : List AV) : kReg K e H = K .normal e H := rfl
theorem zWC_seq : WC p (.seq a b) env H K = WC p a env H (kSeq p b K) := by
  refine propext (WC_seq.trans ?_)
  have : (fun (e : AExit) (env' : List AV) (H' : AHeap) => (e = .normal → WC p b env' H' K) ∧ (e ≠ .normal → K e env' H')) = kSeq p b K := by
    funext e env' H'
    cases e <;> simp [kSeq]
  rw [this]
theorem kSeq_normal : kSeq p b K .normal env H = WC p b env H K := rfl
theorem kSeq_ret : kSeq p b K .ret env H = K .ret env H := rfl
theorem kSeq_exit (i : Nat) : kSeq p b K (.exit i) env H = K (.exit i) env H := rfl
theorem zWC_skip : WC p .skip env H K = K .normal env H := propext WC_skip
theorem zWC_exit {id : Nat} : WC p (.exit id) env H K = K (.exit id) env H := propext WC_exit
theorem zWC_ret : WC p .ret env H K = K .ret env H := propext WC_ret
theorem zWC_cond {x : Opd} : WC p (.cond x a b) env H K = onB (aval env [] x) p a b env H K := by
  refine propext (WC_cond.trans ?_)
  unfold onB
  constructor
  · rintro ⟨t, h, h1⟩; rw [h]; exact h1
  · intro h
    split at h
    · rename_i t ht; exact ⟨t, ht, h⟩
    · exact h.elim
theorem onB_true : onB (some (.bool true)) p a b env H K = WC p a env H K := by simp [onB]
theorem onB_false : onB (some (.bool false)) p a b env H K = WC p b env H K := by simp [onB]
theorem onB_bool (t : Bool) : onB (some (.bool t)) p a b env H K = ((t = true → WC p a env H K) ∧ (t = false → WC p b env H K)) := rfl
theorem zWC_block {id : Nat} : WC p (.block id a) env H K = WC p a env H (kBlock id K) := by
  refine propext (WC_block.trans ?_)
  have : (fun (e : AExit) (env' : List AV) (H' : AHeap) => (e = .exit id → K .normal env' H') ∧ (e ≠ .exit id → K e env' H')) = kBlock id K := by
    funext e env' H'
    cases e with
    | exit i => by_cases h : i = id <;> simp [kBlock, h]
    | _ => simp [kBlock]
  rw [this]
theorem kBlock_normal (id : Nat) : kBlock id K .normal env H = K .normal env H := rfl
theorem kBlock_ret (id : Nat) : kBlock id K .ret env H = K .ret env H := rfl
theorem kBlock_exit (id i : Nat) : kBlock id K (.exit i) env H = if i = id then K .normal env H else K (.exit i) env H := rfl
theorem kFun_normal (res : List ResA) (K : AV → AHeap → Prop) : kFun res K .normal env H = bindV (aRes env H res) fun vs => K (single vs) H := rfl
theorem kFun_ret (res : List ResA) (K : AV → AHeap → Prop) : kFun res K .ret env H = bindV (aRes env H res) fun vs => K (single vs) H := rfl

theorem zWF {f : Nat} {fn : AFun} {xs : List AV} {K : AV → AHeap → Prop} (ho : p.orc f = none) (hp : p.prog f = some fn) (hl : xs.length = fn.nargs)
    (h : WC p fn.body (env0 fn.ps xs) H (kFun fn.res K)) : WF p f xs H K :=
  WF_fun ho hp hl (h.mono fun e env' H' hk => by
    cases e <;> simp only [kFun] at hk
    · exact ⟨.inl rfl, bindV_iff.1 hk⟩
    · exact ⟨.inr rfl, bindV_iff.1 hk⟩)
end

section
variable {p : Prg} {all : List AOper} {env vals env' : List AV} {H : AHeap} {K : KO} {r : List AOper} {dst : Option Nat}
theorem z_mov {a0} : XO p all env ({ op := (.mov a0), dst := dst } :: r) vals env' H K = bindV (aPure env vals (.mov a0)) (kOp p all env r vals env' dst H K) := zXO_pure rfl
theorem z_pick {a0} {a1} {a2} : XO p all env ({ op := (.pick a0 a1 a2), dst := dst } :: r) vals env' H K = bindV (aPure env vals (.pick a0 a1 a2)) (kOp p all env r vals env' dst H K) := zXO_pure rfl
theorem z_build {a0} {a1} : XO p all env ({ op := (.build a0 a1), dst := dst } :: r) vals env' H K = bindV (aPure env vals (.build a0 a1)) (kOp p all env r vals env' dst H K) := zXO_pure rfl
theorem z_nilchk {a0} : XO p all env ({ op := (.nilchk a0), dst := dst } :: r) vals env' H K = bindV (aPure env vals (.nilchk a0)) (kOp p all env r vals env' dst H K) := zXO_pure rfl
theorem z_bin {a0} {a1} {a2} : XO p all env ({ op := (.bin a0 a1 a2), dst := dst } :: r) vals env' H K = bindV (aPure env vals (.bin a0 a1 a2)) (kOp p all env r vals env' dst H K) := zXO_pure rfl
theorem z_eqs {a0} {a1} {a2} {a3} {a4} : XO p all env ({ op := (.eqs a0 a1 a2 a3 a4), dst := dst } :: r) vals env' H K = bindV (aPure env vals (.eqs a0 a1 a2 a3 a4)) (kOp p all env r vals env' dst H K) := zXO_pure rfl
theorem z_eqnil {a0} {a1} {a2} {a3} : XO p all env ({ op := (.eqnil a0 a1 a2 a3), dst := dst } :: r) vals env' H K = bindV (aPure env vals (.eqnil a0 a1 a2 a3)) (kOp p all env r vals env' dst H K) := zXO_pure rfl
theorem z_un {a0} {a1} : XO p all env ({ op := (.un a0 a1), dst := dst } :: r) vals env' H K = bindV (aPure env vals (.un a0 a1)) (kOp p all env r vals env' dst H K) := zXO_pure rfl
theorem z_conv {a0} {a1} : XO p all env ({ op := (.conv a0 a1), dst := dst } :: r) vals env' H K = bindV (aPure env vals (.conv a0 a1)) (kOp p all env r vals env' dst H K) := zXO_pure rfl
theorem z_str2str {a0} : XO p all env ({ op := (.str2str a0), dst := dst } :: r) vals env' H K = bindV (aPure env vals (.str2str a0)) (kOp p all env r vals env' dst H K) := zXO_pure rfl
theorem z_iface {a0} {a1} : XO p all env ({ op := (.iface a0 a1), dst := dst } :: r) vals env' H K = bindV (aPure env vals (.iface a0 a1)) (kOp p all env r vals env' dst H K) := zXO_pure rfl
theorem z_func {a0} {a1} {a2} : XO p all env ({ op := (.func a0 a1 a2), dst := dst } :: r) vals env' H K = bindV (aPure env vals (.func a0 a1 a2)) (kOp p all env r vals env' dst H K) := zXO_pure rfl
theorem z_slstr {a0} {a1} {a2} : XO p all env ({ op := (.slstr a0 a1 a2), dst := dst } :: r) vals env' H K = bindV (aPure env vals (.slstr a0 a1 a2)) (kOp p all env r vals env' dst H K) := zXO_pure rfl
theorem z_faddr {a0} {a1} : XO p all env ({ op := (.faddr a0 a1), dst := dst } :: r) vals env' H K = bindV (aPure env vals (.faddr a0 a1)) (kOp p all env r vals env' dst H K) := zXO_pure rfl
theorem z_field {a0} {a1} {a2} {a3} : XO p all env ({ op := (.field a0 a1 a2 a3), dst := dst } :: r) vals env' H K = bindV (aPure env vals (.field a0 a1 a2 a3)) (kOp p all env r vals env' dst H K) := zXO_pure rfl
theorem z_iaddr {a0} {a1} {a2} : XO p all env ({ op := (.iaddr a0 a1 a2), dst := dst } :: r) vals env' H K = bindV (aPure env vals (.iaddr a0 a1 a2)) (kOp p all env r vals env' dst H K) := zXO_pure rfl
theorem z_iaddra {a0} {a1} {a2} {a3} : XO p all env ({ op := (.iaddra a0 a1 a2 a3), dst := dst } :: r) vals env' H K = bindV (aPure env vals (.iaddra a0 a1 a2 a3)) (kOp p all env r vals env' dst H K) := zXO_pure rfl
theorem z_istr {a0} {a1} : XO p all env ({ op := (.istr a0 a1), dst := dst } :: r) vals env' H K = bindV (aPure env vals (.istr a0 a1)) (kOp p all env r vals env' dst H K) := zXO_pure rfl
theorem z_iarr {a0} {a1} {a2} {a3} {a4} : XO p all env ({ op := (.iarr a0 a1 a2 a3 a4), dst := dst } :: r) vals env' H K = bindV (aPure env vals (.iarr a0 a1 a2 a3 a4)) (kOp p all env r vals env' dst H K) := zXO_pure rfl
theorem z_extract {a0} {a1} : XO p all env ({ op := (.extract a0 a1), dst := dst } :: r) vals env' H K = bindV (aPure env vals (.extract a0 a1)) (kOp p all env r vals env' dst H K) := zXO_pure rfl
theorem z_lenS {a0} : XO p all env ({ op := (.lenS a0), dst := dst } :: r) vals env' H K = bindV (aPure env vals (.lenS a0)) (kOp p all env r vals env' dst H K) := zXO_pure rfl
theorem z_lenL {a0} : XO p all env ({ op := (.lenL a0), dst := dst } :: r) vals env' H K = bindV (aPure env vals (.lenL a0)) (kOp p all env r vals env' dst H K) := zXO_pure rfl
theorem z_cap {a0} : XO p all env ({ op := (.cap a0), dst := dst } :: r) vals env' H K = bindV (aPure env vals (.cap a0)) (kOp p all env r vals env' dst H K) := zXO_pure rfl
theorem z_minmax {a0} {a1} {a2} : XO p all env ({ op := (.minmax a0 a1 a2), dst := dst } :: r) vals env' H K = bindV (aPure env vals (.minmax a0 a1 a2)) (kOp p all env r vals env' dst H K) := zXO_pure rfl
theorem z_stop : XO p all env ({ op := (.stop), dst := dst } :: r) vals env' H K = bindV (aPure env vals (.stop)) (kOp p all env r vals env' dst H K) := zXO_pure rfl
theorem z_load {a0} {a1} {a2} : XO p all env ({ op := (.load a0 a1 a2), dst := dst } :: r) vals env' H K = bindV (aRead env vals H (.load a0 a1 a2)) (kOp p all env r vals env' dst H K) := zXO_read rfl
theorem z_lookup {a0} {a1} {a2} {a3} {a4} : XO p all env ({ op := (.lookup a0 a1 a2 a3 a4), dst := dst } :: r) vals env' H K = bindV (aRead env vals H (.lookup a0 a1 a2 a3 a4)) (kOp p all env r vals env' dst H K) := zXO_read rfl
theorem z_bytes2str {a0} : XO p all env ({ op := (.bytes2str a0), dst := dst } :: r) vals env' H K = bindV (aRead env vals H (.bytes2str a0)) (kOp p all env r vals env' dst H K) := zXO_read rfl
theorem z_slsl {a0} {a1} {a2} {a3} {a4} : XO p all env ({ op := (.slsl a0 a1 a2 a3 a4), dst := dst } :: r) vals env' H K = bindV (aRead env vals H (.slsl a0 a1 a2 a3 a4)) (kOp p all env r vals env' dst H K) := zXO_read rfl
theorem z_lenM {a0} : XO p all env ({ op := (.lenM a0), dst := dst } :: r) vals env' H K = bindV (aRead env vals H (.lenM a0)) (kOp p all env r vals env' dst H K) := zXO_read rfl
theorem z_alloc {a0} : XO p all env ({ op := (.alloc a0), dst := dst } :: r) vals env' H K = bindV (aNew env vals (.alloc a0)) (kNew p all env r vals env' dst H K) := zXO_new rfl
theorem z_box {a0} : XO p all env ({ op := (.box a0), dst := dst } :: r) vals env' H K = bindV (aNew env vals (.box a0)) (kNew p all env r vals env' dst H K) := zXO_new rfl
theorem z_mkslice {a0} {a1} {a2} {a3} : XO p all env ({ op := (.mkslice a0 a1 a2 a3), dst := dst } :: r) vals env' H K = bindV (aNew env vals (.mkslice a0 a1 a2 a3)) (kNew p all env r vals env' dst H K) := zXO_new rfl
theorem z_str2bytes {a0} : XO p all env ({ op := (.str2bytes a0), dst := dst } :: r) vals env' H K = bindV (aNew env vals (.str2bytes a0)) (kNew p all env r vals env' dst H K) := zXO_new rfl
theorem z_mkmap : XO p all env ({ op := (.mkmap), dst := dst } :: r) vals env' H K = bindV (aNew env vals (.mkmap)) (kNew p all env r vals env' dst H K) := zXO_new rfl
theorem z_make {a0} {a1} {a2} {a3} {a4} : XO p all env ({ op := (.make a0 a1 a2 a3 a4), dst := dst } :: r) vals env' H K = bindV (aNew env vals (.make a0 a1 a2 a3 a4)) (kNew p all env r vals env' dst H K) := zXO_new rfl
theorem z_store {a0} {a1} {a2} : XO p all env ({ op := (.store a0 a1 a2), dst := dst } :: r) vals env' H K = bindV (aEff noCall env vals H (.store a0 a1 a2)) (kEff p all env r vals env' dst K) := zXO_eff rfl
theorem z_append {a0} {a1} {a2} {a3} {a4} : XO p all env ({ op := (.append a0 a1 a2 a3 a4), dst := dst } :: r) vals env' H K = bindV (aEff noCall env vals H (.append a0 a1 a2 a3 a4)) (kEff p all env r vals env' dst K) := zXO_eff rfl
theorem z_copy {a0} {a1} {a2} : XO p all env ({ op := (.copy a0 a1 a2), dst := dst } :: r) vals env' H K = bindV (aEff noCall env vals H (.copy a0 a1 a2)) (kEff p all env r vals env' dst K) := zXO_eff rfl
theorem z_clear {a0} {a1} : XO p all env ({ op := (.clear a0 a1), dst := dst } :: r) vals env' H K = bindV (aEff noCall env vals H (.clear a0 a1)) (kEff p all env r vals env' dst K) := zXO_eff rfl
theorem z_mapset {a0} {a1} {a2} {a3} : XO p all env ({ op := (.mapset a0 a1 a2 a3), dst := dst } :: r) vals env' H K = bindV (aEff noCall env vals H (.mapset a0 a1 a2 a3)) (kEff p all env r vals env' dst K) := zXO_eff rfl
theorem z_delete {a0} {a1} {a2} : XO p all env ({ op := (.delete a0 a1 a2), dst := dst } :: r) vals env' H K = bindV (aEff noCall env vals H (.delete a0 a1 a2)) (kEff p all env r vals env' dst K) := zXO_eff rfl
end

theorem z_store_aft {p : Prg} {all : List AOper} {env vals env' : List AV} {H : AHeap} {K : KO} {r : List AOper} {dst : Option Nat} {a0 a1 a2 j js} :
    XO p all env ({ op := .store a0 a1 a2, dst := dst, aft := j :: js } :: r) vals env' H K = bindV (aEff noCall env vals H (.store a0 a1 a2)) (kEffA p all env r vals env' dst (j :: js) K) := zXO_effA rfl

theorem snoc_nil (v : AV) : snoc [] v = [v] := rfl
theorem snoc_cons (a : AV) (l : List AV) (v : AV) : snoc (a :: l) v = a :: snoc l v := rfl
theorem put_none (env : List AV) (v : AV) : put env none v = env := rfl
theorem put_some (env : List AV) (x : Nat) (v : AV) : put env (some x) v = env.set x v := rfl

theorem btf : (true == false) = false := rfl
theorem bft : (false == true) = false := rfl

end Go.Am
