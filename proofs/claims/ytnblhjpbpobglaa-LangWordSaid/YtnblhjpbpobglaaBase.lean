/- The oracles of this program, and shown(). -/
import Derived.Test.YtnblhjpbpobglaaLay
import Derived.Test.YtnblhjpbpobglaaAmX
import Derived.Test.YtnblhjpbpobglaaAmZA
set_option maxRecDepth 100000
namespace Go.Proofs.Ytnblhjpbpobglaa
open Go.Am

def orc : Nat → Option (List AV → AHeap → Option (AV × AHeap))
  | 60 => some orcSort
  | 71 => some (orcGrow 1 8)
  | _ => none

theorem orc_ok : OrcOk Try.prog orc := by
  intro f g h
  unfold orc at h
  split at h <;> simp only [Option.some.injEq, reduceCtorEq] at h <;> subst h
  · exact sort_sound Try.lays189 ⟨Try.f60, Try.func60, rfl, by decide⟩
  · exact grow_sound (z0 := [.int .i64 0]) Try.growI ⟨Try.f71, Try.func71, rfl, by decide⟩ (by kernel_rfl) (by kernel_rfl) (by kernel_rfl)

theorem shown_run : (aCall prog orc 300 10 [] []).map (fun p => AV.same p.1 (.bool true)) = some true := by decide +kernel

theorem same_true : ∀ {o : Option (AV × AHeap)}, o.map (fun p => AV.same p.1 (.bool true)) = some true → ∃ H, o = some (.bool true, H)
  | none, h => by simp at h
  | some (v, H), h => ⟨H, by
      simp only [Option.map_some, Option.some.injEq] at h
      rw [AV.same_eq _ _ h]⟩

/-- The oracles, shown() among them. -/
def orc1 : Nat → Option (List AV → AHeap → Option (AV × AHeap))
  | 10 => some (orcClosed true)
  | 60 => some orcSort
  | 71 => some (orcGrow 1 8)
  | _ => none

theorem orc1_ok : OrcOk Try.prog orc1 := by
  intro f g h
  unfold orc1 at h
  split at h <;> simp only [Option.some.injEq, reduceCtorEq] at h <;> subst h
  · obtain ⟨H, hH⟩ := same_true shown_run
    exact closed_sound (call_sound prog_ok orc_ok 300) hH
  · exact orc_ok 60 _ rfl
  · exact orc_ok 71 _ rfl

abbrev P0 : Prg := ⟨prog, orc1⟩

theorem sound : ∀ n, CallSound Try.prog (aCall prog orc1 n) := call_sound prog_ok orc1_ok
end Go.Proofs.Ytnblhjpbpobglaa
