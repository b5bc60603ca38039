/- The table of functions of this translation. -/
import Derived.Test.YtecpmilepjbaeaaFns
import Derived.Test.YtecpmilepjbaeaaAbClosed
namespace Go.Ab

noncomputable def tab0 : Tab := ⟨fun f => pfs.lookup f, fun _ => none, fun _ _ => none⟩
theorem tab0_ok : TabOk Go.Proofs.Try.prog tab0 := ⟨by kernel_rfl, pfs_ok, fun _ _ h => (by cases h), fun _ _ _ h => (by cases h)⟩

theorem awake28 : (evFn tab0 50 20 [] ⟨0, .leaf⟩).map (·.1) = some (.bool true) := by kernel_rfl

noncomputable def prims : List (Nat × (List AV → S → Option (AV × S))) := [(20, closedPrim [] (.bool true))]
noncomputable def tab : Tab := ⟨fun f => pfs.lookup f, fun f => prims.lookup f, fun _ _ => none⟩
theorem prims_ok : ∀ f p, prims.lookup f = some p → PrimOk Go.Proofs.Try.prog f p := by
  intro f p h
  simp only [prims, List.lookup] at h
  split at h
  · rename_i he
    have he' : f = 20 := by simpa using he
    subst he'
    simp only [Option.some.injEq] at h
    subst h
    exact closed_ok tab0_ok rfl rfl awake28
  · cases h
theorem tab_ok : TabOk Go.Proofs.Try.prog tab := ⟨by kernel_rfl, pfs_ok, prims_ok, fun _ _ _ h => (by cases h)⟩
end Go.Ab
