/- The table of functions of this translation. -/
import Derived.Test.YtecpmilepjbaeabDoorFns
import Derived.Test.YtecpmilepjbaeabDoorErr
import Derived.Test.YtecpmilepjbaeabDoorAaNum2
import Derived.Test.YtecpmilepjbaeabDoorAbClosed
namespace Go.Ab

theorem prims_lookup {P : Program} : ∀ {l : List (Nat × (List AV → S → Option (AV × S)))}, (∀ x ∈ l, PrimOk P x.1 x.2) → ∀ f p, l.lookup f = some p → PrimOk P f p
  | [], _, f, p, h => by cases h
  | (i, q) :: l, hl, f, p, h => by
    simp only [List.lookup] at h
    split at h
    · rename_i he
      have he' : f = i := by simpa using he
      subst he'
      simp only [Option.some.injEq] at h
      subst h
      exact hl (f, q) (by simp)
    · exact prims_lookup (fun x hx => hl x (by simp [hx])) f p h

noncomputable def prims0 : List (Nat × (List AV → S → Option (AV × S))) := [(23, isPrim), (24, numPrim2)]
theorem prims0_ok : ∀ f p, prims0.lookup f = some p → PrimOk Go.Proofs.Tryd.prog f p :=
  prims_lookup fun x hx => by
    simp only [prims0, List.mem_cons, List.not_mem_nil, or_false] at hx
    rcases hx with rfl | rfl
    · exact isPrim_ok
    · exact numPrim2_ok

noncomputable def tab0 : Tab := ⟨fun f => pfs.lookup f, fun f => prims0.lookup f, fun _ _ => none⟩
theorem tab0_ok : TabOk Go.Proofs.Tryd.prog tab0 := ⟨by kernel_rfl, pfs_ok, prims0_ok, fun _ _ _ h => (by cases h)⟩

theorem awake04 : (evFn tab0 150 7 [] ⟨0, .leaf⟩).map (·.1) = some (.bool true) := by kernel_rfl
theorem awake07 : (evFn tab0 150 12 [] ⟨0, .leaf⟩).map (·.1) = some (.bool true) := by kernel_rfl

noncomputable def prims : List (Nat × (List AV → S → Option (AV × S))) := [(23, isPrim), (24, numPrim2), (7, closedPrim [] (.bool true)), (12, closedPrim [] (.bool true))]
theorem prims_ok : ∀ f p, prims.lookup f = some p → PrimOk Go.Proofs.Tryd.prog f p :=
  prims_lookup fun x hx => by
    simp only [prims, List.mem_cons, List.not_mem_nil, or_false] at hx
    rcases hx with rfl | rfl | rfl | rfl
    · exact isPrim_ok
    · exact numPrim2_ok
    · exact closed_ok tab0_ok rfl rfl awake04
    · exact closed_ok tab0_ok rfl rfl awake07
noncomputable def tab : Tab := ⟨fun f => pfs.lookup f, fun f => prims.lookup f, fun _ _ => none⟩
theorem tab_ok : TabOk Go.Proofs.Tryd.prog tab := ⟨by kernel_rfl, pfs_ok, prims_ok, fun _ _ _ h => (by cases h)⟩
end Go.Ab
