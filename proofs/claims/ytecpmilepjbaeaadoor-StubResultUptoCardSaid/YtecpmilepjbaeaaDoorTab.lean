/- The table of functions of this translation. -/
import Derived.Test.YtecpmilepjbaeaaDoorFns
import Derived.Test.YtecpmilepjbaeaaDoorErr
import Derived.Test.YtecpmilepjbaeaaDoorAaNum
import Derived.Test.YtecpmilepjbaeaaDoorAbClosed
namespace Go.Ab

theorem prims_lookup {P : Program} : ∀ {l : List (Nat × (List AV → S → Option (AV × S)))}, (∀ x ∈ l, PrimOk P x.1 x.2) → ∀ f p, l.lookup f = some p → PrimOk P f p
  | [], _, f, p, h => by cases h
  | (i, q) :: l, hl, f, p, h => by
    simp only [List.lookup] at h
    split at h
    · rename_i he
      have he' : f = i := by simpa using he
      subst he'
      simp only [Option.some.injEq] at h
      subst h
      exact hl (f, q) (by simp)
    · exact prims_lookup (fun x hx => hl x (by simp [hx])) f p h

noncomputable def prims0 : List (Nat × (List AV → S → Option (AV × S))) := [(17, isPrim), (9, numPrim)]
theorem prims0_ok : ∀ f p, prims0.lookup f = some p → PrimOk Go.Proofs.Tryd.prog f p :=
  prims_lookup fun x hx => by
    simp only [prims0, List.mem_cons, List.not_mem_nil, or_false] at hx
    rcases hx with rfl | rfl
    · exact isPrim_ok
    · exact numPrim_ok

noncomputable def tab0 : Tab := ⟨fun f => pfs.lookup f, fun f => prims0.lookup f, fun _ _ => none⟩
theorem tab0_ok : TabOk Go.Proofs.Tryd.prog tab0 := ⟨by kernel_rfl, pfs_ok, prims0_ok, fun _ _ _ h => (by cases h)⟩

theorem awake28 : (evFn tab0 150 10 [] ⟨0, .leaf⟩).map (·.1) = some (.bool true) := by kernel_rfl
theorem awake08 : (evFn tab0 150 5 [] ⟨0, .leaf⟩).map (·.1) = some (.bool true) := by kernel_rfl

noncomputable def prims : List (Nat × (List AV → S → Option (AV × S))) := [(17, isPrim), (9, numPrim), (10, closedPrim [] (.bool true)), (5, closedPrim [] (.bool true))]
theorem prims_ok : ∀ f p, prims.lookup f = some p → PrimOk Go.Proofs.Tryd.prog f p :=
  prims_lookup fun x hx => by
    simp only [prims, List.mem_cons, List.not_mem_nil, or_false] at hx
    rcases hx with rfl | rfl | rfl | rfl
    · exact isPrim_ok
    · exact numPrim_ok
    · exact closed_ok tab0_ok rfl rfl awake28
    · exact closed_ok tab0_ok rfl rfl awake08
noncomputable def tab : Tab := ⟨fun f => pfs.lookup f, fun f => prims.lookup f, fun _ _ => none⟩
theorem tab_ok : TabOk Go.Proofs.Tryd.prog tab := ⟨by kernel_rfl, pfs_ok, prims_ok, fun _ _ _ h => (by cases h)⟩
end Go.Ab
