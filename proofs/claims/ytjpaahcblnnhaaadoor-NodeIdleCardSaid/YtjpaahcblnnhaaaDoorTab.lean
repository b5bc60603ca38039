/- The table of functions of this translation. -/
import Derived.Test.YtjpaahcblnnhaaaDoorFns
import Derived.Test.YtjpaahcblnnhaaaDoorAaNum
import Derived.Test.YtjpaahcblnnhaaaDoorAbClosed
namespace Go.Ab

theorem prims_lookup {P : Program} : ∀ {l : List (Nat × (List AV → S → Option (AV × S)))}, (∀ x ∈ l, PrimOk P x.1 x.2) → ∀ f p, l.lookup f = some p → PrimOk P f p
  | [], _, f, p, h => by cases h
  | (i, q) :: l, hl, f, p, h => by
    simp only [List.lookup] at h
    split at h
    · rename_i he
      have he' : f = i := by simpa using he
      subst he'
      simp only [Option.some.injEq] at h
      subst h
      exact hl (f, q) (by simp)
    · exact prims_lookup (fun x hx => hl x (by simp [hx])) f p h

/-- No method is called by an interface. -/
def meths : TypeId → String → Option FuncId := fun _ _ => none
theorem meths_ok : ∀ t m f, meths t m = some f → ∀ v w, (method (Go.Proofs.Tryd.prog.types.size + Made.depth) t v m).run Go.Proofs.Tryd.prog w = .ok (f, v) w := fun _ _ _ h => by cases h

noncomputable def prims0 : List (Nat × (List AV → S → Option (AV × S))) := [(17, numPrim)]
theorem prims0_ok : ∀ f p, prims0.lookup f = some p → PrimOk Go.Proofs.Tryd.prog f p :=
  prims_lookup fun x hx => by
    simp only [prims0, List.mem_cons, List.not_mem_nil, or_false] at hx
    rcases hx with rfl
    exact numPrim_ok

noncomputable def tab0 : Tab := ⟨fun f => pfs.lookup f, fun f => prims0.lookup f, meths⟩
theorem tab0_ok : TabOk Go.Proofs.Tryd.prog tab0 := ⟨by kernel_rfl, pfs_ok, prims0_ok, meths_ok⟩

theorem awake29 : (evFn tab0 150 5 [] ⟨0, .leaf⟩).map (·.1) = some (.bool true) := by kernel_rfl

noncomputable def prims : List (Nat × (List AV → S → Option (AV × S))) := [(17, numPrim), (5, closedPrim [] (.bool true))]
theorem prims_ok : ∀ f p, prims.lookup f = some p → PrimOk Go.Proofs.Tryd.prog f p :=
  prims_lookup fun x hx => by
    simp only [prims, List.mem_cons, List.not_mem_nil, or_false] at hx
    rcases hx with rfl | rfl
    · exact numPrim_ok
    · exact closed_ok tab0_ok rfl rfl awake29
noncomputable def tab : Tab := ⟨fun f => pfs.lookup f, fun f => prims.lookup f, meths⟩
theorem tab_ok : TabOk Go.Proofs.Tryd.prog tab := ⟨by kernel_rfl, pfs_ok, prims_ok, meths_ok⟩
end Go.Ab
