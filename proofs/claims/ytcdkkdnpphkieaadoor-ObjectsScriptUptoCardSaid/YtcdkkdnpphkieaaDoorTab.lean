/- The table of functions of this translation. -/
import Derived.Test.YtcdkkdnpphkieaaDoorFns
import Derived.Test.YtcdkkdnpphkieaaDoorAaNum
import Derived.Test.YtcdkkdnpphkieaaDoorAbClosed
namespace Go.Ab

theorem prims_lookup {P : Program} : ∀ {l : List (Nat × (List AV → S → Option (AV × S)))}, (∀ x ∈ l, PrimOk P x.1 x.2) → ∀ f p, l.lookup f = some p → PrimOk P f p
  | [], _, f, p, h => by cases h
  | (i, q) :: l, hl, f, p, h => by
    simp only [List.lookup] at h
    split at h
    · rename_i he
      have he' : f = i := by simpa using he
      subst he'
      simp only [Option.some.injEq] at h
      subst h
      exact hl (f, q) (by simp)
    · exact prims_lookup (fun x hx => hl x (by simp [hx])) f p h

/-- The methods of the one service. -/
def meths : TypeId → String → Option FuncId := fun t m => if t = 71 then (if m = "Need" then some 54 else if m = "Do" then some 55 else if m = "Gone" then some 53 else none) else none
theorem meth_need (v : Value) (w : World) : (method (Go.Proofs.Tryd.prog.types.size + Made.depth) 71 v "Need").run Go.Proofs.Tryd.prog w = .ok (54, v) w := by kernel_rfl
theorem meth_do (v : Value) (w : World) : (method (Go.Proofs.Tryd.prog.types.size + Made.depth) 71 v "Do").run Go.Proofs.Tryd.prog w = .ok (55, v) w := by kernel_rfl
theorem meth_gone (v : Value) (w : World) : (method (Go.Proofs.Tryd.prog.types.size + Made.depth) 71 v "Gone").run Go.Proofs.Tryd.prog w = .ok (53, v) w := by kernel_rfl
theorem meths_ok : ∀ t m f, meths t m = some f → ∀ v w, (method (Go.Proofs.Tryd.prog.types.size + Made.depth) t v m).run Go.Proofs.Tryd.prog w = .ok (f, v) w := by
  intro t m f h v w
  unfold meths at h
  split at h
  · rename_i ht
    subst ht
    split at h
    · rename_i hm; subst hm; cases h; exact meth_need v w
    · split at h
      · rename_i hm; subst hm; cases h; exact meth_do v w
      · split at h
        · rename_i hm; subst hm; cases h; exact meth_gone v w
        · cases h
  · cases h

noncomputable def prims0 : List (Nat × (List AV → S → Option (AV × S))) := [(22, numPrim)]
theorem prims0_ok : ∀ f p, prims0.lookup f = some p → PrimOk Go.Proofs.Tryd.prog f p :=
  prims_lookup fun x hx => by
    simp only [prims0, List.mem_cons, List.not_mem_nil, or_false] at hx
    rcases hx with rfl
    exact numPrim_ok

noncomputable def tab0 : Tab := ⟨fun f => pfs.lookup f, fun f => prims0.lookup f, meths⟩
theorem tab0_ok : TabOk Go.Proofs.Tryd.prog tab0 := ⟨by kernel_rfl, pfs_ok, prims0_ok, meths_ok⟩

theorem awake23 : (evFn tab0 150 12 [] ⟨0, .leaf⟩).map (·.1) = some (.bool true) := by kernel_rfl
theorem awake24 : (evFn tab0 150 29 [] ⟨0, .leaf⟩).map (·.1) = some (.bool true) := by kernel_rfl

noncomputable def prims : List (Nat × (List AV → S → Option (AV × S))) := [(22, numPrim), (12, closedPrim [] (.bool true)), (29, closedPrim [] (.bool true))]
theorem prims_ok : ∀ f p, prims.lookup f = some p → PrimOk Go.Proofs.Tryd.prog f p :=
  prims_lookup fun x hx => by
    simp only [prims, List.mem_cons, List.not_mem_nil, or_false] at hx
    rcases hx with rfl | rfl | rfl
    · exact numPrim_ok
    · exact closed_ok tab0_ok rfl rfl awake23
    · exact closed_ok tab0_ok rfl rfl awake24
noncomputable def tab : Tab := ⟨fun f => pfs.lookup f, fun f => prims.lookup f, meths⟩
theorem tab_ok : TabOk Go.Proofs.Tryd.prog tab := ⟨by kernel_rfl, pfs_ok, prims_ok, meths_ok⟩
end Go.Ab
