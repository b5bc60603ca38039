/- The table of functions of this translation. -/
import Derived.Test.YtekkglhoeaipbaaDoorFns
import Derived.Test.YtekkglhoeaipbaaDoorAaNum
import Derived.Test.YtekkglhoeaipbaaDoorAbClosed
namespace Go.Ab

theorem prims_lookup {P : Program} : ∀ {l : List (Nat × (List AV → S → Option (AV × S)))}, (∀ x ∈ l, PrimOk P x.1 x.2) → ∀ f p, l.lookup f = some p → PrimOk P f p
  | [], _, f, p, h => by cases h
  | (i, q) :: l, hl, f, p, h => by
    simp only [List.lookup] at h
    split at h
    · rename_i he
      have he' : f = i := by simpa using he
      subst he'
      simp only [Option.some.injEq] at h
      subst h
      exact hl (f, q) (by simp)
    · exact prims_lookup (fun x hx => hl x (by simp [hx])) f p h

/-- The methods of the services. -/
def meths : TypeId → String → Option FuncId := fun t m => if t = 106 then (if m = "Need" then some 127 else if m = "Do" then some 125 else if m = "Gone" then some 126 else none) else if t = 141 then (if m = "Need" then some 132 else if m = "Do" then some 130 else if m = "Gone" then some 131 else none) else if t = 148 then (if m = "Need" then some 137 else if m = "Do" then some 135 else if m = "Gone" then some 136 else none) else none
theorem meth_memoryNeed (v : Value) (w : World) : (method (Go.Proofs.Tryd.prog.types.size + Made.depth) 106 v "Need").run Go.Proofs.Tryd.prog w = .ok (127, v) w := by kernel_rfl
theorem meth_memoryDo (v : Value) (w : World) : (method (Go.Proofs.Tryd.prog.types.size + Made.depth) 106 v "Do").run Go.Proofs.Tryd.prog w = .ok (125, v) w := by kernel_rfl
theorem meth_memoryGone (v : Value) (w : World) : (method (Go.Proofs.Tryd.prog.types.size + Made.depth) 106 v "Gone").run Go.Proofs.Tryd.prog w = .ok (126, v) w := by kernel_rfl
theorem meth_fileNeed (v : Value) (w : World) : (method (Go.Proofs.Tryd.prog.types.size + Made.depth) 141 v "Need").run Go.Proofs.Tryd.prog w = .ok (132, v) w := by kernel_rfl
theorem meth_fileDo (v : Value) (w : World) : (method (Go.Proofs.Tryd.prog.types.size + Made.depth) 141 v "Do").run Go.Proofs.Tryd.prog w = .ok (130, v) w := by kernel_rfl
theorem meth_fileGone (v : Value) (w : World) : (method (Go.Proofs.Tryd.prog.types.size + Made.depth) 141 v "Gone").run Go.Proofs.Tryd.prog w = .ok (131, v) w := by kernel_rfl
theorem meth_directoryNeed (v : Value) (w : World) : (method (Go.Proofs.Tryd.prog.types.size + Made.depth) 148 v "Need").run Go.Proofs.Tryd.prog w = .ok (137, v) w := by kernel_rfl
theorem meth_directoryDo (v : Value) (w : World) : (method (Go.Proofs.Tryd.prog.types.size + Made.depth) 148 v "Do").run Go.Proofs.Tryd.prog w = .ok (135, v) w := by kernel_rfl
theorem meth_directoryGone (v : Value) (w : World) : (method (Go.Proofs.Tryd.prog.types.size + Made.depth) 148 v "Gone").run Go.Proofs.Tryd.prog w = .ok (136, v) w := by kernel_rfl
theorem meths_ok : ∀ t m f, meths t m = some f → ∀ v w, (method (Go.Proofs.Tryd.prog.types.size + Made.depth) t v m).run Go.Proofs.Tryd.prog w = .ok (f, v) w := by
  intro t m f h v w
  unfold meths at h
  split at h
  · rename_i ht; subst ht
    split at h
    · rename_i hm; subst hm; cases h; exact meth_memoryNeed v w
    split at h
    · rename_i hm; subst hm; cases h; exact meth_memoryDo v w
    split at h
    · rename_i hm; subst hm; cases h; exact meth_memoryGone v w
    cases h
  split at h
  · rename_i ht; subst ht
    split at h
    · rename_i hm; subst hm; cases h; exact meth_fileNeed v w
    split at h
    · rename_i hm; subst hm; cases h; exact meth_fileDo v w
    split at h
    · rename_i hm; subst hm; cases h; exact meth_fileGone v w
    cases h
  split at h
  · rename_i ht; subst ht
    split at h
    · rename_i hm; subst hm; cases h; exact meth_directoryNeed v w
    split at h
    · rename_i hm; subst hm; cases h; exact meth_directoryDo v w
    split at h
    · rename_i hm; subst hm; cases h; exact meth_directoryGone v w
    cases h
  cases h

noncomputable def prims0 : List (Nat × (List AV → S → Option (AV × S))) := [(20, numPrim)]
theorem prims0_ok : ∀ f p, prims0.lookup f = some p → PrimOk Go.Proofs.Tryd.prog f p :=
  prims_lookup fun x hx => by
    simp only [prims0, List.mem_cons, List.not_mem_nil, or_false] at hx
    rcases hx with rfl
    exact numPrim_ok

noncomputable def tab0 : Tab := ⟨fun f => pfs.lookup f, fun f => prims0.lookup f, meths⟩
theorem tab0_ok : TabOk Go.Proofs.Tryd.prog tab0 := ⟨by kernel_rfl, pfs_ok, prims0_ok, meths_ok⟩

theorem awake27 : (evFn tab0 150 29 [] ⟨0, .leaf⟩).map (·.1) = some (.bool true) := by kernel_rfl

noncomputable def prims : List (Nat × (List AV → S → Option (AV × S))) := [(20, numPrim), (29, closedPrim [] (.bool true))]
theorem prims_ok : ∀ f p, prims.lookup f = some p → PrimOk Go.Proofs.Tryd.prog f p :=
  prims_lookup fun x hx => by
    simp only [prims, List.mem_cons, List.not_mem_nil, or_false] at hx
    rcases hx with rfl | rfl
    · exact numPrim_ok
    · exact closed_ok tab0_ok rfl rfl awake27
noncomputable def tab : Tab := ⟨fun f => pfs.lookup f, fun f => prims.lookup f, meths⟩
theorem tab_ok : TabOk Go.Proofs.Tryd.prog tab := ⟨by kernel_rfl, pfs_ok, prims_ok, meths_ok⟩
end Go.Ab
