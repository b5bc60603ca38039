/- The table of functions of this translation. -/
import Derived.Test.YtmapalkddhgpeaaDoorFns
import Derived.Test.YtmapalkddhgpeaaDoorAaNum
import Derived.Test.YtmapalkddhgpeaaDoorAbClosed
namespace Go.Ab

theorem prims_lookup {P : Program} : ∀ {l : List (Nat × (List AV → S → Option (AV × S)))}, (∀ x ∈ l, PrimOk P x.1 x.2) → ∀ f p, l.lookup f = some p → PrimOk P f p
  | [], _, f, p, h => by cases h
  | (i, q) :: l, hl, f, p, h => by
    simp only [List.lookup] at h
    split at h
    · rename_i he
      have he' : f = i := by simpa using he
      subst he'
      simp only [Option.some.injEq] at h
      subst h
      exact hl (f, q) (by simp)
    · exact prims_lookup (fun x hx => hl x (by simp [hx])) f p h

/-- The methods of the services. -/
def meths : TypeId → String → Option FuncId := fun t m =>
  if t = 24 then (if m = "Need" then some 7 else if m = "Do" then some 75 else if m = "Gone" then some 76 else none)
  else if t = 33 then (if m = "Need" then some 9 else if m = "Do" then some 96 else if m = "Gone" then some 97 else none)
  else if t = 38 then (if m = "Need" then some 11 else if m = "Do" then some 112 else if m = "Gone" then some 113 else none)
  else none
theorem meth24n (v : Value) (w : World) : (method (Go.Proofs.Tryd.prog.types.size + Made.depth) 24 v "Need").run Go.Proofs.Tryd.prog w = .ok (7, v) w := by kernel_rfl
theorem meth24d (v : Value) (w : World) : (method (Go.Proofs.Tryd.prog.types.size + Made.depth) 24 v "Do").run Go.Proofs.Tryd.prog w = .ok (75, v) w := by kernel_rfl
theorem meth24g (v : Value) (w : World) : (method (Go.Proofs.Tryd.prog.types.size + Made.depth) 24 v "Gone").run Go.Proofs.Tryd.prog w = .ok (76, v) w := by kernel_rfl
theorem meth33n (v : Value) (w : World) : (method (Go.Proofs.Tryd.prog.types.size + Made.depth) 33 v "Need").run Go.Proofs.Tryd.prog w = .ok (9, v) w := by kernel_rfl
theorem meth33d (v : Value) (w : World) : (method (Go.Proofs.Tryd.prog.types.size + Made.depth) 33 v "Do").run Go.Proofs.Tryd.prog w = .ok (96, v) w := by kernel_rfl
theorem meth33g (v : Value) (w : World) : (method (Go.Proofs.Tryd.prog.types.size + Made.depth) 33 v "Gone").run Go.Proofs.Tryd.prog w = .ok (97, v) w := by kernel_rfl
theorem meth38n (v : Value) (w : World) : (method (Go.Proofs.Tryd.prog.types.size + Made.depth) 38 v "Need").run Go.Proofs.Tryd.prog w = .ok (11, v) w := by kernel_rfl
theorem meth38d (v : Value) (w : World) : (method (Go.Proofs.Tryd.prog.types.size + Made.depth) 38 v "Do").run Go.Proofs.Tryd.prog w = .ok (112, v) w := by kernel_rfl
theorem meth38g (v : Value) (w : World) : (method (Go.Proofs.Tryd.prog.types.size + Made.depth) 38 v "Gone").run Go.Proofs.Tryd.prog w = .ok (113, v) w := by kernel_rfl
theorem three {m : String} {a b c : FuncId} {f : FuncId} (h : (if m = "Need" then some a else if m = "Do" then some b else if m = "Gone" then some c else none) = some f) : (m = "Need" ∧ f = a) ∨ (m = "Do" ∧ f = b) ∨ (m = "Gone" ∧ f = c) := by
  split at h
  · rename_i hm; cases h; exact .inl ⟨hm, rfl⟩
  · split at h
    · rename_i hm; cases h; exact .inr (.inl ⟨hm, rfl⟩)
    · split at h
      · rename_i hm; cases h; exact .inr (.inr ⟨hm, rfl⟩)
      · cases h
theorem meths_ok : ∀ t m f, meths t m = some f → ∀ v w, (method (Go.Proofs.Tryd.prog.types.size + Made.depth) t v m).run Go.Proofs.Tryd.prog w = .ok (f, v) w := by
  intro t m f h v w
  unfold meths at h
  split at h
  · rename_i ht
    subst ht
    rcases three h with ⟨rfl, rfl⟩ | ⟨rfl, rfl⟩ | ⟨rfl, rfl⟩
    · exact meth24n v w
    · exact meth24d v w
    · exact meth24g v w
  · split at h
    · rename_i ht
      subst ht
      rcases three h with ⟨rfl, rfl⟩ | ⟨rfl, rfl⟩ | ⟨rfl, rfl⟩
      · exact meth33n v w
      · exact meth33d v w
      · exact meth33g v w
    · split at h
      · rename_i ht
        subst ht
        rcases three h with ⟨rfl, rfl⟩ | ⟨rfl, rfl⟩ | ⟨rfl, rfl⟩
        · exact meth38n v w
        · exact meth38d v w
        · exact meth38g v w
      · cases h

noncomputable def prims0 : List (Nat × (List AV → S → Option (AV × S))) := [(35, numPrim)]
theorem prims0_ok : ∀ f p, prims0.lookup f = some p → PrimOk Go.Proofs.Tryd.prog f p :=
  prims_lookup fun x hx => by
    simp only [prims0, List.mem_cons, List.not_mem_nil, or_false] at hx
    rcases hx with rfl
    exact numPrim_ok

noncomputable def tab0 : Tab := ⟨fun f => pfs.lookup f, fun f => prims0.lookup f, meths⟩
theorem tab0_ok : TabOk Go.Proofs.Tryd.prog tab0 := ⟨by kernel_rfl, pfs_ok, prims0_ok, meths_ok⟩

theorem awake25 : (evFn tab0 400 6 [] ⟨0, .leaf⟩).map (·.1) = some (.bool true) := by kernel_rfl
theorem awake26 : (evFn tab0 400 8 [] ⟨0, .leaf⟩).map (·.1) = some (.bool true) := by kernel_rfl
theorem awake27 : (evFn tab0 400 10 [] ⟨0, .leaf⟩).map (·.1) = some (.bool true) := by kernel_rfl

noncomputable def prims : List (Nat × (List AV → S → Option (AV × S))) := [(35, numPrim), (6, closedPrim [] (.bool true)), (8, closedPrim [] (.bool true)), (10, closedPrim [] (.bool true))]
theorem prims_ok : ∀ f p, prims.lookup f = some p → PrimOk Go.Proofs.Tryd.prog f p :=
  prims_lookup fun x hx => by
    simp only [prims, List.mem_cons, List.not_mem_nil, or_false] at hx
    rcases hx with rfl | rfl | rfl | rfl
    · exact numPrim_ok
    · exact closed_ok tab0_ok rfl rfl awake25
    · exact closed_ok tab0_ok rfl rfl awake26
    · exact closed_ok tab0_ok rfl rfl awake27
noncomputable def tab : Tab := ⟨fun f => pfs.lookup f, fun f => prims.lookup f, meths⟩
theorem tab_ok : TabOk Go.Proofs.Tryd.prog tab := ⟨by kernel_rfl, pfs_ok, prims_ok, meths_ok⟩
end Go.Ab
