/- The abstract machine and the model's: a call that takes nothing of memory and leaves nothing that is looked at. -/
import Derived.Test.YtekkglhoeaipbaaDoorAbWp
namespace Go.Ab

def AV.scalar : AV → Bool
  | .bool _ | .int _ _ | .str _ => true
  | _ => false

theorem scalar_conc {v : AV} (h : v.scalar = true) (ν ν' : Nu) : conc ν v = conc ν' v := by cases v <;> first | rfl | cases h

theorem scalars_conc : ∀ {l : List AV}, l.all AV.scalar = true → ∀ ν ν', concs ν l = concs ν' l
  | [], _, _, _ => rfl
  | v :: l, h, ν, ν' => by
    simp only [List.all_cons, Bool.and_eq_true] at h
    simp only [concs, scalar_conc h.1 ν ν', scalars_conc h.2 ν ν']

theorem sim_none {w : World} {own : Nat → Prop} (hG : Gl w own) : Sim (fun _ => none) ⟨0, .leaf⟩ w := sim_leaf hG fun _ _ => rfl

/-- Nothing that there was has changed. -/
theorem Ok.aside {ν : Nu} {s : S} {w : World} (hs : Sim ν s w) {ν1 : Nu} {s1 : S} {w' : World} (h : Ok (fun _ => none) ⟨0, .leaf⟩ w ν1 s1 w') : Ok ν s w ν s w' where
  le := Le.refl _
  new := fun _ _ h => .inl h
  ctr := Nat.le_refl _
  sim := ⟨fun id o L ho hL => by
      rw [h.frame L.blk (hs.blk_lt ho hL) (fun ⟨_, _, _, hx, _⟩ => by cases hx)]
      exact hs.obj id o L ho hL, hs.inj, hs.fresh, hs.top, hs.glob.go (fun b hb _ => h.frame b hb (fun ⟨_, _, _, hx, _⟩ => by cases hx)) (fun _ _ h => h)⟩
  keep := fun _ _ _ => rfl
  live := fun _ o _ h => ⟨o, h, rfl⟩
  frame := fun b hb _ => h.frame b hb (fun ⟨_, _, _, hx, _⟩ => by cases hx)
  size := h.size
  tape := h.tape
  os := h.os
  output := h.output

def closedPrim (args0 : List AV) (v : AV) : List AV → S → Option (AV × S) := fun args s => if AV.sames args args0 then some (v, s) else none

/-- A closed call, evaluated by itself. -/
theorem closed_ok {P : Program} {T : Tab} (hT : TabOk P T) {n : Nat} {f : FuncId} {args : List AV} {v : AV} (ha : args.all AV.scalar = true) (hv : v.scalar = true)
    (h : (evFn T n f args ⟨0, .leaf⟩).map (·.1) = some v) : PrimOk P f (closedPrim args v) where
  run := by
    intro args1 s u s' hp ν w args' hs hargs
    unfold closedPrim at hp
    split at hp
    · rename_i he
      have := AV.sames_eq _ _ he
      subst this
      simp only [Option.some.injEq, Prod.mk.injEq] at hp
      obtain ⟨rfl, rfl⟩ := hp
      simp only [Option.map_eq_some_iff] at h
      obtain ⟨⟨u', s1⟩, h1, rfl⟩ := h
      have hargs' : concs (fun _ => none) args1 = some args' := by rw [scalars_conc ha _ ν]; exact hargs
      obtain ⟨hex, ν1, w', v', hok, hc, hret⟩ := (evFn_ok hT n).fn f args1 ⟨0, .leaf⟩ u' s1 h1 _ w args' (sim_none hs.glob) hargs'
      exact ⟨hex, ν, w', v', hok.aside hs, by rw [scalar_conc hv ν ν1]; exact hc, hret⟩
    · cases hp
end Go.Ab
