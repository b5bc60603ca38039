/- The abstract machine and the model's: codes and functions. -/
import Derived.Test.YtekkglhoeaipbaaDoorAbCode0
namespace Go.Ab

def prepRegion (P : Program) (nt : Nat) (ops : Array Oper) (draw : Bool) : Option (List PI) :=
  if draw then prepDraw P nt ops else (List.range ops.size).mapM (prepPI P nt ops)

def prepC (P : Program) (nt : Nat) : Code → Option PC
  | .skip => some .skip
  | .region id ops draw => (prepRegion P nt ops draw).map (.ops id)
  | .seq a b => (prepC P nt a).bind fun a => (prepC P nt b).map fun b => .seq a b
  | .cond c a b => (prepOpd c).bind fun c => (prepC P nt a).bind fun a => (prepC P nt b).map fun b => .cond c a b
  | .block id b => (prepC P nt b).map (.block id)
  | .loop b => (prepC P nt b).map .loop
  | .exit id => some (.exit id)
  | .ret => some .ret
  | _ => none

def Ex.up : Ex → Exit
  | .normal => .normal
  | .exit id => .exit id
  | .ret => .ret

def CodeRun (P : Program) (b : Frame) (c : Code) (a : Act) (w : World) (e : Exit) (a' : Act) (w' : World) : Prop :=
  ∀ (k : List Item) (cs : List Frame), Arrives P (lone (b.at a (.code c :: k)) cs w) b k cs e a' w'

theorem mapM_idx {P : Program} {nt : Nat} {ops : Array Oper} : ∀ {is : List Nat} {l : List PI}, is.mapM (prepPI P nt ops) = some l → is = l.map (·.idx)
  | [], l, h => by simp at h; subst h; rfl
  | i :: is, l, h => by
    simp only [List.mapM_cons, Option.pure_def, Option.bind_eq_bind, Option.bind_eq_some_iff, Option.some.injEq] at h
    obtain ⟨p, hp, m, hm, rfl⟩ := h
    obtain ⟨h1, _, _⟩ := prepPI_ok hp
    simp [h1, ← mapM_idx hm]

section
variable {P : Program} {nt : Nat} {E : Env}

/-- What a piece of code does in the abstract machine it does in the model's. -/
def Runs (P : Program) (nt : Nat) (c : Code) (r : Regs) (s : S) (e : Ex) (r' : Regs) (s' : S) : Prop :=
  ∀ (b : Frame) ν a w, RA ν nt r a → Sim ν s w → ∃ ν' a' w', Ok ν s w ν' s' w' ∧ RA ν' nt r' a' ∧ CodeRun P b c a w e.up a' w'

theorem region_run (hE : EnvOk P E) (hm : P.follows .mixedOrders = true) {id : Nat} {ops : Array Oper} {draw : Bool} {l : List PI} (hl : prepRegion P nt ops draw = some l) {k : Regs → S → R} {res : AV × S} {r : Regs} {s : S} (h : evOps E l r s k = some res) :
    ∃ r' s', k r' s' = some res ∧ Runs P nt (.region id ops draw) r s .normal r' s' := by
  cases draw with
  | false =>
    simp only [prepRegion, Bool.false_eq_true, if_false] at hl
    obtain ⟨r', s', hk, hrun⟩ := text_run hE l (List.range ops.size) r s (mapM_idx hl) (fun p hp => by
      obtain ⟨i, _, hi⟩ := mapM_mem hl p hp
      exact (prepPI_ok hi).2.2) h
    refine ⟨r', s', hk, fun b ν a w hr hs => ?_⟩
    obtain ⟨ν', a', w', h1, h2, h3⟩ := hrun ν a w hr hs
    exact ⟨ν', a', w', h1, h2, fun k cs => .head step_region ((h3 b k cs).trans (.one step_region_end))⟩
  | true =>
    simp only [prepRegion, if_true] at hl
    obtain ⟨pm, hd, hop⟩ := prepDraw_ok hl
    obtain ⟨r', s', hk, hrun⟩ := draw_run hE hd hop h
    refine ⟨r', s', hk, fun b ν a w hr hs => ?_⟩
    obtain ⟨ν', a', w', h1, h2, h3⟩ := hrun ν a { w with drawn := w.drawn + 1 } hr hs.drew (w.tape w.drawn (.order b.fn id))
    refine ⟨ν', a', w', (Ok.drew hs).trans hs h1, h2, fun k cs => ?_⟩
    have hs := step_region_draw (P := P) (b := b) (a := a) (k := k) (cs := cs) (w := w) (ops := ops) (id := id)
    simp only [Region.schedule, hm, Bool.true_or, if_true] at hs
    exact .head hs ((h3 b k cs).trans (.one step_region_end))

theorem exitTo_inBlock {id i : Nat} {k : List Item} : exitTo i (.inBlock id :: k) = if id == i then some k else exitTo i k := rfl

theorem Runs.ex_normal {c : Code} {r r' : Regs} {s s' : S} {a a' : Act} {w w' : World} {b : Frame} (h : CodeRun P b c a w Ex.normal.up a' w') (k : List Item) (cs : List Frame) : Steps P (lone (b.at a (.code c :: k)) cs w) (lone (b.at a' k) cs w') := h k cs

/-- Past an item that is no block's. -/
theorem arrives_plain {m : Machine} {b : Frame} {x : Item} {k : List Item} {cs : List Frame} {e : Ex} {a : Act} {w : World} (hx : x.plain = true) (he : e ≠ .normal) (h : Arrives P m b (x :: k) cs e.up a w) : Arrives P m b k cs e.up a w :=
  Arrives.pass hx (fun _ _ => .inl (by cases e <;> simp [Ex.up] at he ⊢)) h

theorem evC_run (hE : EnvOk P E) (hm : P.follows .mixedOrders = true) (n : Nat) : ∀ (c : Code) (pc : PC), prepC P nt c = some pc → ∀ (r : Regs) (s : S) (k : K) (res : AV × S), evC E n pc r s k = some res →
    ∃ e r' s', k e r' s' = some res ∧ Runs P nt c r s e r' s' := by
  intro c
  induction c with
  | skip =>
    intro pc hp r s k res h
    simp only [prepC, Option.some.injEq] at hp
    subst hp
    simp only [evC] at h
    exact ⟨_, r, s, h, fun b ν a w hr hs => ⟨ν, a, w, Ok.refl hs, hr, fun k cs => .one step_skip⟩⟩
  | region id ops draw =>
    intro pc hp r s k res h
    simp only [prepC, Option.map_eq_some_iff] at hp
    obtain ⟨l, hl, rfl⟩ := hp
    simp only [evC] at h
    obtain ⟨r', s', hk, hrun⟩ := region_run (id := id) hE hm hl h
    exact ⟨.normal, r', s', hk, hrun⟩
  | seq x y ihx ihy =>
    intro pc hp r s k res h
    simp only [prepC, Option.bind_eq_some_iff, Option.map_eq_some_iff] at hp
    obtain ⟨px, hpx, py, hpy, rfl⟩ := hp
    simp only [evC] at h
    obtain ⟨e, r1, s1, hk, hrun⟩ := ihx px hpx r s _ res h
    cases e with
    | normal =>
      simp only at hk
      obtain ⟨e2, r2, s2, hk2, hrun2⟩ := ihy py hpy r1 s1 k res hk
      refine ⟨e2, r2, s2, hk2, fun b ν a w hr hs => ?_⟩
      obtain ⟨ν1, a1, w1, h1, h2, h3⟩ := hrun b ν a w hr hs
      obtain ⟨ν2, a2, w2, g1, g2, g3⟩ := hrun2 b ν1 a1 w1 h2 h1.sim
      exact ⟨ν2, a2, w2, h1.trans hs g1, g2, fun k cs => .of_steps (.head step_seq (h3 (.code y :: k) cs)) (g3 k cs)⟩
    | exit i =>
      refine ⟨_, r1, s1, hk, fun b ν a w hr hs => ?_⟩
      obtain ⟨ν1, a1, w1, h1, h2, h3⟩ := hrun b ν a w hr hs
      exact ⟨ν1, a1, w1, h1, h2, fun k cs => .of_steps (.one step_seq) (arrives_plain (x := .code y) rfl (by simp) (h3 (.code y :: k) cs))⟩
    | ret =>
      refine ⟨_, r1, s1, hk, fun b ν a w hr hs => ?_⟩
      obtain ⟨ν1, a1, w1, h1, h2, h3⟩ := hrun b ν a w hr hs
      exact ⟨ν1, a1, w1, h1, h2, fun k cs => .of_steps (.one step_seq) (arrives_plain (x := .code y) rfl (by simp) (h3 (.code y :: k) cs))⟩
  | cond x y z ihy ihz =>
    intro pc hp r s k res h
    simp only [prepC, Option.bind_eq_some_iff, Option.map_eq_some_iff] at hp
    obtain ⟨px, hpx, py, hpy, pz, hpz, rfl⟩ := hp
    simp only [evC] at h
    split at h
    · rename_i t ht
      have hcond : ∀ ν a, RA ν nt r a → a.eval x = .bool t := by
        intro ν a hr
        have := hr.rr.opd hpx
        rw [ht] at this
        simp only [conc, Option.some.injEq] at this
        exact this.symm
      cases t with
      | true =>
        simp only [if_true] at h
        obtain ⟨e, r1, s1, hk, hrun⟩ := ihy py hpy r s k res h
        refine ⟨e, r1, s1, hk, fun b ν a w hr hs => ?_⟩
        obtain ⟨ν1, a1, w1, h1, h2, h3⟩ := hrun b ν a w hr hs
        exact ⟨ν1, a1, w1, h1, h2, fun k cs => .of_steps (.one (step_cond (hcond ν a hr))) (h3 k cs)⟩
      | false =>
        simp only [Bool.false_eq_true, if_false] at h
        obtain ⟨e, r1, s1, hk, hrun⟩ := ihz pz hpz r s k res h
        refine ⟨e, r1, s1, hk, fun b ν a w hr hs => ?_⟩
        obtain ⟨ν1, a1, w1, h1, h2, h3⟩ := hrun b ν a w hr hs
        exact ⟨ν1, a1, w1, h1, h2, fun k cs => .of_steps (.one (step_cond (hcond ν a hr))) (h3 k cs)⟩
    · cases h
  | block id x ih =>
    intro pc hp r s k res h
    simp only [prepC, Option.map_eq_some_iff] at hp
    obtain ⟨px, hpx, rfl⟩ := hp
    simp only [evC] at h
    obtain ⟨e, r1, s1, hk, hrun⟩ := ih px hpx r s _ res h
    cases e with
    | normal =>
      refine ⟨_, r1, s1, hk, fun b ν a w hr hs => ?_⟩
      obtain ⟨ν1, a1, w1, h1, h2, h3⟩ := hrun b ν a w hr hs
      exact ⟨ν1, a1, w1, h1, h2, fun k cs => (Steps.head step_block (h3 (.inBlock id :: k) cs)).trans (.one step_inBlock)⟩
    | exit i =>
      simp only at hk
      split at hk
      · rename_i hi
        subst hi
        refine ⟨_, r1, s1, hk, fun b ν a w hr hs => ?_⟩
        obtain ⟨ν1, a1, w1, h1, h2, h3⟩ := hrun b ν a w hr hs
        refine ⟨ν1, a1, w1, h1, h2, fun k cs => ?_⟩
        exact Steps.head step_block (h3 (.inBlock i :: k) cs k (by rw [exitTo_inBlock]; simp))
      · rename_i hi
        refine ⟨_, r1, s1, hk, fun b ν a w hr hs => ?_⟩
        obtain ⟨ν1, a1, w1, h1, h2, h3⟩ := hrun b ν a w hr hs
        refine ⟨ν1, a1, w1, h1, h2, fun k cs => ?_⟩
        intro k' hk'
        exact Steps.head step_block (h3 (.inBlock id :: k) cs k' (by rw [exitTo_inBlock, if_neg (by simpa using Ne.symm hi)]; exact hk'))
    | ret =>
      refine ⟨_, r1, s1, hk, fun b ν a w hr hs => ?_⟩
      obtain ⟨ν1, a1, w1, h1, h2, h3⟩ := hrun b ν a w hr hs
      refine ⟨ν1, a1, w1, h1, h2, fun k cs => ?_⟩
      obtain ⟨todo, hs⟩ := h3 (.inBlock id :: k) cs
      exact ⟨todo, .head step_block hs⟩
  | loop x ih =>
    intro pc hp r s k res h
    simp only [prepC, Option.map_eq_some_iff] at hp
    obtain ⟨px, hpx, rfl⟩ := hp
    simp only [evC] at h
    have key : ∀ (m : Nat) (r : Regs) (s : S), loopN (fun r s k => evC E n px r s k) m r s k = some res →
        ∃ e r' s', e ≠ Ex.normal ∧ k e r' s' = some res ∧ ∀ (b : Frame) ν a w, RA ν nt r a → Sim ν s w → ∃ ν' a' w', Ok ν s w ν' s' w' ∧ RA ν' nt r' a' ∧
          ∀ (k : List Item) (cs : List Frame), Arrives P (lone (b.at a (.code x :: .inLoop x :: k)) cs w) b k cs e.up a' w' := by
      intro m
      induction m with
      | zero => intro r s h; simp [loopN] at h
      | succ m ihm =>
        intro r s h
        simp only [loopN] at h
        obtain ⟨e, r1, s1, hk, hrun⟩ := ih px hpx r s _ res h
        cases e with
        | normal =>
          simp only at hk
          obtain ⟨e2, r2, s2, hne, hk2, hrun2⟩ := ihm r1 s1 hk
          refine ⟨e2, r2, s2, hne, hk2, fun b ν a w hr hs => ?_⟩
          obtain ⟨ν1, a1, w1, h1, h2, h3⟩ := hrun b ν a w hr hs
          obtain ⟨ν2, a2, w2, g1, g2, g3⟩ := hrun2 b ν1 a1 w1 h2 h1.sim
          exact ⟨ν2, a2, w2, h1.trans hs g1, g2, fun k cs => .of_steps ((show Steps P _ _ from h3 (.inLoop x :: k) cs).trans (.one step_inLoop)) (g3 k cs)⟩
        | exit i =>
          refine ⟨_, r1, s1, by simp, hk, fun b ν a w hr hs => ?_⟩
          obtain ⟨ν1, a1, w1, h1, h2, h3⟩ := hrun b ν a w hr hs
          exact ⟨ν1, a1, w1, h1, h2, fun k cs => arrives_plain (x := .inLoop x) rfl (by simp) (h3 (.inLoop x :: k) cs)⟩
        | ret =>
          refine ⟨_, r1, s1, by simp, hk, fun b ν a w hr hs => ?_⟩
          obtain ⟨ν1, a1, w1, h1, h2, h3⟩ := hrun b ν a w hr hs
          exact ⟨ν1, a1, w1, h1, h2, fun k cs => arrives_plain (x := .inLoop x) rfl (by simp) (h3 (.inLoop x :: k) cs)⟩
    obtain ⟨e, r1, s1, _, hk, hrun⟩ := key n r s h
    refine ⟨e, r1, s1, hk, fun b ν a w hr hs => ?_⟩
    obtain ⟨ν1, a1, w1, h1, h2, h3⟩ := hrun b ν a w hr hs
    exact ⟨ν1, a1, w1, h1, h2, fun k cs => .of_steps (.one step_loop) (h3 k cs)⟩
  | exit id =>
    intro pc hp r s k res h
    simp only [prepC, Option.some.injEq] at hp
    subst hp
    simp only [evC] at h
    exact ⟨_, r, s, h, fun b ν a w hr hs => ⟨ν, a, w, Ok.refl hs, hr, fun k cs k' hk => .one (step_exit hk)⟩⟩
  | ret =>
    intro pc hp r s k res h
    simp only [prepC, Option.some.injEq] at hp
    subst hp
    simp only [evC] at h
    exact ⟨_, r, s, h, fun b ν a w hr hs => ⟨ν, a, w, Ok.refl hs, hr, fun k cs => ⟨_, .one step_ret⟩⟩⟩
  | _ => intro pc hp; simp [prepC] at hp

end
end Go.Ab
