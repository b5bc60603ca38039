/- The abstract machine and the model's: what has been made late. -/
import Derived.Test.YtekkglhoeaipbaaDoorAbReg1
namespace Go.Ab

theorem Sub.refl (s : S) : Sub s s := fun _ _ h => h
theorem Sub.trans {a b c : S} (h : Sub a b) (k : Sub b c) : Sub a c := fun _ _ x => k _ _ (h _ _ x)

def Fresh (s : S) : Prop := ∀ id, s.ctr ≤ id → s.get id = none

theorem Fresh.new {s : S} (h : Fresh s) (o : AO) : Fresh (s.new o) := by
  intro id hid
  rw [S.ctr_new] at hid
  rw [S.get_new, if_neg (by omega)]
  exact h id (by omega)

theorem Fresh.sub {s : S} (h : Fresh s) (o : AO) : Sub s (s.new o) := by
  intro id x hx
  rw [S.get_new]
  split
  · rename_i he
    rw [h id (by omega)] at hx
    cases hx
  · exact hx

/-! ### made here, not there -/
theorem Ok.ghost {ν₀ ν : Nu} {s₀ s : S} {w₀ w : World} (h : Ok ν₀ s₀ w₀ ν s w) (o : AO) : Ok ν₀ s₀ w₀ ν (s.new o) w where
  le := h.le
  new := fun id L hL => (h.new id L hL).imp (fun x => x) fun ⟨h1, h2, h3, h4⟩ => ⟨h1, h2, by rw [S.ctr_new]; omega, h4⟩
  ctr := by rw [S.ctr_new]; exact Nat.le_succ_of_le h.ctr
  sim := by
    have hn : ν s.ctr = none := h.sim.top _ (Nat.le_refl _)
    refine ⟨fun id x L hx hL => ?_, fun id id' x x' L L' hx hx' hL hL' => ?_, Fresh.new h.sim.fresh o, fun id hid => h.sim.top id (by rw [S.ctr_new] at hid; omega), h.sim.glob.go (fun _ _ _ => rfl) ?_⟩
    · rw [S.get_new, if_neg (by rintro rfl; rw [hn] at hL; cases hL)] at hx
      exact h.sim.obj id x L hx hL
    · rw [S.get_new, if_neg (by rintro rfl; rw [hn] at hL; cases hL)] at hx
      rw [S.get_new, if_neg (by rintro rfl; rw [hn] at hL'; cases hL')] at hx'
      exact h.sim.inj id id' x x' L L' hx hx' hL hL'
    · rintro _ _ ⟨id, x, L, hx, hrw, hL, rfl⟩
      rw [S.get_new, if_neg (by rintro rfl; rw [hn] at hL; cases hL)] at hx
      exact ⟨id, x, L, hx, hrw, hL, rfl⟩
  keep := fun id hid hn => by
    rw [S.get_new, if_neg (by have := h.ctr; omega)]
    exact h.keep id hid hn
  live := fun id o' hid ho => by
    rw [S.get_new, if_neg (by have := h.ctr; omega)] at ho
    exact h.live id o' hid ho
  frame := h.frame
  size := h.size
  tape := h.tape
  os := h.os
  output := h.output

theorem Ok.late {ν₀ ν : Nu} {s₀ s : S} {w₀ w w' : World} (h₀ : Sim ν₀ s₀ w₀) (h : Ok ν₀ s₀ w₀ ν s w) {id : Nat} {obj : AO} {L : Loc} (hid : s₀.ctr ≤ id) (hlt : id < s.ctr) (hg : s.get id = some obj) (hn : ν id = none)
    (hL : w.heap.size ≤ L.blk) (hrel : ORel ν L obj w'.heap[L.blk]?) (hframe : ∀ b, b < w.heap.size → w'.heap[b]? = w.heap[b]?) (hsize : w.heap.size ≤ w'.heap.size)
    (ht : w'.tape = w.tape) (hos : w'.os = w.os) (hout : w'.output = w.output) : Ok ν₀ s₀ w₀ (nuSet ν id L) s w' where
  le := h.le.trans (le_nuSet hn)
  new := by
    intro j M hM
    by_cases hj : j = id
    · subst hj
      simp only [nuSet, if_true, Option.some.injEq] at hM
      subst hM
      exact .inr ⟨h₀.top _ hid, hid, hlt, .inl (Nat.le_trans h.size hL)⟩
    · simp only [nuSet, hj, if_false] at hM
      exact h.new j M hM
  ctr := h.ctr
  sim := by
    refine ⟨fun j x M hx hM => ?_, fun j j' x x' M M' hx hx' hM hM' hne hrw => ?_, h.sim.fresh, fun j hj => ?_, h.sim.glob.go (fun b hb _ => hframe b hb) ?_⟩
    · by_cases hj : j = id
      · subst hj
        simp only [nuSet, if_true, Option.some.injEq] at hM
        subst hM
        rw [hg] at hx
        cases hx
        exact hrel.mono (le_nuSet hn)
      · simp only [nuSet, hj, if_false] at hM
        rw [hframe _ (h.sim.blk_lt hx hM)]
        exact (h.sim.obj j x M hx hM).mono (le_nuSet hn)
    · by_cases hj : j = id
      · subst hj
        simp only [nuSet, if_true, Option.some.injEq] at hM
        subst hM
        simp only [nuSet, if_neg (Ne.symm hne)] at hM'
        have := h.sim.blk_lt hx' hM'
        omega
      · simp only [nuSet, hj, if_false] at hM
        by_cases hj' : j' = id
        · subst hj'
          simp only [nuSet, if_true, Option.some.injEq] at hM'
          subst hM'
          have := h.sim.blk_lt hx hM
          omega
        · simp only [nuSet, hj', if_false] at hM'
          exact h.sim.inj j j' x x' M M' hx hx' hM hM' hne hrw
    · simp only [nuSet, if_neg (show ¬ j = id by omega)]
      exact h.sim.top j hj
    · rintro _ hb ⟨j, x, M, hx, hrw, hM, rfl⟩
      by_cases hj : j = id
      · subst hj
        simp only [nuSet, if_true, Option.some.injEq] at hM
        subst hM
        omega
      · simp only [nuSet, hj, if_false] at hM
        exact ⟨j, x, M, hx, hrw, hM, rfl⟩
  keep := h.keep
  live := h.live
  frame := fun b hb hno => by rw [hframe b (Nat.lt_of_lt_of_le hb h.size)]; exact h.frame b hb hno
  size := Nat.le_trans h.size hsize
  tape := ht.trans h.tape
  os := hos.trans h.os
  output := hout.trans h.output

/-! ### what stands in two maps stands in what they share -/
section inter
variable {ν ν' ν2 : Nu}
mutual
theorem conc_inter (hi : ∀ id L, ν' id = some L → ν2 id ≠ none → ν id = some L) : ∀ {a : AV} {v v2 : Value}, conc ν' a = some v → conc ν2 a = some v2 → conc ν a = some v
  | .bool _, _, _, e, _ | .zsl _, _, _, e, _ | .int _ _, _, _, e, _ | .str _, _, _, e, _ | .pnil, _, _, e, _ | .snil, _, _, e, _ | .mnil, _, _, e, _ | .cnil, _, _, e, _ | .nilFunc, _, _, e, _ | .nilIface, _, _, e, _ => by simpa [conc] using e
  | .ptr b o, v, v2, e, e2 => by
    simp only [conc, Option.map_eq_some_iff] at e e2 ⊢
    obtain ⟨L, hL, rfl⟩ := e
    obtain ⟨M, hM, rfl⟩ := e2
    exact ⟨L, hi _ _ hL (by rw [hM]; simp), rfl⟩
  | .esl b o1 o2 st, v, v2, e, e2 => by
    simp only [conc, Option.bind_eq_some_iff] at e e2 ⊢
    obtain ⟨L, hL, hx⟩ := e
    obtain ⟨M, hM, _⟩ := e2
    exact ⟨L, hi _ _ hL (by rw [hM]; simp), hx⟩
  | .slice b o n c false, v, v2, e, e2 => by
    simp only [conc, Option.map_eq_some_iff] at e e2 ⊢
    obtain ⟨L, hL, rfl⟩ := e
    obtain ⟨M, hM, rfl⟩ := e2
    exact ⟨L, hi _ _ hL (by rw [hM]; simp), rfl⟩
  | .slice b o n c true, v, v2, e, e2 => by
    simp only [conc, Option.bind_eq_some_iff] at e e2 ⊢
    obtain ⟨L, hL, hx⟩ := e
    obtain ⟨M, hM, _⟩ := e2
    exact ⟨L, hi _ _ hL (by rw [hM]; simp), hx⟩
  | .map r, v, v2, e, e2 => by
    simp only [conc, Option.map_eq_some_iff] at e e2 ⊢
    obtain ⟨L, hL, rfl⟩ := e
    obtain ⟨M, hM, rfl⟩ := e2
    exact ⟨L, hi _ _ hL (by rw [hM]; simp), rfl⟩
  | .chan r, v, v2, e, e2 => by
    simp only [conc, Option.map_eq_some_iff] at e e2 ⊢
    obtain ⟨L, hL, rfl⟩ := e
    obtain ⟨M, hM, rfl⟩ := e2
    exact ⟨L, hi _ _ hL (by rw [hM]; simp), rfl⟩
  | .func fn f c, v, v2, e, e2 => by
    simp only [conc, Option.bind_eq_some_iff, Option.map_eq_some_iff] at e e2 ⊢
    obtain ⟨f', hf, c', hc, rfl⟩ := e
    obtain ⟨f2, hf2, c2, hc2, rfl⟩ := e2
    exact ⟨f', concs_inter hi hf hf2, c', concs_inter hi hc hc2, rfl⟩
  | .iface t x, v, v2, e, e2 => by
    simp only [conc, Option.map_eq_some_iff] at e e2 ⊢
    obtain ⟨L, hL, rfl⟩ := e
    obtain ⟨M, hM, rfl⟩ := e2
    exact ⟨L, conc_inter hi hL hM, rfl⟩
  | .agg cs, v, v2, e, e2 => by
    simp only [conc, Option.map_eq_some_iff] at e e2 ⊢
    obtain ⟨L, hL, rfl⟩ := e
    obtain ⟨M, hM, rfl⟩ := e2
    exact ⟨L, concs_inter hi hL hM, rfl⟩
  | .tuple cs, v, v2, e, e2 => by
    simp only [conc, Option.map_eq_some_iff] at e e2 ⊢
    obtain ⟨L, hL, rfl⟩ := e
    obtain ⟨M, hM, rfl⟩ := e2
    exact ⟨L, concs_inter hi hL hM, rfl⟩
theorem concs_inter (hi : ∀ id L, ν' id = some L → ν2 id ≠ none → ν id = some L) : ∀ {a : List AV} {v v2 : List Value}, concs ν' a = some v → concs ν2 a = some v2 → concs ν a = some v
  | [], _, _, e, _ => by simpa [concs] using e
  | a :: r, v, v2, e, e2 => by
    obtain ⟨a', r', ha, hr, rfl⟩ := concs_cons.1 e
    obtain ⟨a2, r2, ha2, hr2, rfl⟩ := concs_cons.1 e2
    exact concs_cons.2 ⟨_, _, conc_inter hi ha ha2, concs_inter hi hr hr2, rfl⟩
end

theorem erel_inter (hi : ∀ id L, ν' id = some L → ν2 id ≠ none → ν id = some L) : ∀ {es : List (AV × AV)} {X Y : List MapEntry}, ERel ν' es X → ERel ν2 es Y → ERel ν es X
  | [], [], _, _, _ => trivial
  | (k, v) :: es, e :: X, f :: Y, ⟨h1, h2, h3⟩, ⟨g1, g2, g3⟩ => ⟨conc_inter hi h1 g1, conc_inter hi h2 g2, erel_inter hi h3 g3⟩
  | [], _ :: _, _, hh, _ => hh.elim
  | _ :: _, [], _, hh, _ => hh.elim
  | _ :: _, _ :: _, [], _, hh => hh.elim

theorem orel_inter (hi : ∀ id L, ν' id = some L → ν2 id ≠ none → ν id = some L) {L L2 : Loc} {o : AO} {x y : Option Obj} (h : ORel ν' L o x) (h2 : ORel ν2 L2 o y) : ORel ν L o x := by
  cases o with
  | cells c opn ro =>
    obtain ⟨C, elem, fr, hx, hc, hf, hopn⟩ := h
    obtain ⟨C2, elem2, fr2, hx2, hc2, _, _⟩ := h2
    exact ⟨C, elem, fr, hx, fun i v hv => let ⟨v', h1, h3⟩ := hc i v hv; let ⟨v2, _, h4⟩ := hc2 i v hv; ⟨v', h1, conc_inter hi h3 h4⟩, hf, hopn⟩
  | map es =>
    obtain ⟨X, clock, hx, he⟩ := h
    obtain ⟨Y, clock2, hx2, he2⟩ := h2
    exact ⟨X, clock, hx, erel_inter hi he he2⟩
  | chan cap buf =>
    obtain ⟨B, m, n, hx, hb⟩ := h
    obtain ⟨B2, m2, n2, hx2, hb2⟩ := h2
    exact ⟨B, m, n, hx, concs_inter hi hb hb2⟩
end inter

theorem sim_leaf {ν : Nu} {w : World} {c : Nat} {own : Nat → Prop} (hG : Gl w own) (top : ∀ id, c ≤ id → ν id = none) : Sim ν ⟨c, .leaf⟩ w :=
  ⟨fun id o L h => (by cases h), fun id id' o o' L L' h => (by cases h), fun id _ => rfl, top, hG.go (fun _ _ _ => rfl) (fun _ _ ⟨_, _, _, h, _⟩ => by cases h)⟩

theorem mkForm_some {mk : Nat → AV} (h : MkForm mk) {ν : Nu} {i : Nat} {v : Value} (hc : conc ν (mk i) = some v) : ∃ L, ν i = some L := by
  cases h with
  | ptr => simp only [conc, Option.map_eq_some_iff] at hc; obtain ⟨L, hL, _⟩ := hc; exact ⟨L, hL⟩
  | slice l c opn =>
    cases opn <;> simp only [conc, Option.bind_eq_some_iff, Option.map_eq_some_iff] at hc <;> obtain ⟨L, hL, _⟩ := hc <;> exact ⟨L, hL⟩
  | map => simp only [conc, Option.map_eq_some_iff] at hc; obtain ⟨L, hL, _⟩ := hc; exact ⟨L, hL⟩
  | chan => simp only [conc, Option.map_eq_some_iff] at hc; obtain ⟨L, hL, _⟩ := hc; exact ⟨L, hL⟩

theorem late_alloc {P : Program} {nt : Nat} {ops : Array Oper} {p : PI} {o : Oper} {E : Env} {ν : Nu} {r : Regs} {a : Act} {w : World} {s s' : S} {u : AV} (hE : EnvOk P E) (hp : OpP P nt ops p o) (hr : RA ν nt r a) {c : Nat}
    {own : Nat → Prop} (hG : Gl w own) (top : ∀ id, c ≤ id → ν id = none) (ha : p.i.alc = true) (hw : wantedA p.guard r = true) (h : evI E p.i r s = some (u, s')) :
    ∃ mk obj, MkForm mk ∧ obj.rw = true ∧ u = mk s.ctr ∧ s' = s.new obj ∧ ∃ L w' v', w.heap.size ≤ L.blk ∧ ORel ν L obj w'.heap[L.blk]? ∧ (∀ b, b < w.heap.size → w'.heap[b]? = w.heap[b]?) ∧ w.heap.size ≤ w'.heap.size ∧
      w'.tape = w.tape ∧ w'.os = w.os ∧ w'.output = w.output ∧ OpRun P ops p.idx a w (a.put p.dst v') w' ∧ ∀ (ν2 : Nu) (id : Nat), ν2 id = some L → conc ν2 (mk id) = some v' := by
  obtain ⟨mk, obj, hmk, hrw, rfl, rfl, hev⟩ := alc_form ha h
  refine ⟨mk, obj, hmk, hrw, rfl, rfl, ?_⟩
  have h1 : evP E p r ⟨c, .leaf⟩ = some (mk c, S.new ⟨c, .leaf⟩ obj) := by unfold evP; rw [if_pos hw]; exact hev _
  have h2 : evP E p r ⟨c + 1, .leaf⟩ = some (mk (c + 1), S.new ⟨c + 1, .leaf⟩ obj) := by unfold evP; rw [if_pos hw]; exact hev _
  obtain ⟨ν1, w1, v1, ok1, hc1, run1⟩ := evP_run hE hp hr (sim_leaf hG top) h1
  obtain ⟨ν2, w2, v2, ok2, hc2, run2⟩ := evP_run hE hp hr (sim_leaf (w := w) (c := c + 1) hG fun id hid => top id (by omega)) h2
  obtain ⟨L, hL⟩ := mkForm_some hmk hc1
  obtain ⟨L2, hL2⟩ := mkForm_some hmk hc2
  have no : ∀ (c : Nat) b, ¬ Owns ν ⟨c, .leaf⟩ b := fun c b ⟨id, o, L, hg, _⟩ => by cases hg
  have hi : ∀ id M, ν1 id = some M → ν2 id ≠ none → ν id = some M := by
    intro id M hM hne
    rcases ok1.new id M hM with hh | ⟨_, hge, hlt, _⟩
    · exact hh
    · have hid : id = c := by simp only [S.ctr_new] at hge hlt; omega
      cases hx : ν2 id with
      | none => exact absurd hx hne
      | some N =>
        rcases ok2.new id N hx with hh | ⟨_, hge2, _, _⟩
        · rw [top id (by omega)] at hh; cases hh
        · simp only at hge2; omega
  have hblk : w.heap.size ≤ L.blk := by
    rcases ok1.new c L hL with hh | ⟨_, _, _, hh⟩
    · rw [top c (Nat.le_refl _)] at hh; cases hh
    · exact hh.resolve_right (no _ _)
  have g1 : (S.new ⟨c, .leaf⟩ obj).get c = some obj := by rw [S.get_new]; simp
  have g2 : (S.new ⟨c + 1, .leaf⟩ obj).get (c + 1) = some obj := by rw [S.get_new]; simp
  refine ⟨L, w1, v1, hblk, orel_inter hi (ok1.sim.obj c obj L g1 hL) (ok2.sim.obj (c + 1) obj L2 g2 hL2), fun b hb => ok1.frame b hb (no _ _), ok1.size, ok1.tape, ok1.os, ok1.output, run1, fun ν2 id h2 => ?_⟩
  rw [hmk.conc_eq (h2.trans hL.symm)]
  exact hc1

end Go.Ab
