/- The abstract machine: what is so behind a run. -/
import Derived.Test.YtekkglhoeaipbaaDoorAbCode2
namespace Go.Ab

/-- A call comes back, and this is so of what it answers. -/
def Ev (T : Tab) (f : FuncId) (args : List AV) (s : S) (Q : AV → S → Prop) : Prop := ∃ N v s', Q v s' ∧ ∀ n, N ≤ n → evFn T n f args s = some (v, s')

theorem Ev.mono {T : Tab} {f : FuncId} {args : List AV} {s : S} {Q Q' : AV → S → Prop} (h : Ev T f args s Q) (hq : ∀ v s', Q v s' → Q' v s') : Ev T f args s Q' :=
  let ⟨N, v, s', q, hn⟩ := h
  ⟨N, v, s', hq _ _ q, hn⟩

def E₀ : Env := ⟨fun _ _ _ => none, fun _ _ => none⟩

def WpI (T : Tab) (i : I) (r : Regs) (s : S) (Q : AV → S → Prop) : Prop :=
  match i with
  | .call f args => Ev T f (args.map (·.ev r)) s Q
  | .callv x args => match x.ev r with
    | .func (.func f) first caps => Ev T f (first ++ args.map (·.ev r) ++ caps) s Q
    | _ => False
  | .inv x m args => match x.ev r with
    | .iface t v => match T.meth t m with | some f => Ev T f (v :: args.map (·.ev r)) s Q | none => False
    | _ => False
  | i => match evI E₀ i r s with
    | some (v, s') => Q v s'
    | none => False

def I.calls : I → Bool
  | .call .. | .callv .. | .inv .. => true
  | _ => false

def ChkP (r : Regs) (s : S) : List (Option (Nat × Bool) × I × Nat) → Prop
  | [] => True
  | (g, i, t) :: c => i.calls = false ∧ (match (if wantedA g r then evI E₀ i r s else some (.undef, s)) with
    | some (v, _) => v = r t
    | none => False) ∧ ChkP r s c

def WpO (T : Tab) : List PI → Regs → S → (Regs → S → Prop) → Prop
  | [], r, s, Q => Q r s
  | p :: l, r, s, Q => if wantedA p.guard r then WpI T p.i r s (fun v s' => ChkP (updO r p.dst v) s' p.chk ∧ WpO T l (updO r p.dst v) s' Q)
    else ChkP (updO r p.dst .undef) s p.chk ∧ WpO T l (updO r p.dst .undef) s Q

abbrev KP := Ex → Regs → S → Prop

def WpL (body : Regs → S → KP → Prop) (Q : KP) : Nat → Regs → S → Prop
  | 0, _, _ => False
  | m + 1, r, s => body r s fun e r s => match e with | .normal => WpL body Q m r s | e => Q e r s

def WpC (T : Tab) : PC → Regs → S → KP → Prop
  | .skip, r, s, Q => Q .normal r s
  | .ops _ l, r, s, Q => WpO T l r s (Q .normal)
  | .seq a b, r, s, Q => WpC T a r s fun e r s => match e with | .normal => WpC T b r s Q | e => Q e r s
  | .cond c a b, r, s, Q => match c.ev r with | .bool t => if t then WpC T a r s Q else WpC T b r s Q | _ => False
  | .block id b, r, s, Q => WpC T b r s fun e r s => match e with | .exit i => if i = id then Q .normal r s else Q (.exit i) r s | e => Q e r s
  | .loop b, r, s, Q => ∃ m, WpL (fun r s Q => WpC T b r s Q) Q m r s
  | .exit id, r, s, Q => Q (.exit id) r s
  | .ret, r, s, Q => Q .ret r s

section
variable {T : Tab}

def envOf (T : Tab) (n : Nat) : Env := ⟨evFn T n, T.meth⟩

theorem evI_env {i : I} (h : i.calls = false) (E E' : Env) (r : Regs) (s : S) : evI E i r s = evI E' i r s := by
  cases i <;> first | rfl | cases h

theorem WpI.sound {i : I} {r : Regs} {s : S} {Q : AV → S → Prop} (h : WpI T i r s Q) : ∃ N v s', Q v s' ∧ ∀ n, N ≤ n → evI (envOf T n) i r s = some (v, s') := by
  have other : i.calls = false → (match evI E₀ i r s with | some (v, s') => Q v s' | none => False) → ∃ N v s', Q v s' ∧ ∀ n, N ≤ n → evI (envOf T n) i r s = some (v, s') := by
    intro hc h
    split at h
    · rename_i v s' he
      exact ⟨0, v, s', h, fun n _ => by rw [evI_env hc _ E₀]; exact he⟩
    · exact h.elim
  cases i with
  | call f args => obtain ⟨N, v, s', q, hn⟩ := h; exact ⟨N, v, s', q, fun n hle => hn n hle⟩
  | callv x args =>
    simp only [WpI] at h
    split at h
    · rename_i f first caps hx
      obtain ⟨N, v, s', q, hn⟩ := h
      exact ⟨N, v, s', q, fun n hle => by simp only [evI, hx]; exact hn n hle⟩
    · exact h.elim
  | inv x m args =>
    simp only [WpI] at h
    split at h
    · rename_i t v hx
      split at h
      · rename_i f hf
        obtain ⟨N, u, s', q, hn⟩ := h
        exact ⟨N, u, s', q, fun n hle => by simp only [evI, hx, envOf, hf]; exact hn n hle⟩
      · exact h.elim
    · exact h.elim
  | _ => exact other rfl h

theorem ChkP.sound {r : Regs} {s : S} (E : Env) : ∀ {c : List (Option (Nat × Bool) × I × Nat)}, ChkP r s c → chkA E r s c = true
  | [], _ => rfl
  | (g, i, t) :: c, ⟨hc, h, hr⟩ => by
    simp only [chkA, ChkP.sound E hr, Bool.and_true]
    rw [evI_env hc E E₀]
    split at h
    · rename_i v s' he
      rw [he]
      simp only [h]
      exact AV.same_refl _
    · exact h.elim

theorem WpO.sound : ∀ {l : List PI} {r : Regs} {s : S} {Q : Regs → S → Prop}, WpO T l r s Q → ∃ N r' s', Q r' s' ∧ ∀ n, N ≤ n → ∀ k, evOps (envOf T n) l r s k = k r' s'
  | [], r, s, Q, h => ⟨0, r, s, h, fun n _ k => rfl⟩
  | p :: l, r, s, Q, h => by
    simp only [WpO] at h
    split at h
    · rename_i hw
      obtain ⟨N, v, s1, ⟨hc, hl⟩, hn⟩ := WpI.sound h
      obtain ⟨N2, r', s', q, hn2⟩ := WpO.sound hl
      refine ⟨max N N2, r', s', q, fun n hle k => ?_⟩
      simp only [evOps, evP, hw, if_true, hn n (by omega), ChkP.sound (envOf T n) hc]
      exact hn2 n (by omega) k
    · rename_i hw
      obtain ⟨hc, hl⟩ := h
      obtain ⟨N2, r', s', q, hn2⟩ := WpO.sound hl
      refine ⟨N2, r', s', q, fun n hle k => ?_⟩
      simp only [evOps, evP, if_neg hw, ChkP.sound (envOf T n) hc, if_true]
      exact hn2 n hle k

theorem WpC.sound : ∀ {c : PC} {r : Regs} {s : S} {Q : KP}, WpC T c r s Q → ∃ N e r' s', Q e r' s' ∧ ∀ n, N ≤ n → ∀ m, N ≤ m → ∀ k, evC (envOf T n) m c r s k = k e r' s' := by
  intro c
  induction c with
  | skip => intro r s Q h; exact ⟨0, _, r, s, h, fun n _ m _ k => rfl⟩
  | ops id l =>
    intro r s Q h
    obtain ⟨N, r', s', q, hn⟩ := WpO.sound h
    exact ⟨N, _, r', s', q, fun n hle m _ k => hn n hle (k .normal)⟩
  | seq a b iha ihb =>
    intro r s Q h
    obtain ⟨N, e, r1, s1, q, hn⟩ := iha h
    cases e with
    | normal =>
      obtain ⟨N2, e2, r2, s2, q2, hn2⟩ := ihb q
      exact ⟨max N N2, e2, r2, s2, q2, fun n hle m hm k => by simp only [evC, hn n (by omega) m (by omega)]; exact hn2 n (by omega) m (by omega) k⟩
    | exit i => exact ⟨N, _, r1, s1, q, fun n hle m hm k => by simp only [evC, hn n hle m hm]⟩
    | ret => exact ⟨N, _, r1, s1, q, fun n hle m hm k => by simp only [evC, hn n hle m hm]⟩
  | cond c a b iha ihb =>
    intro r s Q h
    simp only [WpC] at h
    split at h
    · rename_i t ht
      cases t with
      | true =>
        simp only [if_true] at h
        obtain ⟨N, e, r1, s1, q, hn⟩ := iha h
        exact ⟨N, e, r1, s1, q, fun n hle m hm k => by simp only [evC, ht, if_true]; exact hn n hle m hm k⟩
      | false =>
        simp only [Bool.false_eq_true, if_false] at h
        obtain ⟨N, e, r1, s1, q, hn⟩ := ihb h
        exact ⟨N, e, r1, s1, q, fun n hle m hm k => by simp only [evC, ht, Bool.false_eq_true, if_false]; exact hn n hle m hm k⟩
    · exact h.elim
  | block id b ih =>
    intro r s Q h
    obtain ⟨N, e, r1, s1, q, hn⟩ := ih h
    cases e with
    | normal => exact ⟨N, _, r1, s1, q, fun n hle m hm k => by simp only [evC, hn n hle m hm]⟩
    | ret => exact ⟨N, _, r1, s1, q, fun n hle m hm k => by simp only [evC, hn n hle m hm]⟩
    | exit i =>
      simp only at q
      split at q
      · rename_i hi
        exact ⟨N, _, r1, s1, q, fun n hle m hm k => by simp only [evC, hn n hle m hm, hi, if_true]⟩
      · rename_i hi
        exact ⟨N, _, r1, s1, q, fun n hle m hm k => by simp only [evC, hn n hle m hm, hi, if_false]⟩
  | loop b ih =>
    intro r s Q h
    obtain ⟨j, h⟩ := h
    have key : ∀ (j : Nat) (r : Regs) (s : S), WpL (fun r s Q => WpC T b r s Q) Q j r s →
        ∃ N e r' s', Q e r' s' ∧ ∀ n, N ≤ n → ∀ m, N ≤ m → ∀ i, N ≤ i → ∀ k, loopN (fun r s k => evC (envOf T n) m b r s k) i r s k = k e r' s' := by
      intro j
      induction j with
      | zero => intro r s h; exact h.elim
      | succ j ihj =>
        intro r s h
        obtain ⟨N, e, r1, s1, q, hn⟩ := ih h
        cases e with
        | normal =>
          obtain ⟨N2, e2, r2, s2, q2, hn2⟩ := ihj r1 s1 q
          refine ⟨max N N2 + 1, e2, r2, s2, q2, fun n hle m hm i hi k => ?_⟩
          cases i with
          | zero => omega
          | succ i =>
            simp only [loopN, hn n (by omega) m (by omega)]
            exact hn2 n (by omega) m (by omega) i (by omega) k
        | exit x =>
          refine ⟨N + 1, _, r1, s1, q, fun n hle m hm i hi k => ?_⟩
          cases i with
          | zero => omega
          | succ i => simp only [loopN, hn n (by omega) m (by omega)]
        | ret =>
          refine ⟨N + 1, _, r1, s1, q, fun n hle m hm i hi k => ?_⟩
          cases i with
          | zero => omega
          | succ i => simp only [loopN, hn n (by omega) m (by omega)]
    obtain ⟨N, e, r1, s1, q, hn⟩ := key j r s h
    exact ⟨N, e, r1, s1, q, fun n hle m hm k => by simp only [evC]; exact hn n hle m hm m hm k⟩
  | exit id => intro r s Q h; exact ⟨0, _, r, s, h, fun n _ m _ k => rfl⟩
  | ret => intro r s Q h; exact ⟨0, _, r, s, h, fun n _ m _ k => rfl⟩

/-- A function's results. -/
def FinP (res : List PR) (Q : AV → S → Prop) : KP := fun e r s => match e with
  | .exit _ => False
  | _ => match resA r s res with | some l => Q (packA l) s | none => False

theorem Ev.intro {f : FuncId} {pf : PF} {args : List AV} {s : S} {Q : AV → S → Prop} (hp : T.prim f = none) (hf : T.fn f = some pf) (ha : args.length = pf.nargs) (h : WpC T pf.body (initA args) s (FinP pf.results Q)) : Ev T f args s Q := by
  obtain ⟨N, e, r', s', q, hn⟩ := WpC.sound h
  cases e with
  | exit i => exact q.elim
  | normal =>
    simp only [FinP] at q
    split at q
    · rename_i l hl
      refine ⟨N + 1, _, s', q, fun n hle => ?_⟩
      cases n with
      | zero => omega
      | succ n =>
        simp only [evFn, hp, hf, ha, if_true]
        rw [show (⟨evFn T n, T.meth⟩ : Env) = envOf T n from rfl, hn n (by omega) n (by omega)]
        simp [finA, hl]
    · exact q.elim
  | ret =>
    simp only [FinP] at q
    split at q
    · rename_i l hl
      refine ⟨N + 1, _, s', q, fun n hle => ?_⟩
      cases n with
      | zero => omega
      | succ n =>
        simp only [evFn, hp, hf, ha, if_true]
        rw [show (⟨evFn T n, T.meth⟩ : Env) = envOf T n from rfl, hn n (by omega) n (by omega)]
        simp [finA, hl]
    · exact q.elim

theorem Ev.prim {f : FuncId} {p : List AV → S → Option (AV × S)} {args : List AV} {s s' : S} {v : AV} {Q : AV → S → Prop} (hp : T.prim f = some p) (h : p args s = some (v, s')) (q : Q v s') : Ev T f args s Q :=
  ⟨1, v, s', q, fun n hle => by cases n with | zero => omega | succ n => simp [evFn, hp, h]⟩

/-! ### postconditions grow -/
theorem WpI.mono {i : I} {r : Regs} {s : S} {Q Q' : AV → S → Prop} (h : WpI T i r s Q) (hq : ∀ v s', Q v s' → Q' v s') : WpI T i r s Q' := by
  have other : (match evI E₀ i r s with | some (v, s') => Q v s' | none => False) → (match evI E₀ i r s with | some (v, s') => Q' v s' | none => False) := by
    intro h
    split at h
    · rename_i he; exact hq _ _ h
    · exact h.elim
  cases i with
  | call f args => exact Ev.mono h hq
  | callv x args =>
    simp only [WpI] at h ⊢
    split at h
    · exact Ev.mono h hq
    · exact h.elim
  | inv x m args =>
    simp only [WpI] at h ⊢
    split at h
    · split at h
      · exact Ev.mono h hq
      · exact h.elim
    · exact h.elim
  | _ => exact other h

theorem WpO.mono : ∀ {l : List PI} {r : Regs} {s : S} {Q Q' : Regs → S → Prop}, WpO T l r s Q → (∀ r s, Q r s → Q' r s) → WpO T l r s Q'
  | [], _, _, _, _, h, hq => hq _ _ h
  | p :: l, r, s, Q, Q', h, hq => by
    simp only [WpO] at h ⊢
    by_cases hw : wantedA p.guard r = true
    · rw [if_pos hw] at h ⊢
      exact h.mono fun v s' hh => ⟨hh.1, WpO.mono hh.2 hq⟩
    · rw [if_neg hw] at h ⊢
      exact ⟨h.1, WpO.mono h.2 hq⟩

theorem WpC.mono : ∀ {c : PC} {r : Regs} {s : S} {Q Q' : KP}, WpC T c r s Q → (∀ e r s, Q e r s → Q' e r s) → WpC T c r s Q' := by
  intro c
  induction c with
  | skip => intro r s Q Q' h hq; exact hq _ _ _ h
  | ops id l => intro r s Q Q' h hq; exact WpO.mono h (hq _)
  | seq a b iha ihb =>
    intro r s Q Q' h hq
    refine iha h fun e r s h => ?_
    cases e with
    | normal => exact ihb h hq
    | exit i => exact hq _ _ _ h
    | ret => exact hq _ _ _ h
  | cond c a b iha ihb =>
    intro r s Q Q' h hq
    simp only [WpC] at h ⊢
    split at h
    · rename_i t _
      cases t with
      | true => simp only [if_true] at h ⊢; exact iha h hq
      | false => simp only [Bool.false_eq_true, if_false] at h ⊢; exact ihb h hq
    · exact h.elim
  | block id b ih =>
    intro r s Q Q' h hq
    refine ih h fun e r s h => ?_
    cases e with
    | normal => exact hq _ _ _ h
    | ret => exact hq _ _ _ h
    | exit i =>
      simp only at h ⊢
      by_cases hi : i = id
      · rw [if_pos hi] at h ⊢; exact hq _ _ _ h
      · rw [if_neg hi] at h ⊢; exact hq _ _ _ h
  | loop b ih =>
    intro r s Q Q' h hq
    obtain ⟨m, h⟩ := h
    refine ⟨m, ?_⟩
    induction m generalizing r s with
    | zero => exact h
    | succ m ihm =>
      refine ih h fun e r s h => ?_
      cases e with
      | normal => exact ihm h
      | exit i => exact hq _ _ _ h
      | ret => exact hq _ _ _ h
  | exit id => intro r s Q Q' h hq; exact hq _ _ _ h
  | ret => intro r s Q Q' h hq; exact hq _ _ _ h

/-- A loop, by a thing that is so at each round's head and a measure that falls. -/
theorem WpC.loop {b : PC} {r : Regs} {s : S} {Q : KP} (Inv : Nat → Regs → S → Prop) {m : Nat} (h0 : Inv m r s)
    (hr : ∀ m r s, Inv m r s → WpC T b r s fun e r s => match e with | .normal => ∃ m', m' < m ∧ Inv m' r s | e => Q e r s) : WpC T (.loop b) r s Q := by
  have key : ∀ (m : Nat) (j : Nat), m < j → ∀ r s, Inv m r s → WpL (fun r s Q => WpC T b r s Q) Q j r s := by
    intro m
    induction m using Nat.strongRecOn with
    | _ m ih =>
      intro j hj r s hi
      cases j with
      | zero => omega
      | succ j =>
        refine (hr m r s hi).mono fun e r s h => ?_
        cases e with
        | normal =>
          obtain ⟨m', hm, hi'⟩ := h
          exact ih m' hm j (by omega) r s hi'
        | exit i => exact h
        | ret => exact h
  exact ⟨m + 1, key m (m + 1) (Nat.lt_succ_self m) r s h0⟩
end
end Go.Ab
