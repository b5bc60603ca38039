/- The abstract machine and the model's: a region whose order is drawn: one order's run stands for all. -/
import Derived.Test.YtekkglhoeaipbaaDoorAbReg2
namespace Go.Ab

def PI.looks (p : PI) : List Nat := (match p.guard with | some (t, _) => [t] | none => []) ++ p.i.opds.flatMap Opd.tmps

structure DrawOk (ops : Array Oper) (pm : Nat → Nat) (l : List PI) : Prop where
  size : l.length = ops.size
  onto : ∀ (i : Nat), i < ops.size → ∃ (j : Nat) (p : PI), l[j]? = some p ∧ p.idx = i
  inj : ∀ (i j : Nat) (p q : PI), l[i]? = some p → l[j]? = some q → p.idx = q.idx → i = j
  mask : ∀ (j : Nat) (p : PI), l[j]? = some p → ∀ o, ops[p.idx]? = some o → ∀ i, (pm p.idx).testBit i = true → ∃ e ∈ o.after, Region.binds .any e = true ∧ (e.on = i ∨ (pm e.on).testBit i = true)
  ext : ∀ (j : Nat) (p : PI), l[j]? = some p → ∀ o, ops[p.idx]? = some o → ∀ e ∈ o.after, Region.binds .any e = true → ∃ (i : Nat) (q : PI), i < j ∧ l[i]? = some q ∧ q.idx = e.on
  writer : ∀ (i j : Nat) (p q : PI) (t : Nat), l[i]? = some p → l[j]? = some q → p.dst = some t → q.dst = some t → i = j
  uses : ∀ (i j : Nat) (p q : PI) (t : Nat), l[i]? = some p → l[j]? = some q → p.dst = some t → t ∈ q.looks → (i < j ∧ (pm q.idx).testBit p.idx = true) ∨ (j < i ∧ (pm p.idx).testBit q.idx = true ∧ q.i.rd = false)
  behind : ∀ (i j : Nat) (p q : PI), i < j → l[i]? = some p → l[j]? = some q → p.i.eff = true → (pm q.idx).testBit p.idx = true
  chk : ∀ (i j : Nat) (p q : PI), i < j → l[i]? = some p → l[j]? = some q → q.i.eff = true → p.i.rd = true → p.i.eff = false → (pm q.idx).testBit p.idx = true ∨ ∃ d, p.dst = some d ∧ (p.guard, p.i, d) ∈ q.chk

structure Trace (E : Env) (l : List PI) (st : Nat → S) (rg : Nat → Regs) (val : Nat → AV) : Prop where
  step : ∀ (j : Nat) (p : PI), l[j]? = some p → evP E p (rg j) (st j) = some (val j, st (j + 1))
  reg : ∀ (j : Nat) (p : PI), l[j]? = some p → rg (j + 1) = updO (rg j) p.dst (val j)
  chk : ∀ (j : Nat) (p : PI), l[j]? = some p → chkA E (rg (j + 1)) (st (j + 1)) p.chk = true

theorem evOps_trace {E : Env} {k : Regs → S → R} {res : AV × S} : ∀ (l : List PI) (r : Regs) (s : S), evOps E l r s k = some res →
    ∃ st rg val, st 0 = s ∧ rg 0 = r ∧ k (rg l.length) (st l.length) = some res ∧ Trace E l st rg val
  | [], r, s, h => ⟨fun _ => s, fun _ => r, fun _ => .undef, rfl, rfl, h, ⟨by simp, by simp, by simp⟩⟩
  | p :: l, r, s, h => by
    simp only [evOps] at h
    split at h
    · rename_i v s1 hv
      split at h
      · rename_i hc
        obtain ⟨st, rg, val, h0, h1, hk, ht⟩ := evOps_trace l _ _ h
        refine ⟨fun j => match j with | 0 => s | j + 1 => st j, fun j => match j with | 0 => r | j + 1 => rg j, fun j => match j with | 0 => v | j + 1 => val j, rfl, rfl, by simpa using hk, ?_⟩
        constructor
        · intro j q hq
          cases j with
          | zero => simp at hq; subst hq; simp only [h0]; exact hv
          | succ j => simp at hq; exact ht.step j q hq
        · intro j q hq
          cases j with
          | zero => simp at hq; subst hq; simp only [h1]
          | succ j => simp at hq; exact ht.reg j q hq
        · intro j q hq
          cases j with
          | zero => simp at hq; subst hq; simp only [h0, h1]; exact hc
          | succ j => simp at hq; exact ht.chk j q hq
      · cases h
    · cases h

theorem chkA_mem {E : Env} {r : Regs} {s : S} {g : Option (Nat × Bool)} {i : I} {t : Nat} : ∀ {c : List (Option (Nat × Bool) × I × Nat)}, chkA E r s c = true → (g, i, t) ∈ c →
    ∃ s', (if wantedA g r then evI E i r s else some (.undef, s)) = some (r t, s')
  | (g', i', t') :: c, h, hm => by
    simp only [chkA, Bool.and_eq_true] at h
    rcases List.mem_cons.1 hm with he | hm
    · simp only [Prod.mk.injEq] at he
      obtain ⟨rfl, rfl, rfl⟩ := he
      have h1 := h.1
      split at h1
      · rename_i v s' hv
        exact ⟨s', by rw [hv, AV.same_eq _ _ h1]⟩
      · cases h1
    · exact chkA_mem h.2 hm
  | [], _, hm => by cases hm

section
variable {P : Program} {nt : Nat} {ops : Array Oper} {pm : Nat → Nat} {l : List PI} {E : Env} {st : Nat → S} {rg : Nat → Regs} {val : Nat → AV}

theorem reg_stays (ht : Trace E l st rg val) {t : Nat} : ∀ (m' m : Nat), m ≤ m' → m' ≤ l.length → (∀ (i : Nat) (q : PI), m ≤ i → i < m' → l[i]? = some q → q.dst ≠ some t) → rg m' t = rg m t := by
  intro m'
  induction m' with
  | zero => intro m h _ _; have : m = 0 := by omega
            rw [this]
  | succ m' ih =>
    intro m h hl hw
    by_cases he : m = m' + 1
    · rw [he]
    · have hlt : m' < l.length := by omega
      have hq : l[m']? = some l[m'] := List.getElem?_eq_getElem hlt
      rw [ht.reg m' _ hq, ← ih m (by omega) (by omega) (fun i q h1 h2 => hw i q h1 (by omega))]
      have := hw m' _ (by omega) (by omega) hq
      cases hd : (l[m']).dst with
      | none => rfl
      | some d =>
        rw [hd] at this
        simp only [updO, upd]
        rw [if_neg (by rintro rfl; exact this rfl)]

/-- What an operation writes stands at the end. -/
theorem reg_end (hd : DrawOk ops pm l) (ht : Trace E l st rg val) {j : Nat} {p : PI} {t m : Nat} (hj : l[j]? = some p) (hp : p.dst = some t) (hm : j < m) (hml : m ≤ l.length) : rg m t = val j := by
  have hlt : j < l.length := (List.getElem?_eq_some_iff.1 hj).1
  rw [reg_stays ht m (j + 1) hm hml (fun i q h1 h2 hq he => by have := hd.writer j i p q t hj hq hp he; omega)]
  rw [ht.reg j p hj, hp]
  simp [updO, upd]

/-- What a read looks at stands as it was, from it on. -/
theorem reg_look (hd : DrawOk ops pm l) (ht : Trace E l st rg val) {j : Nat} {p : PI} {t m : Nat} (hj : l[j]? = some p) (hrd : p.i.rd = true) (hp : t ∈ p.looks) (hm : j ≤ m) (hml : m ≤ l.length) : rg m t = rg j t := by
  refine reg_stays ht m j hm hml (fun i q h1 h2 hq he => ?_)
  rcases hd.uses i j q p t hq hj he hp with h | h
  · have := h.1; omega
  · rw [hrd] at h; exact absurd h.2.2 (by simp)

theorem looks_guard {p : PI} {t : Nat} {b : Bool} (h : p.guard = some (t, b)) : t ∈ p.looks := by simp [PI.looks, h]
theorem looks_opd {p : PI} {t : Nat} {x : Opd} (hx : x ∈ p.i.opds) (ht : t ∈ x.tmps) : t ∈ p.looks := by
  simp only [PI.looks, List.mem_append, List.mem_flatMap]
  exact .inr ⟨x, hx, ht⟩

theorem alike_of {p : PI} {r r' : Regs} (h : ∀ t ∈ p.looks, r t = r' t) : Alike p.i.opds r r' ∧ wantedA p.guard r = wantedA p.guard r' := by
  refine ⟨fun x hx => Opd.ev_eq fun t ht => h t (looks_opd hx ht), ?_⟩
  cases hg : p.guard with
  | none => rfl
  | some tb =>
    obtain ⟨t, b⟩ := tb
    simp only [wantedA, h t (looks_guard hg)]

theorem evP_congr {p : PI} {r r' : Regs} (h : ∀ t ∈ p.looks, r t = r' t) (s : S) : evP E p r s = evP E p r' s := by
  obtain ⟨h1, h2⟩ := alike_of h
  simp only [evP, h2, evI_congr E p.i s h1]

/-- An operation without effect: the state stays, or one thing is made. -/
theorem still_step {p : PI} {r : Regs} {s s' : S} {v : AV} (he : p.i.eff = false) (h : evP E p r s = some (v, s')) : s' = s ∨ ∃ obj, s' = s.new obj := by
  unfold evP at h
  split at h
  · cases ha : p.i.alc with
    | false => exact .inl (quiet_ext he ha h).1
    | true => obtain ⟨mk, obj, _, _, _, h1, _⟩ := alc_form ha h; exact .inr ⟨obj, h1⟩
  · simp only [Option.some.injEq, Prod.mk.injEq] at h
    exact .inl h.2.symm

structure Good (ν₀ : Nu) (s₀ : S) (w₀ : World) (st : Nat → S) (m : Nat) (ν : Nu) (w : World) : Prop where
  ok : Ok ν₀ s₀ w₀ ν (st m) w
  mono : ∀ i j, i ≤ j → j ≤ m → (st i).ctr ≤ (st j).ctr
  fresh : ∀ i, i ≤ m → Fresh (st i)

variable {ν₀ ν : Nu} {s₀ : S} {w₀ w : World}

theorem Good.still (ht : Trace E l st rg val) {m : Nat} (h : Good ν₀ s₀ w₀ st m ν w) {p : PI} (hp : l[m]? = some p) (he : p.i.eff = false) : Good ν₀ s₀ w₀ st (m + 1) ν w ∧ Sub (st m) (st (m + 1)) := by
  have key : Ok ν₀ s₀ w₀ ν (st (m + 1)) w ∧ (st m).ctr ≤ (st (m + 1)).ctr ∧ Fresh (st (m + 1)) ∧ Sub (st m) (st (m + 1)) := by
    rcases still_step he (ht.step m p hp) with h1 | ⟨obj, h1⟩
    · rw [h1]; exact ⟨h.ok, Nat.le_refl _, h.fresh m (Nat.le_refl _), Sub.refl _⟩
    · rw [h1]; exact ⟨h.ok.ghost obj, by rw [S.ctr_new]; omega, (h.fresh m (Nat.le_refl _)).new obj, (h.fresh m (Nat.le_refl _)).sub obj⟩
  refine ⟨⟨key.1, fun i j hij hj => ?_, fun i hi => ?_⟩, key.2.2.2⟩
  · by_cases hj' : j = m + 1
    · subst hj'
      by_cases hi : i = m + 1
      · subst hi; exact Nat.le_refl _
      · exact Nat.le_trans (h.mono i m (by omega) (Nat.le_refl _)) key.2.1
    · exact h.mono i j hij (by omega)
  · by_cases hi' : i = m + 1
    · subst hi'; exact key.2.2.1
    · exact h.fresh i (by omega)

/-- On to the next effect. -/
theorem Good.advance (ht : Trace E l st rg val) : ∀ (f m : Nat), m + f = l.length → Good ν₀ s₀ w₀ st m ν w →
    ∃ m', m ≤ m' ∧ m' ≤ l.length ∧ Good ν₀ s₀ w₀ st m' ν w ∧ (∀ (j : Nat) (p : PI), m ≤ j → j < m' → l[j]? = some p → p.i.eff = false) ∧ (∀ p : PI, l[m']? = some p → p.i.eff = true) ∧ (∀ i j, m ≤ i → i ≤ j → j ≤ m' → Sub (st i) (st j)) := by
  intro f
  induction f with
  | zero =>
    intro m hm h
    refine ⟨m, Nat.le_refl _, by omega, h, fun j p h1 h2 => by omega, fun p hp => ?_, fun i j h1 h2 h3 => ?_⟩
    · rw [List.getElem?_eq_none (by omega)] at hp; cases hp
    · have : i = j := by omega
      subst this; exact Sub.refl _
  | succ f ih =>
    intro m hm h
    have hp : l[m]? = some l[m] := List.getElem?_eq_getElem (by omega)
    cases he : (l[m]).i.eff with
    | true =>
      refine ⟨m, Nat.le_refl _, by omega, h, fun j p h1 h2 => by omega, fun p hp' => ?_, fun i j h1 h2 h3 => ?_⟩
      · rw [hp] at hp'; cases hp'; exact he
      · have : i = j := by omega
        subst this; exact Sub.refl _
    | false =>
      obtain ⟨h1, h2⟩ := h.still ht hp he
      obtain ⟨m', a1, a2, a3, a4, a5, a6⟩ := ih (m + 1) (by omega) h1
      refine ⟨m', by omega, a2, a3, fun j p h1 h2 hj => ?_, a5, fun i j h1' h2' h3' => ?_⟩
      · by_cases hj' : j = m
        · subst hj'; rw [hp] at hj; cases hj; exact he
        · exact a4 j p (by omega) h2 hj
      · by_cases hi : i = m
        · subst hi
          by_cases hj : j = i
          · subst hj; exact Sub.refl _
          · exact h2.trans (a6 (i + 1) j (Nat.le_refl _) (by omega) h3')
        · exact a6 i j (by omega) h2' h3'

end
end Go.Ab
