/- The abstract machine and the model's: an operation with its guard; a region in the text's order. -/
import Derived.Test.YtekkglhoeaipbaaDoorAbReg0
namespace Go.Ab

def prepGuard (ops : Array Oper) : Option (Nat × Bool) → Option (Option (Nat × Bool))
  | none => some none
  | some (j, b) => ((ops[j]?).bind (·.dst)).map fun d => some (d, b)

def dstOk (nt : Nat) : Option Tmp → Bool
  | none => true
  | some d => decide (d < nt)

def prepPI (P : Program) (nt : Nat) (ops : Array Oper) (i : Nat) : Option PI := do
  let o ← ops[i]?
  let p ← prepOp P o
  let g ← prepGuard ops o.guard
  if dstOk nt o.dst then some ⟨i, o.dst, g, p, []⟩ else none

structure OpP (P : Program) (nt : Nat) (ops : Array Oper) (p : PI) (o : Oper) : Prop where
  at_ : ops[p.idx]? = some o
  prep : prepOp P o = some p.i
  dst : o.dst = p.dst
  guard : prepGuard ops o.guard = some p.guard
  fits : dstOk nt p.dst = true

theorem prepPI_ok {P : Program} {nt : Nat} {ops : Array Oper} {i : Nat} {p : PI} (h : prepPI P nt ops i = some p) : p.idx = i ∧ p.chk = [] ∧ ∃ o, OpP P nt ops p o := by
  unfold prepPI at h
  simp only [Option.bind_eq_bind, Option.bind_eq_some_iff] at h
  obtain ⟨o, ho, q, hq, g, hg, h⟩ := h
  split at h
  · rename_i hd
    simp only [Option.some.injEq] at h
    subst h
    exact ⟨rfl, rfl, o, ho, hq, rfl, hg, hd⟩
  · cases h

/-- Registers and frame agree; the frame has its size. -/
structure RA (ν : Nu) (nt : Nat) (r : Regs) (a : Act) : Prop where
  rr : RR ν r a
  size : a.tmps.size = nt
  noDefers : a.defers = []

theorem RA.mono {ν ν' : Nu} {nt : Nat} {r : Regs} {a : Act} (h : RA ν nt r a) (hl : Le ν ν') : RA ν' nt r a := ⟨fun t => conc_mono hl (h.rr t), h.size, h.noDefers⟩

theorem conc_undef (ν : Nu) : conc ν AV.undef = some Go.undef := rfl

theorem RA.put {ν : Nu} {nt : Nat} {r : Regs} {a : Act} (h : RA ν nt r a) {d : Option Tmp} (hd : dstOk nt d = true) {u : AV} {v : Value} (hv : conc ν u = some v) : RA ν nt (updO r d u) (a.put d v) := by
  cases d with
  | none => exact h
  | some d =>
    have hlt : d < nt := by simpa [dstOk] using hd
    refine ⟨fun t => ?_, by simp [Act.put, h.size], h.noDefers⟩
    simp only [updO, upd, Act.put]
    by_cases he : t = d
    · subst he
      simp only [if_true]
      rw [hv]
      simp [Array.getD_eq_getD_getElem?, Array.getElem?_setIfInBounds, h.size, hlt]
    · simp only [he, if_false]
      rw [h.rr t]
      simp [Array.getD_eq_getD_getElem?, Array.getElem?_setIfInBounds_ne (Ne.symm he)]

theorem conc_bool_inv {ν : Nu} {v : AV} {b : Bool} (h : conc ν v = some (.bool b)) : v = .bool b := by
  cases v with
  | bool c => simp [conc] at h; rw [h]
  | esl b o1 o2 st => obtain ⟨_, _, h, _⟩ := conc_esl h; cases h
  | slice x o n c opn =>
    cases opn <;> simp only [conc, Option.bind_eq_some_iff, Option.map_eq_some_iff] at h <;> obtain ⟨L, _, hx⟩ := h
    · cases hx
    · split at hx <;> cases hx
  | _ => first
    | (simp [conc] at h; done)
    | (simp only [conc, Option.bind_eq_some_iff, Option.map_eq_some_iff] at h; obtain ⟨_, _, h⟩ := h; cases h; done)
    | (simp only [conc, Option.bind_eq_some_iff, Option.map_eq_some_iff] at h; obtain ⟨_, _, _, _, h⟩ := h; cases h; done)

section
variable {P : Program} {nt : Nat} {ops : Array Oper} {p : PI} {o : Oper} {ν : Nu} {r : Regs} {a : Act} {w : World} {s s' : S} {E : Env} {u : AV}

theorem OpP.wanted (h : OpP P nt ops p o) (hr : RA ν nt r a) : Region.wanted o (yielded ops a.tmps) = wantedA p.guard r := by
  have hg := h.guard
  unfold Region.wanted
  cases ho : o.guard with
  | none => rw [ho] at hg; simp only [prepGuard, Option.some.injEq] at hg; rw [← hg]; rfl
  | some jb =>
    obtain ⟨j, b⟩ := jb
    rw [ho] at hg
    simp only [prepGuard, Option.map_eq_some_iff] at hg
    obtain ⟨d, hd, hg⟩ := hg
    rw [← hg]
    simp only [yielded, hd, Option.bind_some, wantedA]
    have h1 := hr.rr d
    cases ht : a.tmps[d]? with
    | none =>
      have : a.tmps.getD d Go.undef = Go.undef := by simp [Array.getD_eq_getD_getElem?, ht]
      rw [this] at h1
      cases hrd : r d with
      | bool c => rw [hrd] at h1; simp [conc, Go.undef] at h1
      | _ => rfl
    | some v =>
      have : a.tmps.getD d Go.undef = v := by simp [Array.getD_eq_getD_getElem?, ht]
      rw [this] at h1
      cases hrd : r d with
      | bool c =>
        rw [hrd] at h1; simp only [conc, Option.some.injEq] at h1; subst h1
        simp
      | _ =>
        simp only
        split
        · rename_i b' hb'
          have hvb : v = .bool b' := by simpa using hb'
          rw [hvb] at h1
          have := conc_bool_inv h1
          rw [hrd] at this
          cases this
        · rfl

/-- An operation, passed over or carried out. -/
theorem evP_run (hE : EnvOk P E) (h : OpP P nt ops p o) (hr : RA ν nt r a) (hs : Sim ν s w) (he : evP E p r s = some (u, s')) :
    ∃ ν' w' v', Ok ν s w ν' s' w' ∧ conc ν' u = some v' ∧ OpRun P ops p.idx a w (a.put p.dst v') w' := by
  unfold evP at he
  have hw := h.wanted hr
  split at he
  · rename_i hwa
    rw [hwa] at hw
    obtain ⟨ν', w', v', h1, h2, h3⟩ := evI_run hE h.at_ hw h.prep hr.rr hs he
    exact ⟨ν', w', v', h1, h2, by rw [← h.dst]; exact h3⟩
  · rename_i hwa
    simp only [Option.some.injEq, Prod.mk.injEq] at he
    obtain ⟨rfl, rfl⟩ := he
    have hwf : wantedA p.guard r = false := by simpa using hwa
    rw [hwf] at hw
    exact ⟨ν, w, Go.undef, Ok.refl hs, rfl, by rw [← h.dst]; exact OpRun.skip h.at_ hw⟩

end

/-- These operations of a region are carried out, one after another. -/
def SchRun (P : Program) (ops : Array Oper) (l : List Nat) (a : Act) (w : World) (a' : Act) (w' : World) : Prop :=
  ∀ (b : Frame) (k : List Item) (cs : List Frame), Steps P (lone (b.at a (.inRegion ops l :: k)) cs w) (lone (b.at a' (.inRegion ops [] :: k)) cs w')

theorem SchRun.nil {P : Program} {ops : Array Oper} {a : Act} {w : World} : SchRun P ops [] a w a w := fun _ _ _ => .refl _ _
theorem SchRun.cons {P : Program} {ops : Array Oper} {i : Nat} {l : List Nat} {a a1 a2 : Act} {w w1 w2 : World} (h : OpRun P ops i a w a1 w1) (k : SchRun P ops l a1 w1 a2 w2) : SchRun P ops (i :: l) a w a2 w2 :=
  fun b k' cs => (h b l k' cs).trans (k b k' cs)

theorem text_run {P : Program} {nt : Nat} {ops : Array Oper} {E : Env} (hE : EnvOk P E) {k : Regs → S → R} {res : AV × S} : ∀ (l : List PI) (is : List Nat) (r : Regs) (s : S),
    is = l.map (·.idx) → (∀ p ∈ l, ∃ o, OpP P nt ops p o) → evOps E l r s k = some res →
    ∃ r' s', k r' s' = some res ∧ ∀ ν a w, RA ν nt r a → Sim ν s w → ∃ ν' a' w', Ok ν s w ν' s' w' ∧ RA ν' nt r' a' ∧ SchRun P ops is a w a' w'
  | [], is, r, s, hi, _, h => by subst hi; exact ⟨r, s, h, fun ν a w hr hs => ⟨ν, a, w, Ok.refl hs, hr, .nil⟩⟩
  | p :: l, is, r, s, hi, hl, h => by
    subst hi
    simp only [evOps] at h
    split at h
    · rename_i v s1 hv
      split at h
      · obtain ⟨r', s', hk, hrun⟩ := text_run hE l (l.map (·.idx)) _ _ rfl (fun q hq => hl q (by simp [hq])) h
        refine ⟨r', s', hk, fun ν a w hr hs => ?_⟩
        obtain ⟨o, ho⟩ := hl p (by simp)
        obtain ⟨ν1, w1, v1, hok, hc, hop⟩ := evP_run hE ho hr hs hv
        obtain ⟨ν', a', w', hok2, hr2, hrun2⟩ := hrun ν1 _ w1 ((hr.mono hok.le).put ho.fits hc) hok.sim
        exact ⟨ν', a', w', hok.trans hs hok2, hr2, .cons hop hrun2⟩
      · cases h
    · cases h

end Go.Ab
