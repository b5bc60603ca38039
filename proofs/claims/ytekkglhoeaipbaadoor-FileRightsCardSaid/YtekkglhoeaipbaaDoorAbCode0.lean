/- The abstract machine and the model's: an order is found, and looked through. -/
import Derived.Test.YtekkglhoeaipbaaDoorAbReg4
namespace Go.Ab

def maskOf (ops : Array Oper) (ms : List Nat) (i : Nat) : Nat :=
  match ops[i]? with
  | some o => o.after.toList.foldl (fun m e => if Region.binds .any e then m ||| (2 ^ e.on ||| ms.getD e.on 0) else m) 0
  | none => 0

theorem testBit_two_pow_on {n i : Nat} (h : (2 ^ n).testBit i = true) : n = i := by
  rw [Nat.testBit_two_pow] at h
  simpa using h

theorem maskOf_spec {ops : Array Oper} {ms : List Nat} {i k : Nat} (h : (maskOf ops ms i).testBit k = true) {o : Oper} (ho : ops[i]? = some o) :
    ∃ e ∈ o.after, Region.binds .any e = true ∧ (e.on = k ∨ (ms.getD e.on 0).testBit k = true) := by
  unfold maskOf at h
  rw [ho] at h
  simp only at h
  have key : ∀ (l : List Edge) (m : Nat), (l.foldl (fun m e => if Region.binds .any e then m ||| (2 ^ e.on ||| ms.getD e.on 0) else m) m).testBit k = true →
      m.testBit k = true ∨ ∃ e ∈ l, Region.binds .any e = true ∧ (e.on = k ∨ (ms.getD e.on 0).testBit k = true) := by
    intro l
    induction l with
    | nil => intro m h; exact .inl h
    | cons e l ih =>
      intro m h
      simp only [List.foldl_cons] at h
      rcases ih _ h with h1 | ⟨e', he', h1⟩
      · split at h1
        · rename_i hb
          simp only [Nat.testBit_or, Bool.or_eq_true] at h1
          rcases h1 with h1 | h1 | h1
          · exact .inl h1
          · exact .inr ⟨e, by simp, hb, .inl (testBit_two_pow_on h1)⟩
          · exact .inr ⟨e, by simp, hb, .inr h1⟩
        · exact .inl h1
      · exact .inr ⟨e', by simp [he'], h1⟩
  rcases key _ _ h with h1 | ⟨e, he, h1⟩
  · simp at h1
  · exact ⟨e, by simpa using he, h1⟩

def readyB (ops : Array Oper) (done i : Nat) : Bool :=
  !done.testBit i && (match ops[i]? with | some o => o.after.toList.all (fun e => !Region.binds .any e || done.testBit e.on) | none => false)

/-- An order: what has no effect first. -/
def greedy (ops : Array Oper) (eff : List Bool) : Nat → Nat → List Nat
  | 0, _ => []
  | f + 1, done =>
    let rs := (List.range ops.size).filter (readyB ops done)
    match rs.find? (fun i => !eff.getD i true) with
    | some i => i :: greedy ops eff f (done ||| 2 ^ i)
    | none => match rs with
      | i :: _ => i :: greedy ops eff f (done ||| 2 ^ i)
      | [] => []

def racing (ms : List Nat) (q : PI) : List PI → Option (List (Option (Nat × Bool) × I × Nat))
  | [] => some []
  | p :: l => if p.i.rd && !p.i.eff && !(ms.getD q.idx 0).testBit p.idx then
      match p.dst with
      | some d => (racing ms q l).map ((p.guard, p.i, d) :: ·)
      | none => none
    else racing ms q l

def addChk (ms : List Nat) : List PI → List PI → Option (List PI)
  | _, [] => some []
  | prev, q :: l => (if q.i.eff then racing ms q prev else some []).bind fun c => (addChk ms (q :: prev) l).bind fun l' => some ({ q with chk := c } :: l')

theorem racing_spec {ms : List Nat} {q p : PI} : ∀ {l : List PI} {c}, racing ms q l = some c → p ∈ l → p.i.rd = true → p.i.eff = false → (ms.getD q.idx 0).testBit p.idx = true ∨ ∃ d, p.dst = some d ∧ (p.guard, p.i, d) ∈ c
  | [], _, _, hp, _, _ => by cases hp
  | x :: l, c, h, hp, hr, he => by
    simp only [racing] at h
    rcases List.mem_cons.1 hp with rfl | hp
    · split at h
      · split at h
        · rename_i d hd
          simp only [Option.map_eq_some_iff] at h
          obtain ⟨c', _, rfl⟩ := h
          exact .inr ⟨d, hd, by simp⟩
        · cases h
      · rename_i hc
        simp [hr, he] at hc
        exact .inl (by simpa using hc)
    · split at h
      · split at h
        · simp only [Option.map_eq_some_iff] at h
          obtain ⟨c', hc', rfl⟩ := h
          rcases racing_spec hc' hp hr he with h1 | ⟨d, h1, h2⟩
          · exact .inl h1
          · exact .inr ⟨d, h1, by simp [h2]⟩
        · cases h
      · exact racing_spec h hp hr he

theorem addChk_spec {ms : List Nat} : ∀ {l prev l' : List PI}, addChk ms prev l = some l' → ∀ (j : Nat) (q' : PI), l'[j]? = some q' →
    ∃ q, l[j]? = some q ∧ q' = { q with chk := q'.chk } ∧ (q.i.eff = true → ∀ p, (p ∈ prev ∨ ∃ i, i < j ∧ l[i]? = some p) → p.i.rd = true → p.i.eff = false → (ms.getD q.idx 0).testBit p.idx = true ∨ ∃ d, p.dst = some d ∧ (p.guard, p.i, d) ∈ q'.chk)
  | [], prev, l', h, j, q', hj => by simp [addChk] at h; subst h; simp at hj
  | x :: l, prev, l', h, j, q', hj => by
    simp only [addChk, Option.bind_eq_some_iff, Option.some.injEq] at h
    obtain ⟨c, hc, l2, hl2, rfl⟩ := h
    cases j with
    | zero =>
      simp only [List.getElem?_cons_zero, Option.some.injEq] at hj
      subst hj
      refine ⟨x, rfl, rfl, fun he p hp hr hpe => ?_⟩
      rw [if_pos he] at hc
      rcases hp with hp | ⟨i, hi, _⟩
      · exact racing_spec hc hp hr hpe
      · omega
    | succ j =>
      simp only [List.getElem?_cons_succ] at hj
      obtain ⟨q, h1, h2, h3⟩ := addChk_spec hl2 j q' hj
      refine ⟨q, by simpa using h1, h2, fun he p hp => h3 he p ?_⟩
      rcases hp with hp | ⟨i, hi, hp⟩
      · exact .inl (by simp [hp])
      · cases i with
        | zero => simp at hp; subst hp; exact .inl (by simp)
        | succ i => exact .inr ⟨i, by omega, by simpa using hp⟩

def pairB (ms : List Nat) (p q : PI) : Bool :=
  !(p.idx == q.idx) &&
  (match p.dst with
    | some t => !(q.dst == some t) && (!q.looks.contains t || (ms.getD q.idx 0).testBit p.idx)
    | none => true) &&
  (match q.dst with | some t => !p.looks.contains t || ((ms.getD q.idx 0).testBit p.idx && !p.i.rd) | none => true) &&
  (!p.i.eff || (ms.getD q.idx 0).testBit p.idx)

def pairsB (f : PI → PI → Bool) : List PI → Bool
  | [] => true
  | p :: l => l.all (f p) && pairsB f l

theorem pairsB_spec {f : PI → PI → Bool} : ∀ {l : List PI}, pairsB f l = true → ∀ (i j : Nat) (p q : PI), i < j → l[i]? = some p → l[j]? = some q → f p q = true
  | [], _, i, j, p, q, _, hi, _ => by simp at hi
  | x :: l, h, i, j, p, q, hij, hi, hj => by
    simp only [pairsB, Bool.and_eq_true, List.all_eq_true] at h
    cases j with
    | zero => omega
    | succ j =>
      simp at hj
      cases i with
      | zero => simp at hi; subst hi; exact h.1 q (List.mem_of_getElem? hj)
      | succ i => simp at hi; exact pairsB_spec h.2 i j p q (by omega) hi hj

def selfB (ops : Array Oper) (ms : List Nat) (q : PI) : Bool :=
  (match q.dst with | some t => !q.looks.contains t | none => true) && ms.getD q.idx 0 == maskOf ops ms q.idx

def extB (ops : Array Oper) : List Nat → List PI → Bool
  | _, [] => true
  | prev, q :: l => (match ops[q.idx]? with
      | some o => o.after.toList.all (fun e => !Region.binds .any e || prev.contains e.on)
      | none => true) && extB ops (q.idx :: prev) l

theorem extB_spec {ops : Array Oper} : ∀ {l : List PI} {prev : List Nat}, extB ops prev l = true → ∀ (j : Nat) (p : PI), l[j]? = some p → ∀ o, ops[p.idx]? = some o → ∀ e ∈ o.after, Region.binds .any e = true →
    e.on ∈ prev ∨ ∃ (i : Nat) (q : PI), i < j ∧ l[i]? = some q ∧ q.idx = e.on
  | [], _, _, j, p, hj, _, _, _, _, _ => by simp at hj
  | x :: l, prev, h, j, p, hj, o, ho, e, he, hb => by
    simp only [extB, Bool.and_eq_true] at h
    cases j with
    | zero =>
      simp only [List.getElem?_cons_zero, Option.some.injEq] at hj
      subst hj
      have h1 := h.1
      rw [ho] at h1
      simp only [List.all_eq_true] at h1
      have := h1 e (by simpa using he)
      simp only [hb, Bool.not_true, Bool.false_or, List.contains_eq_mem, decide_eq_true_eq] at this
      exact .inl this
    | succ j =>
      simp only [List.getElem?_cons_succ] at hj
      rcases extB_spec h.2 j p hj o ho e he hb with h1 | ⟨i, q, hi, hq, hqi⟩
      · rcases List.mem_cons.1 h1 with h1 | h1
        · exact .inr ⟨0, x, by omega, rfl, h1.symm⟩
        · exact .inl h1
      · exact .inr ⟨i + 1, q, by omega, by simpa using hq, hqi⟩

def drawB (ops : Array Oper) (ms : List Nat) (l : List PI) : Bool :=
  l.length == ops.size && (List.range ops.size).all (fun i => l.any (·.idx == i)) && l.all (selfB ops ms) && pairsB (pairB ms) l && extB ops [] l

theorem drawB_ok {ops : Array Oper} {ms : List Nat} {l0 l : List PI} (ha : addChk ms [] l0 = some l) (h : drawB ops ms l = true) : DrawOk ops (fun i => ms.getD i 0) l := by
  simp only [drawB, Bool.and_eq_true, beq_iff_eq, List.all_eq_true] at h
  obtain ⟨⟨⟨⟨h1, h2⟩, h3⟩, h4⟩, h5⟩ := h
  have hpair : ∀ (i j : Nat) (p q : PI), i < j → l[i]? = some p → l[j]? = some q → pairB ms p q = true := pairsB_spec h4
  have hself : ∀ (j : Nat) (p : PI), l[j]? = some p → selfB ops ms p = true := fun j p hp => h3 p (List.mem_of_getElem? hp)
  refine ⟨h1, fun i hi => ?_, fun i j p q hp hq he => ?_, fun j p hp o ho i hb => ?_, fun j p hp o ho e he hb => ?_, fun i j p q t hp hq hpd hqd => ?_, fun i j p q t hp hq hpd ht => ?_, fun i j p q hij hp hq he => ?_, fun i j p q hij hp hq hqe hpr hpe => ?_⟩
  · have := h2 i (List.mem_range.2 hi)
    rw [List.any_eq_true] at this
    obtain ⟨p, hp, he⟩ := this
    obtain ⟨j, hj⟩ := List.mem_iff_getElem?.1 hp
    exact ⟨j, p, hj, by simpa using he⟩
  · rcases Nat.lt_trichotomy i j with hlt | heq | hgt
    · have := hpair i j p q hlt hp hq
      simp [pairB, he] at this
    · exact heq
    · have := hpair j i q p hgt hq hp
      simp [pairB, he] at this
  · have := hself j p hp
    simp only [selfB, Bool.and_eq_true, beq_iff_eq] at this
    have hm := this.2
    have hb' : (ms.getD p.idx 0).testBit i = true := hb
    rw [hm] at hb'
    exact maskOf_spec hb' ho
  · exact (extB_spec h5 j p hp o ho e he hb).resolve_left (by simp)
  · rcases Nat.lt_trichotomy i j with hlt | heq | hgt
    · have := hpair i j p q hlt hp hq
      simp [pairB, hpd, hqd] at this
    · exact heq
    · have := hpair j i q p hgt hq hp
      simp [pairB, hpd, hqd] at this
  · rcases Nat.lt_trichotomy i j with hlt | heq | hgt
    · have := hpair i j p q hlt hp hq
      simp only [pairB, hpd, Bool.and_eq_true, Bool.or_eq_true] at this
      refine .inl ⟨hlt, this.1.1.2.2.resolve_left ?_⟩
      simp [ht]
    · subst heq
      rw [hp] at hq; cases hq
      have := hself i p hp
      simp only [selfB, hpd, Bool.and_eq_true] at this
      simp [ht] at this
    · have := hpair j i q p hgt hq hp
      simp only [pairB, hpd, Bool.and_eq_true, Bool.or_eq_true] at this
      have := this.1.2.resolve_left (by simp [ht])
      exact .inr ⟨hgt, this.1, by simpa using this.2⟩
  · have := hpair i j p q hij hp hq
    simp only [pairB, Bool.and_eq_true, Bool.or_eq_true] at this
    exact this.2.resolve_left (by simp [he])
  · obtain ⟨q0, hq0, hqe0, hspec⟩ := addChk_spec ha j q hq
    obtain ⟨p0, hp0, hpe0, _⟩ := addChk_spec ha i p hp
    rw [hqe0] at hqe
    rw [hpe0] at hpr hpe
    rcases hspec hqe p0 (.inr ⟨i, hij, hp0⟩) hpr hpe with h6 | ⟨d, h6, h7⟩
    · left; rw [hqe0, hpe0]; exact h6
    · right; refine ⟨d, by rw [hpe0]; exact h6, ?_⟩
      rw [hpe0]; exact h7

def prepDraw (P : Program) (nt : Nat) (ops : Array Oper) : Option (List PI) := do
  let ps ← (List.range ops.size).mapM (prepPI P nt ops)
  let ord := greedy ops (ps.map (·.i.eff)) ops.size 0
  let ms := ord.foldl (fun ms i => ms.set i (maskOf ops ms i)) (List.replicate ops.size 0)
  let l ← addChk ms [] (ord.filterMap (ps[·]?))
  if drawB ops ms l then some l else none

theorem mapM_mem {α β : Type} {f : α → Option β} : ∀ {l : List α} {m : List β}, l.mapM f = some m → ∀ b ∈ m, ∃ a ∈ l, f a = some b
  | [], m, h, b, hb => by simp at h; subst h; cases hb
  | x :: l, m, h, b, hb => by
    simp only [List.mapM_cons, Option.pure_def, Option.bind_eq_bind, Option.bind_eq_some_iff, Option.some.injEq] at h
    obtain ⟨y, hy, m', hm, rfl⟩ := h
    rcases List.mem_cons.1 hb with rfl | hb
    · exact ⟨x, by simp, hy⟩
    · obtain ⟨a, ha, h1⟩ := mapM_mem hm b hb
      exact ⟨a, by simp [ha], h1⟩

theorem prepDraw_ok {P : Program} {nt : Nat} {ops : Array Oper} {l : List PI} (h : prepDraw P nt ops = some l) : ∃ pm, DrawOk ops pm l ∧ ∀ p ∈ l, ∃ o, OpP P nt ops p o := by
  unfold prepDraw at h
  simp only [Option.bind_eq_bind, Option.bind_eq_some_iff] at h
  obtain ⟨ps, hps, l', hl', h⟩ := h
  split at h
  · rename_i hd
    simp only [Option.some.injEq] at h
    subst h
    refine ⟨_, drawB_ok hl' hd, fun p hp => ?_⟩
    obtain ⟨j, hj⟩ := List.mem_iff_getElem?.1 hp
    obtain ⟨q, hq, hpq, _⟩ := addChk_spec hl' j p hj
    have hqm := List.mem_of_getElem? hq
    rw [List.mem_filterMap] at hqm
    obtain ⟨i, _, hi⟩ := hqm
    obtain ⟨k, _, hk⟩ := mapM_mem hps q (List.mem_of_getElem? hi)
    obtain ⟨_, _, o, ho⟩ := prepPI_ok hk
    rw [hpq]
    exact ⟨o, ho.at_, ho.prep, ho.dst, ho.guard, ho.fits⟩
  · cases h

end Go.Ab
