/- Objects (layer 23): what a table is, and what its deeds do, in plain Lean. -/
import Derived.Test.YtekkglhoeaipbaaDoorTape
import Derived.Test.YtekkglhoeaipbaaDoorAbRows
namespace Go.Ab

structure Ob where
  there : Bool
  secret : Nat
  epoch : Nat
  value : Int
  lives : Int
  deriving DecidableEq, Inhabited
def Ob.none : Ob := ⟨false, 0, 0, 0, 0⟩

structure Cp where
  p : Nat
  o : Nat
  r : Nat
  k : Nat
  deriving DecidableEq, Inhabited
def Cp.zero : Cp := ⟨0, 0, 0, 0⟩

structure Tbl where
  port : Nat
  orc : Orc
  all : List Ob

/-- A draw for something else. -/
def Orc.draw (q : Orc) : Option Nat × Orc :=
  match q.es[q.at_]? with
  | some y => (some y, { q with at_ := q.at_ + 1 })
  | none => (none, q)

/-- The lowest number that is free. -/
def lowest : List Ob → Nat
  | [] => 0
  | o :: l => if o.there then lowest l + 1 else 0
theorem lowest_le : ∀ l : List Ob, lowest l ≤ l.length
  | [] => by simp [lowest]
  | o :: l => by
    have := lowest_le l
    unfold lowest
    split <;> simp <;> omega
theorem lowest_below : ∀ (l : List Ob) (i : Nat), i < lowest l → ∃ o, l[i]? = some o ∧ o.there = true
  | [], i, h => by simp [lowest] at h
  | o :: l, i, h => by
    unfold lowest at h
    split at h
    · rename_i ht
      cases i with
      | zero => exact ⟨o, rfl, ht⟩
      | succ i =>
        obtain ⟨o', h1, h2⟩ := lowest_below l i (by omega)
        exact ⟨o', by simpa using h1, h2⟩
    · omega
theorem lowest_at : ∀ (l : List Ob), lowest l < l.length → ∃ o, l[lowest l]? = some o ∧ o.there = false
  | [], h => by simp [lowest] at h
  | o :: l, h => by
    unfold lowest at h ⊢
    cases ht : o.there with
    | true =>
      simp [ht] at h ⊢
      exact lowest_at l h
    | false => exact ⟨o, by simp, ht⟩

/-- The object of a number. -/
def Tbl.get (T : Tbl) (k : Nat) : Option Ob := (T.all[k]?).bind fun o => if o.there then some o else Option.none

def Tbl.create (T : Tbl) (v : Int) : (Cp × Option Int) × Tbl :=
  let k := lowest T.all
  if 64 ≤ k then ((Cp.zero, some 5), T)
  else match T.orc.draw with
    | (some s, q) => ((⟨T.port, k, 255, s⟩, Option.none), { T with orc := q, all := if k = T.all.length then T.all ++ [⟨true, s, 0, v, 24⟩] else T.all.set k ⟨true, s, 0, v, 24⟩ })
    | (Option.none, q) => ((Cp.zero, some 7), { T with orc := q })

def Tbl.check (T : Tbl) (c : Cp) (need : Nat) : (Nat × Option Int) × Tbl :=
  if c.p ≠ T.port then ((0, some 1), T)
  else match T.get c.o with
    | Option.none => ((0, some 1), T)
    | some x => match T.orc.tok x.secret c.r with
      | (Option.none, q) => ((0, some 7), { T with orc := q })
      | (some y, q) => (if y ≠ c.k then (0, some 1) else if c.r &&& need ≠ need then (0, some 2) else (c.o, Option.none), { T with orc := q })

def Tbl.restrict (T : Tbl) (c : Cp) (mask : Nat) : (Cp × Option Int) × Tbl :=
  match T.check c 0 with
  | ((_, some e), T1) => ((Cp.zero, some e), T1)
  | ((k, Option.none), T1) => match T1.get k with
    | Option.none => ((Cp.zero, Option.none), T1)
    | some x => match T1.orc.tok x.secret (c.r &&& mask) with
      | (Option.none, q) => ((Cp.zero, some 7), { T1 with orc := q })
      | (some y, q) => ((⟨T1.port, k, c.r &&& mask, y⟩, Option.none), { T1 with orc := q })

def Tbl.revoke (T : Tbl) (c : Cp) : (Cp × Option Int) × Tbl :=
  match T.check c 255 with
  | ((_, some e), T1) => ((Cp.zero, some e), T1)
  | ((k, Option.none), T1) => match T1.get k with
    | Option.none => ((Cp.zero, Option.none), T1)
    | some x => match T1.orc.draw with
      | (Option.none, q) => ((Cp.zero, some 7), { T1 with orc := q })
      | (some s, q) => ((⟨T1.port, k, 255, s⟩, Option.none), { T1 with orc := q, all := T1.all.set k { x with secret := s, epoch := x.epoch + 1 } })

def Tbl.destroy (T : Tbl) (c : Cp) : (Nat × Int × Option Int) × Tbl :=
  match T.check c 8 with
  | ((_, some e), T1) => ((0, 0, some e), T1)
  | ((k, Option.none), T1) => match T1.get k with
    | Option.none => ((0, 0, Option.none), T1)
    | some x => ((k, x.value, Option.none), { T1 with all := T1.all.set k Ob.none })

def Tbl.touch (T : Tbl) (c : Cp) : Option Int × Tbl :=
  match T.check c 0 with
  | ((_, some e), T1) => (some e, T1)
  | ((k, Option.none), T1) => match T1.get k with
    | Option.none => (Option.none, T1)
    | some x => (Option.none, { T1 with all := T1.all.set k { x with lives := 24 } })

def Tbl.info (T : Tbl) (c : Cp) : (Int × Int × Option Int) × Tbl :=
  match T.check c 0 with
  | ((_, some e), T1) => ((0, 0, some e), T1)
  | ((k, Option.none), T1) => match T1.get k with
    | Option.none => ((0, 0, Option.none), T1)
    | some x => ((x.epoch, x.lives, Option.none), T1)

/-- A round, of the objects from a number on. -/
def aged (k : Nat) : List Ob → List Ob × List Int
  | [] => ([], [])
  | o :: l =>
    let r := aged (k + 1) l
    if !o.there || k == 0 then (o :: r.1, r.2)
    else if o.lives - 1 ≤ 0 then (Ob.none :: r.1, o.value :: r.2)
    else ({ o with lives := o.lives - 1 } :: r.1, r.2)
end Go.Ab
/-! Objects (layer 23): laws in plain Lean. -/
namespace Go.Ab

theorem Orc.ask_rs {q : Orc} {f x : Nat} : (q.ask f x).2.rs.length ≤ q.rs.length + 1 := by
  unfold Orc.ask
  split
  · simp
  · split
    · simp
    · simp
theorem Orc.tok_rs {q : Orc} {s r : Nat} : (q.tok s r).2.rs.length ≤ q.rs.length + 1 := by
  unfold Orc.tok
  split
  · simp
  · exact Orc.ask_rs
theorem Orc.ask_at {q : Orc} {f x : Nat} : (q.ask f x).2.at_ ≤ q.at_ + 1 ∧ q.at_ ≤ (q.ask f x).2.at_ := by
  unfold Orc.ask
  split
  · simp
  · split
    · simp
    · simp
theorem Orc.tok_at {q : Orc} {s r : Nat} : (q.tok s r).2.at_ ≤ q.at_ + 1 ∧ q.at_ ≤ (q.tok s r).2.at_ := by
  unfold Orc.tok
  split
  · simp
  · exact Orc.ask_at
theorem Orc.tok_some {q : Orc} {s r : Nat} (h : q.at_ < q.es.length) : ∃ y, (q.tok s r).1 = some y := by
  unfold Orc.tok
  split
  · exact ⟨_, rfl⟩
  · unfold Orc.ask
    split
    · exact ⟨_, rfl⟩
    · rw [List.getElem?_eq_getElem h]
      exact ⟨_, rfl⟩
theorem Orc.tok_es' {q : Orc} {s r : Nat} : (q.tok s r).2.es = q.es := by
  unfold Orc.tok
  split
  · rfl
  · unfold Orc.ask
    split
    · rfl
    · split
      · rfl
      · rfl

/-- What is told lies on the tape. -/
def Orc.onTape (q : Orc) : Prop := ∀ a ∈ q.rs, a.2.2 ∈ q.es
theorem Orc.ask_onTape {q : Orc} {f x : Nat} (h : q.onTape) : (q.ask f x).2.onTape ∧ ∀ y, (q.ask f x).1 = some y → y ∈ q.es := by
  unfold Orc.ask
  split
  · rename_i y hy
    refine ⟨h, fun z hz => ?_⟩
    simp only [Option.some.injEq] at hz
    subst hz
    simp only [Orc.known, Option.map_eq_some_iff] at hy
    obtain ⟨a, ha, rfl⟩ := hy
    exact h a (List.mem_of_find?_eq_some ha)
  · split
    · rename_i y hy
      refine ⟨fun a ha => ?_, fun z hz => ?_⟩
      · simp only [List.mem_append, List.mem_cons, List.not_mem_nil, or_false] at ha
        rcases ha with ha | rfl
        · exact h a ha
        · exact List.mem_of_getElem? hy
      · simp only [Option.some.injEq] at hz
        subst hz
        exact List.mem_of_getElem? hy
    · exact ⟨h, fun z hz => by cases hz⟩
theorem Orc.tok_onTape {q : Orc} {s r : Nat} (h : q.onTape) (hs : s % w48 ∈ q.es) : (q.tok s r).2.onTape ∧ ∀ y, (q.tok s r).1 = some y → y ∈ q.es := by
  unfold Orc.tok
  split
  · exact ⟨h, fun z hz => by simp only [Option.some.injEq] at hz; subst hz; exact hs⟩
  · exact Orc.ask_onTape h

theorem Tbl.check_ok {T : Tbl} {c : Cp} {x : Ob} {q : Orc} (hp : c.p = T.port) (hg : T.get c.o = some x) (ht : T.orc.tok x.secret c.r = (some c.k, q)) (need : Nat) : T.check c need = (if c.r &&& need ≠ need then (0, some 2) else (c.o, Option.none), { T with orc := q }) := by
  unfold Tbl.check
  rw [if_neg (by simp [hp]), hg]
  simp only [ht]
  simp

theorem and255 (r : Nat) (h : r < 256) : 255 &&& r = r := by
  rw [Nat.and_comm]
  have : (255 : Nat) = 2 ^ 8 - 1 := rfl
  rw [this, Nat.and_two_pow_sub_one_eq_mod]
  exact Nat.mod_eq_of_lt h

/-- 'ObjectsNarrow' in plain words: of a table with one object whose owner's capability is this. -/
theorem narrow_law (T : Tbl) (x : Ob) (hx : T.get 0 = some x) (hs : x.secret < w48) (f s need : Nat) (hf : f < 256) (hss : s < 256) (hd : T.orc.at_ + 2 < T.orc.es.length) :
    ∃ a T1 b T2 c T3 w T4, T.restrict ⟨T.port, 0, 255, x.secret⟩ f = ((a, Option.none), T1) ∧ T1.restrict a s = ((b, Option.none), T2) ∧ T2.restrict ⟨T.port, 0, 255, x.secret⟩ (f &&& s) = ((c, Option.none), T3) ∧ T3.check b need = (w, T4) ∧ b = c ∧ b.r = f &&& s ∧
      w.2 = if f &&& s &&& need = need then Option.none else some 2 := by
  have hm : x.secret % w48 = x.secret := Nat.mod_eq_of_lt hs
  have own : ∀ q : Orc, q.tok x.secret 255 = (some x.secret, q) := fun q => by simp [Orc.tok, hm]
  obtain ⟨y, hy⟩ := Orc.tok_some (q := T.orc) (s := x.secret) (r := f) (by omega)
  obtain ⟨q1, hq1⟩ : ∃ q1, T.orc.tok x.secret f = (some y, q1) := ⟨_, Prod.ext hy rfl⟩
  have e1 : q1.es = T.orc.es := by have := Orc.tok_es' (q := T.orc) (s := x.secret) (r := f); rw [hq1] at this; exact this
  have a1 : q1.at_ ≤ T.orc.at_ + 1 := by have := (Orc.tok_at (q := T.orc) (s := x.secret) (r := f)).1; rw [hq1] at this; exact this
  obtain ⟨z, hz⟩ := Orc.tok_some (q := q1) (s := x.secret) (r := f &&& s) (by rw [e1]; omega)
  obtain ⟨q2, hq2⟩ : ∃ q2, q1.tok x.secret (f &&& s) = (some z, q2) := ⟨_, Prod.ext hz rfl⟩
  have hfs : f &&& s < 256 := Nat.lt_of_le_of_lt Nat.and_le_left hf
  have g : ∀ q : Orc, ({ T with orc := q } : Tbl).get 0 = some x := fun q => hx
  have r1 : T.restrict ⟨T.port, 0, 255, x.secret⟩ f = ((⟨T.port, 0, f, y⟩, Option.none), { T with orc := q1 }) := by
    unfold Tbl.restrict
    rw [Tbl.check_ok rfl hx (own _)]
    simp only [Nat.and_zero, ne_eq, not_true_eq_false, if_false]
    rw [hx]
    simp only [and255 f hf, hq1]
  have r2 : ({ T with orc := q1 } : Tbl).restrict ⟨T.port, 0, f, y⟩ s = ((⟨T.port, 0, f &&& s, z⟩, Option.none), { T with orc := q2 }) := by
    unfold Tbl.restrict
    rw [Tbl.check_ok (T := { T with orc := q1 }) rfl (g _) (Orc.tok_idem hq1)]
    simp only [Nat.and_zero, ne_eq, not_true_eq_false, if_false]
    rw [g]
    simp only [hq2]
  have r3 : ({ T with orc := q2 } : Tbl).restrict ⟨T.port, 0, 255, x.secret⟩ (f &&& s) = ((⟨T.port, 0, f &&& s, z⟩, Option.none), { T with orc := q2 }) := by
    unfold Tbl.restrict
    rw [Tbl.check_ok (T := { T with orc := q2 }) rfl (g _) (own _)]
    simp only [Nat.and_zero, ne_eq, not_true_eq_false, if_false]
    rw [g]
    simp only [and255 _ hfs, Orc.tok_idem hq2]
  refine ⟨_, _, _, _, _, _, _, _, r1, r2, r3, Tbl.check_ok (T := { T with orc := q2 }) rfl (g _) (Orc.tok_idem hq2) need, rfl, rfl, ?_⟩
  by_cases h : f &&& s &&& need = need
  · simp [h]
  · simp [h]

/-- A capability whose check is none of the tape's is refused. -/
theorem Tbl.check_bad {T : Tbl} {c : Cp} (need : Nat) (ht : T.orc.onTape) (hs : ∀ k x, T.get k = some x → x.secret % w48 ∈ T.orc.es) (hd : T.orc.at_ < T.orc.es.length) (hk : c.k ∉ T.orc.es) : (T.check c need).1 = (0, some 1) := by
  unfold Tbl.check
  split
  · rfl
  · split
    · rfl
    · rename_i x hx
      have h1 := Orc.tok_onTape (r := c.r) ht (hs _ x hx)
      obtain ⟨y, hy⟩ := Orc.tok_some (q := T.orc) (s := x.secret) (r := c.r) hd
      have hyk : y ≠ c.k := fun e => hk (e ▸ h1.2 y hy)
      obtain ⟨q, hq⟩ : ∃ q, T.orc.tok x.secret c.r = (some y, q) := ⟨_, Prod.ext hy rfl⟩
      simp only [hq]
      simp [hyk]
end Go.Ab
/-! Objects (layer 23): draws that are unlike, in plain Lean. -/
namespace Go.Ab

theorem mix_div {s r : Nat} (hs : s < w48) (h0 : s % 256 = 0) (hr : r < 256) : mix s r / 256 = s / 256 := by
  unfold mix
  rw [Nat.mod_eq_of_lt hs]
  have h1 : (s ^^^ r) / 2 ^ 8 = (s / 2 ^ 8) ^^^ (r / 2 ^ 8) := by
    rw [← Nat.shiftRight_eq_div_pow, ← Nat.shiftRight_eq_div_pow, ← Nat.shiftRight_eq_div_pow, Nat.shiftRight_xor_distrib]
  rw [show (256 : Nat) = 2 ^ 8 from rfl, h1, show r / 2 ^ 8 = 0 from Nat.div_eq_of_lt hr, Nat.xor_zero]
theorem mix_unlike {s t r o : Nat} (hs : s < w48) (ht : t < w48) (h0 : s % 256 = 0) (h1 : t % 256 = 0) (hr : r < 256) (ho : o < 256) (h : mix s r = mix t o) : s = t ∧ r = o := by
  have h2 := mix_div hs h0 hr
  rw [h, mix_div ht h1 ho] at h2
  have hst : s = t := by omega
  subst hst
  exact ⟨rfl, mix_inj h⟩

/-- An oracle of checks alone, on a tape whose entries are unlike: each answer was drawn behind its secret. -/
structure Orc.Clean (q : Orc) : Prop where
  nodup : q.es.Nodup
  sort : ∀ y ∈ q.es, y % 256 = 0 ∧ y < w48
  le : q.at_ ≤ q.es.length
  row : ∀ a ∈ q.rs, a.1 = 1 ∧ ∃ (i r o s : Nat), i < o ∧ o < q.at_ ∧ r < 256 ∧ q.es[i]? = some s ∧ a.2.1 = mix s r ∧ q.es[o]? = some a.2.2

theorem nodup_idx {l : List Nat} (h : l.Nodup) {i j : Nat} {x : Nat} (hi : l[i]? = some x) (hj : l[j]? = some x) : i = j := by
  obtain ⟨h1, h2⟩ := List.getElem?_eq_some_iff.1 hi
  obtain ⟨h3, h4⟩ := List.getElem?_eq_some_iff.1 hj
  have hp := List.pairwise_iff_getElem.1 h
  rcases Nat.lt_trichotomy i j with hlt | he | hlt
  · exact absurd (h2.trans h4.symm) (hp i j h1 h3 hlt)
  · exact he
  · exact absurd (h4.trans h2.symm) (hp j i h3 h1 hlt)

theorem Orc.Clean.tok {q : Orc} (h : q.Clean) {j s r : Nat} (hj : q.es[j]? = some s) (hja : j < q.at_) (hr : r < 256) (hd : q.at_ < q.es.length) :
    ∃ y q' o, q.tok s r = (some y, q') ∧ q'.Clean ∧ q'.es = q.es ∧ q.at_ ≤ q'.at_ ∧ q'.at_ ≤ q.at_ + 1 ∧ j ≤ o ∧ o < q'.at_ ∧ q.es[o]? = some y := by
  have hs := h.sort s (List.mem_of_getElem? hj)
  have hsw : s % w48 = s := Nat.mod_eq_of_lt hs.2
  by_cases h255 : r = 255
  · exact ⟨s, q, j, by simp [Orc.tok, h255, hsw], h, rfl, Nat.le_refl _, by omega, Nat.le_refl _, hja, hj⟩
  unfold Orc.tok
  rw [if_neg h255]
  unfold Orc.ask
  have hml : mix s r % w48 = mix s r := Nat.mod_eq_of_lt (mix_lt hr)
  cases hk : q.known 1 (mix s r) with
  | some y =>
    simp only [Orc.known, Option.map_eq_some_iff] at hk
    obtain ⟨a, ha, rfl⟩ := hk
    have hm := List.mem_of_find?_eq_some ha
    have hp := List.find?_some ha
    simp only [hit, Bool.and_eq_true, beq_iff_eq, hml] at hp
    obtain ⟨_, i, r', o, s', h1, h2, h3, h4, h5, h6⟩ := h.row a hm
    have hs' := h.sort s' (List.mem_of_getElem? h4)
    have := mix_unlike hs.2 hs'.2 hs.1 hs'.1 hr h3 (hp.2.symm.trans h5)
    have hij : j = i := nodup_idx h.nodup hj (this.1 ▸ h4)
    exact ⟨_, q, o, rfl, h, rfl, Nat.le_refl _, by omega, by omega, h2, h6⟩
  | none =>
    have he := List.getElem?_eq_getElem hd
    simp only [he]
    refine ⟨_, _, q.at_, rfl, ⟨h.nodup, h.sort, by simp only; omega, fun a ha => ?_⟩, rfl, by simp, by simp, by omega, by simp, he⟩
    simp only [List.mem_append, List.mem_cons, List.not_mem_nil, or_false] at ha
    rcases ha with ha | rfl
    · obtain ⟨g, i, r', o, s', h1, h2, h3⟩ := h.row a ha
      exact ⟨g, i, r', o, s', h1, by simp only; omega, h3⟩
    · exact ⟨rfl, j, r, q.at_, s, hja, by simp, hr, hj, hml, he⟩

theorem Orc.Clean.draw {q : Orc} (h : q.Clean) (hd : q.at_ < q.es.length) : ∃ s q', q.draw = (some s, q') ∧ q'.Clean ∧ q'.es = q.es ∧ q'.at_ = q.at_ + 1 ∧ q.es[q.at_]? = some s := by
  have he := List.getElem?_eq_getElem hd
  unfold Orc.draw
  simp only [he]
  refine ⟨_, _, rfl, ⟨h.nodup, h.sort, by simp only; omega, fun a ha => ?_⟩, rfl, rfl, rfl⟩
  obtain ⟨g, i, r', o, s', h1, h2, h3⟩ := h.row a ha
  exact ⟨g, i, r', o, s', h1, by simp only; omega, h3⟩

/-- The tape of the laws. -/
def spreadL (n : Nat) : List Nat := (List.range n).map fun k => (k + 1) * 65536 + 23040
theorem spread_clean {n : Nat} (hn : n ≤ 1000) : (⟨[], spreadL n, 0⟩ : Orc).Clean := by
  refine ⟨?_, ?_, by simp, fun a ha => by simp at ha⟩
  · unfold spreadL List.Nodup
    rw [List.pairwise_map]
    refine List.Pairwise.imp ?_ (List.pairwise_lt_range (n := n))
    intro a b hab
    omega
  · intro y hy
    simp only [spreadL, List.mem_map, List.mem_range] at hy
    obtain ⟨k, hk, rfl⟩ := hy
    unfold w48
    omega

/-- The check of an object's capability: its own secret's index, and the answer's. -/
theorem Tbl.check_clean {T : Tbl} (h : T.orc.Clean) {c : Cp} {x : Ob} {j : Nat} (hp : c.p = T.port) (hg : T.get c.o = some x) (hj : T.orc.es[j]? = some x.secret) (hja : j < T.orc.at_) (hr : c.r < 256) (hd : T.orc.at_ < T.orc.es.length) (need : Nat) :
    ∃ q' o y, q'.Clean ∧ q'.es = T.orc.es ∧ T.orc.at_ ≤ q'.at_ ∧ q'.at_ ≤ T.orc.at_ + 1 ∧ j ≤ o ∧ o < q'.at_ ∧ T.orc.es[o]? = some y ∧ T.orc.tok x.secret c.r = (some y, q') ∧
      T.check c need = (if y ≠ c.k then (0, some 1) else if c.r &&& need ≠ need then (0, some 2) else (c.o, Option.none), { T with orc := q' }) := by
  obtain ⟨y, q', o, h1, h2, h3, h4, h5, h6, h7, h8⟩ := h.tok hj hja hr hd
  refine ⟨q', o, y, h2, h3, h4, h5, h6, h7, h8, h1, ?_⟩
  unfold Tbl.check
  rw [if_neg (by simp [hp]), hg]
  simp only [h1]
end Go.Ab
/-! Objects (layer 23): 'ObjectsForged' and 'ObjectsGone' in plain Lean. -/
namespace Go.Ab

/-- Each object's secret was drawn. -/
structure Tbl.Fair (T : Tbl) : Prop where
  clean : T.orc.Clean
  sec : ∀ k x, T.get k = some x → ∃ j, j < T.orc.at_ ∧ T.orc.es[j]? = some x.secret

/-- What is no answer of the tape's is refused. -/
theorem Tbl.Fair.check_or {T : Tbl} (h : T.Fair) {c : Cp} (hr : c.r < 256) (hd : T.orc.at_ < T.orc.es.length) (need : Nat) : (T.check c need).1 = (0, some 1) ∨ c.k ∈ T.orc.es := by
  by_cases hp : c.p = T.port
  · cases hg : T.get c.o with
    | none => exact .inl (by unfold Tbl.check; rw [if_neg (by simp [hp]), hg])
    | some x =>
      obtain ⟨j, hj, hjs⟩ := h.sec _ _ hg
      obtain ⟨q', o, y, _, _, _, _, _, _, hy, _, he⟩ := Tbl.check_clean h.clean hp hg hjs hj hr hd need
      by_cases hk : y = c.k
      · exact .inr (hk ▸ List.mem_of_getElem? hy)
      · exact .inl (by rw [he, if_pos hk])
  · exact .inl (by unfold Tbl.check; rw [if_pos hp])

/-- A check that is known. -/
def Orc.knows (q : Orc) (s r y : Nat) : Prop := if r = 255 then s % w48 = y else q.known 1 (mix s r) = some y
theorem Orc.knows_tok {q : Orc} {s r y : Nat} (h : q.knows s r y) : q.tok s r = (some y, q) := by
  unfold Orc.knows at h
  unfold Orc.tok
  split at h
  · rename_i h1
    rw [if_pos h1, h]
  · rename_i h1
    rw [if_neg h1]
    exact Orc.ask_known h
theorem Orc.tok_knows {q q' : Orc} {s r y : Nat} (h : q.tok s r = (some y, q')) : q'.knows s r y := by
  unfold Orc.tok at h
  unfold Orc.knows
  split at h
  · rename_i h1
    simp only [Prod.mk.injEq, Option.some.injEq] at h
    rw [if_pos h1, h.1]
  · rename_i h1
    rw [if_neg h1]
    exact Orc.ask_again h
theorem Orc.knows_rs {q q' : Orc} {s r y : Nat} (h : q.knows s r y) (he : q'.rs = q.rs) : q'.knows s r y := by
  unfold Orc.knows at h ⊢
  unfold Orc.known at h ⊢
  rw [he]
  exact h

def ob (s : Nat) (v : Int) : Ob := ⟨true, s, 0, v, 24⟩

/-- The first two objects, the first one's capability restricted, the second one's revoked. -/
theorem forged_run (es : List Nat) (hc : (⟨[], es, 0⟩ : Orc).Clean) (hl : 6 ≤ es.length) (mask : Nat) (hm : mask < 256) :
    ∃ (d1 d2 s y : Nat) (q3 q4 : Orc), (⟨7, ⟨[], es, 0⟩, []⟩ : Tbl).create 1 = ((⟨7, 0, 255, d1⟩, Option.none), ⟨7, ⟨[], es, 1⟩, [ob d1 1]⟩) ∧
      (⟨7, ⟨[], es, 1⟩, [ob d1 1]⟩ : Tbl).create 2 = ((⟨7, 1, 255, d2⟩, Option.none), ⟨7, ⟨[], es, 2⟩, [ob d1 1, ob d2 2]⟩) ∧
      (⟨7, ⟨[], es, 2⟩, [ob d1 1, ob d2 2]⟩ : Tbl).restrict ⟨7, 0, 255, d1⟩ mask = ((⟨7, 0, mask, y⟩, Option.none), ⟨7, q3, [ob d1 1, ob d2 2]⟩) ∧
      (⟨7, q3, [ob d1 1, ob d2 2]⟩ : Tbl).revoke ⟨7, 1, 255, d2⟩ = ((⟨7, 1, 255, s⟩, Option.none), ⟨7, q4, [ob d1 1, { ob d2 2 with secret := s, epoch := 1 }]⟩) ∧
      (⟨7, q4, [ob d1 1, { ob d2 2 with secret := s, epoch := 1 }]⟩ : Tbl).Fair ∧ q4.es = es ∧ q4.at_ < es.length ∧ q4.knows d1 255 d1 ∧ q4.knows d1 mask y ∧ q4.knows s 255 s := by
  obtain ⟨d1, h1⟩ : ∃ d, es[0]? = some d := ⟨_, List.getElem?_eq_getElem (by omega)⟩
  obtain ⟨d2, h2⟩ : ∃ d, es[1]? = some d := ⟨_, List.getElem?_eq_getElem (by omega)⟩
  have s1 := hc.sort d1 (List.mem_of_getElem? h1)
  have s2 := hc.sort d2 (List.mem_of_getElem? h2)
  have w1 : d1 % w48 = d1 := Nat.mod_eq_of_lt s1.2
  have w2 : d2 % w48 = d2 := Nat.mod_eq_of_lt s2.2
  have c2 : (⟨[], es, 2⟩ : Orc).Clean := ⟨hc.nodup, hc.sort, by simp only; omega, fun a ha => by simp at ha⟩
  obtain ⟨y, q3, o, t1, t2, t3, t4, t5, t6, t7, t8⟩ := c2.tok (j := 0) (s := d1) (r := mask) h1 (by simp) hm (by simp only; omega)
  simp only at t3 t4 t5
  have w3 : q3.at_ < q3.es.length := by rw [t3]; omega
  obtain ⟨s, q4, u1, u2, u3, u4, u5⟩ := t2.draw w3
  have ss := t2.sort s (List.mem_of_getElem? u5)
  have ws : s % w48 = s := Nat.mod_eq_of_lt ss.2
  have hq4 : q4.rs = q3.rs := by
    unfold Orc.draw at u1
    rw [u5] at u1
    simp only [Prod.mk.injEq, Option.some.injEq, true_and] at u1
    rw [← u1]
  have e3 := Orc.tok_knows t1
  refine ⟨d1, d2, s, y, q3, q4, ?_, ?_, ?_, ?_, ⟨u2, ?_⟩, by rw [u3, t3], by rw [u4]; omega, by simp [Orc.knows, w1], Orc.knows_rs e3 hq4, by simp [Orc.knows, ws]⟩
  · simp [Tbl.create, lowest, Orc.draw, h1, ob]
  · simp [Tbl.create, lowest, Orc.draw, h2, ob]
  · unfold Tbl.restrict
    rw [Tbl.check_ok (x := ob d1 1) (q := ⟨[], es, 2⟩) rfl rfl (by simp [Orc.tok, ob, w1])]
    simp only [Nat.and_zero, ne_eq, not_true_eq_false, if_false]
    simp only [Tbl.get, List.getElem?_cons_zero, Option.bind_some, ob, if_true, and255 mask hm, t1]
  · unfold Tbl.revoke
    rw [Tbl.check_ok (x := ob d2 2) (q := q3) rfl rfl (by simp [Orc.tok, ob, w2])]
    simp only [Nat.and_self, ne_eq, not_true_eq_false, if_false]
    simp only [Tbl.get, List.getElem?_cons_succ, List.getElem?_cons_zero, Option.bind_some, ob, if_true, u1]
    rfl
  · intro k x hx
    simp only [u3, u4, t3]
    match k, hx with
    | 0, hx =>
      simp [Tbl.get, ob] at hx
      subst hx
      exact ⟨0, by omega, h1⟩
    | 1, hx =>
      simp [Tbl.get, ob] at hx
      subst hx
      exact ⟨q3.at_, by omega, by rw [← t3]; exact u5⟩
    | k + 2, hx => simp [Tbl.get] at hx
end Go.Ab
/-! Objects (layer 23): 'ObjectsGone' in plain Lean. -/
namespace Go.Ab

/-- So many objects, made one after the other. -/
def objs (es : List Nat) (k : Nat) : List Ob := (List.range k).map fun i => ob (es.getD i 0) i
@[simp] theorem objs_length (es : List Nat) (k : Nat) : (objs es k).length = k := by simp [objs]
theorem objs_get (es : List Nat) (k i : Nat) (h : i < k) : (objs es k)[i]? = some (ob (es.getD i 0) i) := by simp [objs, h]
theorem objs_succ (es : List Nat) (k : Nat) : objs es (k + 1) = objs es k ++ [ob (es.getD k 0) k] := by simp [objs, List.range_succ]
theorem lowest_all : ∀ (l : List Ob), (∀ o ∈ l, o.there = true) → lowest l = l.length
  | [], _ => rfl
  | o :: l, h => by
    unfold lowest
    rw [if_pos (h o (by simp)), lowest_all l (fun o ho => h o (by simp [ho])), List.length_cons]
theorem lowest_set : ∀ (l : List Ob) (k : Nat) (x : Ob), (∀ o ∈ l, o.there = true) → x.there = false → k < l.length → lowest (l.set k x) = k
  | [], k, x, _, _, h => by simp at h
  | o :: l, 0, x, _, hx, _ => by simp [lowest, hx]
  | o :: l, k + 1, x, h, hx, hk => by
    rw [List.set_cons_succ]
    unfold lowest
    rw [if_pos (h o (by simp)), lowest_set l k x (fun o ho => h o (by simp [ho])) hx (by simpa using hk)]
theorem objs_there (es : List Nat) (k : Nat) : ∀ o ∈ objs es k, o.there = true := by
  intro o ho
  simp only [objs, List.mem_map] at ho
  obtain ⟨_, _, rfl⟩ := ho
  rfl

/-- One is made more. -/
theorem objs_create (es : List Nat) (k : Nat) (hk : k < es.length) (h64 : k < 64) : (⟨7, ⟨[], es, k⟩, objs es k⟩ : Tbl).create k = ((⟨7, k, 255, es.getD k 0⟩, Option.none), ⟨7, ⟨[], es, k + 1⟩, objs es (k + 1)⟩) := by
  unfold Tbl.create
  rw [lowest_all _ (objs_there es k)]
  simp only [objs_length]
  rw [if_neg (by omega)]
  simp only [Orc.draw, List.getElem?_eq_getElem hk, if_true, objs_succ, ob, List.getD_eq_getElem?_getD, Option.getD_some]

/-- The middle one is restricted, destroyed, and made anew. -/
theorem gone_run (es : List Nat) (hc : (⟨[], es, 0⟩ : Orc).Clean) (n K mask : Nat) (hK : K < n) (hl : n + 3 < es.length) (h64 : n ≤ 64) (hm : mask < 256) :
    ∃ (y s : Nat) (q3 q4 q5 : Orc), (⟨7, ⟨[], es, n⟩, objs es n⟩ : Tbl).restrict ⟨7, K, 255, es.getD K 0⟩ mask = ((⟨7, K, mask, y⟩, Option.none), ⟨7, q3, objs es n⟩) ∧
      (⟨7, q3, objs es n⟩ : Tbl).destroy ⟨7, K, 255, es.getD K 0⟩ = ((K, (K : Int), Option.none), ⟨7, q3, (objs es n).set K Ob.none⟩) ∧
      (⟨7, q3, (objs es n).set K Ob.none⟩ : Tbl).check ⟨7, K, 255, es.getD K 0⟩ 0 = ((0, some 1), ⟨7, q3, (objs es n).set K Ob.none⟩) ∧
      (⟨7, q3, (objs es n).set K Ob.none⟩ : Tbl).create 99 = ((⟨7, K, 255, s⟩, Option.none), ⟨7, q4, (objs es n).set K (ob s 99)⟩) ∧
      (⟨7, q4, (objs es n).set K (ob s 99)⟩ : Tbl).check ⟨7, K, 255, es.getD K 0⟩ 0 = ((0, some 1), ⟨7, q4, (objs es n).set K (ob s 99)⟩) ∧
      (⟨7, q4, (objs es n).set K (ob s 99)⟩ : Tbl).check ⟨7, K, mask, y⟩ 0 = ((0, some 1), ⟨7, q5, (objs es n).set K (ob s 99)⟩) ∧ q3.rs.length ≤ 1 ∧ q4.rs.length ≤ 1 ∧ q5.rs.length ≤ 2 := by
  obtain ⟨d, hd⟩ : ∃ d, es[K]? = some d := ⟨_, List.getElem?_eq_getElem (by omega)⟩
  have hg : es.getD K 0 = d := by simp [hd]
  have sd := hc.sort d (List.mem_of_getElem? hd)
  have wd : d % w48 = d := Nat.mod_eq_of_lt sd.2
  have cn : (⟨[], es, n⟩ : Orc).Clean := ⟨hc.nodup, hc.sort, by simp only; omega, fun a ha => by simp at ha⟩
  obtain ⟨y, q3, o, t1, t2, t3, t4, t5, t6, t7, t8⟩ := cn.tok (j := K) (s := d) (r := mask) hd (by simp only; omega) hm (by simp only; omega)
  have hr3 : q3.rs.length ≤ 1 := by have := Orc.tok_rs (q := ⟨[], es, n⟩) (s := d) (r := mask); rw [t1] at this; simpa using this
  simp only at t3 t4 t5
  have w3 : q3.at_ < q3.es.length := by rw [t3]; omega
  obtain ⟨s, q4, u1, u2, u3, u4, u5⟩ := t2.draw w3
  have hq4 : q4.rs = q3.rs := by
    unfold Orc.draw at u1
    rw [u5] at u1
    simp only [Prod.mk.injEq, Option.some.injEq, true_and] at u1
    rw [← u1]
  have ss := t2.sort s (List.mem_of_getElem? u5)
  have ws : s % w48 = s := Nat.mod_eq_of_lt ss.2
  have gx : ∀ q : Orc, (⟨7, q, objs es n⟩ : Tbl).get K = some (ob d K) := fun q => by
    simp only [Tbl.get, objs_get es n K hK, hg, Option.bind_some, ob, if_true]
  have gn : ∀ q : Orc, (⟨7, q, (objs es n).set K Ob.none⟩ : Tbl).get K = Option.none := fun q => by
    simp [Tbl.get, hK, Ob.none]
  have gs : ∀ q : Orc, (⟨7, q, (objs es n).set K (ob s 99)⟩ : Tbl).get K = some (ob s 99) := fun q => by
    simp [Tbl.get, hK, ob]
  have own : ∀ q : Orc, q.tok d 255 = (some d, q) := fun q => by simp [Orc.tok, wd]
  have own2 : ∀ q : Orc, q.tok s 255 = (some s, q) := fun q => by simp [Orc.tok, ws]
  have hsd : s ≠ d := by
    rintro rfl
    have := nodup_idx hc.nodup hd (t3 ▸ u5)
    omega
  have w4 : q4.at_ < q4.es.length := by rw [u3, u4, t3]; omega
  obtain ⟨q5, o2, y2, v1, v2, v3, v4, v5, v6, v7, v8, v9⟩ := Tbl.check_clean (T := ⟨7, q4, (objs es n).set K (ob s 99)⟩) u2 (c := ⟨7, K, mask, y⟩) (x := ob s 99) (j := q3.at_) rfl (gs q4) (by simp only [u3, ob]; exact u5) (by simp only; omega) hm w4 0
  have hy : y2 ≠ y := by
    rintro rfl
    simp only [u3, t3] at v7
    have := nodup_idx hc.nodup t8 v7
    omega
  have hr5 : q5.rs.length ≤ 2 := by
    have := Orc.tok_rs (q := q4) (s := s) (r := mask)
    rw [show q4.tok s mask = (some y2, q5) from v8, hq4] at this
    simp only at this
    omega
  rw [hg]
  refine ⟨y, s, q3, q4, q5, ?_, ?_, ?_, ?_, ?_, ?_, hr3, by rw [hq4]; exact hr3, hr5⟩
  · unfold Tbl.restrict
    rw [Tbl.check_ok (x := ob d K) rfl (gx _) (own _)]
    simp only [Nat.and_zero, ne_eq, not_true_eq_false, if_false]
    rw [gx]
    simp only [and255 mask hm, ob, t1]
  · unfold Tbl.destroy
    rw [Tbl.check_ok (x := ob d K) rfl (gx _) (own _)]
    simp only [and255 8 (by omega), ne_eq, not_true_eq_false, if_false]
    rw [gx]
    rfl
  · unfold Tbl.check
    rw [if_neg (by simp), gn]
  · unfold Tbl.create
    rw [lowest_set _ _ _ (objs_there es n) rfl (by simpa using hK)]
    rw [if_neg (by omega)]
    simp only [u1, List.length_set, objs_length]
    rw [if_neg (by omega), List.set_set]
    rfl
  · unfold Tbl.check
    rw [if_neg (by simp), gs]
    simp only [ob, own2]
    rw [if_pos hsd]
  · rw [v9, if_pos hy]
end Go.Ab
/-! Objects (layer 23): 'ObjectsRevoke' in plain Lean. -/
namespace Go.Ab

/-- The table of the law: the other object, and the one whose secret was drawn at a place. -/
structure Rv (T : Tbl) (es : List Nat) (d s i j : Nat) : Prop where
  port : T.port = 7
  all : T.all = [ob d 5, { ob s 6 with epoch := i }]
  clean : T.orc.Clean
  tp : T.orc.es = es
  d0 : es[0]? = some d
  sj : es[j]? = some s
  lt : j < T.orc.at_

section
variable {T : Tbl} {es : List Nat} {d s i j : Nat}
theorem Rv.cut (h : Rv T es d s i j) : d % w48 = d ∧ s % w48 = s := by
  have h1 := h.clean.sort d (by rw [h.tp]; exact List.mem_of_getElem? h.d0)
  have h2 := h.clean.sort s (by rw [h.tp]; exact List.mem_of_getElem? h.sj)
  exact ⟨Nat.mod_eq_of_lt h1.2, Nat.mod_eq_of_lt h2.2⟩
theorem Rv.get1 (h : Rv T es d s i j) : T.get 1 = some { ob s 6 with epoch := i } := by simp [Tbl.get, h.all, ob]
theorem Rv.get0 (h : Rv T es d s i j) : T.get 0 = some (ob d 5) := by simp [Tbl.get, h.all, ob]
theorem Rv.own (h : Rv T es d s i j) (need : Nat) (hn : need < 256) : T.check ⟨7, 1, 255, s⟩ need = ((1, Option.none), T) := by
  rw [Tbl.check_ok (q := T.orc) h.port.symm h.get1 (by simp [Orc.tok, ob, h.cut.2])]
  simp only [and255 need hn, ne_eq, not_true_eq_false, if_false]
theorem Rv.other (h : Rv T es d s i j) : T.check ⟨7, 0, 255, d⟩ 255 = ((0, Option.none), T) := by
  rw [Tbl.check_ok (q := T.orc) h.port.symm h.get0 (by simp [Orc.tok, ob, h.cut.1])]
  simp
theorem Rv.info (h : Rv T es d s i j) : T.info ⟨7, 1, 255, s⟩ = (((i : Int), 24, Option.none), T) := by
  unfold Tbl.info
  rw [h.own 0 (by omega)]
  simp only
  rw [h.get1]
  rfl

theorem Rv.restrict (h : Rv T es d s i j) {m : Nat} (hm : m < 256) (hd : T.orc.at_ < es.length) : ∃ y q' o, T.restrict ⟨7, 1, 255, s⟩ m = ((⟨7, 1, m, y⟩, Option.none), { T with orc := q' }) ∧ Rv { T with orc := q' } es d s i j ∧ T.orc.at_ ≤ q'.at_ ∧ q'.at_ ≤ T.orc.at_ + 1 ∧ q'.rs.length ≤ T.orc.rs.length + 1 ∧ j ≤ o ∧ o < q'.at_ ∧ es[o]? = some y := by
  obtain ⟨y, q', o, t1, t2, t3, t4, t5, t6, t7, t8⟩ := h.clean.tok (j := j) (s := s) (r := m) (by rw [h.tp]; exact h.sj) h.lt hm (by rw [h.tp]; exact hd)
  have hr : q'.rs.length ≤ T.orc.rs.length + 1 := by have := Orc.tok_rs (q := T.orc) (s := s) (r := m); rw [t1] at this; exact this
  refine ⟨y, q', o, ?_, ⟨h.port, h.all, t2, by rw [t3]; exact h.tp, h.d0, h.sj, by have := h.lt; simp only; omega⟩, t4, t5, hr, t6, t7, by rw [← h.tp]; exact t8⟩
  unfold Tbl.restrict
  rw [h.own 0 (by omega)]
  simp only
  rw [h.get1]
  simp only [and255 m hm, ob, t1, h.port]

theorem Rv.revoke (h : Rv T es d s i j) (hd : T.orc.at_ < es.length) : ∃ s' T', T.revoke ⟨7, 1, 255, s⟩ = ((⟨7, 1, 255, s'⟩, Option.none), T') ∧ Rv T' es d s' (i + 1) T.orc.at_ ∧ T'.orc.at_ = T.orc.at_ + 1 ∧ T'.orc.rs = T.orc.rs := by
  obtain ⟨s', q', u1, u2, u3, u4, u5⟩ := h.clean.draw (by rw [h.tp]; exact hd)
  have hq : q'.rs = T.orc.rs := by
    unfold Orc.draw at u1
    rw [u5] at u1
    simp only [Prod.mk.injEq, Option.some.injEq, true_and] at u1
    rw [← u1]
  refine ⟨s', { T with orc := q', all := [ob d 5, { ob s' 6 with epoch := i + 1 }] }, ?_, ⟨h.port, rfl, u2, by show q'.es = es; rw [u3]; exact h.tp, h.d0, by rw [← h.tp]; exact u5, by show T.orc.at_ < q'.at_; omega⟩, u4, hq⟩
  unfold Tbl.revoke
  rw [h.own 255 (by omega)]
  simp only
  rw [h.get1]
  simp only [u1, h.all, h.port]
  rfl

/-- A capability of an earlier epoch is refused. -/
theorem Rv.old (h : Rv T es d s i j) {r y o : Nat} (hr : r < 256) (ho : o < j) (hy : es[o]? = some y) (hd : T.orc.at_ < es.length) : ∃ q', T.check ⟨7, 1, r, y⟩ 0 = ((0, some 1), { T with orc := q' }) ∧ Rv { T with orc := q' } es d s i j ∧ T.orc.at_ ≤ q'.at_ ∧ q'.at_ ≤ T.orc.at_ + 1 ∧ q'.rs.length ≤ T.orc.rs.length + 1 := by
  obtain ⟨q', o2, y2, v1, v2, v3, v4, v5, v6, v7, v8, v9⟩ := Tbl.check_clean h.clean (c := ⟨7, 1, r, y⟩) (j := j) h.port.symm h.get1 (by rw [h.tp]; exact h.sj) h.lt hr (by rw [h.tp]; exact hd) 0
  have hyy : y2 ≠ y := by
    rintro rfl
    rw [h.tp] at v7
    have := nodup_idx (h.tp ▸ h.clean.nodup) hy v7
    omega
  have hq : q'.rs.length ≤ T.orc.rs.length + 1 := by
    have := Orc.tok_rs (q := T.orc) (s := s) (r := r)
    rw [show T.orc.tok s r = (some y2, q') from v8] at this
    exact this
  exact ⟨q', by rw [v9, if_pos hyy], ⟨h.port, h.all, v1, by rw [v2]; exact h.tp, h.d0, h.sj, by have := h.lt; simp only; omega⟩, v3, v4, hq⟩
end
end Go.Ab
/-! Objects (layer 23): a table and the law's own model of it, in plain Lean. -/
namespace Go.Ab

/-- All 64 places. -/
def pad (l : List Ob) : List Ob := l ++ List.replicate (64 - l.length) Ob.none
def Tbl.pad (T : Tbl) : Tbl := { T with all := Ab.pad T.all }
def Tbl.few (T : Tbl) : Prop := T.all.length ≤ 64

theorem pad_length {l : List Ob} (h : l.length ≤ 64) : (pad l).length = 64 := by simp [pad]; omega
theorem lowest_append_none : ∀ (l : List Ob) (n : Nat), lowest (l ++ List.replicate n Ob.none) = lowest l
  | [], 0 => rfl
  | [], n + 1 => by simp [lowest, List.replicate_succ, Ob.none]
  | o :: l, n => by
    rw [List.cons_append]
    unfold lowest
    rw [lowest_append_none l n]
theorem pad_get (T : Tbl) (k : Nat) : T.pad.get k = T.get k := by
  unfold Tbl.get Tbl.pad Ab.pad
  simp only
  by_cases h : k < T.all.length
  · rw [List.getElem?_append_left h]
  · rw [List.getElem?_append_right (by omega), List.getElem?_eq_none (l := T.all) (by omega), List.getElem?_replicate]
    split <;> rfl
theorem pad_set {l : List Ob} {k : Nat} (x : Ob) (h : k < l.length) : pad (l.set k x) = (pad l).set k x := by
  unfold pad
  rw [List.length_set, List.set_append_left _ _ h]
theorem pad_push {l : List Ob} (x : Ob) (h : l.length < 64) : pad (l ++ [x]) = (pad l).set l.length x := by
  unfold pad
  rw [List.set_append_right _ _ (Nat.le_refl _), Nat.sub_self, List.length_append, List.append_assoc]
  congr 1
  rw [show 64 - l.length = (64 - (l.length + 1)) + 1 by omega, List.replicate_succ, List.set_cons_zero]
  simp

theorem get_lt {T : Tbl} {k : Nat} {x : Ob} (h : T.get k = some x) : k < T.all.length := by
  unfold Tbl.get at h
  rcases Nat.lt_or_ge k T.all.length with h1 | h1
  · exact h1
  · rw [List.getElem?_eq_none h1] at h; cases h

theorem create_pad {T : Tbl} (h : T.few) (v : Int) : T.pad.create v = ((T.create v).1, (T.create v).2.pad) ∧ (T.create v).2.few := by
  have hl : lowest T.pad.all = lowest T.all := lowest_append_none _ _
  have hle := lowest_le T.all
  have hp := pad_length h
  have hpo : T.pad.orc = T.orc := rfl
  unfold Tbl.create
  rw [hl]
  by_cases hk : 64 ≤ lowest T.all
  · rw [if_pos hk, if_pos hk]; exact ⟨rfl, h⟩
  · rw [if_neg hk, if_neg hk]
    have hne : ¬ lowest T.all = T.pad.all.length := by show ¬ _ = (Ab.pad T.all).length; omega
    cases hd : T.orc.draw with
    | mk a q =>
      cases a with
      | none => exact ⟨by simp only [hpo, hd]; rfl, h⟩
      | some s =>
        refine ⟨?_, ?_⟩
        · simp only [hpo, hd]
          rw [if_neg hne]
          by_cases he : lowest T.all = T.all.length
          · rw [if_pos he, he]
            show _ = (_, Tbl.mk _ _ (Ab.pad _))
            rw [pad_push _ (by omega)]
            rfl
          · rw [if_neg he]
            show _ = (_, Tbl.mk _ _ (Ab.pad _))
            rw [pad_set _ (by omega)]
            rfl
        · unfold Tbl.few
          simp only [hd]
          split
          · simp; omega
          · have h' : T.all.length ≤ 64 := h
            simpa using h'

theorem check_pad (T : Tbl) (c : Cp) (need : Nat) : T.pad.check c need = ((T.check c need).1, (T.check c need).2.pad) ∧ (T.check c need).2.all = T.all ∧ ((T.check c need).1.2 = Option.none → ∃ x, T.get c.o = some x ∧ (T.check c need).1.1 = c.o) := by
  have hpo : T.pad.orc = T.orc := rfl
  have hpp : T.pad.port = T.port := rfl
  unfold Tbl.check
  rw [pad_get, hpp, hpo]
  by_cases hp : c.p ≠ T.port
  · rw [if_pos hp, if_pos hp]; exact ⟨rfl, rfl, fun h => by cases h⟩
  · rw [if_neg hp, if_neg hp]
    cases hg : T.get c.o with
    | none => exact ⟨rfl, rfl, fun h => by cases h⟩
    | some x =>
      simp only
      cases ht : T.orc.tok x.secret c.r with
      | mk a q =>
        cases a with
        | none => exact ⟨rfl, rfl, fun h => by cases h⟩
        | some y =>
          refine ⟨rfl, rfl, fun h => ⟨x, rfl, ?_⟩⟩
          simp only at h ⊢
          by_cases h1 : y ≠ c.k
          · rw [if_pos h1] at h; cases h
          · rw [if_neg h1] at h ⊢
            by_cases h2 : c.r &&& need ≠ need
            · rw [if_pos h2] at h; cases h
            · rw [if_neg h2]

theorem check_few {T : Tbl} (h : T.few) (c : Cp) (need : Nat) : (T.check c need).2.few := by
  unfold Tbl.few
  rw [(check_pad T c need).2.1]
  exact h

/-- What is done behind a check. -/
theorem restrict_pad {T : Tbl} (h : T.few) (c : Cp) (mask : Nat) : T.pad.restrict c mask = ((T.restrict c mask).1, (T.restrict c mask).2.pad) ∧ (T.restrict c mask).2.few := by
  have hc := check_pad T c 0
  have hf := check_few h c 0
  unfold Tbl.restrict
  rw [hc.1]
  cases ht : T.check c 0 with
  | mk a T1 =>
    rw [ht] at hf
    obtain ⟨k, e⟩ := a
    cases e with
    | some e => exact ⟨rfl, hf⟩
    | none =>
      have hpo : T1.pad.orc = T1.orc := rfl
      have hpp : T1.pad.port = T1.port := rfl
      simp only [pad_get, hpo, hpp]
      cases T1.get k with
      | none => exact ⟨rfl, hf⟩
      | some x =>
        simp only
        cases T1.orc.tok x.secret (c.r &&& mask) with
        | mk a q => cases a with
          | none => exact ⟨rfl, hf⟩
          | some y => exact ⟨rfl, hf⟩

theorem revoke_pad {T : Tbl} (h : T.few) (c : Cp) : T.pad.revoke c = ((T.revoke c).1, (T.revoke c).2.pad) ∧ (T.revoke c).2.few := by
  have hc := check_pad T c 255
  have hf := check_few h c 255
  unfold Tbl.revoke
  rw [hc.1]
  cases ht : T.check c 255 with
  | mk a T1 =>
    rw [ht] at hf
    obtain ⟨k, e⟩ := a
    cases e with
    | some e => exact ⟨rfl, hf⟩
    | none =>
      have hpo : T1.pad.orc = T1.orc := rfl
      have hpp : T1.pad.port = T1.port := rfl
      simp only [pad_get, hpo, hpp]
      cases hg : T1.get k with
      | none => exact ⟨rfl, hf⟩
      | some x =>
        simp only
        cases T1.orc.draw with
        | mk a q => cases a with
          | none => exact ⟨rfl, hf⟩
          | some y =>
            refine ⟨?_, by unfold Tbl.few at hf ⊢; simpa using hf⟩
            simp only [Tbl.pad, pad_set _ (get_lt hg)]

theorem destroy_pad {T : Tbl} (h : T.few) (c : Cp) : T.pad.destroy c = ((T.destroy c).1, (T.destroy c).2.pad) ∧ (T.destroy c).2.few := by
  have hc := check_pad T c 8
  have hf := check_few h c 8
  unfold Tbl.destroy
  rw [hc.1]
  cases ht : T.check c 8 with
  | mk a T1 =>
    rw [ht] at hf
    obtain ⟨k, e⟩ := a
    cases e with
    | some e => exact ⟨rfl, hf⟩
    | none =>
      simp only [pad_get]
      cases hg : T1.get k with
      | none => exact ⟨rfl, hf⟩
      | some x =>
        refine ⟨?_, by unfold Tbl.few at hf ⊢; simpa using hf⟩
        simp only [Tbl.pad, pad_set _ (get_lt hg)]

theorem touch_pad {T : Tbl} (h : T.few) (c : Cp) : T.pad.touch c = ((T.touch c).1, (T.touch c).2.pad) ∧ (T.touch c).2.few := by
  have hc := check_pad T c 0
  have hf := check_few h c 0
  unfold Tbl.touch
  rw [hc.1]
  cases ht : T.check c 0 with
  | mk a T1 =>
    rw [ht] at hf
    obtain ⟨k, e⟩ := a
    cases e with
    | some e => exact ⟨rfl, hf⟩
    | none =>
      simp only [pad_get]
      cases hg : T1.get k with
      | none => exact ⟨rfl, hf⟩
      | some x =>
        refine ⟨?_, by unfold Tbl.few at hf ⊢; simpa using hf⟩
        simp only [Tbl.pad, pad_set _ (get_lt hg)]

theorem info_pad {T : Tbl} (h : T.few) (c : Cp) : T.pad.info c = ((T.info c).1, (T.info c).2.pad) ∧ (T.info c).2.few := by
  have hc := check_pad T c 0
  have hf := check_few h c 0
  unfold Tbl.info
  rw [hc.1]
  cases ht : T.check c 0 with
  | mk a T1 =>
    rw [ht] at hf
    obtain ⟨k, e⟩ := a
    cases e with
    | some e => exact ⟨rfl, hf⟩
    | none =>
      simp only [pad_get]
      cases hg : T1.get k with
      | none => exact ⟨rfl, hf⟩
      | some x => exact ⟨rfl, hf⟩

theorem aged_none : ∀ (n k : Nat), aged k (List.replicate n Ob.none) = (List.replicate n Ob.none, [])
  | 0, _ => rfl
  | n + 1, k => by
    rw [List.replicate_succ]
    unfold aged
    rw [aged_none n (k + 1)]
    simp [Ob.none]
theorem aged_append_none : ∀ (l : List Ob) (n k : Nat), aged k (l ++ List.replicate n Ob.none) = ((aged k l).1 ++ List.replicate n Ob.none, (aged k l).2)
  | [], n, k => by simpa [aged] using aged_none n k
  | o :: l, n, k => by
    rw [List.cons_append]
    unfold aged
    rw [aged_append_none l n (k + 1)]
    simp only
    split
    · rfl
    · split <;> rfl
theorem aged_length : ∀ (l : List Ob) (k : Nat), (aged k l).1.length = l.length
  | [], _ => rfl
  | o :: l, k => by
    unfold aged
    simp only
    split
    · simp [aged_length l]
    · split <;> simp [aged_length l]
theorem aged_pad (l : List Ob) : aged 0 (pad l) = (pad (aged 0 l).1, (aged 0 l).2) := by
  unfold pad
  rw [aged_append_none, aged_length]
end Go.Ab
/-! Objects (layer 23): a table in memory. -/
namespace Go.Ab

def Ob.cells (o : Ob) : List AV := [.bool o.there, .int .u64 (o.secret : Int), .int .i64 (o.epoch : Int), .int .i64 o.value, .int .i64 o.lives]
theorem Ob.cells_length (o : Ob) : o.cells.length = 5 := rfl
theorem Ob.cells_flat (o : Ob) : o.cells.all isFlat = true := rfl

/-- Numbers that fit. -/
structure Tbl.Fit (T : Tbl) : Prop where
  port : T.port < 18446744073709551616
  few : T.few
  sec : ∀ x ∈ T.all, x.secret < w48

/-- A table in memory. -/
def Tb (s : S) (tp : Nat) (T : Tbl) (F : List Nat) : Prop := ∃ op av fo fa, s.get tp = some (.cells [.int .u64 (T.port : Int), .ptr op 0, av] 0 false) ∧ Oc s op T.orc fo ∧ OwnR Ob.cells 5 s av T.all fa ∧ F = tp :: (fo ++ fa) ∧ tp < s.ctr ∧ Apart fo fa ∧ tp ∉ fo ∧ tp ∉ fa

section
variable {s s' : S} {tp : Nat} {T : Tbl} {F : List Nat}
theorem Tb.lt (h : Tb s tp T F) : ∀ x ∈ F, x < s.ctr := by
  obtain ⟨op, av, fo, fa, h1, h2, h3, rfl, h5, h6⟩ := h
  intro x hx
  simp only [List.mem_cons, List.mem_append] at hx
  rcases hx with rfl | hx | hx
  · exact h5
  · exact h2.lt x hx
  · exact OwnF.lt h3 x hx
theorem Tb.chg {l : List Nat} (h : Tb s tp T F) (hc : Chg l s s') (hd : Apart F l) : Tb s' tp T F := by
  obtain ⟨op, av, fo, fa, h1, h2, h3, rfl, h5, h6⟩ := h
  refine ⟨op, av, fo, fa, by rw [hc.get tp h5 (hd tp (by simp)), h1], h2.chg hc (fun x hx => hd x (by simp [hx])), OwnF.chg h3 hc (fun x hx => hd x (by simp [hx])), rfl, by have := hc.ctr; omega, h6⟩
theorem Tb.ext (h : Tb s tp T F) (hx : Ext s s') : Tb s' tp T F := h.chg (hx.chg []) (fun _ _ => by simp)
end
end Go.Ab
/-! Objects (layer 23): what stays so of a table, in plain Lean. -/
namespace Go.Ab

/-- An object whose numbers fit. -/
structure Ob.Ok (a : Nat) (x : Ob) : Prop where
  lives : 0 ≤ x.lives ∧ x.lives ≤ 24
  epoch : x.epoch ≤ a
  sec : x.secret < w48
  on : x.there = true → 1 ≤ x.lives
theorem Ob.Ok.mono {a b : Nat} {x : Ob} (h : x.Ok a) (hb : a ≤ b) : x.Ok b := ⟨h.1, by have := h.2; omega, h.3, h.4⟩
theorem Ob.none_ok (a : Nat) : Ob.none.Ok a := ⟨by simp [Ob.none], by simp [Ob.none], by simp [Ob.none, w48], by simp [Ob.none]⟩

/-- A table whose numbers fit. -/
structure Tbl.Ok (T : Tbl) : Prop where
  port : T.port < 18446744073709551616
  few : T.few
  tape : ∀ y ∈ T.orc.es, y < w48
  le : T.orc.at_ ≤ T.orc.es.length
  all : ∀ x ∈ T.all, x.Ok T.orc.at_
  rsw : ∀ a ∈ T.orc.rs, a.2.2 < w48

/-- What a deed leaves of a table. -/
structure Tbl.Step (k : Nat) (T T' : Tbl) : Prop where
  port : T'.port = T.port
  es : T'.orc.es = T.orc.es
  ge : T.orc.at_ ≤ T'.orc.at_
  le : T'.orc.at_ ≤ T.orc.at_ + k
  rs : T'.orc.rs.length ≤ T.orc.rs.length + k
  ok : T.Ok → T'.Ok

theorem Tbl.Step.refl (k : Nat) (T : Tbl) : Tbl.Step k T T := ⟨rfl, rfl, Nat.le_refl _, by omega, by omega, id⟩
theorem Tbl.Step.trans {k l : Nat} {T T' T'' : Tbl} (h : Tbl.Step k T T') (h' : Tbl.Step l T' T'') : Tbl.Step (k + l) T T'' :=
  ⟨h'.port.trans h.port, h'.es.trans h.es, Nat.le_trans h.ge h'.ge, by have := h.le; have := h'.le; omega, by have := h.rs; have := h'.rs; omega, fun x => h'.ok (h.ok x)⟩
theorem Tbl.Step.mono {k l : Nat} {T T' : Tbl} (h : Tbl.Step k T T') (hl : k ≤ l) : Tbl.Step l T T' := ⟨h.port, h.es, h.ge, by have := h.le; omega, by have := h.rs; omega, h.ok⟩

theorem Tbl.Ok.put {T : Tbl} (h : T.Ok) {q : Orc} (he : q.es = T.orc.es) (ha : T.orc.at_ ≤ q.at_) (hb : q.at_ ≤ q.es.length) (hr : ∀ a ∈ q.rs, a.2.2 < w48) : Tbl.Ok { T with orc := q } :=
  ⟨h.port, h.few, by rw [he]; exact h.tape, hb, fun x hx => (h.all x hx).mono ha, hr⟩
theorem Tbl.Ok.set {T : Tbl} (h : T.Ok) (k : Nat) {x : Ob} (hx : x.Ok T.orc.at_) : Tbl.Ok { T with all := T.all.set k x } :=
  ⟨h.port, by have := h.few; unfold Tbl.few at this ⊢; simpa using this, h.tape, h.le, fun y hy => by
    rcases List.mem_or_eq_of_mem_set hy with h1 | rfl
    · exact h.all y h1
    · exact hx, h.rsw⟩
theorem Tbl.Ok.push {T : Tbl} (h : T.Ok) (hl : T.all.length < 64) {x : Ob} (hx : x.Ok T.orc.at_) : Tbl.Ok { T with all := T.all ++ [x] } :=
  ⟨h.port, by unfold Tbl.few; simp; omega, h.tape, h.le, fun y hy => by
    rcases List.mem_append.1 hy with h1 | h1
    · exact h.all y h1
    · rw [List.mem_singleton.1 h1]; exact hx, h.rsw⟩

theorem Orc.ask_le {q : Orc} {f x : Nat} (h : q.at_ ≤ q.es.length) : (q.ask f x).2.at_ ≤ (q.ask f x).2.es.length := by
  unfold Orc.ask
  split
  · exact h
  · split
    · rename_i y hy
      have := (List.getElem?_eq_some_iff.1 hy).1
      simp only; omega
    · exact h
theorem Orc.tok_le {q : Orc} {s r : Nat} (h : q.at_ ≤ q.es.length) : (q.tok s r).2.at_ ≤ (q.tok s r).2.es.length := by
  unfold Orc.tok
  split
  · exact h
  · exact Orc.ask_le h
theorem Orc.known_w {q : Orc} (h : ∀ a ∈ q.rs, a.2.2 < w48) {f x y : Nat} (hk : q.known f x = some y) : y < w48 := by
  simp only [Orc.known, Option.map_eq_some_iff] at hk
  obtain ⟨a, ha, rfl⟩ := hk
  exact h a (List.mem_of_find?_eq_some ha)
theorem Orc.tok_w {q : Orc} (he : ∀ y ∈ q.es, y < w48) (h : ∀ a ∈ q.rs, a.2.2 < w48) (s r : Nat) : (∀ a ∈ (q.tok s r).2.rs, a.2.2 < w48) ∧ ∀ y, (q.tok s r).1 = some y → y < w48 := by
  unfold Orc.tok
  split
  · exact ⟨h, fun y hy => by cases hy; exact Nat.mod_lt _ (by decide)⟩
  · unfold Orc.ask
    split
    · rename_i y hy
      exact ⟨h, fun z hz => by cases hz; exact Orc.known_w h hy⟩
    · split
      · rename_i y hy
        have hw := he y (List.mem_of_getElem? hy)
        refine ⟨fun a ha => ?_, fun z hz => by cases hz; exact hw⟩
        simp only [List.mem_append, List.mem_singleton] at ha
        rcases ha with ha | rfl
        · exact h a ha
        · exact hw
      · exact ⟨h, fun z hz => by cases hz⟩
theorem Tbl.step_tok (T : Tbl) (s r : Nat) : Tbl.Step 1 T { T with orc := (T.orc.tok s r).2 } :=
  ⟨rfl, Orc.tok_es', Orc.tok_at.2, Orc.tok_at.1, Orc.tok_rs, fun h => h.put Orc.tok_es' Orc.tok_at.2 (Orc.tok_le h.le) (Orc.tok_w h.tape h.rsw s r).1⟩
theorem Orc.draw_facts {q q' : Orc} {a : Option Nat} (h : q.draw = (a, q')) : q'.es = q.es ∧ q.at_ ≤ q'.at_ ∧ q'.at_ ≤ q.at_ + 1 ∧ q'.rs = q.rs ∧ (q.at_ ≤ q.es.length → q'.at_ ≤ q'.es.length) ∧ (∀ s, a = some s → s ∈ q.es ∧ q'.at_ = q.at_ + 1) := by
  unfold Orc.draw at h
  cases he : q.es[q.at_]? with
  | none =>
    rw [he] at h
    simp only [Prod.mk.injEq] at h
    obtain ⟨rfl, rfl⟩ := h
    exact ⟨rfl, Nat.le_refl _, by omega, rfl, id, fun s hs => (by cases hs)⟩
  | some y =>
    rw [he] at h
    simp only [Prod.mk.injEq] at h
    obtain ⟨rfl, rfl⟩ := h
    refine ⟨rfl, by simp, by simp, rfl, fun _ => ?_, fun s hs => ?_⟩
    · have := (List.getElem?_eq_some_iff.1 he).1
      simp only; omega
    · cases hs
      exact ⟨List.mem_of_getElem? he, rfl⟩

theorem Tbl.create_step (T : Tbl) (v : Int) : Tbl.Step 1 T (T.create v).2 := by
  unfold Tbl.create
  simp only
  split
  · exact Tbl.Step.refl 1 T
  · rename_i hk
    cases hd : T.orc.draw with
    | mk a q =>
      obtain ⟨d1, d2, d3, d4, d5, d6⟩ := Orc.draw_facts hd
      cases a with
      | none => exact ⟨rfl, d1, d2, d3, by simp only; rw [d4]; omega, fun h => h.put d1 d2 (d5 h.le) (by rw [d4]; exact h.rsw)⟩
      | some s =>
        obtain ⟨hs, _⟩ := d6 s rfl
        refine ⟨rfl, d1, d2, d3, by simp only; rw [d4]; omega, fun h => ?_⟩
        have h1 : Tbl.Ok { T with orc := q } := h.put d1 d2 (d5 h.le) (by rw [d4]; exact h.rsw)
        have hx : Ob.Ok q.at_ ⟨true, s, 0, v, 24⟩ := ⟨by simp, by simp, h.tape s hs, by simp⟩
        simp only
        split
        · rename_i he
          exact h1.push (by simp only; omega) hx
        · exact h1.set _ hx
theorem Tbl.check_step (T : Tbl) (c : Cp) (need : Nat) : Tbl.Step 1 T (T.check c need).2 := by
  unfold Tbl.check
  split
  · exact Tbl.Step.refl 1 T
  · cases hg : T.get c.o with
    | none => exact Tbl.Step.refl 1 T
    | some x =>
      have := Tbl.step_tok T x.secret c.r
      simp only
      cases ht : T.orc.tok x.secret c.r with
      | mk a q =>
        rw [ht] at this
        cases a <;> exact this
theorem Tbl.get_mem {T : Tbl} {k : Nat} {x : Ob} (h : T.get k = some x) : x ∈ T.all ∧ x.there = true ∧ T.all[k]? = some x := by
  unfold Tbl.get at h
  cases hk : T.all[k]? with
  | none => rw [hk] at h; cases h
  | some o =>
    rw [hk] at h
    simp only [Option.bind_some] at h
    cases ht : o.there with
    | false => rw [ht] at h; simp at h
    | true =>
      rw [ht] at h
      simp only [if_true, Option.some.injEq] at h
      subst h
      exact ⟨List.mem_of_getElem? hk, ht, rfl⟩
theorem Tbl.restrict_step (T : Tbl) (c : Cp) (mask : Nat) : Tbl.Step 2 T (T.restrict c mask).2 := by
  have hc := Tbl.check_step T c 0
  unfold Tbl.restrict
  cases ht : T.check c 0 with
  | mk a T1 =>
    rw [ht] at hc
    obtain ⟨k, e⟩ := a
    cases e with
    | some e => exact hc.mono (by omega)
    | none =>
      simp only
      cases hg : T1.get k with
      | none => exact hc.mono (by omega)
      | some x =>
        have := hc.trans (Tbl.step_tok T1 x.secret (c.r &&& mask))
        simp only
        cases ht2 : T1.orc.tok x.secret (c.r &&& mask) with
        | mk a q =>
          rw [ht2] at this
          cases a <;> exact this
theorem Tbl.revoke_step (T : Tbl) (c : Cp) : Tbl.Step 2 T (T.revoke c).2 := by
  have hc := Tbl.check_step T c 255
  unfold Tbl.revoke
  cases ht : T.check c 255 with
  | mk a T1 =>
    rw [ht] at hc
    obtain ⟨k, e⟩ := a
    cases e with
    | some e => exact hc.mono (by omega)
    | none =>
      simp only
      cases hg : T1.get k with
      | none => exact hc.mono (by omega)
      | some x =>
        simp only
        cases hd : T1.orc.draw with
        | mk a q =>
          obtain ⟨d1, d2, d3, d4, d5, d6⟩ := Orc.draw_facts hd
          have h1 : Tbl.Step 1 T1 { T1 with orc := q } := ⟨rfl, d1, d2, d3, by simp only; rw [d4]; omega, fun h => h.put d1 d2 (d5 h.le) (by rw [d4]; exact h.rsw)⟩
          cases a with
          | none => exact hc.trans h1
          | some s =>
            obtain ⟨hs, ha⟩ := d6 s rfl
            have h3 : Tbl.Step 1 T1 { T1 with orc := q, all := T1.all.set k { x with secret := s, epoch := x.epoch + 1 } } := by
              refine ⟨rfl, d1, d2, d3, by simp only; rw [d4]; omega, fun h => ?_⟩
              have h2 := h1.ok h
              obtain ⟨m1, m2, m3⟩ := Tbl.get_mem hg
              have hx := h.all x m1
              exact Tbl.Ok.set h2 k ⟨hx.1, by have := hx.2; simp only; omega, h.tape s hs, hx.4⟩
            exact hc.trans h3
theorem Tbl.destroy_step (T : Tbl) (c : Cp) : Tbl.Step 1 T (T.destroy c).2 := by
  have hc := Tbl.check_step T c 8
  unfold Tbl.destroy
  cases ht : T.check c 8 with
  | mk a T1 =>
    rw [ht] at hc
    obtain ⟨k, e⟩ := a
    cases e with
    | some e => exact hc
    | none =>
      simp only
      cases hg : T1.get k with
      | none => exact hc
      | some x => exact ⟨hc.port, hc.es, hc.ge, hc.le, hc.rs, fun h => (hc.ok h).set k (Ob.none_ok _)⟩
theorem Tbl.touch_step (T : Tbl) (c : Cp) : Tbl.Step 1 T (T.touch c).2 := by
  have hc := Tbl.check_step T c 0
  unfold Tbl.touch
  cases ht : T.check c 0 with
  | mk a T1 =>
    rw [ht] at hc
    obtain ⟨k, e⟩ := a
    cases e with
    | some e => exact hc
    | none =>
      simp only
      cases hg : T1.get k with
      | none => exact hc
      | some x =>
        refine ⟨hc.port, hc.es, hc.ge, hc.le, hc.rs, fun h => ?_⟩
        have h1 := hc.ok h
        have hx := h1.all x (Tbl.get_mem hg).1
        exact h1.set k ⟨by simp, hx.2, hx.3, by simp⟩
theorem Tbl.info_step (T : Tbl) (c : Cp) : Tbl.Step 1 T (T.info c).2 := by
  have hc := Tbl.check_step T c 0
  unfold Tbl.info
  cases ht : T.check c 0 with
  | mk a T1 =>
    rw [ht] at hc
    obtain ⟨k, e⟩ := a
    cases e with
    | some e => exact hc
    | none =>
      simp only
      cases T1.get k <;> exact hc
theorem aged_ok (a : Nat) : ∀ (l : List Ob) (k : Nat), (∀ x ∈ l, x.Ok a) → ∀ x ∈ (aged k l).1, x.Ok a
  | [], _, _, x, hx => by simp [aged] at hx
  | o :: l, k, h, x, hx => by
    have ih := aged_ok a l (k + 1) (fun y hy => h y (by simp [hy]))
    have ho := h o (by simp)
    unfold aged at hx
    simp only at hx
    split at hx
    · rcases List.mem_cons.1 hx with rfl | hx
      · exact ho
      · exact ih x hx
    · split at hx
      · rcases List.mem_cons.1 hx with rfl | hx
        · exact Ob.none_ok a
        · exact ih x hx
      · rcases List.mem_cons.1 hx with rfl | hx
        · rename_i h1 h2
          have := ho.1
          exact ⟨by simp only; omega, ho.2, ho.3, fun _ => by simp only; omega⟩
        · exact ih x hx
/-- A round. -/
def Tbl.age (T : Tbl) : List Int × Tbl := ((aged 0 T.all).2, { T with all := (aged 0 T.all).1 })
theorem Tbl.age_step (T : Tbl) : Tbl.Step 0 T T.age.2 :=
  ⟨rfl, rfl, Nat.le_refl _, Nat.le_refl _, Nat.le_refl _, fun h => ⟨h.port, by have := h.few; unfold Tbl.few at this ⊢; simpa [Tbl.age, aged_length] using this, h.tape, h.le, aged_ok _ _ _ h.all, h.rsw⟩⟩

theorem Tbl.Ok.fresh {port : Nat} {es : List Nat} (hp : port < 18446744073709551616) (he : ∀ y ∈ es, y < w48) : Tbl.Ok ⟨port, ⟨[], es, 0⟩, []⟩ :=
  ⟨hp, by simp [Tbl.few], he, by simp, by simp, by simp⟩
end Go.Ab
