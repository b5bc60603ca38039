/- The abstract machine and the model's: the relation. -/
import Derived.Test.YtekkglhoeaipbaaDoorAbGlob
namespace Go.Ab

structure Loc where
  blk : Nat
  sh : Nat
  hid : Nat

abbrev Nu := Nat → Option Loc

mutual
def conc (ν : Nu) : AV → Option Value
  | .bool b => some (.bool b)
  | .int k n => some (.int k n)
  | .str l => some (.string ⟨l.toArray⟩)
  | .pnil => some (.pointer none)
  | .ptr b o => (ν b).map fun L => .pointer (some ⟨L.blk, L.sh + o, none⟩)
  | .snil => some (.slice none 0 0)
  | .slice b o n c false => (ν b).map fun L => .slice (some ⟨L.blk, L.sh + o, none⟩) n c
  | .slice b o n st true => (ν b).bind fun L => if st + n ≤ L.hid then some (.slice (some ⟨L.blk, L.sh + o, none⟩) n (L.hid - st)) else none
  | .zsl a => some (.slice (some a) 0 0)
  | .esl b o1 o2 st => (ν b).bind fun L => if st ≤ L.hid then some (.slice (some ⟨L.blk, L.sh + (if L.hid = st then o1 else o2), none⟩) 0 (L.hid - st)) else none
  | .mnil => some (.map none)
  | .map r => (ν r).map fun L => .map (some L.blk)
  | .cnil => some (.chan none)
  | .chan r => (ν r).map fun L => .chan (some L.blk)
  | .func fn f c => (concs ν f).bind fun f => (concs ν c).map fun c => .func fn f.toArray c.toArray
  | .nilFunc => some .nilFunc
  | .iface t v => (conc ν v).map (.iface t)
  | .nilIface => some .nilIface
  | .agg cs => (concs ν cs).map fun l => .agg l.toArray
  | .tuple cs => (concs ν cs).map fun l => .tuple l.toArray
def concs (ν : Nu) : List AV → Option (List Value)
  | [] => some []
  | v :: r => (conc ν v).bind fun v => (concs ν r).map fun r => v :: r
end

theorem concs_length {ν : Nu} : ∀ {l : List AV} {m : List Value}, concs ν l = some m → m.length = l.length
  | [], m, h => by simp [concs] at h; subst h; rfl
  | v :: r, m, h => by
    simp only [concs, Option.bind_eq_some_iff, Option.map_eq_some_iff] at h
    obtain ⟨v', hv, r', hr, rfl⟩ := h
    simp [concs_length hr]

theorem concs_cons {ν : Nu} {v : AV} {r : List AV} {m : List Value} : concs ν (v :: r) = some m ↔ ∃ v' r', conc ν v = some v' ∧ concs ν r = some r' ∧ m = v' :: r' := by
  simp only [concs, Option.bind_eq_some_iff, Option.map_eq_some_iff]
  constructor
  · rintro ⟨v', hv, r', hr, rfl⟩; exact ⟨v', r', hv, hr, rfl⟩
  · rintro ⟨v', r', hv, hr, rfl⟩; exact ⟨v', hv, r', hr, rfl⟩

theorem concs_get {ν : Nu} : ∀ {l : List AV} {m : List Value} (i : Nat) {v : AV}, concs ν l = some m → l[i]? = some v → ∃ v', m[i]? = some v' ∧ conc ν v = some v'
  | [], _, i, v, _, hi => by simp at hi
  | a :: r, m, i, v, h, hi => by
    obtain ⟨a', r', ha, hr, rfl⟩ := concs_cons.1 h
    cases i with
    | zero => simp at hi; subst hi; exact ⟨a', rfl, ha⟩
    | succ i => simp at hi; simpa using concs_get i hr hi

theorem concs_of_get {ν : Nu} : ∀ {l : List AV} {m : List Value}, m.length = l.length → (∀ (i : Nat) (v : AV), l[i]? = some v → ∃ v', m[i]? = some v' ∧ conc ν v = some v') → concs ν l = some m
  | [], m, hl, _ => by simp at hl; subst hl; rfl
  | a :: r, m, hl, h => by
    cases m with
    | nil => simp at hl
    | cons b m =>
      obtain ⟨v', h1, h2⟩ := h 0 a rfl
      simp at h1; subst h1
      exact concs_cons.2 ⟨_, _, h2, concs_of_get (by simpa using hl) (fun i v hi => by simpa using h (i + 1) v (by simpa using hi)), rfl⟩

theorem concs_append {ν : Nu} : ∀ {l l' : List AV} {m m' : List Value}, concs ν l = some m → concs ν l' = some m' → concs ν (l ++ l') = some (m ++ m')
  | [], _, _, _, h, h' => by simp [concs] at h; subst h; simpa using h'
  | a :: r, _, _, _, h, h' => by
    obtain ⟨a', r', ha, hr, rfl⟩ := concs_cons.1 h
    exact concs_cons.2 ⟨_, _, ha, concs_append hr h', rfl⟩

theorem concs_append_inv {ν : Nu} : ∀ {l l' : List AV} {m : List Value}, concs ν (l ++ l') = some m → ∃ a b, concs ν l = some a ∧ concs ν l' = some b ∧ m = a ++ b
  | [], _, m, h => ⟨[], m, rfl, by simpa using h, rfl⟩
  | a :: r, _, _, h => by
    obtain ⟨a', r', ha, hr, rfl⟩ := concs_cons.1 h
    obtain ⟨x, y, hx, hy, rfl⟩ := concs_append_inv hr
    exact ⟨a' :: x, y, concs_cons.2 ⟨_, _, ha, hx, rfl⟩, hy, rfl⟩

theorem concs_take {ν : Nu} : ∀ {l : List AV} {m : List Value} (n : Nat), concs ν l = some m → concs ν (l.take n) = some (m.take n)
  | [], m, n, h => by simp [concs] at h; subst h; simp [concs]
  | a :: r, m, n, h => by
    obtain ⟨a', r', ha, hr, rfl⟩ := concs_cons.1 h
    cases n with
    | zero => simp [concs]
    | succ n => exact concs_cons.2 ⟨_, _, ha, concs_take n hr, rfl⟩

theorem concs_drop {ν : Nu} : ∀ {l : List AV} {m : List Value} (n : Nat), concs ν l = some m → concs ν (l.drop n) = some (m.drop n)
  | [], m, n, h => by simp [concs] at h; subst h; simp [concs]
  | a :: r, m, n, h => by
    cases n with
    | zero => simpa using h
    | succ n =>
      obtain ⟨a', r', ha, hr, rfl⟩ := concs_cons.1 h
      simpa using concs_drop n hr

theorem concs_over {ν : Nu} {c : List AV} {C : List Value} {v : List AV} {V : List Value} (off : Nat) (h : concs ν c = some C) (hv : concs ν v = some V) :
    concs ν (over c off v) = some (C.take off ++ V ++ C.drop (off + v.length)) :=
  concs_append (concs_append (concs_take _ h) hv) (concs_drop _ h)

/-! ### the map of numbers grows -/
def Le (ν ν' : Nu) : Prop := ∀ id L, ν id = some L → ν' id = some L
theorem Le.refl (ν : Nu) : Le ν ν := fun _ _ h => h
theorem Le.trans {a b c : Nu} (h : Le a b) (k : Le b c) : Le a c := fun _ _ x => k _ _ (h _ _ x)

mutual
theorem conc_mono {ν ν' : Nu} (h : Le ν ν') : ∀ {a : AV} {v : Value}, conc ν a = some v → conc ν' a = some v
  | .bool _, _, e | .int _ _, _, e | .str _, _, e | .zsl _, _, e | .pnil, _, e | .snil, _, e | .mnil, _, e | .cnil, _, e | .nilFunc, _, e | .nilIface, _, e => by simpa [conc] using e
  | .ptr b o, v, e => by
    simp only [conc, Option.map_eq_some_iff] at e ⊢
    obtain ⟨L, hL, rfl⟩ := e; exact ⟨L, h _ _ hL, rfl⟩
  | .esl b o1 o2 st, v, e => by
    simp only [conc, Option.bind_eq_some_iff] at e ⊢
    obtain ⟨L, hL, hx⟩ := e; exact ⟨L, h _ _ hL, hx⟩
  | .slice b o n c false, v, e => by
    simp only [conc, Option.map_eq_some_iff] at e ⊢
    obtain ⟨L, hL, rfl⟩ := e; exact ⟨L, h _ _ hL, rfl⟩
  | .slice b o n c true, v, e => by
    simp only [conc, Option.bind_eq_some_iff] at e ⊢
    obtain ⟨L, hL, hx⟩ := e; exact ⟨L, h _ _ hL, hx⟩
  | .map r, v, e => by
    simp only [conc, Option.map_eq_some_iff] at e ⊢
    obtain ⟨L, hL, rfl⟩ := e; exact ⟨L, h _ _ hL, rfl⟩
  | .chan r, v, e => by
    simp only [conc, Option.map_eq_some_iff] at e ⊢
    obtain ⟨L, hL, rfl⟩ := e; exact ⟨L, h _ _ hL, rfl⟩
  | .func fn f c, v, e => by
    simp only [conc, Option.bind_eq_some_iff, Option.map_eq_some_iff] at e ⊢
    obtain ⟨f', hf, c', hc, rfl⟩ := e
    exact ⟨f', concs_mono h hf, c', concs_mono h hc, rfl⟩
  | .iface t x, v, e => by
    simp only [conc, Option.map_eq_some_iff] at e ⊢
    obtain ⟨L, hL, rfl⟩ := e; exact ⟨L, conc_mono h hL, rfl⟩
  | .agg cs, v, e => by
    simp only [conc, Option.map_eq_some_iff] at e ⊢
    obtain ⟨L, hL, rfl⟩ := e; exact ⟨L, concs_mono h hL, rfl⟩
  | .tuple cs, v, e => by
    simp only [conc, Option.map_eq_some_iff] at e ⊢
    obtain ⟨L, hL, rfl⟩ := e; exact ⟨L, concs_mono h hL, rfl⟩
theorem concs_mono {ν ν' : Nu} (h : Le ν ν') : ∀ {a : List AV} {v : List Value}, concs ν a = some v → concs ν' a = some v
  | [], _, e => by simpa [concs] using e
  | a :: r, v, e => by
    obtain ⟨a', r', ha, hr, rfl⟩ := concs_cons.1 e
    exact concs_cons.2 ⟨_, _, conc_mono h ha, concs_mono h hr, rfl⟩
end

theorem conc_esl {ν : Nu} {b o1 o2 st : Nat} {v : Value} (h : conc ν (.esl b o1 o2 st) = some v) :
    ∃ A c, v = .slice (some A) 0 c ∧ ∃ L, ν b = some L ∧ st ≤ L.hid ∧ A = ⟨L.blk, L.sh + (if L.hid = st then o1 else o2), none⟩ ∧ c = L.hid - st := by
  simp only [conc, Option.bind_eq_some_iff] at h
  obtain ⟨L, hL, h⟩ := h
  split at h
  · rename_i hle
    simp only [Option.some.injEq] at h
    exact ⟨_, _, h.symm, L, hL, hle, rfl, rfl⟩
  · cases h

theorem conc_cells {ν : Nu} {a : AV} {v : Value} (h : conc ν a = some v) : concs ν a.cells = some v.cells.toList := by
  cases a with
  | agg cs =>
    simp only [conc, Option.map_eq_some_iff] at h
    obtain ⟨l, hl, rfl⟩ := h
    simpa [AV.cells, Value.cells] using hl
  | _ =>
    have : v.cells = #[v] := by
      first
        | (simp only [conc, Option.some.injEq] at h; subst h; rfl)
        | (simp only [conc, Option.map_eq_some_iff] at h; obtain ⟨_, _, rfl⟩ := h; rfl)
        | (simp only [conc, Option.bind_eq_some_iff, Option.map_eq_some_iff] at h; obtain ⟨_, _, _, _, rfl⟩ := h; rfl)
        | (obtain ⟨_, _, rfl, _⟩ := conc_esl h; rfl)
        | (rename_i opn; cases opn <;> simp only [conc, Option.bind_eq_some_iff, Option.map_eq_some_iff] at h <;> obtain ⟨L, _, hx⟩ := h
           · subst hx; rfl
           · split at hx
             · simp only [Option.some.injEq] at hx; subst hx; rfl
             · cases hx)
    rw [this]
    exact concs_cons.2 ⟨v, [], h, rfl, rfl⟩

/-! ### objects and worlds -/
def AO.rw : AO → Bool
  | .cells _ _ ro => !ro
  | _ => true

def inFr (fr : Nat × Nat) (i : Nat) : Bool := fr.1 ≤ i && i < fr.2

def ERel (ν : Nu) : List (AV × AV) → List MapEntry → Prop
  | [], [] => True
  | (k, v) :: es, e :: E => conc ν k = some e.key ∧ conc ν v = some e.val ∧ ERel ν es E
  | _, _ => False

theorem inFr_false {fr : Nat × Nat} {n i : Nat} (h : fr.1 = fr.2 ∨ n ≤ fr.1) (hi : i < n) : inFr fr i = false := by
  unfold inFr
  rcases h with h | h
  · by_cases h1 : fr.1 ≤ i
    · simp [h1]; omega
    · simp [h1]
  · simp; omega

def ORel (ν : Nu) (L : Loc) (o : AO) (x : Option Obj) : Prop :=
  match o with
  | .cells c opn ro => ∃ C elem fr, x = some (.cells C elem fr) ∧
      (∀ (i : Nat) (v : AV), c[i]? = some v → ∃ v', C[L.sh + i]? = some v' ∧ conc ν v = some v') ∧
      (ro = false → L.sh = 0 ∧ (fr.1 = fr.2 ∨ C.size ≤ fr.1)) ∧
      (opn ≠ 0 → ro = false ∧ c.length ≤ L.hid * opn ∧ L.hid * opn ≤ C.size)
  | .map es => ∃ E clock, x = some (.map E clock) ∧ ERel ν es E.toList
  | .chan cap buf => ∃ B m n, x = some (.chan cap B false m n false) ∧ concs ν buf = some B.toList

theorem ERel.mono {ν ν' : Nu} (h : Le ν ν') : ∀ {es : List (AV × AV)} {E : List MapEntry}, ERel ν es E → ERel ν' es E
  | [], [], _ => trivial
  | (k, v) :: es, e :: E, ⟨h1, h2, h3⟩ => ⟨conc_mono h h1, conc_mono h h2, ERel.mono h h3⟩
  | [], _ :: _, hh => hh.elim
  | _ :: _, [], hh => hh.elim

theorem ORel.mono {ν ν' : Nu} (h : Le ν ν') {L : Loc} {o : AO} {x : Option Obj} (ho : ORel ν L o x) : ORel ν' L o x := by
  cases o with
  | cells c opn ro =>
    obtain ⟨C, elem, fr, hx, hc, hf, hopn⟩ := ho
    exact ⟨C, elem, fr, hx, fun i v hi => let ⟨v', h1, h2⟩ := hc i v hi; ⟨v', h1, conc_mono h h2⟩, hf, hopn⟩
  | map es => obtain ⟨E, clock, hx, he⟩ := ho; exact ⟨E, clock, hx, ERel.mono h he⟩
  | chan cap buf => obtain ⟨B, m, n, hx, hb⟩ := ho; exact ⟨B, m, n, hx, concs_mono h hb⟩

/-- A block of this number belongs to a living object that may be written. -/
def Owns (ν : Nu) (s : S) (b : Nat) : Prop := ∃ id o L, s.get id = some o ∧ o.rw = true ∧ ν id = some L ∧ L.blk = b

structure Sim (ν : Nu) (s : S) (w : World) : Prop where
  obj : ∀ id o L, s.get id = some o → ν id = some L → ORel ν L o w.heap[L.blk]?
  inj : ∀ id id' o o' L L', s.get id = some o → s.get id' = some o' → ν id = some L → ν id' = some L' → id ≠ id' → o.rw = true → L.blk ≠ L'.blk
  fresh : ∀ id, s.ctr ≤ id → s.get id = none
  top : ∀ id, s.ctr ≤ id → ν id = none
  glob : Gl w (Owns ν s)

theorem ORel.some {ν : Nu} {L : Loc} {o : AO} {x : Option Obj} (h : ORel ν L o x) : x ≠ none := by
  cases o with
  | cells c opn ro => obtain ⟨C, elem, fr, rfl, _⟩ := h; simp
  | map es => obtain ⟨E, clock, rfl, _⟩ := h; simp
  | chan cap buf => obtain ⟨B, m, n, rfl, _⟩ := h; simp

theorem Sim.blk_lt {ν : Nu} {s : S} {w : World} (h : Sim ν s w) {id : Nat} {o : AO} {L : Loc} (ho : s.get id = some o) (hL : ν id = some L) : L.blk < w.heap.size := by
  have := (h.obj id o L ho hL).some
  rcases Nat.lt_or_ge L.blk w.heap.size with hh | hh
  · exact hh
  · exact absurd (Array.getElem?_eq_none hh) this

theorem Sim.lt {ν : Nu} {s : S} {w : World} (h : Sim ν s w) {id : Nat} {o : AO} (ho : s.get id = some o) : id < s.ctr := by
  rcases Nat.lt_or_ge id s.ctr with hh | hh
  · exact hh
  · rw [h.fresh id hh] at ho; cases ho

structure Ok (ν : Nu) (s : S) (w : World) (ν' : Nu) (s' : S) (w' : World) : Prop where
  le : Le ν ν'
  new : ∀ id L, ν' id = some L → ν id = some L ∨ (ν id = none ∧ s.ctr ≤ id ∧ id < s'.ctr ∧ (w.heap.size ≤ L.blk ∨ Owns ν s L.blk))
  ctr : s.ctr ≤ s'.ctr
  sim : Sim ν' s' w'
  keep : ∀ id, id < s.ctr → ν id = none → s'.get id = s.get id
  live : ∀ id o', id < s.ctr → s'.get id = some o' → ∃ o, s.get id = some o ∧ o.rw = o'.rw
  frame : ∀ b, b < w.heap.size → ¬ Owns ν s b → w'.heap[b]? = w.heap[b]?
  size : w.heap.size ≤ w'.heap.size
  tape : w'.tape = w.tape
  os : w'.os = w.os
  output : w'.output = w.output

theorem Ok.refl {ν : Nu} {s : S} {w : World} (h : Sim ν s w) : Ok ν s w ν s w :=
  ⟨Le.refl _, fun _ _ h => .inl h, Nat.le_refl _, h, fun _ _ _ => rfl, fun _ o _ h => ⟨o, h, rfl⟩, fun _ _ _ => rfl, Nat.le_refl _, rfl, rfl, rfl⟩

theorem Ok.owns {ν : Nu} {s : S} {w : World} {ν' : Nu} {s' : S} {w' : World} (h : Ok ν s w ν' s' w') (hs : Sim ν s w) {b : Nat} (hb : b < w.heap.size) (ho : Owns ν' s' b) : Owns ν s b := by
  obtain ⟨id, o, L, hg, hrw, hL, rfl⟩ := ho
  rcases h.new id L hL with hν | ⟨hn, hge, hlt, hfr⟩
  · have hid : id < s.ctr := by
      rcases Nat.lt_or_ge id s.ctr with hid | hid
      · exact hid
      · rw [hs.top id hid] at hν; cases hν
    obtain ⟨o₀, h0, h1⟩ := h.live id o hid hg
    exact ⟨id, o₀, L, h0, h1.trans hrw, hν, rfl⟩
  · rcases hfr with hfr | hfr
    · omega
    · exact hfr

theorem Ok.trans {ν₀ ν₁ ν₂ : Nu} {s₀ s₁ s₂ : S} {w₀ w₁ w₂ : World} (hs : Sim ν₀ s₀ w₀) (h : Ok ν₀ s₀ w₀ ν₁ s₁ w₁) (k : Ok ν₁ s₁ w₁ ν₂ s₂ w₂) : Ok ν₀ s₀ w₀ ν₂ s₂ w₂ where
  le := h.le.trans k.le
  new := by
    intro id L hL
    rcases k.new id L hL with h1 | ⟨h1, h2, h3, h4⟩
    · rcases h.new id L h1 with h5 | ⟨h5, h6, h7, h8⟩
      · exact .inl h5
      · exact .inr ⟨h5, h6, Nat.lt_of_lt_of_le h7 k.ctr, h8⟩
    · refine .inr ⟨?_, Nat.le_trans h.ctr h2, h3, ?_⟩
      · cases hx : ν₀ id with
        | none => rfl
        | some L0 => rw [h.le _ _ hx] at h1; cases h1
      · rcases h4 with h4 | h4
        · exact .inl (Nat.le_trans h.size h4)
        · rcases Nat.lt_or_ge L.blk w₀.heap.size with hb | hb
          · exact .inr (h.owns hs hb h4)
          · exact .inl hb
  ctr := Nat.le_trans h.ctr k.ctr
  sim := k.sim
  keep := by
    intro id hid hn
    have hn1 : ν₁ id = none := by
      cases hx : ν₁ id with
      | none => rfl
      | some L1 =>
        rcases h.new id L1 hx with h1 | ⟨_, h1, _⟩
        · rw [hn] at h1; cases h1
        · omega
    rw [k.keep id (Nat.lt_of_lt_of_le hid h.ctr) hn1, h.keep id hid hn]
  live := by
    intro id o' hid ho
    obtain ⟨o1, h1, h2⟩ := k.live id o' (Nat.lt_of_lt_of_le hid h.ctr) ho
    obtain ⟨o0, h3, h4⟩ := h.live id o1 hid h1
    exact ⟨o0, h3, h4.trans h2⟩
  frame := by
    intro b hb hno
    rw [k.frame b (Nat.lt_of_lt_of_le hb h.size) (fun ho => hno (h.owns hs hb ho)), h.frame b hb hno]
  size := Nat.le_trans h.size k.size
  tape := k.tape.trans h.tape
  os := k.os.trans h.os
  output := k.output.trans h.output

/-- A draw. -/
theorem Sim.drew {ν : Nu} {s : S} {w : World} (h : Sim ν s w) : Sim ν s { w with drawn := w.drawn + 1 } := ⟨h.obj, h.inj, h.fresh, h.top, h.glob.go (fun _ _ _ => rfl) (fun _ _ h => h)⟩
theorem Ok.drew {ν : Nu} {s : S} {w : World} (h : Sim ν s w) : Ok ν s w ν s { w with drawn := w.drawn + 1 } :=
  ⟨Le.refl _, fun _ _ h => .inl h, Nat.le_refl _, h.drew, fun _ _ _ => rfl, fun _ o _ h => ⟨o, h, rfl⟩, fun _ _ _ => rfl, Nat.le_refl _, rfl, rfl, rfl⟩

/-! ### reading -/
theorem Sim.cell {ν : Nu} {s : S} {w : World} (h : Sim ν s w) {b : Nat} {c : List AV} {opn : Nat} {ro : Bool} {L : Loc} (hg : s.get b = some (.cells c opn ro)) (hL : ν b = some L)
    (i : Nat) {v : AV} (hi : c[i]? = some v) : ∃ v', w.cell? ⟨L.blk, L.sh + i, none⟩ = some v' ∧ conc ν v = some v' := by
  obtain ⟨C, elem, fr, hx, hc, _⟩ := h.obj b _ L hg hL
  obtain ⟨v', h1, h2⟩ := hc i v hi
  exact ⟨v', by simp [World.cell?, hx, h1], h2⟩

theorem read_some {s : S} {b o n : Nat} {l : List AV} (h : s.read b o n = some l) : ∃ c opn ro, s.get b = some (.cells c opn ro) ∧ o + n ≤ c.length ∧ l = (c.drop o).take n ∧ l.length = n := by
  unfold S.read at h
  split at h
  · rename_i c opn ro hg
    split at h
    · rename_i hle
      simp only [Option.some.injEq] at h
      subst h
      exact ⟨c, opn, ro, hg, hle, rfl, by simp; omega⟩
    · cases h
  · cases h

/-- What a read finds stands in the world's cells. -/
theorem Sim.read {ν : Nu} {s : S} {w : World} (h : Sim ν s w) {b o n : Nat} {l : List AV} {L : Loc} (hr : s.read b o n = some l) (hL : ν b = some L) :
    ∃ m, concs ν l = some m ∧ ∀ i v, m[i]? = some v → w.cell? ⟨L.blk, L.sh + o + i, none⟩ = some v := by
  obtain ⟨c, opn, ro, hg, hle, rfl, hlen⟩ := read_some hr
  have key : ∀ (k : Nat) (d : List AV), (∀ i v, d[i]? = some v → c[k + i]? = some v) → ∃ m, concs ν d = some m ∧ ∀ i v, m[i]? = some v → w.cell? ⟨L.blk, L.sh + k + i, none⟩ = some v := by
    intro k d
    induction d generalizing k with
    | nil => intro _; exact ⟨[], rfl, by simp⟩
    | cons a d ih =>
      intro hd
      obtain ⟨m, hm, hcell⟩ := ih (k + 1) (fun i v hi => by have := hd (i + 1) v (by simpa using hi); rwa [show k + (i + 1) = k + 1 + i from by omega] at this)
      obtain ⟨a', h1, h2⟩ := h.cell hg hL k (hd 0 a rfl)
      refine ⟨a' :: m, concs_cons.2 ⟨_, _, h2, hm, rfl⟩, ?_⟩
      intro i v hi
      cases i with
      | zero => simp at hi; subst hi; exact h1
      | succ i => simp at hi; have := hcell i v hi; rwa [show L.sh + k + (i + 1) = L.sh + (k + 1) + i from by omega]
  obtain ⟨m, hm, hc⟩ := key o ((c.drop o).take n) (by
    intro i v hi
    rw [List.getElem?_take] at hi
    split at hi
    · rwa [List.getElem?_drop] at hi
    · cases hi)
  exact ⟨m, hm, hc⟩

end Go.Ab
