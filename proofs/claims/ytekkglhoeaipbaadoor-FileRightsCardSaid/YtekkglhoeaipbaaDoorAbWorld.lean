/- The abstract machine and the model's: the heap's steps. -/
import Derived.Test.YtekkglhoeaipbaaDoorAbRel
import Derived.Laws.World
import Derived.Laws.Sem
namespace Go.Ab

def nuSet (ν : Nu) (id : Nat) (L : Loc) : Nu := fun j => if j = id then some L else ν j

theorem le_nuSet {ν : Nu} {id : Nat} {L : Loc} (h : ν id = none) : Le ν (nuSet ν id L) := by
  intro j M hj
  unfold nuSet
  split
  · rename_i e; subst e; rw [h] at hj; cases hj
  · exact hj

/-- A new object in a new block. -/
theorem Ok.alloc {ν : Nu} {s : S} {w : World} (h : Sim ν s w) {obj : AO} {O : Obj} (L : Loc) (hb : L.blk = w.heap.size) (ho : ORel ν L obj (some O)) (hrw : obj.rw = true) :
    Ok ν s w (nuSet ν s.ctr L) (s.new obj) (w.alloc O) := by
  have hn := h.top s.ctr (Nat.le_refl _)
  have hle := le_nuSet (L := L) hn
  have heap : ∀ b, b < w.heap.size → (w.alloc O).heap[b]? = w.heap[b]? := fun b hb => by
    show (w.heap.push O)[b]? = _
    rw [Array.getElem?_push, if_neg (by omega)]
  have newb : (w.alloc O).heap[w.heap.size]? = some O := by
    show (w.heap.push O)[w.heap.size]? = _
    rw [Array.getElem?_push, if_pos rfl]
  have split : ∀ id L', nuSet ν s.ctr L id = some L' → (id = s.ctr ∧ L' = L) ∨ (id ≠ s.ctr ∧ ν id = some L') := by
    intro id L' hh
    unfold nuSet at hh
    split at hh
    · simp only [Option.some.injEq] at hh; exact .inl ⟨‹_›, hh.symm⟩
    · exact .inr ⟨‹_›, hh⟩
  refine ⟨hle, ?_, by simp [S.ctr_new], ⟨?_, ?_, ?_, ?_, ?_⟩, ?_, ?_, ?_, by simp, rfl, rfl, rfl⟩
  · intro id L' hL'
    rcases split id L' hL' with ⟨rfl, rfl⟩ | ⟨_, h1⟩
    · exact .inr ⟨hn, Nat.le_refl _, by simp [S.ctr_new], .inl (by omega)⟩
    · exact .inl h1
  · intro id o L' hg hL'
    rw [S.get_new] at hg
    rcases split id L' hL' with ⟨rfl, rfl⟩ | ⟨h0, h1⟩
    · simp only [if_true, Option.some.injEq] at hg
      subst hg
      rw [hb, newb]
      exact ho.mono hle
    · rw [if_neg h0] at hg
      rw [heap _ (h.blk_lt hg h1)]
      exact (h.obj id o L' hg h1).mono hle
  · intro id id' o o' L1 L2 hg hg' h1 h2 hne hrw'
    rw [S.get_new] at hg hg'
    rcases split id L1 h1 with ⟨rfl, rfl⟩ | ⟨h3, h4⟩
    · rcases split id' L2 h2 with ⟨rfl, rfl⟩ | ⟨h5, h6⟩
      · exact absurd rfl hne
      · rw [if_neg h5] at hg'
        have := h.blk_lt hg' h6
        omega
    · rw [if_neg h3] at hg
      rcases split id' L2 h2 with ⟨rfl, rfl⟩ | ⟨h5, h6⟩
      · have := h.blk_lt hg h4
        omega
      · rw [if_neg h5] at hg'
        exact h.inj id id' o o' L1 L2 hg hg' h4 h6 hne hrw'
  · intro id hid
    rw [S.ctr_new] at hid
    rw [S.get_new, if_neg (by omega)]
    exact h.fresh id (by omega)
  · intro id hid
    rw [S.ctr_new] at hid
    unfold nuSet
    rw [if_neg (by omega)]
    exact h.top id (by omega)
  · refine h.glob.go (fun b hb _ => heap b hb) ?_
    rintro _ hb' ⟨id, o, L', hg, hr, hL', rfl⟩
    rw [S.get_new] at hg
    rcases split id L' hL' with ⟨rfl, rfl⟩ | ⟨h0, h1⟩
    · omega
    · rw [if_neg h0] at hg
      exact ⟨id, o, L', hg, hr, h1, rfl⟩
  · intro id hid _
    rw [S.get_new, if_neg (by omega)]
  · intro id o' hid hg
    rw [S.get_new, if_neg (by omega)] at hg
    exact ⟨o', hg, rfl⟩
  · intro b hb _
    exact heap b hb

/-- An object that is another one now, in its own block. -/
theorem Ok.setObj {ν : Nu} {s : S} {w w' : World} (h : Sim ν s w) {b : Nat} {o o' : AO} {L : Loc} (hg : s.get b = some o) (hL : ν b = some L) (hrw : o.rw = true) (hrw' : o'.rw = true)
    (ho : ORel ν L o' w'.heap[L.blk]?) (hsame : ∀ k, k ≠ L.blk → w'.heap[k]? = w.heap[k]?) (hsz : w'.heap.size = w.heap.size) (ht : w'.tape = w.tape) (hos : w'.os = w.os) (hout : w'.output = w.output) :
    Ok ν s w ν (s.set b (some o')) w' := by
  have hlt := h.lt hg
  refine ⟨Le.refl _, fun _ _ h => .inl h, Nat.le_refl _, ⟨?_, ?_, ?_, ?_, ?_⟩, ?_, ?_, ?_, by omega, ht, hos, hout⟩
  · intro id o1 L1 hg1 hL1
    rw [S.get_set] at hg1
    split at hg1
    · rename_i e
      subst e
      simp only [Option.some.injEq] at hg1
      subst hg1
      rw [hL] at hL1
      simp only [Option.some.injEq] at hL1
      subst hL1
      exact ho
    · rename_i e
      rw [hsame]
      · exact h.obj id o1 L1 hg1 hL1
      · exact (h.inj b id o o1 L L1 hg hg1 hL hL1 (Ne.symm e) hrw).symm
  · intro id id' o1 o2 L1 L2 hg1 hg2 h1 h2 hne hr
    rw [S.get_set] at hg1 hg2
    split at hg1
    · rename_i e
      subst e
      simp only [Option.some.injEq] at hg1
      subst hg1
      rw [if_neg (Ne.symm hne)] at hg2
      exact h.inj _ id' o o2 L1 L2 hg hg2 h1 h2 hne hrw
    · split at hg2
      · rename_i e1 e
        subst e
        exact h.inj id _ o1 o L1 L2 hg1 hg h1 h2 hne hr
      · exact h.inj id id' o1 o2 L1 L2 hg1 hg2 h1 h2 hne hr
  · intro id hid
    rw [S.ctr_set] at hid
    rw [S.get_set, if_neg (by omega)]
    exact h.fresh id hid
  · intro id hid
    exact h.top id hid
  · refine h.glob.go (fun k _ hno => hsame k ?_) ?_
    · rintro rfl
      exact hno ⟨b, o, L, hg, hrw, hL, rfl⟩
    · rintro _ _ ⟨id, o1, L', hg1, hr, hL', rfl⟩
      rw [S.get_set] at hg1
      split at hg1
      · rename_i e
        subst e
        exact ⟨_, o, L', hg, hrw, hL', rfl⟩
      · exact ⟨id, o1, L', hg1, hr, hL', rfl⟩
  · intro id hid hn
    rw [S.get_set, if_neg]
    rintro rfl
    rw [hL] at hn; cases hn
  · intro id o1 hid hg1
    rw [S.get_set] at hg1
    split at hg1
    · rename_i e
      subst e
      simp only [Option.some.injEq] at hg1
      subst hg1
      exact ⟨o, hg, by rw [hrw, hrw']⟩
    · exact ⟨o1, hg1, rfl⟩
  · intro k hk hno
    apply hsame
    rintro rfl
    exact hno ⟨b, o, L, hg, hrw, hL, rfl⟩

/-- An object that is no more; another one, at its own number, is in its block. -/
theorem Ok.move {ν : Nu} {s : S} {w w' : World} (h : Sim ν s w) {b : Nat} {o o' : AO} {L : Loc} (hg : s.get b = some o) (hL : ν b = some L) (hrw : o.rw = true) (hrw' : o'.rw = true)
    (ho : ORel ν L o' w'.heap[L.blk]?) (hsame : ∀ k, k ≠ L.blk → w'.heap[k]? = w.heap[k]?) (hsz : w'.heap.size = w.heap.size) (ht : w'.tape = w.tape) (hos : w'.os = w.os) (hout : w'.output = w.output) :
    Ok ν s w (nuSet ν s.ctr L) ((s.set b none).new o') w' := by
  have hlt := h.lt hg
  have hn := h.top s.ctr (Nat.le_refl _)
  have hle := le_nuSet (L := L) hn
  have gets : ∀ id, ((s.set b none).new o').get id = if id = s.ctr then some o' else if id = b then none else s.get id := by
    intro id
    rw [S.get_new, S.ctr_set, S.get_set]
  have split : ∀ id L', nuSet ν s.ctr L id = some L' → (id = s.ctr ∧ L' = L) ∨ (id ≠ s.ctr ∧ ν id = some L') := by
    intro id L' hh
    unfold nuSet at hh
    split at hh
    · simp only [Option.some.injEq] at hh; exact .inl ⟨‹_›, hh.symm⟩
    · exact .inr ⟨‹_›, hh⟩
  refine ⟨hle, ?_, by simp [S.ctr_new, S.ctr_set], ⟨?_, ?_, ?_, ?_, ?_⟩, ?_, ?_, ?_, by omega, ht, hos, hout⟩
  · intro id L' hL'
    rcases split id L' hL' with ⟨rfl, rfl⟩ | ⟨_, h1⟩
    · exact .inr ⟨hn, Nat.le_refl _, by simp [S.ctr_new, S.ctr_set], .inr ⟨b, o, L', hg, hrw, hL, rfl⟩⟩
    · exact .inl h1
  · intro id o1 L1 hg1 hL1
    rw [gets] at hg1
    rcases split id L1 hL1 with ⟨rfl, rfl⟩ | ⟨h0, h1⟩
    · simp only [if_true, Option.some.injEq] at hg1
      subst hg1
      exact ho.mono hle
    · rw [if_neg h0] at hg1
      split at hg1
      · cases hg1
      · rename_i e
        rw [hsame]
        · exact (h.obj id o1 L1 hg1 h1).mono hle
        · exact (h.inj b id o o1 L L1 hg hg1 hL h1 (Ne.symm e) hrw).symm
  · intro id id' o1 o2 L1 L2 hg1 hg2 h1 h2 hne hr
    rw [gets] at hg1 hg2
    rcases split id L1 h1 with ⟨rfl, rfl⟩ | ⟨h3, h4⟩
    · rcases split id' L2 h2 with ⟨rfl, rfl⟩ | ⟨h5, h6⟩
      · exact absurd rfl hne
      · rw [if_neg h5] at hg2
        split at hg2
        · cases hg2
        · rename_i e
          exact h.inj b id' o o2 L1 L2 hg hg2 hL h6 (Ne.symm e) hrw
    · rw [if_neg h3] at hg1
      split at hg1
      · cases hg1
      · rename_i e
        rcases split id' L2 h2 with ⟨rfl, rfl⟩ | ⟨h5, h6⟩
        · exact (h.inj b id o o1 L2 L1 hg hg1 hL h4 (Ne.symm e) hrw).symm
        · rw [if_neg h5] at hg2
          split at hg2
          · cases hg2
          · exact h.inj id id' o1 o2 L1 L2 hg1 hg2 h4 h6 hne hr
  · intro id hid
    rw [S.ctr_new, S.ctr_set] at hid
    rw [gets, if_neg (by omega), if_neg (by omega)]
    exact h.fresh id (by omega)
  · intro id hid
    rw [S.ctr_new, S.ctr_set] at hid
    unfold nuSet
    rw [if_neg (by omega)]
    exact h.top id (by omega)
  · refine h.glob.go (fun k _ hno => hsame k ?_) ?_
    · rintro rfl
      exact hno ⟨b, o, L, hg, hrw, hL, rfl⟩
    · rintro _ _ ⟨id, o1, L', hg1, hr, hL', rfl⟩
      rw [gets] at hg1
      rcases split id L' hL' with ⟨rfl, rfl⟩ | ⟨h0, h1⟩
      · exact ⟨b, o, _, hg, hrw, hL, rfl⟩
      · rw [if_neg h0] at hg1
        split at hg1
        · cases hg1
        · exact ⟨id, o1, L', hg1, hr, h1, rfl⟩
  · intro id hid hn'
    rw [gets, if_neg (by omega), if_neg]
    rintro rfl
    rw [hL] at hn'; cases hn'
  · intro id o1 hid hg1
    rw [gets, if_neg (by omega)] at hg1
    split at hg1
    · cases hg1
    · exact ⟨o1, hg1, rfl⟩
  · intro k hk hno
    apply hsame
    rintro rfl
    exact hno ⟨b, o, L, hg, hrw, hL, rfl⟩

/-- An object that is no more, and a new one in a new block. -/
theorem Ok.drop {ν : Nu} {s : S} {w : World} (h : Sim ν s w) {b : Nat} {o : AO} (hg : s.get b = some o) {L : Loc} (hL : ν b = some L) : Ok ν s w ν (s.set b none) w := by
  have hlt := h.lt hg
  refine ⟨Le.refl _, fun _ _ h => .inl h, Nat.le_refl _, ⟨?_, ?_, ?_, ?_, ?_⟩, ?_, ?_, fun _ _ _ => rfl, Nat.le_refl _, rfl, rfl, rfl⟩
  · intro id o1 L1 hg1 hL1
    rw [S.get_set] at hg1
    split at hg1
    · cases hg1
    · exact h.obj id o1 L1 hg1 hL1
  · intro id id' o1 o2 L1 L2 hg1 hg2 h1 h2 hne hr
    rw [S.get_set] at hg1 hg2
    split at hg1
    · cases hg1
    · split at hg2
      · cases hg2
      · exact h.inj id id' o1 o2 L1 L2 hg1 hg2 h1 h2 hne hr
  · intro id hid
    rw [S.ctr_set] at hid
    rw [S.get_set, if_neg (by omega)]
    exact h.fresh id hid
  · exact fun id hid => h.top id hid
  · refine h.glob.go (fun _ _ _ => rfl) ?_
    rintro _ _ ⟨id, o1, L', hg1, hr, hL', rfl⟩
    rw [S.get_set] at hg1
    split at hg1
    · cases hg1
    · exact ⟨id, o1, L', hg1, hr, hL', rfl⟩
  · intro id hid hn
    rw [S.get_set, if_neg]
    rintro rfl
    rw [hL] at hn; cases hn
  · intro id o1 hid hg1
    rw [S.get_set] at hg1
    split at hg1
    · cases hg1
    · exact ⟨o1, hg1, rfl⟩

/-! ### cells that are written -/
def wr (w : World) (blk off : Nat) : List Value → World
  | [] => w
  | v :: r => wr (w.setCell ⟨blk, off, none⟩ v) blk (off + 1) r

def flatV : Value → Bool
  | .agg _ | .tuple _ => false
  | _ => true

theorem flat_conc {ν : Nu} {a : AV} {v : Value} (h : conc ν a = some v) (hf : isFlat a = true) : flatV v = true := by
  cases a with
  | agg cs => simp [isFlat] at hf
  | tuple cs => simp [isFlat] at hf
  | _ =>
    first
        | (simp only [conc, Option.some.injEq] at h; subst h; rfl)
        | (simp only [conc, Option.map_eq_some_iff] at h; obtain ⟨_, _, rfl⟩ := h; rfl)
        | (simp only [conc, Option.bind_eq_some_iff, Option.map_eq_some_iff] at h; obtain ⟨_, _, _, _, rfl⟩ := h; rfl)
        | (obtain ⟨_, _, rfl, _⟩ := conc_esl h; rfl)
        | (rename_i opn; cases opn <;> simp only [conc, Option.bind_eq_some_iff, Option.map_eq_some_iff] at h <;> obtain ⟨L, _, hx⟩ := h
           · subst hx; rfl
           · split at hx
             · simp only [Option.some.injEq] at hx; subst hx; rfl
             · cases hx)

theorem flats_conc {ν : Nu} : ∀ {a : List AV} {m : List Value}, concs ν a = some m → a.all isFlat = true → ∀ v ∈ m, flatV v = true
  | [], m, h, _ => by simp [concs] at h; subst h; simp
  | x :: a, m, h, hf => by
    obtain ⟨a', r', ha, hr, rfl⟩ := concs_cons.1 h
    simp only [List.all_cons, Bool.and_eq_true] at hf
    intro v hv
    rcases List.mem_cons.1 hv with rfl | hv
    · exact flat_conc ha hf.1
    · exact flats_conc hr hf.2 v hv

theorem heap_setCell_at {w : World} {blk off : Nat} {v : Value} {C : Array Value} {e : TypeId} {fr : Nat × Nat} (h : w.heap[blk]? = some (.cells C e fr)) :
    (w.setCell ⟨blk, off, none⟩ v).heap[blk]? = some (.cells (C.setIfInBounds off v) e fr) := by
  simp [World.setCell, Array.getElem?_modify, h]

theorem heap_setCell_ne {w : World} {blk off k : Nat} {v : Value} (h : k ≠ blk) : (w.setCell ⟨blk, off, none⟩ v).heap[k]? = w.heap[k]? := by
  simp only [World.setCell, Array.getElem?_modify]
  rw [if_neg (by simpa using Ne.symm h)]

theorem heap_wr_ne : ∀ {V : List Value} {w : World} {blk off k : Nat}, k ≠ blk → (wr w blk off V).heap[k]? = w.heap[k]?
  | [], _, _, _, _, _ => rfl
  | v :: V, w, blk, off, k, h => by rw [wr, heap_wr_ne h, heap_setCell_ne h]

theorem wr_size : ∀ {V : List Value} {w : World} {blk off : Nat}, (wr w blk off V).heap.size = w.heap.size
  | [], _, _, _ => rfl
  | v :: V, w, blk, off => by rw [wr, wr_size]; simp
theorem wr_tape : ∀ {V : List Value} {w : World} {blk off : Nat}, (wr w blk off V).tape = w.tape
  | [], _, _, _ => rfl
  | v :: V, w, blk, off => by rw [wr, wr_tape]; rfl
theorem wr_os : ∀ {V : List Value} {w : World} {blk off : Nat}, (wr w blk off V).os = w.os
  | [], _, _, _ => rfl
  | v :: V, w, blk, off => by rw [wr, wr_os]; rfl
theorem wr_output : ∀ {V : List Value} {w : World} {blk off : Nat}, (wr w blk off V).output = w.output
  | [], _, _, _ => rfl
  | v :: V, w, blk, off => by rw [wr, wr_output]; rfl

theorem heap_wr : ∀ {V : List Value} {w : World} {blk off : Nat} {C : Array Value} {e : TypeId} {fr : Nat × Nat}, w.heap[blk]? = some (.cells C e fr) → off + V.length ≤ C.size →
    ∃ C', (wr w blk off V).heap[blk]? = some (.cells C' e fr) ∧ C'.size = C.size ∧ ∀ j, C'[j]? = if off ≤ j ∧ j < off + V.length then V[j - off]? else C[j]?
  | [], w, blk, off, C, e, fr, h, _ => ⟨C, h, rfl, fun j => by rw [if_neg (by simp)]⟩
  | v :: V, w, blk, off, C, e, fr, h, hle => by
    simp only [List.length_cons] at hle
    obtain ⟨C', h1, h2, h3⟩ := heap_wr (V := V) (off := off + 1) (heap_setCell_at (off := off) (v := v) h) (by simp; omega)
    refine ⟨C', h1, by simpa using h2, ?_⟩
    intro j
    rw [h3]
    simp only [List.length_cons]
    by_cases hj : j = off
    · subst hj
      rw [if_neg (by omega), if_pos (by omega)]
      simp [Array.getElem?_setIfInBounds]
      omega
    · by_cases hj2 : off + 1 ≤ j ∧ j < off + 1 + V.length
      · rw [if_pos hj2, if_pos (by omega), show j - off = (j - (off + 1)) + 1 from by omega]
        simp
      · rw [if_neg hj2, if_neg (by omega), Array.getElem?_setIfInBounds_ne (by omega)]

theorem run_storeCells {P : Program} : ∀ (V : List Value) (w : World) (blk off i : Nat) (C : Array Value) (e : TypeId) (fr : Nat × Nat), w.heap[blk]? = some (.cells C e fr) → off + i + V.length ≤ C.size →
    (∀ v ∈ V, flatV v = true) → (∀ j, j < V.length → inFr fr (off + i + j) = false) → (storeCells ⟨blk, off, none⟩ V i).run P w = .ok () (wr w blk (off + i) V)
  | [], w, blk, off, i, C, e, fr, _, _, _, _ => rfl
  | v :: V, w, blk, off, i, C, e, fr, h, hle, hf, hfr => by
    simp only [List.length_cons] at hle
    have ha : (⟨blk, off, none⟩ : Addr).add i = ⟨blk, off + i, none⟩ := by
      unfold Addr.add
      split
      · rename_i e; subst e; rfl
      · rfl
    have hfl : v.oneCell' = true := by
      have := hf v (by simp)
      cases v <;> simp_all [flatV, Value.oneCell']
    have hc : w.cell? ⟨blk, off + i, none⟩ = some (C[off + i]'(by omega)) := by
      simp only [World.cell?, h]
      simp
    have hz : w.frozen? ⟨blk, off + i, none⟩ = false := by
      simp only [World.frozen?, h]
      have := hfr 0 (by simp)
      simpa [inFr] using this
    have ih := run_storeCells (P := P) V (w.setCell ⟨blk, off + i, none⟩ v) blk off (i + 1) _ e fr (heap_setCell_at (off := off + i) (v := v) h) (by simp; omega)
      (fun x hx => hf x (by simp [hx])) (fun j hj => by have := hfr (j + 1) (by simpa using hj); rwa [show off + i + (j + 1) = off + (i + 1) + j from by omega] at this)
    rw [storeCells]
    simp only [Sem.run_bind, ha, run_store P w _ v _ hfl, hc, hz, Bool.false_eq_true, if_false, Result.andThen_ok, ih, wr]
    rw [show off + (i + 1) = off + i + 1 from by omega]

theorem write_some {s s' : S} {b o : Nat} {v : List AV} (h : s.write b o v = some s') : ∃ c opn, s.get b = some (.cells c opn false) ∧ o + v.length ≤ c.length ∧ v.all isFlat = true ∧ s' = s.set b (some (.cells (over c o v) opn false)) := by
  unfold S.write at h
  split at h
  · rename_i c opn hg
    split at h
    · rename_i hh
      simp only [Option.some.injEq] at h
      exact ⟨c, opn, hg, hh.1, hh.2, h.symm⟩
    · cases h
  · cases h

theorem over_length {c v : List AV} {o : Nat} (h : o + v.length ≤ c.length) : (over c o v).length = c.length := by
  simp [over]; omega

theorem over_get {c v : List AV} {o i : Nat} (h : o + v.length ≤ c.length) : (over c o v)[i]? = if o ≤ i ∧ i < o + v.length then v[i - o]? else c[i]? := by
  unfold over
  by_cases h1 : i < o
  · rw [List.append_assoc, List.getElem?_append_left (by simp; omega), if_neg (by omega), List.getElem?_take, if_pos h1]
  · by_cases h2 : i < o + v.length
    · rw [List.append_assoc, List.getElem?_append_right (by simp; omega), List.getElem?_append_left (by simp; omega), if_pos (by omega)]
      simp [show min o c.length = o from by omega]
    · rw [List.getElem?_append_right (by simp; omega), if_neg (by omega), List.getElem?_drop]
      congr 1
      simp only [List.length_append, List.length_take]
      omega

/-- What a write does: the model's stores run, and the two go on together. -/
theorem Ok.write {P : Program} {ν : Nu} {s s' : S} {w : World} (h : Sim ν s w) {b o : Nat} {v : List AV} {V : List Value} {L : Loc} (hw : s.write b o v = some s') (hL : ν b = some L) (hV : concs ν v = some V) :
    ∃ w', (storeCells ⟨L.blk, L.sh + o, none⟩ V).run P w = .ok () w' ∧ Ok ν s w ν s' w' := by
  obtain ⟨c, opn, hg, hle, hfl, rfl⟩ := write_some hw
  obtain ⟨C, elem, fr, hx, hc, hfz, hop⟩ := h.obj b _ L hg hL
  have hlen := concs_length hV
  have hCs : L.sh + c.length ≤ C.size ∨ c.length = 0 := by
    rcases Nat.eq_zero_or_pos c.length with h0 | h0
    · exact .inr h0
    · refine .inl ?_
      obtain ⟨v', h1, _⟩ := hc (c.length - 1) (c[c.length - 1]) (by simp)
      have := (Array.getElem?_eq_some_iff.1 h1).1
      omega
  by_cases h0 : V.length = 0
  · have hV0 : V = [] := List.length_eq_zero_iff.1 h0
    subst hV0
    have hv0 : v = [] := List.length_eq_zero_iff.1 (by simpa using hlen.symm)
    subst hv0
    have he : over c o [] = c := by simp [over]
    refine ⟨w, rfl, ?_⟩
    rw [he]
    refine Ok.setObj h hg hL rfl rfl ?_ (fun _ _ => rfl) rfl rfl rfl rfl
    exact ⟨C, elem, fr, hx, hc, hfz, hop⟩
  have hle2 : L.sh + o + V.length ≤ C.size := by omega
  refine ⟨wr w L.blk (L.sh + o) V, ?_, ?_⟩
  · have := run_storeCells (P := P) V w L.blk (L.sh + o) 0 C elem fr hx (by omega) (flats_conc hV hfl) (fun j hj => by
      exact inFr_false (hfz rfl).2 (by omega))
    simpa using this
  · obtain ⟨C', h1, h2, h3⟩ := heap_wr (w := w) (V := V) (off := L.sh + o) hx hle2
    refine Ok.setObj h hg hL rfl rfl ?_ (fun k hk => heap_wr_ne hk) wr_size wr_tape wr_os wr_output
    refine ⟨C', elem, fr, h1, ?_, ?_, ?_⟩
    · intro i x hi
      rw [over_get hle] at hi
      rw [h3]
      split at hi
      · rename_i hh
        obtain ⟨x', e1, e2⟩ := concs_get _ hV hi
        refine ⟨x', ?_, e2⟩
        rw [if_pos (by omega), show L.sh + i - (L.sh + o) = i - o from by omega]
        exact e1
      · rename_i hh
        obtain ⟨x', e1, e2⟩ := hc i x hi
        refine ⟨x', ?_, e2⟩
        rw [if_neg (by omega)]
        exact e1
    · intro _
      rw [h2]
      exact hfz rfl
    · intro hne
      obtain ⟨a1, a3, a4⟩ := hop hne
      exact ⟨a1, by rw [over_length hle]; exact a3, by omega⟩

/-! ### loads -/
theorem run_loadCellsFrom {P : Program} : ∀ (n : Nat) (w : World) (blk off i : Nat) (m : List Value) (acc : Array Value), m.length = n → (∀ j v, m[j]? = some v → w.cell? ⟨blk, off + i + j, none⟩ = some v) →
    (loadCellsFrom ⟨blk, off, none⟩ i n acc).run P w = .ok (acc ++ m.toArray) w
  | 0, w, blk, off, i, m, acc, hm, _ => by
    have : m = [] := List.length_eq_zero_iff.1 hm
    subst this
    simp [loadCellsFrom]
  | n + 1, w, blk, off, i, m, acc, hm, hc => by
    cases m with
    | nil => simp at hm
    | cons v m =>
      have ha : (⟨blk, off, none⟩ : Addr).add i = ⟨blk, off + i, none⟩ := by
        unfold Addr.add
        split
        · rename_i e; subst e; rfl
        · rfl
      have h0 := hc 0 v rfl
      rw [Nat.add_zero] at h0
      have ih := run_loadCellsFrom (P := P) n w blk off (i + 1) m (acc.push v) (by simpa using hm) (fun j x hj => by
        have := hc (j + 1) x (by simpa using hj)
        rwa [show off + i + (j + 1) = off + (i + 1) + j from by omega] at this)
      simp only [loadCellsFrom, Sem.run_bind, run_load, ha, h0, Result.andThen_ok, ih]
      simp

theorem Sim.loadCells {P : Program} {ν : Nu} {s : S} {w : World} (h : Sim ν s w) {b o n : Nat} {l : List AV} {L : Loc} (hr : s.read b o n = some l) (hL : ν b = some L) :
    ∃ m, concs ν l = some m ∧ (loadCells ⟨L.blk, L.sh + o, none⟩ n).run P w = .ok m.toArray w := by
  obtain ⟨m, hm, hc⟩ := h.read hr hL
  obtain ⟨_, _, _, _, _, _, hlen⟩ := read_some hr
  refine ⟨m, hm, ?_⟩
  have := run_loadCellsFrom (P := P) n w L.blk (L.sh + o) 0 m #[] (by rw [concs_length hm, hlen]) (fun j v hj => by simpa using hc j v hj)
  simpa [Go.loadCells] using this

end Go.Ab
