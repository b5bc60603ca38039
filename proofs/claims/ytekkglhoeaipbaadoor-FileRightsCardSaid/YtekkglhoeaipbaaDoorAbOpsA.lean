/- The abstract machine and the model's: append. -/
import Derived.Test.YtekkglhoeaipbaaDoorAbOps9
namespace Go.Ab
section
variable {P : Program} {o : Oper} {a : Act} {E : Env} {r : Regs} {s s' : S} {w : World} {ν : Nu} {v : AV}

/-- A new growable row. -/
theorem grow_obj (hs : Sim ν s w) {c : List AV} {m : List Value} {C rest : Array Value} {elem : TypeId} {sz cap : Nat} (hc : concs ν c = some m) (hC : C = m.toArray ++ rest) (hsz : 0 < sz) (hlen : c.length ≤ cap * sz) (hall : cap * sz ≤ C.size) :
    ORel ν ⟨w.heap.size, 0, cap⟩ (.cells c sz false) (some (.cells C elem)) := by
  refine ⟨C, elem, (0, 0), rfl, ?_, fun _ => ⟨rfl, .inl rfl⟩, fun _ => ⟨rfl, hlen, hall⟩⟩
  intro i v hi
  obtain ⟨v', h1, h2⟩ := concs_get i hc hi
  refine ⟨v', ?_, h2⟩
  have hlt : i < m.length := (List.getElem?_eq_some_iff.1 h1).1
  subst hC
  rw [Nat.zero_add, Array.getElem?_append_left (by simpa using hlt)]
  simpa using h1

theorem op_app {c : Call} {t u e e2 : TypeId} {n b : Nat} {z : AV} {x k : Operand} {y d : Opd} (ho : o.op = .call c) (hc : c.callee = .builtin .append) (ht : c.argTypes.toList = [t, u]) (hargs : c.args.toList = [x, k]) (hd : P.underlying t = some (.slice e)) (hu : P.underlying u = some (.slice e2))
    (hn : tsize P e = some n) (hb : tbytes P e = some b) (hz : tzero P e = some z) (hzl : z.cells.length = n)
    (hx : prepOpd x = some y) (hk : prepOpd k = some d) (hr : RR ν r a) (hs : Sim ν s w) (h : evI E (.app n b y d) r s = some (v, s')) : OpOk P o a ν s w v s' := by
  have h1 := hr.opd hx
  have h2 := hr.opd hk
  obtain ⟨hT, hA⟩ := args_two (a := a) ht hargs
  obtain ⟨i, zv, hi, hzv, hcz⟩ := tzero_conc hz
  have hbi : i.bytes = b := by
    simp only [tbytes, hi, Option.map_some, Option.some.injEq] at hb; exact hb
  have hzsz : zv.cells.size = n := by
    have := concs_length (conc_cells (hcz ν))
    simp at this
    omega
  have run : ∀ v' w', (Builtin.append_ #[t, u] o.type #[a.eval x, a.eval k]).run P w = .ok v' w' → (execOp a.eval o).run P w = .ok (.value v') w' := by
    intro v' w' hO
    exact builtin_run ho hc (f := Builtin.append_) (fun _ _ => rfl) (by rw [hT, hA]; exact hO)
  simp only [evI, S.app, Option.bind_eq_bind, Option.bind_eq_some_iff] at h
  obtain ⟨m, hm, new, hnew, h⟩ := h
  have hlen := lenV_conc (P := P) hm h2 w
  have hnl : new.length = m * n := by
    cases hd' : d.ev r with
    | snil => rw [hd'] at hnew hm; simp [S.cellsOf] at hnew; simp [lenV] at hm; subst hnew hm; simp
    | zsl za => rw [hd'] at hnew hm; simp [S.cellsOf] at hnew; simp [lenV] at hm; subst hnew hm; simp
    | esl _ _ _ _ => rw [hd'] at hnew hm; simp [S.cellsOf] at hnew; simp [lenV] at hm; subst hnew hm; simp
    | slice bb oo nn cc pp =>
      rw [hd'] at hnew hm
      simp only [S.cellsOf] at hnew
      simp only [lenV, Option.some.injEq] at hm; subst hm
      obtain ⟨_, _, _, _, _, _, hl⟩ := read_some hnew
      exact hl
    | str l =>
      rw [hd'] at hnew hm
      simp only [S.cellsOf] at hnew
      split at hnew
      · rename_i h1; subst h1
        simp only [lenV, Option.some.injEq] at hm; subst hm
        simp only [Option.some.injEq] at hnew; subst hnew
        simp
      · cases hnew
    | _ => rw [hd'] at hm; simp [lenV] at hm
  have src1 : ∀ w1, Sim ν s w1 → ∃ M, concs ν new = some M ∧ (Builtin.firstCells n m (a.eval k)).run P w1 = .ok M.toArray w1 := by
    intro w1 hs1
    obtain ⟨M, hM, hrun⟩ := run_firstCells (P := P) hs1 hm hnew h2 m (Nat.le_refl _)
    rw [List.take_of_length_le (by omega)] at hM
    exact ⟨M, hM, hrun⟩
  obtain ⟨M, hM, src0⟩ := src1 w hs
  have hMl := concs_length hM
  have src : ∀ w1, w1 = { w with drawn := w.drawn + 1 } → (Builtin.firstCells n m (a.eval k)).run P w1 = .ok M.toArray w1 := by
    rintro w1 rfl
    obtain ⟨M', hM', hrun⟩ := src1 _ hs.drew
    rw [hM] at hM'
    simp only [Option.some.injEq] at hM'
    subst hM'
    exact hrun
  have nilcase : m = 0 → (Builtin.firstCells n 0 (a.eval k)).run P w = .ok #[] w := by
    intro h0
    subst h0
    obtain ⟨M, hM, hrun⟩ := run_firstCells (P := P) hs hm hnew h2 0 (Nat.le_refl _)
    simp [concs] at hM
    subst hM
    exact hrun
  have rowSize : ∀ (old : List Value) (M : List Value) (cap tot : Nat), old.length + M.length = tot * n → tot ≤ cap → cap * n ≤ (old.toArray ++ M.toArray ++ Builtin.zeroCells zv.cells (cap - tot)).size := by
    intro old M cap tot h1 h2
    have hz2 : (Builtin.zeroCells zv.cells (cap - tot)).size = (cap - tot) * n := by
      simp [Builtin.zeroCells, hzsz]
    simp only [Array.size_append, List.size_toArray, hz2, h1]
    rw [← Nat.add_mul, Nat.add_sub_cancel' h2]
    exact Nat.le_refl _
  split at h
  · -- onto nil
    rename_i hy
    rw [hy] at h1
    simp only [conc, Option.some.injEq] at h1
    split at h
    · rename_i h0
      simp only [Option.some.injEq, Prod.mk.injEq] at h
      obtain ⟨rfl, rfl⟩ := h
      refine pure_ok (v' := .slice none 0 0) hs rfl (run _ _ ?_)
      rw [← h1]
      subst h0
      exact run_append_nil hd hu hn hlen (Nat.le_refl _) (nilcase rfl) none
    · rename_i h0
      split at h
      · rename_i hcond
        obtain ⟨c1, c2, c3, c4⟩ := hcond
        simp only [Option.some.injEq, Prod.mk.injEq] at h
        obtain ⟨rfl, rfl⟩ := h
        have hroom : 2 * (0 + m) * b ≤ 281474976710656 := by simpa [roomA] using c3
        obtain ⟨cap, hcap, hrun⟩ := run_append_grow (P := P) (o := o) (base := none) (sLen := 0) (sCap := 0) (old := []) hd hu hn hi hzv hbi c2 hlen (by omega) hroom (fun w1 _ => rfl) src
        have hs1 : Sim ν s { w with drawn := w.drawn + 1 } := hs.drew
        have hsize := rowSize [] M cap (0 + m) (by simp; omega) hcap
        have hmul : m * n ≤ cap * n := Nat.mul_le_mul_right _ (by omega)
        have hobj := grow_obj (elem := e) (cap := cap) (sz := n) (rest := Builtin.zeroCells zv.cells (cap - (0 + m))) hs1 hM rfl c1 (by omega) (by simpa using hsize)
        refine ⟨_, _, .slice (some ⟨w.heap.size, 0, none⟩) m cap, Ok.trans hs (Ok.drew hs) (Ok.alloc hs1 ⟨w.heap.size, 0, cap⟩ rfl hobj rfl), ?_, .inl (run _ _ ?_)⟩
        · have : m ≤ cap := by omega
          simp [conc, nuSet, this]
        · rw [← h1, hrun]
          simp
      · cases h
  · -- onto a slice without room, somewhere
    rename_i za hy
    rw [hy] at h1
    simp only [conc, Option.some.injEq] at h1
    split at h
    · rename_i h0
      simp only [Option.some.injEq, Prod.mk.injEq] at h
      obtain ⟨rfl, rfl⟩ := h
      refine pure_ok (v' := .slice (some za) 0 0) hs rfl (run _ _ ?_)
      rw [← h1]
      subst h0
      exact run_append_nil hd hu hn hlen (Nat.le_refl _) (nilcase rfl) (some za)
    · rename_i h0
      split at h
      · rename_i hcond
        obtain ⟨c1, c2, c3, c4⟩ := hcond
        simp only [Option.some.injEq, Prod.mk.injEq] at h
        obtain ⟨rfl, rfl⟩ := h
        have hroom : 2 * (0 + m) * b ≤ 281474976710656 := by simpa [roomA] using c3
        obtain ⟨cap, hcap, hrun⟩ := run_append_grow (P := P) (o := o) (base := some za) (sLen := 0) (sCap := 0) (old := []) hd hu hn hi hzv hbi c2 hlen (by omega) hroom (fun w1 _ => by simp [Builtin.firstCells, Go.loadCells, loadCellsFrom]) src
        have hs1 : Sim ν s { w with drawn := w.drawn + 1 } := hs.drew
        have hsize := rowSize [] M cap (0 + m) (by simp; omega) hcap
        have hmul : m * n ≤ cap * n := Nat.mul_le_mul_right _ (by omega)
        have hobj := grow_obj (elem := e) (cap := cap) (sz := n) (rest := Builtin.zeroCells zv.cells (cap - (0 + m))) hs1 hM rfl c1 (by omega) (by simpa using hsize)
        refine ⟨_, _, .slice (some ⟨w.heap.size, 0, none⟩) m cap, Ok.trans hs (Ok.drew hs) (Ok.alloc hs1 ⟨w.heap.size, 0, cap⟩ rfl hobj rfl), ?_, .inl (run _ _ ?_)⟩
        · have : m ≤ cap := by omega
          simp [conc, nuSet, this]
        · rw [← h1, hrun]
          simp
      · cases h
  · -- onto a slice whose capacity is known
    rename_i bb off len cap0 hy
    rw [hy] at h1
    have hv1 := h1
    obtain ⟨L, cap', hL, h1, hc0, _⟩ := conc_slice h1
    have hc0 := hc0 rfl
    split at h
    · rename_i hcond
      simp only [Option.some.injEq, Prod.mk.injEq] at h
      obtain ⟨rfl, rfl⟩ := h
      rw [hy]
      refine pure_ok (v' := a.eval x) hs hv1 (run _ _ ?_)
      rw [h1]
      obtain ⟨h0, hle⟩ := hcond
      subst h0
      exact run_append_nil hd hu hn hlen (by omega) (nilcase rfl) _
    · split at h
      · rename_i hcond hle
        simp only [Option.bind_eq_some_iff, Option.some.injEq, Prod.mk.injEq] at h
        obtain ⟨s1, hw, rfl, rfl⟩ := h
        obtain ⟨w', hst, hok⟩ := Ok.write (P := P) hs hw hL hM
        refine ⟨ν, w', .slice (some ⟨L.blk, L.sh + off, none⟩) (len + m) cap', hok, by rw [hc0]; simp [conc, hL], .inl (run _ _ ?_)⟩
        rw [h1]
        refine run_append_room hd hu hn hlen (by omega) src0 ?_
        rw [addr_add, Nat.add_assoc]
        exact hst
      · rename_i hcond hgt
        simp only [Option.bind_eq_some_iff] at h
        obtain ⟨old, hold, h⟩ := h
        split at h
        · rename_i hc4
          obtain ⟨c1, c2, c3, c4⟩ := hc4
          simp only [Option.some.injEq, Prod.mk.injEq] at h
          obtain ⟨rfl, rfl⟩ := h
          have hs1 : Sim ν s { w with drawn := w.drawn + 1 } := hs.drew
          obtain ⟨O, hO, hOrun⟩ := hs1.loadCells (P := P) hold hL
          have hroom : 2 * (len + m) * b ≤ 281474976710656 := by simpa [roomA] using c3
          obtain ⟨cap, hcap, hrun⟩ := run_append_grow (P := P) (o := o) (base := some ⟨L.blk, L.sh + off, none⟩) (sLen := len) (sCap := cap') (old := O) hd hu hn hi hzv hbi c2 hlen (by omega) hroom (by rintro w1 rfl; exact hOrun) src
          have hOl := concs_length hO
          obtain ⟨_, _, _, _, _, _, holdl⟩ := read_some hold
          have hsize := rowSize O M cap (len + m) (by rw [Nat.add_mul]; omega) hcap
          have hmul : (len + m) * n ≤ cap * n := Nat.mul_le_mul_right _ hcap
          have hobj := grow_obj (elem := e) (cap := cap) (sz := n) (C := O.toArray ++ M.toArray ++ Builtin.zeroCells zv.cells (cap - (len + m))) (rest := Builtin.zeroCells zv.cells (cap - (len + m))) hs1 (concs_append hO hM) (by simp) c1 (by rw [List.length_append]; rw [Nat.add_mul] at hmul; omega) hsize
          refine ⟨_, _, .slice (some ⟨w.heap.size, 0, none⟩) (len + m) cap, Ok.trans hs (Ok.drew hs) (Ok.alloc hs1 ⟨w.heap.size, 0, cap⟩ rfl hobj rfl), ?_, .inl (run _ _ ?_)⟩
          · simp [conc, nuSet, hcap]
          · rw [h1, hrun]
        · cases h
  · -- onto a slice that grows
    rename_i bb off len st hy
    rw [hy] at h1
    have hv1 := h1
    obtain ⟨L, cap', hL, h5, _, hc1⟩ := conc_slice h1
    obtain ⟨hle0, hcap0⟩ := hc1 rfl
    split at h
    · rename_i cs osz hg
      split at h
      · cases h
      · rename_i hosz
        simp only [not_or, Decidable.not_not] at hosz
        obtain ⟨hosz, hn0⟩ := hosz
        subst hosz
        split at h
        · rename_i h0
          simp only [Option.some.injEq, Prod.mk.injEq] at h
          obtain ⟨rfl, rfl⟩ := h
          rw [hy]
          refine pure_ok (v' := a.eval x) hs hv1 (run _ _ ?_)
          rw [h5]
          subst h0
          exact run_append_nil hd hu hn hlen (by omega) (nilcase rfl) _
        · rename_i h0
          obtain ⟨C, elem, fr, hheap, hcc, hfz, hop⟩ := hs.obj bb _ L hg hL
          obtain ⟨_, ho1, ho2⟩ := hop (by omega)
          obtain ⟨hsh, hfr⟩ := hfz rfl
          split at h
          · rename_i hcond
            obtain ⟨hst0, hle⟩ := hcond
            simp only [Option.bind_eq_some_iff, Option.some.injEq, Prod.mk.injEq] at h
            obtain ⟨s1, hw, rfl, rfl⟩ := h
            obtain ⟨w', hst, hok⟩ := Ok.write (P := P) hs hw hL hM
            have hroom : st + (len + m) ≤ L.hid := by
              have : (st + (len + m)) * osz ≤ L.hid * osz := by rw [Nat.add_mul]; omega
              exact Nat.le_of_mul_le_mul_right this (by omega)
            refine ⟨ν, w', .slice (some ⟨L.blk, L.sh + off, none⟩) (len + m) cap', hok, slice_conc hL (fun h => by cases h) (fun _ => ⟨hroom, hcap0⟩), .inl (run _ _ ?_)⟩
            rw [h5]
            refine run_append_room hd hu hn hlen (by omega) src0 ?_
            rw [addr_add, Nat.add_assoc]
            exact hst
          · split at h
            · rename_i _ hcond
              obtain ⟨c0, c1, c2, c3, c4, c5⟩ := hcond
              subst c0 c1
              simp only [Option.some.injEq, Prod.mk.injEq] at h
              obtain ⟨rfl, rfl⟩ := h
              have hroom : 2 * (len + m) * b ≤ 281474976710656 := by simpa [roomA] using c4
              have hold : s.read bb 0 (len * osz) = some cs := by
                unfold S.read
                rw [hg]
                simp only
                rw [if_pos (by omega), ← c2]
                simp
              by_cases hfit : len + m ≤ cap'
              · -- in its own row, behind the cells that are known
                have hl2 : cs.length + M.length ≤ C.size := by
                  have : (len + m) * osz ≤ L.hid * osz := Nat.mul_le_mul_right _ (by omega)
                  rw [Nat.add_mul] at this
                  omega
                have hfl := flats_conc hM (by
                  rw [List.all_append, Bool.and_eq_true] at c5
                  exact c5.2)
                have hst := run_storeCells (P := P) M w L.blk (L.sh + 0) (len * osz) C elem fr hheap (by omega) hfl (fun j hj => inFr_false hfr (by omega))
                obtain ⟨C', e1, e2, e3⟩ := heap_wr (w := w) (V := M) (off := L.sh + 0 + len * osz) hheap (by omega)
                have hok := Ok.move (o' := .cells (cs ++ new) osz false) (w' := wr w L.blk (L.sh + 0 + len * osz) M) hs hg hL rfl rfl (by
                  refine ⟨C', elem, fr, e1, ?_, fun _ => ⟨hsh, by rw [e2]; exact hfr⟩, fun _ => ⟨rfl, ?_, by omega⟩⟩
                  · intro j v hj
                    by_cases hj2 : j < cs.length
                    · rw [List.getElem?_append_left hj2] at hj
                      obtain ⟨v', f1, f2⟩ := hcc j v hj
                      exact ⟨v', by rw [e3, if_neg (by omega)]; exact f1, f2⟩
                    · rw [List.getElem?_append_right (by omega)] at hj
                      obtain ⟨v', f1, f2⟩ := concs_get _ hM hj
                      have : j - cs.length < M.length := (List.getElem?_eq_some_iff.1 f1).1
                      refine ⟨v', ?_, f2⟩
                      rw [e3, if_pos (by omega), show L.sh + j - (L.sh + 0 + len * osz) = j - cs.length from by omega]
                      exact f1
                  · have : (len + m) * osz ≤ L.hid * osz := Nat.mul_le_mul_right _ (by omega)
                    rw [Nat.add_mul] at this
                    rw [List.length_append]
                    omega) (fun k hk => heap_wr_ne hk) wr_size wr_tape wr_os wr_output
                refine ⟨_, _, .slice (some ⟨L.blk, L.sh + 0, none⟩) (len + m) cap', hok, ?_, .inl (run _ _ ?_)⟩
                · refine slice_conc (by simp [nuSet]) (fun h => by cases h) (fun _ => ⟨by omega, by omega⟩)
                · rw [h5]
                  refine run_append_room hd hu hn hlen hfit src0 ?_
                  rw [addr_add]
                  have : (storeCells ⟨L.blk, L.sh + 0 + len * osz, none⟩ M 0).run P w = .ok () (wr w L.blk (L.sh + 0 + len * osz) M) := by
                    have := run_storeCells (P := P) M w L.blk (L.sh + 0 + len * osz) 0 C elem fr hheap (by omega) hfl (fun j hj => inFr_false hfr (by omega))
                    simpa using this
                  exact this
              · have hs1 : Sim ν s { w with drawn := w.drawn + 1 } := hs.drew
                obtain ⟨O, hO, hOrun⟩ := hs1.loadCells (P := P) hold hL
                obtain ⟨cap, hcap, hrun⟩ := run_append_grow (P := P) (o := o) (base := some ⟨L.blk, L.sh + 0, none⟩) (sLen := len) (sCap := cap') (old := O) hd hu hn hi hzv hbi c3 hlen (by omega) hroom (by rintro w1 rfl; exact hOrun) src
                have hOl := concs_length hO
                have hsize := rowSize O M cap (len + m) (by rw [Nat.add_mul]; omega) hcap
                have hmul : (len + m) * osz ≤ cap * osz := Nat.mul_le_mul_right _ hcap
                have hdrop := Ok.drop hs1 hg hL
                have hobj := grow_obj (elem := e) (cap := cap) (sz := osz) (C := O.toArray ++ M.toArray ++ Builtin.zeroCells zv.cells (cap - (len + m))) (rest := Builtin.zeroCells zv.cells (cap - (len + m))) hdrop.sim (concs_append hO hM) (by simp) (by omega) (by rw [List.length_append]; rw [Nat.add_mul] at hmul; omega) hsize
                refine ⟨_, _, .slice (some ⟨w.heap.size, 0, none⟩) (len + m) cap, Ok.trans hs (Ok.drew hs) (Ok.trans hs1 hdrop (Ok.alloc hdrop.sim ⟨w.heap.size, 0, cap⟩ rfl hobj rfl)), ?_, .inl (run _ _ ?_)⟩
                · simp [conc, nuSet, S.ctr_set, hcap]
                · rw [h5, hrun]
            · cases h
    · cases h
  · cases h
end
end Go.Ab
