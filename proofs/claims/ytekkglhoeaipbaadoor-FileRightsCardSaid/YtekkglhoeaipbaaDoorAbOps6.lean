/- The abstract machine and the model's: single operations that call nothing, on. -/
import Derived.Test.YtekkglhoeaipbaaDoorAbOps5
namespace Go.Ab
section
variable {P : Program} {o : Oper} {a : Act} {E : Env} {r : Regs} {s s' : S} {w : World} {ν : Nu} {v : AV}

theorem app3_get {α : Type} (L V : List α) (o i : Nat) (h : o + V.length ≤ L.length) : (L.take o ++ V ++ L.drop (o + V.length))[i]? = if o ≤ i ∧ i < o + V.length then V[i - o]? else L[i]? := by
  by_cases h1 : i < o
  · rw [List.append_assoc, List.getElem?_append_left (by simp; omega), if_neg (by omega), List.getElem?_take, if_pos h1]
  · by_cases h2 : i < o + V.length
    · rw [List.append_assoc, List.getElem?_append_right (by simp; omega), List.getElem?_append_left (by simp; omega), if_pos (by omega)]
      simp [show min o L.length = o from by omega]
    · rw [List.getElem?_append_right (by simp; omega), if_neg (by omega), List.getElem?_drop]
      congr 1
      simp only [List.length_append, List.length_take]
      omega

theorem foldl_set (V : List Value) : ∀ (C : Array Value) (off k : Nat), off + k + V.length ≤ C.size →
    ((V.zipIdx k).foldl (fun (cs : Array Value) (p : Value × Nat) => cs.setIfInBounds (off + p.2) p.1) C).toList = C.toList.take (off + k) ++ V ++ C.toList.drop (off + k + V.length) := by
  induction V with
  | nil => intro C off k _; simp
  | cons v V ih =>
    intro C off k h
    simp only [List.length_cons] at h
    rw [List.zipIdx_cons, List.foldl_cons, ih _ off (k + 1) (by simp; omega)]
    apply List.ext_getElem?
    intro i
    rw [app3_get _ _ _ _ (by simp; omega), app3_get _ _ _ _ (by simp; omega)]
    simp only [Array.toList_setIfInBounds, List.length_cons]
    by_cases h2 : i = off + k
    · subst h2
      rw [if_neg (by omega), if_pos (by omega), List.getElem?_set_self (by simp; omega)]
      simp
    · by_cases h3 : off + (k + 1) ≤ i ∧ i < off + (k + 1) + V.length
      · rw [if_pos h3, if_pos (by omega), show i - (off + k) = i - (off + (k + 1)) + 1 from by omega]
        simp
      · rw [if_neg h3, if_neg (by omega), List.getElem?_set_ne (by omega)]

theorem fill_ok (hr : RR ν r a) (place : Nat → Option (Nat × Nat)) : ∀ (parts : List (Nat × Operand)) (ps : List (Nat × Nat × Opd)) (cs cs' : List AV) (C : Array Value), partsAt place parts = some ps → fillA r ps cs = some cs' → concs ν cs = some C.toList →
    ∃ C', Instr.fill place C (parts.map fun p => (p.1, a.eval p.2)) = some C' ∧ concs ν cs' = some C'.toList
  | [], ps, cs, cs', C, hp, hf, hc => by
    simp only [partsAt, Option.some.injEq] at hp; subst hp
    simp only [fillA, Option.some.injEq] at hf; subst hf
    exact ⟨C, rfl, hc⟩
  | (i, x) :: parts, ps, cs, cs', C, hp, hf, hc => by
    simp only [partsAt, Option.bind_eq_some_iff, Option.map_eq_some_iff] at hp
    obtain ⟨q, hq, y, hy, ps', hps, rfl⟩ := hp
    simp only [fillA] at hf
    split at hf
    · rename_i hh
      have hv := conc_cells (hr.opd hy)
      have hl := concs_length hv
      have hcl := concs_length hc
      simp at hl hcl
      have hfold := foldl_set (a.eval x).cells.toList C q.1 0 (by simp; omega)
      have hz : (a.eval x).cells.zipIdx.foldl (fun (cs : Array Value) (p : Value × Nat) => cs.setIfInBounds (q.1 + p.2) p.1) C = ((a.eval x).cells.toList.zipIdx 0).foldl (fun (cs : Array Value) (p : Value × Nat) => cs.setIfInBounds (q.1 + p.2) p.1) C := by
        rw [← Array.foldl_toList, Array.toList_zipIdx]
      obtain ⟨C', h1, h2⟩ := fill_ok hr place parts ps' _ cs' (((a.eval x).cells.toList.zipIdx 0).foldl (fun (cs : Array Value) (p : Value × Nat) => cs.setIfInBounds (q.1 + p.2) p.1) C) hps hf (by
        rw [hfold]
        have := concs_over q.1 hc hv
        simpa [← hl] using this)
      refine ⟨C', ?_, h2⟩
      simp only [List.map_cons, Instr.fill, hq]
      rw [if_neg (by simp; omega)]
      rw [← h1]
      congr 1
    · cases hf

theorem placesS_run : ∀ (fs : List Field) (pl : List (Nat × Nat)) (w : World), placesS P fs = some pl → (fs.mapM (m := Sem) fun f => do pure (f.offset, ← sizeOf f.type)).run P w = .ok pl w
  | [], pl, w, h => by simp only [placesS, Option.some.injEq] at h; subst h; rfl
  | f :: fs, pl, w, h => by
    simp only [placesS, Option.bind_eq_some_iff, Option.map_eq_some_iff] at h
    obtain ⟨n, hn, pl', hpl, rfl⟩ := h
    have := placesS_run fs pl' w hpl
    rw [List.mapM_cons]
    simp only [Sem.run_bind, run_sizeOf hn, Result.andThen_ok, Sem.run_pure]
    rw [this]
    rfl

theorem op_build {t : TypeId} {fs : Array Field} {z : AV} {pl : List (Nat × Nat)} {parts : Array (Nat × Operand)} {ps : List (Nat × Nat × Opd)} (ho : o.op = .build t parts) (hd : P.underlying t = some (.struct fs)) (hz : tzero P t = some z)
    (hpl : placesS P fs.toList = some pl) (hps : partsAt (pl[·]?) parts.toList = some ps) (hr : RR ν r a) (hs : Sim ν s w) (h : evI E (.build z.cells ps) r s = some (v, s')) : OpOk P o a ν s w v s' := by
  simp only [evI, Option.map_eq_some_iff, Prod.mk.injEq] at h
  obtain ⟨c, hc, rfl, rfl⟩ := h
  obtain ⟨i, zv, hi, hzv, hcz⟩ := tzero_conc hz
  obtain ⟨C', h1, h2⟩ := fill_ok hr (pl[·]?) parts.toList ps _ _ zv.cells hps hc (conc_cells (hcz ν))
  refine pure_ok (v' := .agg C') hs (by simp [conc, h2]) ?_
  have hm : (fs.mapM (m := Sem) fun f => do pure (f.offset, ← sizeOf f.type)).run P w = .ok pl.toArray w := by
    rw [← Array.toArray_toList (xs := fs), List.mapM_toArray, Sem.run_map, placesS_run _ _ _ hpl]
    rfl
  have hp : (parts.map fun (p : Nat × Operand) => (p.1, a.eval p.2)).toList = parts.toList.map fun p => (p.1, a.eval p.2) := by simp
  have h1' : Instr.fill (fun x => pl.toArray[x]?) zv.cells (parts.map fun (p : Nat × Operand) => (p.1, a.eval p.2)).toList = some C' := by
    rw [hp]
    simpa using h1
  simp only [execOp, ho, Sem.run_bind, Instr.build, run_zeroValue hi hzv, run_underlying hd, Result.andThen_ok, hm]
  rw [h1']
  rfl

theorem op_buildSl {t e : TypeId} {n len : Nat} {z : AV} {parts : Array (Nat × Operand)} {ps : List (Nat × Nat × Opd)} (ho : o.op = .buildSlice t len parts) (hd : P.underlying t = some (.slice e)) (hn : tsize P e = some n) (hz : tzero P e = some z)
    (hbig : len * n ≤ 65536) (hzl : z.cells.length = n) (hn0 : 0 < n) (hps : partsAt (fun i => some (i * n, n)) parts.toList = some ps) (hr : RR ν r a) (hs : Sim ν s w) (h : evI E (.buildSl n len (List.replicate len z.cells).flatten ps) r s = some (v, s')) : OpOk P o a ν s w v s' := by
  simp only [evI, Option.bind_eq_bind, Option.bind_eq_some_iff] at h
  obtain ⟨c, hc, h⟩ := h
  split at h
  · simp only [Option.some.injEq, Prod.mk.injEq] at h
    obtain ⟨rfl, rfl⟩ := h
    obtain ⟨i, zv, hi, hzv, hcz⟩ := tzero_conc hz
    have hcell := conc_cells (hcz ν)
    have hzlen := concs_length hcell
    have hsz : zv.cells.toList.length = n := by omega
    obtain ⟨C', h1, h2⟩ := fill_ok hr (fun i => some (i * n, n)) parts.toList ps _ _ ((List.replicate len zv.cells.toList).flatten).toArray hps hc (by simpa using concs_replicate hcell len)
    obtain ⟨h3, h4⟩ := alloc_cells (C := C') (elem := e) hs h2
    refine ⟨_, _, .slice (some ⟨w.heap.size, 0, none⟩) len len, h3, by simp [conc, nuSet], .inl ?_⟩
    have hrep := range_map_rep zv.cells.toList len
    simp only [Array.toArray_toList, hsz] at hrep
    have hp : (parts.map fun (p : Nat × Operand) => (p.1, a.eval p.2)).toList = parts.toList.map fun p => (p.1, a.eval p.2) := by simp
    rw [← hp] at h1
    simp only [execOp, ho, Sem.run_bind, Instr.buildSlice, run_underlying hd, run_sizeOf hn, Result.andThen_ok]
    rw [if_neg (by omega)]
    by_cases h0 : len * n = 0
    · have hl0 : len = 0 := by
        rcases Nat.mul_eq_zero.1 h0 with h | h
        · exact h
        · omega
      subst hl0
      simp only [Nat.zero_mul, if_true, Sem.run_pure, Result.andThen_ok, Sem.run_bind]
      have e0 : (Array.map (fun x => (#[] : Array Value)[x % 0]!) (Array.range 0)) = ((List.replicate 0 zv.cells.toList).flatten).toArray := by
        rw [show Array.range 0 = #[] from rfl]
        simp
      rw [show (#[] : Array Value).size = 0 from rfl, e0, h1]
      rfl
    · rw [if_neg h0]
      simp only [Sem.run_bind, run_zeroValue hi hzv, Result.andThen_ok, Sem.run_pure, hrep]
      rw [h1]
      rfl
  · cases h
end
end Go.Ab
