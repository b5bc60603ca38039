/- The abstract machine and the model's: single operations that call nothing, on. -/
import Derived.Test.YtekkglhoeaipbaaDoorAbOps4
namespace Go.Ab
section
variable {P : Program} {o : Oper} {a : Act} {E : Env} {r : Regs} {s s' : S} {w : World} {ν : Nu} {v : AV}

theorem rep_get (z : List Value) : ∀ (k i : Nat), i < k * z.length → ((List.replicate k z).flatten)[i]? = z[i % z.length]?
  | 0, i, h => by simp at h
  | k + 1, i, h => by
    rw [List.replicate_succ, List.flatten_cons]
    rw [Nat.add_mul, Nat.one_mul] at h
    by_cases hi : i < z.length
    · rw [List.getElem?_append_left hi, Nat.mod_eq_of_lt hi]
    · rw [List.getElem?_append_right (by omega), rep_get z k (i - z.length) (by omega), (Nat.mod_eq_sub_mod (by omega)).symm]

theorem range_map_rep (z : List Value) (k : Nat) : ((Array.range (k * z.length)).map (fun i => (z.toArray)[i % z.toArray.size]!)) = ((List.replicate k z).flatten).toArray := by
  apply Array.ext'
  simp only [Array.toList_map, Array.toList_range]
  apply List.ext_getElem?
  intro i
  simp only [List.getElem?_map]
  by_cases hi : i < k * z.length
  · have hz : 0 < z.length := by
      rcases Nat.eq_zero_or_pos z.length with h | h
      · rw [h] at hi; simp at hi
      · exact h
    have hm : i % z.length < z.length := Nat.mod_lt _ hz
    have e1 : (List.range (k * z.length))[i]? = some i := by simp [hi]
    rw [e1, rep_get z k i hi, List.getElem?_eq_getElem hm]
    simp only [Option.map_some, List.size_toArray]
    congr 1
    rw [getElem!_pos _ _ (by simpa using hm)]
    simp
  · have e1 : (List.range (k * z.length))[i]? = none := by simp; omega
    rw [e1]
    symm
    simp
    omega

theorem concs_replicate {z : List AV} {Z : List Value} (h : concs ν z = some Z) : ∀ k, concs ν (List.replicate k z).flatten = some (List.replicate k Z).flatten
  | 0 => rfl
  | k + 1 => by
    rw [List.replicate_succ, List.replicate_succ, List.flatten_cons, List.flatten_cons]
    exact concs_append h (concs_replicate h k)

theorem wrap_small {n : Int} (h0 : 0 ≤ n) (h1 : n ≤ 281474976710656) : IntKind.i64.wrap n = n := by
  unfold IntKind.wrap
  simp [IntKind.signed, IntKind.bits]
  omega

theorem op_mks {t e : TypeId} {n b : Nat} {z : AV} {l c : Operand} {l' c' : Opd} (ho : o.op = .makeSlice t l c) (hd : P.underlying t = some (.slice e)) (hn : tsize P e = some n) (hb : tbytes P e = some b) (hz : tzero P e = some z)
    (hzl : z.cells.length = n) (hn0 : 0 < n) (hl : prepOpd l = some l') (hc : prepOpd c = some c') (hr : RR ν r a) (hs : Sim ν s w) (h : evI E (.mks n b z.cells l' c') r s = some (v, s')) : OpOk P o a ν s w v s' := by
  have h1 := hr.opd hl
  have h2 := hr.opd hc
  simp only [evI] at h
  split at h
  · rename_i lx cx hlx hcx
    rw [hlx] at h1; rw [hcx] at h2
    have h1 := conc_int h1
    have h2 := conc_int h2
    split at h
    · rename_i hh
      obtain ⟨a1, a2, a3, a4, a5, a6⟩ := hh
      simp only [Option.some.injEq, Prod.mk.injEq] at h
      obtain ⟨rfl, rfl⟩ := h
      obtain ⟨i, zv, hi, hzv, hcz⟩ := tzero_conc hz
      have hcell := conc_cells (hcz ν)
      have hzlen := concs_length hcell
      obtain ⟨h3, h4⟩ := alloc_cells (C := ((List.replicate cx.toNat zv.cells.toList).flatten).toArray) (elem := e) hs (by simpa using concs_replicate hcell cx.toNat)
      refine ⟨_, _, .slice (some ⟨w.heap.size, 0, none⟩) lx.toNat cx.toNat, h3, by simp [conc, nuSet], .inl ?_⟩
      simp only [tbytes, Option.map_eq_some_iff] at hb
      obtain ⟨i', hi', rfl⟩ := hb
      rw [hi] at hi'
      simp only [Option.some.injEq] at hi'
      subst hi'
      have w1 := wrap_small a1 (by omega)
      have w2 := wrap_small (n := cx) (by omega) a4
      have hbig : ¬ ((i.bytes : Int) * cx > 2 ^ 48) := by omega
      have hsz : zv.cells.toList.length = n := by omega
      have hrep := range_map_rep zv.cells.toList cx.toNat
      simp only [Array.toArray_toList, hsz] at hrep
      have hcond : (decide (cx < 0) || decide ((i.bytes : Int) * cx > 2 ^ 48) || decide (lx < 0) || decide (lx > cx)) = false := by
        simp only [Bool.or_eq_false_iff, decide_eq_false_iff_not]
        exact ⟨⟨⟨by omega, hbig⟩, by omega⟩, by omega⟩
      have hcond' : ¬ (((cx < 0 ∨ (i.bytes : Int) * cx > 2 ^ 48) ∨ lx < 0) ∨ lx > cx) := by omega
      have key : (Instr.makeSlice t (.int .i64 lx) (.int .i64 cx)).run P w = .ok (.slice (some ⟨w.heap.size, 0, none⟩) lx.toNat cx.toNat) (w.alloc (.cells ((List.replicate cx.toNat zv.cells.toList).flatten).toArray e)) := by
        unfold Instr.makeSlice
        simp only [Sem.run_bind, run_underlying hd, Result.andThen_ok, asInt, asIntOf, Sem.run_pure, run_typeInfo hi, w1, w2, Bool.or_eq_true, decide_eq_true_eq]
        rw [if_neg hcond']
        simp only [Sem.run_bind, run_askRoom, Result.andThen_ok, run_sizeOf hn]
        by_cases hc0 : cx.toNat * n = 0
        · have hz0 : cx.toNat = 0 := by
            rcases Nat.mul_eq_zero.1 hc0 with h | h
            · exact h
            · omega
          simp [hc0, hz0, newRow]
          rw [show Array.range 0 = #[] from rfl]
          simp
        · rw [if_neg hc0]
          simp only [Sem.run_bind, run_zeroValue hi hzv, Result.andThen_ok, Sem.run_pure, newRow, run_newObj, hrep, World.alloc_eq]
      simp only [execOp, ho, h1, h2, Sem.run_bind, key]
      rfl
    · cases h
  · cases h

theorem cut_ge (need old : Nat) (e : TypeId) (x : Nat) : need ≤ (Question.appendCap need old e).cut x := by
  simp [Question.cut]

theorem run_markStringish {W : World} {blk off : Nat} {C : Array Value} {e : TypeId} {fr : Nat × Nat} (h : W.heap[blk]? = some (.cells C e fr)) : (markStringish ⟨blk, off, none⟩).run P W = .ok () (W.freeze ⟨blk, C.size, none⟩ 1) := by
  have : W.shape? blk = some (e, C.size) := by simp [World.shape?, h]
  simp [markStringish, this]

theorem op_cvsb {src dst e : TypeId} {x : Operand} {y : Opd} (ho : o.op = .convert src dst x) (hsrc : P.underlying src = some .string) (hd : P.underlying dst = some (.slice e)) (he : P.underlying e = some (.int .u8)) (hx : prepOpd x = some y) (hr : RR ν r a) (hs : Sim ν s w)
    (h : evI E (.cvsb y) r s = some (v, s')) : OpOk P o a ν s w v s' := by
  have h1 := hr.opd hx
  simp only [evI] at h
  split at h
  · rename_i l hp
    rw [hp] at h1
    have h1 := conc_str h1
    split at h
    · rename_i hlt
      simp only [Option.some.injEq, Prod.mk.injEq] at h
      obtain ⟨rfl, rfl⟩ := h
      obtain ⟨cap, hcap⟩ : ∃ cap, cap = (Question.appendCap l.length 0 e).cut (w.tape w.drawn (.appendCap l.length 0 e)) := ⟨_, rfl⟩
      have hge : l.length ≤ cap := hcap ▸ cut_ge _ _ _ _
      let C : Array Value := (l.map fun b => Value.int .u8 b.toNat).toArray ++ Array.replicate (cap - l.length) (.int .u8 0)
      have hCs : C.size = cap := by simp [C]; omega
      let w1 : World := { w with drawn := w.drawn + 1 }
      have hs1 : Sim ν s w1 := hs.drew
      have hok := Ok.alloc (O := .cells C e (cap, cap + 1)) hs1 ⟨w1.heap.size, 0, cap⟩ rfl (obj := .cells (l.map fun b => .int .u8 b.toNat) 1 false) ⟨C, e, (cap, cap + 1), rfl, by
        intro i v hi
        simp only [List.getElem?_map, Option.map_eq_some_iff] at hi
        obtain ⟨b, hb, rfl⟩ := hi
        refine ⟨.int .u8 b.toNat, ?_, rfl⟩
        have : i < l.length := (List.getElem?_eq_some_iff.1 hb).1
        simp only [C, Nat.zero_add]
        rw [Array.getElem?_append_left (by simpa using this)]
        simp [hb], fun _ => ⟨rfl, .inr (by simp [hCs])⟩, fun _ => ⟨rfl, by simp; omega, by simp [hCs]⟩⟩ rfl
      refine ⟨_, _, .slice (some ⟨w1.heap.size, 0, none⟩) l.length cap, Ok.trans hs (Ok.drew hs) hok, ?_, .inl ?_⟩
      · simp [conc, nuSet, hge]
      · have hz : (⟨l.toArray⟩ : ByteArray).size = l.length := rfl
        have hf : (Question.appendCap l.length 0 e).forced = false := rfl
        simp only [execOp, ho, h1, Sem.run_bind, convert, run_underlying hsrc, run_underlying hd, run_underlying he, Result.andThen_ok, Conv.stringToBytes, run_choose, hz, hf, Bool.false_eq_true, if_false, ← hcap, newRow, run_newObj, Sem.run_pure]
        have hC : (Array.map (fun b : UInt8 => Value.int .u8 b.toNat) l.toArray) ++ Array.replicate (cap - l.length) (Value.int .u8 0) = C := by simp [C]
        rw [hC]
        have hfz : ((({ w with drawn := w.drawn + 1 } : World).alloc (.cells C e (0, 0))).freeze ⟨w.heap.size, C.size, none⟩ 1) = w1.alloc (.cells C e (cap, cap + 1)) := by
          simp only [World.freeze, World.alloc, w1, hCs]
          simp
          apply Array.ext_getElem?
          intro j
          simp only [Array.getElem?_modify, Array.getElem?_push]
          by_cases hj : j = w.heap.size
          · simp [hj]
          · simp [hj]; intro hh; exact absurd hh.symm hj
        have hh : (({ w with drawn := w.drawn + 1 } : World).alloc (.cells C e (0, 0))).heap[w.heap.size]? = some (.cells C e (0, 0)) := by simp [World.alloc]
        have hm : (markStringish ⟨w.heap.size, 0, none⟩).run P { heap := w.heap.push (Obj.cells C e), tape := w.tape, drawn := w.drawn + 1, os := w.os, output := w.output } = .ok () (w1.alloc (.cells C e (cap, cap + 1))) := by
          have := run_markStringish (P := P) (off := 0) hh
          rw [hfz] at this
          exact this
        rw [hm]
        rfl
    · cases h
  · cases h

theorem op_cvbb {t e : TypeId} {x : Operand} {y : Opd} (ho : o.op = .convert t t x) (hd : P.underlying t = some (.slice e)) (he : P.underlying e = some (.int .u8)) (hx : prepOpd x = some y) (hr : RR ν r a) (hs : Sim ν s w)
    (h : evI E (.cvbb y) r s = some (v, s')) : OpOk P o a ν s w v s' := by
  have h1 := hr.opd hx
  simp only [evI] at h
  split at h
  · rename_i b off n c opn hp
    rw [hp] at h1
    have hv := h1
    obtain ⟨L, cap, hL, h1, _, _⟩ := conc_slice h1
    split at h
    · rename_i cs osz hg
      simp only [Option.some.injEq, Prod.mk.injEq] at h
      obtain ⟨rfl, rfl⟩ := h
      obtain ⟨C, elem, fr, hheap, hc, hf, hop⟩ := hs.obj b _ L hg hL
      have hfz : (w.freeze ⟨L.blk, C.size, none⟩ 1).heap[L.blk]? = some (.cells C elem (if fr.1 == fr.2 then (C.size, C.size + 1) else (min fr.1 C.size, max fr.2 (C.size + 1)))) := by
        simp only [World.freeze, Nat.one_ne_zero, if_false, Array.getElem?_modify]
        simp [hheap]
      have hok : Ok ν s w ν (s.set b (some (.cells cs osz false))) (w.freeze ⟨L.blk, C.size, none⟩ 1) := by
        refine Ok.setObj hs hg hL rfl rfl ⟨C, elem, _, hfz, hc, ?_, hop⟩ ?_ ?_ rfl rfl rfl
        · intro _
          refine ⟨(hf rfl).1, .inr ?_⟩
          split
          · simp
          · rename_i hne
            rcases (hf rfl).2 with h | h
            · simp at hne; exact absurd h hne
            · simp; omega
        · intro k hk
          simp only [World.freeze, Nat.one_ne_zero, if_false, Array.getElem?_modify]
          rw [if_neg (Ne.symm hk)]
        · simp [World.freeze]
      have heq : ∀ id, (s.set b (some (.cells cs osz false))).get id = s.get id := by
        intro id
        rw [S.get_set]
        split
        · rename_i e; rw [e, hg]
        · rfl
      have hok' : Ok ν s w ν s (w.freeze ⟨L.blk, C.size, none⟩ 1) := by
        refine ⟨hok.le, hok.new, Nat.le_refl _, ⟨?_, ?_, hs.fresh, hs.top, hok.sim.glob.go (fun _ _ _ => rfl) fun _ _ ⟨id, o, L1, h1, h2⟩ => ⟨id, o, L1, by rw [heq]; exact h1, h2⟩⟩, fun _ _ _ => rfl, fun _ o _ h => ⟨o, h, rfl⟩, hok.frame, hok.size, hok.tape, hok.os, hok.output⟩
        · intro id o L1 h1 h2; exact hok.sim.obj id o L1 (by rw [heq]; exact h1) h2
        · intro id id' o o' L1 L2 h1 h2; exact hok.sim.inj id id' o o' L1 L2 (by rw [heq]; exact h1) (by rw [heq]; exact h2)
      refine ⟨ν, _, _, hok', hv, .inl ?_⟩
      have hshape : w.shape? L.blk = some (elem, C.size) := by simp [World.shape?, hheap]
      simp only [execOp, ho, Sem.run_bind, convert, run_underlying hd, run_underlying he, Result.andThen_ok, h1, BEq.rfl, markStringish, run_shape, hshape, run_freeze, Sem.run_pure]
    · cases h
  · cases h
end
end Go.Ab
