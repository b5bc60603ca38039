/- The abstract machine and the model's: single operations that call nothing. -/
import Derived.Test.YtekkglhoeaipbaaDoorAbPrep
import Derived.Laws.BytesString
import Derived.Laws.Entries
namespace Go.Ab

/-- What an operation comes to, in the model. -/
def Does (P : Program) (o : Oper) (a : Act) (w : World) (v : Value) (w' : World) : Prop :=
  (execOp a.eval o).run P w = .ok (.value v) w' ∨ ((execOp a.eval o).run P w = .ok .skip w' ∧ v = Go.undef)

def OpOk (P : Program) (o : Oper) (a : Act) (ν : Nu) (s : S) (w : World) (v : AV) (s' : S) : Prop :=
  ∃ ν' w' v', Ok ν s w ν' s' w' ∧ conc ν' v = some v' ∧ Does P o a w v' w'

theorem RR.opd {ν : Nu} {r : Regs} {a : Act} (h : RR ν r a) {x : Operand} {y : Opd} (hx : prepOpd x = some y) : conc ν (y.ev r) = some (a.eval x) :=
  prepOpd_ev hx (fun t _ => h t) (fun _ => rfl) (fun _ => rfl)

theorem RR.opds {ν : Nu} {r : Regs} {a : Act} (h : RR ν r a) : ∀ {l : List Operand} {m : List Opd}, prepOpds l = some m → concs ν (m.map (·.ev r)) = some (l.map a.eval)
  | [], m, e => by simp [prepOpds] at e; subst e; rfl
  | x :: l, m, e => by
    simp only [prepOpds, List.mapM_cons, Option.bind_eq_bind, Option.bind_eq_some_iff, Option.pure_def, Option.some.injEq] at e
    obtain ⟨y, hy, m', hm, rfl⟩ := e
    exact concs_cons.2 ⟨_, _, h.opd hy, h.opds hm, rfl⟩

section
variable {P : Program} {o : Oper} {a : Act} {E : Env} {r : Regs} {s s' : S} {w : World} {ν : Nu} {v : AV}

theorem pure_ok (hs : Sim ν s w) {v' : Value} (hv : conc ν v = some v') (hrun : (execOp a.eval o).run P w = .ok (.value v') w) : OpOk P o a ν s w v s :=
  ⟨ν, w, v', Ok.refl hs, hv, .inl hrun⟩

theorem op_mov {x : Operand} {y : Opd} (ho : o.op = .move x ∨ o.op = .assign x) (hx : prepOpd x = some y) (hr : RR ν r a) (hs : Sim ν s w)
    (h : evI E (.mov y) r s = some (v, s')) : OpOk P o a ν s w v s' := by
  simp only [evI, Option.some.injEq, Prod.mk.injEq] at h
  obtain ⟨rfl, rfl⟩ := h
  refine pure_ok hs (hr.opd hx) ?_
  rcases ho with ho | ho <;> simp [execOp, ho]

theorem conc_bool {b : Bool} {v : Value} (h : conc ν (.bool b) = some v) : v = .bool b := by simp [conc] at h; exact h.symm
theorem conc_int {k : IntKind} {n : Int} {v : Value} (h : conc ν (.int k n) = some v) : v = .int k n := by simp [conc] at h; exact h.symm
theorem conc_str {l : List UInt8} {v : Value} (h : conc ν (.str l) = some v) : v = .string ⟨l.toArray⟩ := by simp [conc] at h; exact h.symm
theorem conc_ptr {b o : Nat} {v : Value} (h : conc ν (.ptr b o) = some v) : ∃ L, ν b = some L ∧ v = .pointer (some ⟨L.blk, L.sh + o, none⟩) := by
  simp only [conc, Option.map_eq_some_iff] at h
  obtain ⟨L, hL, rfl⟩ := h; exact ⟨L, hL, rfl⟩

theorem op_pick {c x y : Operand} {c' x' y' : Opd} (ho : o.op = .pick c x y) (hc : prepOpd c = some c') (hx : prepOpd x = some x') (hy : prepOpd y = some y') (hr : RR ν r a) (hs : Sim ν s w)
    (h : evI E (.pick c' x' y') r s = some (v, s')) : OpOk P o a ν s w v s' := by
  simp only [evI] at h
  split at h
  · rename_i t ht
    simp only [Option.some.injEq, Prod.mk.injEq] at h
    obtain ⟨rfl, rfl⟩ := h
    have h1 := hr.opd hc
    rw [ht] at h1
    have h1 := conc_bool h1
    refine pure_ok (v' := if t then a.eval x else a.eval y) hs ?_ ?_
    · cases t
      · exact hr.opd hy
      · exact hr.opd hx
    · simp [execOp, ho, h1, asBool]
  · cases h

theorem tzero_conc {t : TypeId} {z : AV} (h : tzero P t = some z) : ∃ i zv, P.info? t = some i ∧ i.zero = some zv ∧ ∀ ν, conc ν z = some zv := by
  simp only [tzero, Option.bind_eq_some_iff] at h
  obtain ⟨i, hi, zv, hz, ha⟩ := h
  exact ⟨i, zv, hi, hz, fun ν => (abs_conc ν 2000).1 _ _ ha⟩

theorem run_typeInfo {t : TypeId} {i : TypeInfo} (h : P.info? t = some i) (w : World) : (typeInfo t).run P w = .ok i w := by
  simp [typeInfo, h]
theorem run_sizeOf {t : TypeId} {n : Nat} (h : tsize P t = some n) (w : World) : (sizeOf t).run P w = .ok n w := by
  simp only [tsize, Option.map_eq_some_iff] at h
  obtain ⟨i, hi, rfl⟩ := h
  simp [sizeOf, run_typeInfo hi]
theorem run_zeroValue {t : TypeId} {i : TypeInfo} {z : Value} (h : P.info? t = some i) (hz : i.zero = some z) (w : World) : (zeroValue t).run P w = .ok z w := by
  simp [zeroValue, run_typeInfo h, hz]
theorem run_isAgg {t : TypeId} {b : Bool} (h : tagg P t = some b) (w : World) : (isAgg t).run P w = .ok b w := by
  simp only [tagg, Option.map_eq_some_iff] at h
  obtain ⟨d, hd, rfl⟩ := h
  simp only [isAgg, Sem.run_bind, run_underlying hd, Result.andThen_ok]
  cases d <;> rfl

/-- A new row of cells of one's own. -/
theorem alloc_cells (hs : Sim ν s w) {c : List AV} {C : Array Value} {elem : TypeId} (hc : concs ν c = some C.toList) :
    Ok ν s w (nuSet ν s.ctr ⟨w.heap.size, 0, 0⟩) (s.new (.cells c 0 false)) (w.alloc (.cells C elem)) ∧ conc (nuSet ν s.ctr ⟨w.heap.size, 0, 0⟩) (.ptr s.ctr 0) = some (.pointer (some ⟨w.heap.size, 0, none⟩)) := by
  refine ⟨Ok.alloc hs _ rfl ⟨C, elem, (0, 0), rfl, ?_, ?_, ?_⟩ rfl, ?_⟩
  · intro i v hi
    obtain ⟨v', h1, h2⟩ := concs_get i hc hi
    exact ⟨v', by simpa using h1, h2⟩
  · intro _; exact ⟨rfl, .inl rfl⟩
  · intro h; exact absurd rfl h
  · simp [conc, nuSet]

theorem op_new {t : TypeId} {z : AV} (ho : o.op = .alloc t) (hz : tzero P t = some z) (hs : Sim ν s w)
    (h : evI E (.new z.cells) r s = some (v, s')) : OpOk P o a ν s w v s' := by
  simp only [evI] at h
  split at h
  · simp only [Option.some.injEq, Prod.mk.injEq] at h
    obtain ⟨rfl, rfl⟩ := h
    obtain ⟨i, zv, hi, hzv, hc⟩ := tzero_conc hz
    obtain ⟨h1, h2⟩ := alloc_cells (elem := t) hs (conc_cells (hc ν))
    refine ⟨_, _, _, h1, h2, .inl ?_⟩
    simp [execOp, ho, Instr.alloc, run_zeroValue hi hzv, newVar, newRow]
  · cases h

theorem op_box {t : TypeId} {x : Operand} {y : Opd} (ho : o.op = .box t x) (hx : prepOpd x = some y) (hr : RR ν r a) (hs : Sim ν s w)
    (h : evI E (.box y) r s = some (v, s')) : OpOk P o a ν s w v s' := by
  simp only [evI] at h
  split at h
  · simp only [Option.some.injEq, Prod.mk.injEq] at h
    obtain ⟨rfl, rfl⟩ := h
    obtain ⟨h1, h2⟩ := alloc_cells (elem := t) hs (conc_cells (hr.opd hx))
    refine ⟨_, _, _, h1, h2, .inl ?_⟩
    simp [execOp, ho, Instr.box, newVar, newRow]
  · cases h

theorem op_load {t : TypeId} {n : Nat} {g : Bool} {x : Operand} {y : Opd} (ho : o.op = .load t x) (hn : tsize P t = some n) (hg : tagg P t = some g) (hx : prepOpd x = some y) (hr : RR ν r a) (hs : Sim ν s w)
    (h : evI E (.load n g y) r s = some (v, s')) : OpOk P o a ν s w v s' := by
  simp only [evI] at h
  split at h
  · rename_i b off hp
    have hv := hr.opd hx
    rw [hp] at hv
    obtain ⟨L, hL, hv⟩ := conc_ptr hv
    split at h
    · rename_i c hrd
      obtain ⟨m, hm, hrun⟩ := hs.loadCells (P := P) hrd hL
      cases g with
      | true =>
        simp only [if_true, Option.some.injEq, Prod.mk.injEq] at h
        obtain ⟨rfl, rfl⟩ := h
        refine pure_ok (v' := .agg m.toArray) hs (by simp [conc, hm]) ?_
        simp [execOp, ho, Instr.loadAt, Instr.sureAddr, hv, loadVar, run_isAgg hg, run_sizeOf hn, hrun]
      | false =>
        simp only [Bool.false_eq_true, if_false] at h
        split at h
        · rename_i x
          simp only [Option.some.injEq, Prod.mk.injEq] at h
          obtain ⟨rfl, rfl⟩ := h
          obtain ⟨x', r', hx', hr', rfl⟩ := concs_cons.1 hm
          simp only [concs, Option.some.injEq] at hr'
          subst hr'
          refine pure_ok (v' := x') hs hx' ?_
          obtain ⟨m2, hm2, hc2⟩ := hs.read hrd hL
          rw [hm] at hm2
          simp only [Option.some.injEq] at hm2
          subst hm2
          have := hc2 0 x' rfl
          rw [Nat.add_zero] at this
          simp [execOp, ho, Instr.loadAt, Instr.sureAddr, hv, loadVar, run_isAgg hg, this]
        · cases h
    · cases h
  · cases h

theorem op_store {t : TypeId} {n : Nat} {x z : Operand} {y u : Opd} (ho : o.op = .store t x z) (hn : tsize P t = some n) (hx : prepOpd x = some y) (hz : prepOpd z = some u) (hr : RR ν r a) (hs : Sim ν s w)
    (h : evI E (.store n y u) r s = some (v, s')) : OpOk P o a ν s w v s' := by
  simp only [evI] at h
  split at h
  · rename_i b off hp
    have hv := hr.opd hx
    rw [hp] at hv
    obtain ⟨L, hL, hv⟩ := conc_ptr hv
    split at h
    · rename_i hlen
      simp only [Option.map_eq_some_iff, Prod.mk.injEq] at h
      obtain ⟨s1, hw, rfl, rfl⟩ := h
      have hz' := conc_cells (hr.opd hz)
      obtain ⟨w', hrun, hok⟩ := Ok.write (P := P) hs hw hL hz'
      refine ⟨ν, w', Go.undef, hok, rfl, .inr ⟨?_, rfl⟩⟩
      have hl := concs_length hz'
      simp at hl
      simp [execOp, ho, Instr.storeAt, Instr.sureAddr, hv, storeVar, run_sizeOf hn, hl, hlen, hrun]
    · cases h
  · cases h

theorem op_nilck {x : Operand} {y : Opd} (ho : o.op = .nilCheck x) (hx : prepOpd x = some y) (hr : RR ν r a) (hs : Sim ν s w)
    (h : evI E (.nilck y) r s = some (v, s')) : OpOk P o a ν s w v s' := by
  have hv := hr.opd hx
  simp only [evI] at h
  split at h
  · rename_i b off hp
    simp only [Option.some.injEq, Prod.mk.injEq] at h
    obtain ⟨rfl, rfl⟩ := h
    rw [hp] at hv
    obtain ⟨L, hL, hv'⟩ := conc_ptr hv
    refine pure_ok hs hv ?_
    simp [execOp, ho, hv']
  · rename_i f x y hp
    simp only [Option.some.injEq, Prod.mk.injEq] at h
    obtain ⟨rfl, rfl⟩ := h
    rw [hp] at hv
    refine pure_ok hs hv ?_
    simp only [conc, Option.bind_eq_some_iff, Option.map_eq_some_iff] at hv
    obtain ⟨f', _, c', _, hv'⟩ := hv
    simp [execOp, ho, ← hv']
  · cases h
end
end Go.Ab
