/- Replies (layer 4) over the abstract machine. -/
import Derived.Test.YtecpmilepjbaeabDoorC0
import Derived.Test.YtecpmilepjbaeabDoorAbOwn
namespace Go.Ab
attribute [local simp] S.read S.write

theorem ev_awake04 {s : S} {Q : AV → S → Prop} (h : Q (.bool true) s) : Ev tab 7 [] s Q := Ev.prim (p := closedPrim [] (.bool true)) rfl rfl h
theorem ev_num {s : S} {n : Int} {Q : AV → S → Prop} (h : Q (.int .i64 n) s) : Ev tab 24 [.iface 32 (.int .i64 n)] s Q := Ev.prim (p := numPrim2) rfl (by simp [numPrim2, numPrim]) h
theorem ev_numX {s : S} {b o : Nat} {Q : AV → S → Prop} (h : Q (.int .i64 0) s) : Ev tab 24 [.iface 61 (.ptr b o)] s Q := Ev.prim (p := numPrim2) rfl (by simp [numPrim2]) h

/-- A message's parts. -/
structure Ms where
  to : Nat
  reply : Nat
  id : Nat
  op : Nat
  st : Nat
  p : Nat
  o : Nat
  r : Nat
  k : Nat
  arg : Nat
  data : List UInt8
  deriving DecidableEq

def Ms.cells (m : Ms) (d : AV) : List AV := [.int .u64 m.to, .int .u64 m.reply, .int .u32 m.id, .int .u16 m.op, .int .u16 m.st, .int .u64 m.p, .int .u32 m.o, .int .u8 m.r, .int .u64 m.k, .int .u64 m.arg, d]
def Ms.fit (m : Ms) : Prop := m.to < 18446744073709551616 ∧ m.reply < 18446744073709551616 ∧ m.id < 4294967296 ∧ m.op < 65536 ∧ m.st < 65536 ∧ m.p < 18446744073709551616 ∧ m.o < 4294967296 ∧ m.r < 256 ∧ m.k < 18446744073709551616 ∧ m.arg < 18446744073709551616 ∧ m.data.length ≤ 140737488355328

theorem Own.setLow {n : Nat} {s : S} {v : AV} {l : List UInt8} {i : Nat} {o : Option AO} (h : Own n s v l) (hi : i < n) : Own n (s.set i o) v l := by
  rcases h with ⟨rfl, rfl⟩ | ⟨b, rfl, hg, hb, hn⟩
  · exact Own.nil _ _
  · exact Own.made (by rw [S.get_set, if_neg (by omega)]; exact hg) hb hn

theorem sameMs_ok (a b : Ms) {da db : AV} (s : S) (ha : Bytes s da a.data) (hb : Bytes s db b.data) : Ev tab 11 [.agg (a.cells da), .agg (b.cells db)] s fun v s' => Ext s s' ∧ v = .bool (decide (a = b)) := by
  refine Ev.mono (same_ok a.to a.reply a.id a.op a.st a.p a.o a.r a.k a.arg b.to b.reply b.id b.op b.st b.p b.o b.r b.k b.arg da db a.data b.data s ha hb) ?_
  rintro v s' ⟨hx, rfl⟩
  refine ⟨hx, ?_⟩
  congr 1
  apply decide_eq_decide.2
  cases a; cases b
  simp only [Ms.mk.injEq, Int.natCast_inj, and_assoc]

/-- A reply. -/
def Ms.answer (m : Ms) (st p o r k arg : Nat) (data : List UInt8) : Ms := ⟨m.reply, m.to, m.id, m.op, st, p, o, r, k, arg, data⟩

theorem answer_ok (m : Ms) {d e : AV} (st p o r k arg : Nat) (data : List UInt8) (hst : st < 65536) (hl : data.length ≤ 140737488355328) (s : S) (hd : Bytes s d m.data) (he : Bytes s e data) :
    Ev tab 8 [.agg (m.cells d), .int .i64 st, .agg [.int .u64 p, .int .u32 o, .int .u8 r, .int .u64 k], .int .u64 arg, e] s fun v s' => Ext s s' ∧ ∃ w, v = .agg ((m.answer st p o r k arg data).cells w) ∧ Own s.ctr s' w data := by
  refine Ev.intro rfl rfl rfl ?_
  have hc := hd.cells1
  have fl := hd.flat
  have w1 : IntKind.u16.wrap (st : Int) = st := by simp [IntKind.wrap, IntKind.signed, IntKind.bits]; omega
  simp (maxDischargeDepth := 30) [Ms.cells, pf8, pf8_1, pf8_0, fl, hc, Nat.add_assoc, w1]
  refine cont_app_nil (n := s.ctr + 1 + 1 + 1) (he.ext (by simp (maxDischargeDepth := 30))) (by simp) hl ?_
  intro w s2 hw hk
  have hx := Keep.ext (a := ((s.new _).new _).new _) hk
  have hg := hx.get
  have hc2 := hw.bytes.cells1
  have fl2 := hw.flat
  have hx0 : Ext s s2 := Ext.trans (by simp (maxDischargeDepth := 30)) hx
  simp (maxDischargeDepth := 30) [hg, Nat.add_assoc, hc2, fl2, hx0, Ms.answer]
  exact (hw.setLow (by omega)).le (by omega)

theorem new_ok (x : List UInt8) (s : S) : Ev tab 10 [.str x] s fun v s' => Ext s s' ∧ ∃ b, v = .iface 61 (.ptr b 0) := by
  refine Ev.intro rfl rfl rfl ?_
  simp (maxDischargeDepth := 30) [pf10, pf10_0]

theorem fault_ok (m : Ms) {d : AV} (e : AV) (st : Nat) (hst : st < 65536) (hnum : ∀ (s : S) (Q : AV → S → Prop), Q (.int .i64 st) s → Ev tab 24 [e] s Q) (s : S) (hd : Bytes s d m.data) :
    Ev tab 9 [.agg (m.cells d), e] s fun v s' => Ext s s' ∧ ∃ w, v = .agg ((m.answer st 0 0 0 0 0 []).cells w) ∧ Own s.ctr s' w [] := by
  refine Ev.intro rfl rfl rfl ?_
  have hc := hd.cells1
  have fl := hd.flat
  simp (maxDischargeDepth := 30) [Ms.cells, pf9, pf9_1, pf9_0, fl, hc, Nat.add_assoc]
  refine hnum _ _ ?_
  simp (maxDischargeDepth := 30) [fl, hc, Nat.add_assoc]
  have hx0 : Ext s ((s.new (.cells (m.cells d) 0 false)).new (.cells [.int .u64 0, .int .u64 0, .int .u32 0, .int .u16 0, .int .u16 0, .int .u64 0, .int .u32 0, .int .u8 0, .int .u64 0, .int .u64 0, .snil] 0 false)) := by simp (maxDischargeDepth := 30)
  refine Ev.mono (answer_ok m st 0 0 0 0 0 [] hst (by simp) _ (hd.ext hx0) (Bytes.nil _)) ?_
  rintro v s2 ⟨hx, w, rfl, hw⟩
  have hg := hx.get
  have hc2 := hw.bytes.cells1
  have fl2 := hw.flat
  have hxx := hx0.trans hx
  simp only [Ms.cells, ctr_new_s] at hg hw hxx
  simp (maxDischargeDepth := 30) [Ms.cells, Ms.answer, hg, hc2, fl2, hxx, Nat.add_assoc]
  exact (hw.setLow (by omega)).le (by omega)
end Go.Ab
