import Derived.Test.YtecpmilepjbaeaaTab
import Derived.Test.YtecpmilepjbaeaaAbExt
namespace Go.Ab
attribute [local simp] S.read S.write lenV

theorem ask_ok (p o r k op arg : Int) (data : AV) (l : List UInt8) (s : S) (hd : Bytes s data l) (hl : l.length ≤ 140737488355328) :
    Ev tab 56 [.agg [.int .u64 p, .int .u32 o, .int .u8 r, .int .u64 k], .int .u16 op, .int .u64 arg, data] s fun v s' =>
    Ext s s' ∧ ∃ d, v = .agg [.int .u64 p, .int .u64 0, .int .u32 0, .int .u16 op, .int .u16 0, .int .u64 p, .int .u32 o, .int .u8 r, .int .u64 k, .int .u64 arg, d] ∧ Bytes s' d l ∧ d.since s.ctr := by
  refine Ev.intro rfl rfl rfl ?_
  have happ : ∀ s', Ext s s' → s'.app 1 1 .snil data = _ := fun s' h => app_copy (hd.ext h) hl
  by_cases he : l = []
  · subst he
    simp (maxDischargeDepth := 30) [pf56, pf56_1, pf56_0, Nat.add_assoc, happ, Bytes.nil]
  · simp (maxDischargeDepth := 30) [pf56, pf56_1, pf56_0, Nat.add_assoc, happ, he]
    refine Bytes.made (n := 1) ?_ ?_ _ _
    · simp
    · simp

set_option maxRecDepth 10000 in
theorem same_ok (a0 a1 a2 a3 a4 a5 a6 a7 a8 a9 b0 b1 b2 b3 b4 b5 b6 b7 b8 b9 : Int) (da db : AV) (la lb : List UInt8) (s : S) (ha : Bytes s da la) (hb : Bytes s db lb) :
    Ev tab 55 [.agg [.int .u64 a0, .int .u64 a1, .int .u32 a2, .int .u16 a3, .int .u16 a4, .int .u64 a5, .int .u32 a6, .int .u8 a7, .int .u64 a8, .int .u64 a9, da],
      .agg [.int .u64 b0, .int .u64 b1, .int .u32 b2, .int .u16 b3, .int .u16 b4, .int .u64 b5, .int .u32 b6, .int .u8 b7, .int .u64 b8, .int .u64 b9, db]] s fun v s' =>
    Ext s s' ∧ v = .bool (decide (a0 = b0 ∧ a1 = b1 ∧ a2 = b2 ∧ a3 = b3 ∧ a4 = b4 ∧ (a5 = b5 ∧ a6 = b6 ∧ a7 = b7 ∧ a8 = b8) ∧ a9 = b9 ∧ la = lb)) := by
  refine Ev.intro rfl rfl rfl ?_
  have ca := ha.cells1
  have cb := hb.cells1
  have fa := ha.flat
  have fb := hb.flat
  have hca := fun s' (h : Ext s s') (T : Tab) (r : Regs) (x : Opd) (hx : x.ev r = da) (Q : AV → S → Prop) => WpI_cvbs (ha.ext h) T r x hx Q
  have hcb := fun s' (h : Ext s s') (T : Tab) (r : Regs) (x : Opd) (hx : x.ev r = db) (Q : AV → S → Prop) => WpI_cvbs (hb.ext h) T r x hx Q
  by_cases h0 : a0 = b0
  case neg => simp [pf55, pf55_1, pf55_0, ca, cb, fa, fb, h0]
  by_cases h1 : a1 = b1
  case neg => simp [pf55, pf55_1, pf55_0, ca, cb, fa, fb, h0, h1]
  by_cases h2 : a2 = b2
  case neg => simp [pf55, pf55_1, pf55_0, ca, cb, fa, fb, h0, h1, h2]
  by_cases h3 : a3 = b3
  case neg => simp [pf55, pf55_1, pf55_0, ca, cb, fa, fb, h0, h1, h2, h3]
  by_cases h4 : a4 = b4
  case neg => simp [pf55, pf55_1, pf55_0, ca, cb, fa, fb, h0, h1, h2, h3, h4]
  by_cases h5 : a5 = b5 ∧ a6 = b6 ∧ a7 = b7 ∧ a8 = b8
  case neg => simp [pf55, pf55_1, pf55_0, ca, cb, fa, fb, h0, h1, h2, h3, h4, h5]
  by_cases h9 : a9 = b9
  case neg => simp [pf55, pf55_1, pf55_0, ca, cb, fa, fb, h0, h1, h2, h3, h4, h5, h9]
  simp (maxDischargeDepth := 30) [pf55, pf55_1, pf55_0, ca, cb, fa, fb, h0, h1, h2, h3, h4, h5, h9, hca, hcb]
end Go.Ab
