/- Two messages are held against one another (layer 4's law) over the abstract machine. -/
import Derived.Test.YtecpmilepjbaeabDoorTab
import Derived.Test.YtecpmilepjbaeabDoorAbExt
namespace Go.Ab
attribute [local simp] S.read S.write lenV

set_option maxRecDepth 10000 in
theorem same_ok (a0 a1 a2 a3 a4 a5 a6 a7 a8 a9 b0 b1 b2 b3 b4 b5 b6 b7 b8 b9 : Int) (da db : AV) (la lb : List UInt8) (s : S) (ha : Bytes s da la) (hb : Bytes s db lb) :
    Ev tab 11 [.agg [.int .u64 a0, .int .u64 a1, .int .u32 a2, .int .u16 a3, .int .u16 a4, .int .u64 a5, .int .u32 a6, .int .u8 a7, .int .u64 a8, .int .u64 a9, da],
      .agg [.int .u64 b0, .int .u64 b1, .int .u32 b2, .int .u16 b3, .int .u16 b4, .int .u64 b5, .int .u32 b6, .int .u8 b7, .int .u64 b8, .int .u64 b9, db]] s fun v s' =>
    Ext s s' ∧ v = .bool (decide (a0 = b0 ∧ a1 = b1 ∧ a2 = b2 ∧ a3 = b3 ∧ a4 = b4 ∧ (a5 = b5 ∧ a6 = b6 ∧ a7 = b7 ∧ a8 = b8) ∧ a9 = b9 ∧ la = lb)) := by
  refine Ev.intro rfl rfl rfl ?_
  have ca := ha.cells1
  have cb := hb.cells1
  have fa := ha.flat
  have fb := hb.flat
  have hca := fun s' (h : Ext s s') (T : Tab) (r : Regs) (x : Opd) (hx : x.ev r = da) (Q : AV → S → Prop) => WpI_cvbs (ha.ext h) T r x hx Q
  have hcb := fun s' (h : Ext s s') (T : Tab) (r : Regs) (x : Opd) (hx : x.ev r = db) (Q : AV → S → Prop) => WpI_cvbs (hb.ext h) T r x hx Q
  by_cases h0 : a0 = b0
  case neg => simp [pf11, pf11_1, pf11_0, ca, cb, fa, fb, h0]
  by_cases h1 : a1 = b1
  case neg => simp [pf11, pf11_1, pf11_0, ca, cb, fa, fb, h0, h1]
  by_cases h2 : a2 = b2
  case neg => simp [pf11, pf11_1, pf11_0, ca, cb, fa, fb, h0, h1, h2]
  by_cases h3 : a3 = b3
  case neg => simp [pf11, pf11_1, pf11_0, ca, cb, fa, fb, h0, h1, h2, h3]
  by_cases h4 : a4 = b4
  case neg => simp [pf11, pf11_1, pf11_0, ca, cb, fa, fb, h0, h1, h2, h3, h4]
  by_cases h5 : a5 = b5 ∧ a6 = b6 ∧ a7 = b7 ∧ a8 = b8
  case neg => simp [pf11, pf11_1, pf11_0, ca, cb, fa, fb, h0, h1, h2, h3, h4, h5]
  by_cases h9 : a9 = b9
  case neg => simp [pf11, pf11_1, pf11_0, ca, cb, fa, fb, h0, h1, h2, h3, h4, h5, h9]
  simp (maxDischargeDepth := 30) [pf11, pf11_1, pf11_0, ca, cb, fa, fb, h0, h1, h2, h3, h4, h5, h9, hca, hcb]
end Go.Ab
