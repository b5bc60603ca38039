import Derived.Test.YtecpmilepjbaeaaStubA
namespace Go.Ab
attribute [local simp] S.read S.write lenV

theorem wrap_u64 {m : Int} (h : 0 ≤ m) (h2 : m < 18446744073709551616) : IntKind.u64.wrap m = m := by
  simp [IntKind.wrap, IntKind.signed, IntKind.bits]; omega

/-- A request's message. -/
def Req (n : Nat) (s : S) (v : AV) (p o r k op arg : Int) (l : List UInt8) : Prop :=
  ∃ d, v = .agg [.int .u64 p, .int .u64 0, .int .u32 0, .int .u16 op, .int .u16 0, .int .u64 p, .int .u32 o, .int .u8 r, .int .u64 k, .int .u64 arg, d] ∧ Bytes s d l ∧ d.since n


theorem info_ok (p o r k : Int) (s : S) : Ev tab 22 [.agg [.int .u64 p, .int .u32 o, .int .u8 r, .int .u64 k]] s fun v s' => Ext s s' ∧ Req s.ctr s' v p o r k 1 0 [] := by
  refine Ev.intro rfl rfl rfl ?_
  simp [pf22, pf22_1, pf22_0, Nat.add_assoc]
  refine Ev.mono (ask_ok p o r k 1 0 .snil [] _ (Bytes.nil _) (by simp)) ?_
  rintro v s2 ⟨hx, d, rfl, hb, hd⟩
  have hx0 : Ext s s2 := Ext.trans (by simp (maxDischargeDepth := 30)) hx
  have fb := hb.flat
  have hg := hx.get
  simp only [S.ctr_new] at hd
  simp (maxDischargeDepth := 30) [Nat.add_assoc, hg, fb, hx0, Req, hb.set hd]
  exact since_le (by omega) hd

theorem touch_ok (p o r k : Int) (s : S) : Ev tab 23 [.agg [.int .u64 p, .int .u32 o, .int .u8 r, .int .u64 k]] s fun v s' => Ext s s' ∧ Req s.ctr s' v p o r k 2 0 [] := by
  refine Ev.intro rfl rfl rfl ?_
  simp [pf23, pf23_1, pf23_0, Nat.add_assoc]
  refine Ev.mono (ask_ok p o r k 2 0 .snil [] _ (Bytes.nil _) (by simp)) ?_
  rintro v s2 ⟨hx, d, rfl, hb, hd⟩
  have hx0 : Ext s s2 := Ext.trans (by simp (maxDischargeDepth := 30)) hx
  have fb := hb.flat
  have hg := hx.get
  simp only [S.ctr_new] at hd
  simp (maxDischargeDepth := 30) [Nat.add_assoc, hg, fb, hx0, Req, hb.set hd]
  exact since_le (by omega) hd

theorem revoke_ok (p o r k : Int) (s : S) : Ev tab 25 [.agg [.int .u64 p, .int .u32 o, .int .u8 r, .int .u64 k]] s fun v s' => Ext s s' ∧ Req s.ctr s' v p o r k 4 0 [] := by
  refine Ev.intro rfl rfl rfl ?_
  simp [pf25, pf25_1, pf25_0, Nat.add_assoc]
  refine Ev.mono (ask_ok p o r k 4 0 .snil [] _ (Bytes.nil _) (by simp)) ?_
  rintro v s2 ⟨hx, d, rfl, hb, hd⟩
  have hx0 : Ext s s2 := Ext.trans (by simp (maxDischargeDepth := 30)) hx
  have fb := hb.flat
  have hg := hx.get
  simp only [S.ctr_new] at hd
  simp (maxDischargeDepth := 30) [Nat.add_assoc, hg, fb, hx0, Req, hb.set hd]
  exact since_le (by omega) hd

theorem destroy_ok (p o r k : Int) (s : S) : Ev tab 26 [.agg [.int .u64 p, .int .u32 o, .int .u8 r, .int .u64 k]] s fun v s' => Ext s s' ∧ Req s.ctr s' v p o r k 5 0 [] := by
  refine Ev.intro rfl rfl rfl ?_
  simp [pf26, pf26_1, pf26_0, Nat.add_assoc]
  refine Ev.mono (ask_ok p o r k 5 0 .snil [] _ (Bytes.nil _) (by simp)) ?_
  rintro v s2 ⟨hx, d, rfl, hb, hd⟩
  have hx0 : Ext s s2 := Ext.trans (by simp (maxDischargeDepth := 30)) hx
  have fb := hb.flat
  have hg := hx.get
  simp only [S.ctr_new] at hd
  simp (maxDischargeDepth := 30) [Nat.add_assoc, hg, fb, hx0, Req, hb.set hd]
  exact since_le (by omega) hd

theorem restrict_ok (p o r k m : Int) (hm : 0 ≤ m ∧ m < 256) (s : S) : Ev tab 24 [.agg [.int .u64 p, .int .u32 o, .int .u8 r, .int .u64 k], .int .u8 m] s fun v s' => Ext s s' ∧ Req s.ctr s' v p o r k 3 m [] := by
  refine Ev.intro rfl rfl rfl ?_
  have hw : IntKind.u64.wrap m = m := wrap_u64 (by omega) (by omega)
  simp [pf24, pf24_1, pf24_0, Nat.add_assoc, hw]
  refine Ev.mono (ask_ok p o r k 3 m .snil [] _ (Bytes.nil _) (by simp)) ?_
  rintro v s2 ⟨hx, d, rfl, hb, hd⟩
  have hx0 : Ext s s2 := Ext.trans (by simp (maxDischargeDepth := 30)) hx
  have fb := hb.flat
  have hg := hx.get
  simp only [S.ctr_new] at hd
  simp (maxDischargeDepth := 30) [Nat.add_assoc, hg, fb, hx0, Req, hb.set hd]
  exact since_le (by omega) hd

theorem Bytes.cvsb {s s' : S} {l : List UInt8} (h : s'.get s.ctr = some (.cells (l.map fun b => .int .u8 b.toNat) 1 false)) (hb : s.ctr < s'.ctr) : Bytes s' (.slice s.ctr 0 l.length 0 true) l :=
  Bytes.made (n := 1) h hb 0 true

theorem asks_ok {n : Nat} {v : AV} (p o r k op arg op' arg' : Int) (l l' : List UInt8) (hl : l'.length < 9223372036854775807) (s : S) (hv : Req n s v p o r k op arg l) :
    Ev tab 21 [v, .agg [.int .u64 p, .int .u32 o, .int .u8 r, .int .u64 k], .int .u16 op', .int .u64 arg', .str l'] s fun v s' => Ext s s' ∧ v = .bool (decide (op = op' ∧ arg = arg' ∧ l = l')) := by
  obtain ⟨d, rfl, hb, hd⟩ := hv
  refine Ev.intro rfl rfl rfl ?_
  have fb := hb.flat
  have cb := hb.cells1
  simp [pf21, pf21_1, pf21_0, Nat.add_assoc, fb, cb, hl]
  refine Ev.mono (same_ok p 0 0 op 0 p o r k arg p 0 0 op' 0 p o r k arg' d _ l l' _ (hb.ext ?_) ?_) ?_
  · simp (maxDischargeDepth := 30)
  · refine Bytes.made (n := 1) ?_ ?_ _ _ <;> simp [u8s]
  rintro v s2 ⟨hx, rfl⟩
  have hx0 : Ext s s2 := Ext.trans (by simp (maxDischargeDepth := 30)) hx
  simp [hx0]
end Go.Ab
