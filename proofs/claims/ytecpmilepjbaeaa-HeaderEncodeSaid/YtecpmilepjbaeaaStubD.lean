/- What the requests to the servers of segments and of files are. -/
import Derived.Test.YtecpmilepjbaeaaStubC
namespace Go.Ab
attribute [local simp] S.read S.write lenV

theorem or_span {a n : Int} (ha : 0 ≤ a) (ha2 : a < 4294967296) (hn : 0 ≤ n) (hn2 : n < 4294967296) :
    IntKind.u64.wrap (((BitVec.ofInt IntKind.u64.bits (a * 4294967296) ||| BitVec.ofInt IntKind.u64.bits n).toNat : Nat) : Int) = a * 4294967296 + n := by
  obtain ⟨x, rfl⟩ := Int.eq_ofNat_of_zero_le ha
  obtain ⟨y, rfl⟩ := Int.eq_ofNat_of_zero_le hn
  have hx : x < 4294967296 := by omega
  have hy : y < 4294967296 := by omega
  have e1 : (BitVec.ofInt IntKind.u64.bits ((x : Int) * 4294967296)).toNat = x <<< 32 := by
    rw [Nat.shiftLeft_eq]
    simp only [IntKind.bits, BitVec.toNat_ofInt]
    omega
  have e2 : (BitVec.ofInt IntKind.u64.bits (y : Int)).toNat = y := by
    simp only [IntKind.bits, BitVec.toNat_ofInt]
    omega
  rw [BitVec.toNat_or, e1, e2, ← Nat.shiftLeft_add_eq_or_of_lt (show y < 2 ^ 32 by omega), Nat.shiftLeft_eq]
  rw [wrap_u64 (by omega) (by omega)]
  omega

theorem span_ok (a n : Int) (ha : 0 ≤ a ∧ a < 4294967296) (hn : 0 ≤ n ∧ n < 4294967296) (s : S) : Ev tab 57 [.int .u32 a, .int .u32 n] s fun v s' => Ext s s' ∧ v = .int .u64 (a * 4294967296 + n) := by
  refine Ev.intro rfl rfl rfl ?_
  have h1 : IntKind.u64.wrap a = a := wrap_u64 (by omega) (by omega)
  have h2 : IntKind.u64.wrap n = n := wrap_u64 (by omega) (by omega)
  have h3 : IntKind.u64.wrap (a * 4294967296) = a * 4294967296 := wrap_u64 (by omega) (by omega)
  have hb : min 32 IntKind.u64.bits = 32 := by decide
  have ho := or_span ha.1 ha.2 hn.1 hn.2
  simp [pf57, pf57_1, pf57_0, h1, h2, h3, hb, -BitVec.toNat_or, -BitVec.toNat_ofInt]
  exact ho

theorem makeSegment_ok (p o r k n : Int) (hn : 0 ≤ n ∧ n < 4294967296) (s : S) : Ev tab 27 [.agg [.int .u64 p, .int .u32 o, .int .u8 r, .int .u64 k], .int .u32 n] s fun v s' => Ext s s' ∧ Req s.ctr s' v p o r k 100 n [] := by
  refine Ev.intro rfl rfl rfl ?_
  have hw : IntKind.u64.wrap n = n := wrap_u64 (by omega) (by omega)
  simp [pf27, pf27_1, pf27_0, hw]
  refine Ev.mono (ask_ok p o r k 100 n .snil [] _ (Bytes.nil _) (by simp)) ?_

  rintro v s2 ⟨hx, d, rfl, hb, hd2⟩
  have hx0 : Ext s s2 := Ext.trans (by simp (maxDischargeDepth := 30)) hx
  have fb := hb.flat
  have hg := hx.get
  simp only [S.ctr_new] at hd2
  simp (maxDischargeDepth := 30) [Nat.add_assoc, hg, fb, hx0, Req, hb.set hd2]
  exact since_le (by omega) hd2

theorem writeSegment_ok (p o r k n : Int) (hn : 0 ≤ n ∧ n < 4294967296) {b : AV} {l : List UInt8} (s : S) (hd : Bytes s b l) (hl : l.length ≤ 140737488355328) : Ev tab 29 [.agg [.int .u64 p, .int .u32 o, .int .u8 r, .int .u64 k], .int .u32 n, b] s fun v s' => Ext s s' ∧ Req s.ctr s' v p o r k 102 n l := by
  refine Ev.intro rfl rfl rfl ?_
  have hw : IntKind.u64.wrap n = n := wrap_u64 (by omega) (by omega)
  simp [pf29, pf29_1, pf29_0, hw]
  refine Ev.mono (ask_ok p o r k 102 n b l _ (hd.ext ?_) hl) ?_
  · simp (maxDischargeDepth := 30)
  rintro v s2 ⟨hx, d, rfl, hb, hd2⟩
  have hx0 : Ext s s2 := Ext.trans (by simp (maxDischargeDepth := 30)) hx
  have fb := hb.flat
  have hg := hx.get
  simp only [S.ctr_new] at hd2
  simp (maxDischargeDepth := 30) [Nat.add_assoc, hg, fb, hx0, Req, hb.set hd2]
  exact since_le (by omega) hd2

theorem sizeSegment_ok (p o r k : Int) (s : S) : Ev tab 30 [.agg [.int .u64 p, .int .u32 o, .int .u8 r, .int .u64 k]] s fun v s' => Ext s s' ∧ Req s.ctr s' v p o r k 103 0 [] := by
  refine Ev.intro rfl rfl rfl ?_
  simp [pf30, pf30_1, pf30_0]
  refine Ev.mono (ask_ok p o r k 103 0 .snil [] _ (Bytes.nil _) (by simp)) ?_

  rintro v s2 ⟨hx, d, rfl, hb, hd2⟩
  have hx0 : Ext s s2 := Ext.trans (by simp (maxDischargeDepth := 30)) hx
  have fb := hb.flat
  have hg := hx.get
  simp only [S.ctr_new] at hd2
  simp (maxDischargeDepth := 30) [Nat.add_assoc, hg, fb, hx0, Req, hb.set hd2]
  exact since_le (by omega) hd2

theorem growSegment_ok (p o r k n : Int) (hn : 0 ≤ n ∧ n < 4294967296) (s : S) : Ev tab 31 [.agg [.int .u64 p, .int .u32 o, .int .u8 r, .int .u64 k], .int .u32 n] s fun v s' => Ext s s' ∧ Req s.ctr s' v p o r k 104 n [] := by
  refine Ev.intro rfl rfl rfl ?_
  have hw : IntKind.u64.wrap n = n := wrap_u64 (by omega) (by omega)
  simp [pf31, pf31_1, pf31_0, hw]
  refine Ev.mono (ask_ok p o r k 104 n .snil [] _ (Bytes.nil _) (by simp)) ?_

  rintro v s2 ⟨hx, d, rfl, hb, hd2⟩
  have hx0 : Ext s s2 := Ext.trans (by simp (maxDischargeDepth := 30)) hx
  have fb := hb.flat
  have hg := hx.get
  simp only [S.ctr_new] at hd2
  simp (maxDischargeDepth := 30) [Nat.add_assoc, hg, fb, hx0, Req, hb.set hd2]
  exact since_le (by omega) hd2

theorem makeFile_ok (p o r k : Int) {b : AV} {l : List UInt8} (s : S) (hd : Bytes s b l) (hl : l.length ≤ 140737488355328) : Ev tab 32 [.agg [.int .u64 p, .int .u32 o, .int .u8 r, .int .u64 k], b] s fun v s' => Ext s s' ∧ Req s.ctr s' v p o r k 100 0 l := by
  refine Ev.intro rfl rfl rfl ?_
  simp [pf32, pf32_1, pf32_0]
  refine Ev.mono (ask_ok p o r k 100 0 b l _ (hd.ext ?_) hl) ?_
  · simp (maxDischargeDepth := 30)
  rintro v s2 ⟨hx, d, rfl, hb, hd2⟩
  have hx0 : Ext s s2 := Ext.trans (by simp (maxDischargeDepth := 30)) hx
  have fb := hb.flat
  have hg := hx.get
  simp only [S.ctr_new] at hd2
  simp (maxDischargeDepth := 30) [Nat.add_assoc, hg, fb, hx0, Req, hb.set hd2]
  exact since_le (by omega) hd2

theorem sizeFile_ok (p o r k : Int) (s : S) : Ev tab 34 [.agg [.int .u64 p, .int .u32 o, .int .u8 r, .int .u64 k]] s fun v s' => Ext s s' ∧ Req s.ctr s' v p o r k 102 0 [] := by
  refine Ev.intro rfl rfl rfl ?_
  simp [pf34, pf34_1, pf34_0]
  refine Ev.mono (ask_ok p o r k 102 0 .snil [] _ (Bytes.nil _) (by simp)) ?_

  rintro v s2 ⟨hx, d, rfl, hb, hd2⟩
  have hx0 : Ext s s2 := Ext.trans (by simp (maxDischargeDepth := 30)) hx
  have fb := hb.flat
  have hg := hx.get
  simp only [S.ctr_new] at hd2
  simp (maxDischargeDepth := 30) [Nat.add_assoc, hg, fb, hx0, Req, hb.set hd2]
  exact since_le (by omega) hd2

theorem editFile_ok (p o r k n : Int) (hn : 0 ≤ n ∧ n < 4294967296) {b : AV} {l : List UInt8} (s : S) (hd : Bytes s b l) (hl : l.length ≤ 140737488355328) : Ev tab 35 [.agg [.int .u64 p, .int .u32 o, .int .u8 r, .int .u64 k], .int .u32 n, b] s fun v s' => Ext s s' ∧ Req s.ctr s' v p o r k 103 n l := by
  refine Ev.intro rfl rfl rfl ?_
  have hw : IntKind.u64.wrap n = n := wrap_u64 (by omega) (by omega)
  simp [pf35, pf35_1, pf35_0, hw]
  refine Ev.mono (ask_ok p o r k 103 n b l _ (hd.ext ?_) hl) ?_
  · simp (maxDischargeDepth := 30)
  rintro v s2 ⟨hx, d, rfl, hb, hd2⟩
  have hx0 : Ext s s2 := Ext.trans (by simp (maxDischargeDepth := 30)) hx
  have fb := hb.flat
  have hg := hx.get
  simp only [S.ctr_new] at hd2
  simp (maxDischargeDepth := 30) [Nat.add_assoc, hg, fb, hx0, Req, hb.set hd2]
  exact since_le (by omega) hd2

theorem readSegment_ok (p o r k a n : Int) (ha : 0 ≤ a ∧ a < 4294967296) (hn : 0 ≤ n ∧ n < 4294967296) (s : S) : Ev tab 28 [.agg [.int .u64 p, .int .u32 o, .int .u8 r, .int .u64 k], .int .u32 a, .int .u32 n] s fun v s' => Ext s s' ∧ Req s.ctr s' v p o r k 101 (a * 4294967296 + n) [] := by
  refine Ev.intro rfl rfl rfl ?_
  simp [pf28, pf28_1, pf28_0]
  refine Ev.mono (span_ok a n ha hn _) ?_
  rintro v s1 ⟨hx1, rfl⟩
  have hg := hx1.get
  simp (maxDischargeDepth := 30) [Nat.add_assoc, hg]
  refine Ev.mono (ask_ok p o r k 101 (a * 4294967296 + n) .snil [] _ (Bytes.nil _) (by simp)) ?_
  rintro v s2 ⟨hx2, d, rfl, hb, hd2⟩
  have hx := hx1.trans hx2
  have hx0 : Ext s s2 := Ext.trans (by simp (maxDischargeDepth := 30)) hx
  have fb := hb.flat
  have hc := hx1.ctr
  simp only [ctr_new_s] at hc
  have hg := hx.get
  have hd3 := since_le hc hd2
  simp (maxDischargeDepth := 30) [Nat.add_assoc, hg, fb, hx0, Req, hb.set hd3]
  exact since_le (by omega) hd3

theorem readFile_ok (p o r k a n : Int) (ha : 0 ≤ a ∧ a < 4294967296) (hn : 0 ≤ n ∧ n < 4294967296) (s : S) : Ev tab 33 [.agg [.int .u64 p, .int .u32 o, .int .u8 r, .int .u64 k], .int .u32 a, .int .u32 n] s fun v s' => Ext s s' ∧ Req s.ctr s' v p o r k 101 (a * 4294967296 + n) [] := by
  refine Ev.intro rfl rfl rfl ?_
  simp [pf33, pf33_1, pf33_0]
  refine Ev.mono (span_ok a n ha hn _) ?_
  rintro v s1 ⟨hx1, rfl⟩
  have hg := hx1.get
  simp (maxDischargeDepth := 30) [Nat.add_assoc, hg]
  refine Ev.mono (ask_ok p o r k 101 (a * 4294967296 + n) .snil [] _ (Bytes.nil _) (by simp)) ?_
  rintro v s2 ⟨hx2, d, rfl, hb, hd2⟩
  have hx := hx1.trans hx2
  have hx0 : Ext s s2 := Ext.trans (by simp (maxDischargeDepth := 30)) hx
  have fb := hb.flat
  have hc := hx1.ctr
  simp only [ctr_new_s] at hc
  have hg := hx.get
  have hd3 := since_le hc hd2
  simp (maxDischargeDepth := 30) [Nat.add_assoc, hg, fb, hx0, Req, hb.set hd3]
  exact since_le (by omega) hd3
end Go.Ab
