/- 'StubSegments' over the abstract machine. -/
import Derived.Test.YtecpmilepjbaeaaStubD
namespace Go.Ab
attribute [local simp] S.read S.write lenV

theorem Bytes.cvbs_all {s : S} {v : AV} {l : List UInt8} (h : Bytes s v l) : (∀ s', Ext s s' → ∀ (T : Tab) (r : Regs) (x : Opd), x.ev r = v → ∀ (Q : AV → S → Prop), WpI T (.cvbs x) r s' Q = Q (.str l) s') ∧
    (∀ s', Ext s s' → ∀ (E : Env) (r : Regs) (x : Opd), x.ev r = v → evI E (.cvbs x) r s' = some (.str l, s')) :=
  ⟨fun s' hx T r x hv Q => WpI_cvbs (h.ext hx) T r x hv Q, fun s' hx E r x hv => cvbs_bytes (h.ext hx) E r x hv⟩

set_option maxRecDepth 10000 in
theorem stubSegments_ok (p o r k a n : Int) (ha : 0 ≤ a ∧ a < 4294967296) (hn : 0 ≤ n ∧ n < 4294967296) (b : AV) (l : List UInt8) (s : S) (hd : Bytes s b l) (hl : l.length ≤ 140737488355328) :
    Ev tab 8 [.agg [.int .u64 p, .int .u32 o, .int .u8 r, .int .u64 k], .int .u32 a, .int .u32 n, b] s fun v s' => v = .bool true := by
  refine Ev.intro rfl rfl rfl ?_
  have hwa : IntKind.u64.wrap a = a := wrap_u64 (by omega) (by omega)
  have hwn : IntKind.u64.wrap n = n := wrap_u64 (by omega) (by omega)
  have hw1 : IntKind.u64.wrap (a * 4294967296) = a * 4294967296 := wrap_u64 (by omega) (by omega)
  have hw2 : IntKind.u64.wrap (a * 4294967296 + n) = a * 4294967296 + n := wrap_u64 (by omega) (by omega)
  have hll : l.length < 9223372036854775807 := by omega
  obtain ⟨hc1, hc2⟩ := hd.cvbs_all
  have y0 : Ext s (s.new (.cells [.int .u64 p, .int .u32 o, .int .u8 r, .int .u64 k] 0 false)) := by simp
  simp [pf8, pf8_6, pf8_5, pf8_4]
  refine ev_awake28 ?_
  simp [pf8_2, pf8_1, hwa, hwn, hw1, hw2]
  refine Ev.mono (makeSegment_ok p o r k n hn _) ?_
  rintro v1 s1 ⟨h1, hq⟩
  have x1 := h1
  have y1 := y0.trans x1
  have hg := x1.get
  simp (maxDischargeDepth := 30) [hg, pf8_0, -evI_cvbs, -wpI_cvbs]
  refine Ev.mono (asks_ok p o r k 100 n 100 n [] [] (by simp) _ hq) ?_
  clear hg hq
  rintro v s2 ⟨h2, rfl⟩
  have x2 := x1.trans h2
  have y2 := y0.trans x2
  have hg := x2.get
  simp (maxDischargeDepth := 30) [hg, -evI_cvbs, -wpI_cvbs]
  refine Ev.mono (readSegment_ok p o r k a n ha hn _) ?_
  rintro v3 s3 ⟨h3, hq⟩
  have x3 := x2.trans h3
  have y3 := y0.trans x3
  have hg := x3.get
  simp (maxDischargeDepth := 30) [hg, -evI_cvbs, -wpI_cvbs]
  refine Ev.mono (asks_ok p o r k 101 (a * 4294967296 + n) 101 (a * 4294967296 + n) [] [] (by simp) _ hq) ?_
  clear hg hq
  rintro v s4 ⟨h4, rfl⟩
  have x4 := x3.trans h4
  have y4 := y0.trans x4
  have hg := x4.get
  simp (maxDischargeDepth := 30) [hg, hwa, hc1, y4, -evI_cvbs, -wpI_cvbs]
  refine Ev.mono (writeSegment_ok p o r k a ha _ (hd.ext y4) hl) ?_
  rintro v5 s5 ⟨h5, hq⟩
  have x5 := x4.trans h5
  have y5 := y0.trans x5
  have hg := x5.get
  simp (maxDischargeDepth := 30) [hg, hc2, y5, -evI_cvbs, -wpI_cvbs]
  refine Ev.mono (asks_ok p o r k 102 a 102 a l l hll _ hq) ?_
  clear hg hq
  rintro v s6 ⟨h6, rfl⟩
  have x6 := x5.trans h6
  have y6 := y0.trans x6
  have hg := x6.get
  simp (maxDischargeDepth := 30) [hg, -evI_cvbs, -wpI_cvbs]
  refine Ev.mono (sizeSegment_ok p o r k _) ?_
  rintro v7 s7 ⟨h7, hq⟩
  have x7 := x6.trans h7
  have y7 := y0.trans x7
  have hg := x7.get
  simp (maxDischargeDepth := 30) [hg, -evI_cvbs, -wpI_cvbs]
  refine Ev.mono (asks_ok p o r k 103 0 103 0 [] [] (by simp) _ hq) ?_
  clear hg hq
  rintro v s8 ⟨h8, rfl⟩
  have x8 := x7.trans h8
  have y8 := y0.trans x8
  have hg := x8.get
  simp (maxDischargeDepth := 30) [hg, hwn, -evI_cvbs, -wpI_cvbs]
  refine Ev.mono (growSegment_ok p o r k n hn _) ?_
  rintro v9 s9 ⟨h9, hq⟩
  have x9 := x8.trans h9
  have y9 := y0.trans x9
  have hg := x9.get
  simp (maxDischargeDepth := 30) [hg, -evI_cvbs, -wpI_cvbs]
  refine Ev.mono (asks_ok p o r k 104 n 104 n [] [] (by simp) _ hq) ?_
  clear hg hq
  rintro v s10 ⟨h10, rfl⟩
  have x10 := x9.trans h10
  have y10 := y0.trans x10
  have hg := x10.get
  simp (maxDischargeDepth := 30) [hg, hc1, y10, -evI_cvbs, -wpI_cvbs]
  refine Ev.mono (makeFile_ok p o r k _ (hd.ext y10) hl) ?_
  rintro v11 s11 ⟨h11, hq⟩
  have x11 := x10.trans h11
  have y11 := y0.trans x11
  have hg := x11.get
  simp (maxDischargeDepth := 30) [hg, hc2, y11, -evI_cvbs, -wpI_cvbs]
  refine Ev.mono (asks_ok p o r k 100 0 100 0 l l hll _ hq) ?_
  clear hg hq
  rintro v s12 ⟨h12, rfl⟩
  have x12 := x11.trans h12
  have y12 := y0.trans x12
  have hg := x12.get
  simp (maxDischargeDepth := 30) [hg, -evI_cvbs, -wpI_cvbs]
  refine Ev.mono (readFile_ok p o r k a n ha hn _) ?_
  rintro v13 s13 ⟨h13, hq⟩
  have x13 := x12.trans h13
  have y13 := y0.trans x13
  have hg := x13.get
  simp (maxDischargeDepth := 30) [hg, -evI_cvbs, -wpI_cvbs]
  refine Ev.mono (asks_ok p o r k 101 (a * 4294967296 + n) 101 (a * 4294967296 + n) [] [] (by simp) _ hq) ?_
  clear hg hq
  rintro v s14 ⟨h14, rfl⟩
  have x14 := x13.trans h14
  have y14 := y0.trans x14
  have hg := x14.get
  simp (maxDischargeDepth := 30) [hg, -evI_cvbs, -wpI_cvbs]
  refine Ev.mono (sizeFile_ok p o r k _) ?_
  rintro v15 s15 ⟨h15, hq⟩
  have x15 := x14.trans h15
  have y15 := y0.trans x15
  have hg := x15.get
  simp (maxDischargeDepth := 30) [hg, -evI_cvbs, -wpI_cvbs]
  refine Ev.mono (asks_ok p o r k 102 0 102 0 [] [] (by simp) _ hq) ?_
  clear hg hq
  rintro v s16 ⟨h16, rfl⟩
  have x16 := x15.trans h16
  have y16 := y0.trans x16
  have hg := x16.get
  simp (maxDischargeDepth := 30) [hg, hwa, hc1, y16, -evI_cvbs, -wpI_cvbs]
  refine Ev.mono (editFile_ok p o r k a ha _ (hd.ext y16) hl) ?_
  rintro v17 s17 ⟨h17, hq⟩
  have x17 := x16.trans h17
  have y17 := y0.trans x17
  have hg := x17.get
  simp (maxDischargeDepth := 30) [hg, hc2, y17, -evI_cvbs, -wpI_cvbs]
  refine Ev.mono (asks_ok p o r k 103 a 103 a l l hll _ hq) ?_
  clear hg hq
  rintro v s18 ⟨h18, rfl⟩
  have x18 := x17.trans h18
  have y18 := y0.trans x18
  have hg := x18.get
  simp (maxDischargeDepth := 30) [-evI_cvbs, -wpI_cvbs]
end Go.Ab
