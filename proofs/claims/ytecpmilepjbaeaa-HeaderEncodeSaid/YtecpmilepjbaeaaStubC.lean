import Derived.Test.YtecpmilepjbaeaaStubB
namespace Go.Ab
attribute [local simp] S.read S.write lenV

theorem ev_awake28 {s : S} {Q : AV → S → Prop} (h : Q (.bool true) s) : Ev tab 20 [] s Q := Ev.prim (p := closedPrim [] (.bool true)) rfl rfl h

theorem stubStandard_ok (p o r k m : Int) (hm : 0 ≤ m ∧ m < 256) (s : S) : Ev tab 7 [.agg [.int .u64 p, .int .u32 o, .int .u8 r, .int .u64 k], .int .u8 m] s fun v s' => v = .bool true := by
  refine Ev.intro rfl rfl rfl ?_
  have hw : IntKind.u64.wrap m = m := wrap_u64 (by omega) (by omega)
  simp [pf7, pf7_4, pf7_3, pf7_2]
  refine ev_awake28 ?_
  simp [pf7_0]
  refine Ev.mono (info_ok p o r k _) ?_
  rintro v1 s1 ⟨h1, hq⟩
  have x1 := h1
  have hg := x1.get
  simp (maxDischargeDepth := 30) [hg]
  refine Ev.mono (asks_ok p o r k 1 0 1 0 [] [] (by simp) _ hq) ?_
  clear hg hq
  rintro v s2 ⟨h2, rfl⟩
  have x2 := x1.trans h2
  have hg := x2.get
  simp (maxDischargeDepth := 30) [hg]
  refine Ev.mono (touch_ok p o r k _) ?_
  rintro v3 s3 ⟨h3, hq⟩
  have x3 := x2.trans h3
  have hg := x3.get
  simp (maxDischargeDepth := 30) [hg]
  refine Ev.mono (asks_ok p o r k 2 0 2 0 [] [] (by simp) _ hq) ?_
  clear hg hq
  rintro v s4 ⟨h4, rfl⟩
  have x4 := x3.trans h4
  have hg := x4.get
  simp (maxDischargeDepth := 30) [hg, hw]
  refine Ev.mono (restrict_ok p o r k m hm _) ?_
  rintro v5 s5 ⟨h5, hq⟩
  have x5 := x4.trans h5
  have hg := x5.get
  simp (maxDischargeDepth := 30) [hg]
  refine Ev.mono (asks_ok p o r k 3 m 3 m [] [] (by simp) _ hq) ?_
  clear hg hq
  rintro v s6 ⟨h6, rfl⟩
  have x6 := x5.trans h6
  have hg := x6.get
  simp (maxDischargeDepth := 30) [hg]
  refine Ev.mono (revoke_ok p o r k _) ?_
  rintro v7 s7 ⟨h7, hq⟩
  have x7 := x6.trans h7
  have hg := x7.get
  simp (maxDischargeDepth := 30) [hg]
  refine Ev.mono (asks_ok p o r k 4 0 4 0 [] [] (by simp) _ hq) ?_
  clear hg hq
  rintro v s8 ⟨h8, rfl⟩
  have x8 := x7.trans h8
  have hg := x8.get
  simp (maxDischargeDepth := 30) [hg]
  refine Ev.mono (destroy_ok p o r k _) ?_
  rintro v9 s9 ⟨h9, hq⟩
  have x9 := x8.trans h9
  have hg := x9.get
  simp (maxDischargeDepth := 30) [hg]
  refine Ev.mono (asks_ok p o r k 5 0 5 0 [] [] (by simp) _ hq) ?_
  clear hg hq
  rintro v s10 ⟨h10, rfl⟩
  have x10 := x9.trans h10
  have hg := x10.get
  simp (maxDischargeDepth := 30) []
end Go.Ab
