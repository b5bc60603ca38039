/- 'ObjectsNarrow' over the abstract machine. -/
import Derived.Test.YtcdkkdnpphkieaaDoorObjM
namespace Go.Ab

theorem spread_w {n : Nat} (hn : n ≤ 1000) : ∀ y ∈ spreadL n, y < w48 := fun y hy => ((spread_clean hn).sort y hy).2
theorem spread_len (n : Nat) : (spreadL n).length = n := by simp [spreadL]

/-- The tape's oracle in memory, from what the three calls give. -/
theorem tbl_ready {s s1 s2 s3 s4 : S} {tp n port : Nat} {F0 F1 : List Nat} (hn : n < 1000) (hx1 : Ext s s1) (hx2 : Ext s1 s2) (hF0 : ∀ x ∈ F0, s1.ctr ≤ x) (hx3 : Ext s2 s3) (hg1 : Grow F0 F1 s2.ctr) (hx4 : Ext s3 s4) (htp : s3.ctr ≤ tp)
    (hT : Tb s4 tp ⟨port, ⟨[], (spreadL n).map (· % w48), 0⟩, []⟩ (tp :: F1)) : Ext s s4 ∧ Tb s4 tp ⟨port, ⟨[], spreadL n, 0⟩, []⟩ (tp :: F1) ∧ ∀ x ∈ tp :: F1, s.ctr ≤ x := by
  rw [spread_cut (by omega)] at hT
  refine ⟨hx1.trans (hx2.trans (hx3.trans hx4)), hT, fun x hx => ?_⟩
  have a1 := hx1.ctr; have a2 := hx2.ctr; have a3 := hx3.ctr
  rcases List.mem_cons.1 hx with rfl | hx
  · omega
  · rcases hg1 x hx with h | h
    · have := hF0 x h; omega
    · omega

set_option maxRecDepth 10000 in
theorem narrow_ok (f g need : Nat) (hf : f < 256) (hg : g < 256) (hn : need < 256) (s : S) : Ev tab 4 [.int .u8 f, .int .u8 g, .int .u8 need] s fun v _ => v = .bool true := by
  refine Ev.intro rfl rfl rfl ?_
  simp [pf4, pf4_12, pf4_11, pf4_10]
  refine ev_awake23 ?_
  simp [pf4_8]
  refine Ev.mono (spread_ok 20 (by omega) s) ?_
  rintro v s1 ⟨hx1, hN⟩
  simp
  refine Ev.mono (tapeOf_ok hN (by simp [spread_len])) ?_
  rintro v s2 ⟨hx2, tp0, F0, rfl, hTp, hF0⟩
  simp
  refine Ev.mono (oracleOf_ok hTp) ?_
  rintro v s3 ⟨hx3, op, F1, rfl, hO, hg1⟩
  simp
  refine Ev.mono (objectsOf_ok hO 7) ?_
  rintro v s4 ⟨hx4, tp, rfl, htp, hT⟩
  obtain ⟨hx, hT, hF⟩ := tbl_ready (by omega) hx1 hx2 hF0 hx3 hg1 hx4 htp hT
  obtain ⟨es, hes⟩ : ∃ es, es = spreadL 20 := ⟨_, rfl⟩
  have hel : es.length = 20 := by rw [hes, spread_len]
  have hw : ∀ y ∈ es, y < w48 := by rw [hes]; exact spread_w (by omega)
  rw [← hes] at hT
  obtain ⟨d, hd⟩ : ∃ d, es[0]? = some d := ⟨_, List.getElem?_eq_getElem (by omega)⟩
  have hdw := hw d (List.mem_of_getElem? hd)
  have ok0 : Tbl.Ok ⟨7, ⟨[], es, 0⟩, []⟩ := Tbl.Ok.fresh (by omega) hw
  have ec : (⟨7, ⟨[], es, 0⟩, []⟩ : Tbl).create 1 = ((⟨7, 0, 255, d⟩, none), ⟨7, ⟨[], es, 1⟩, [⟨true, d, 0, 1, 24⟩]⟩) := by
    simp [Tbl.create, lowest, Orc.draw, hd]
  obtain ⟨T0, hT0⟩ : ∃ T0 : Tbl, T0 = ⟨7, ⟨[], es, 1⟩, [⟨true, d, 0, 1, 24⟩]⟩ := ⟨_, rfl⟩
  have ok1 : T0.Ok := by have := (Tbl.create_step ⟨7, ⟨[], es, 0⟩, []⟩ 1).ok ok0; rw [ec] at this; rw [hT0]; exact this
  obtain ⟨a, T1, b, T2, c, T3, w, T4, e1, e2, e3, e4, hbc, hbr, hwv⟩ := narrow_law T0 ⟨true, d, 0, 1, 24⟩ (by rw [hT0]; rfl) hdw f g need hf hg (by rw [hT0]; simp only; omega)
  have hp7 : T0.port = 7 := by rw [hT0]
  have hown : Cp.Fit ⟨7, 0, 255, d⟩ := ⟨by simp, by simp, by simp, by unfold w48 at hdw; simp only; omega⟩
  rw [hp7] at e1 e3
  have r0 : T0.orc.rs.length = 0 := by rw [hT0]; rfl
  have st1 := Tbl.restrict_step T0 ⟨7, 0, 255, d⟩ f
  have fa := Tbl.restrict_fit ok1 hown f
  rw [e1] at st1 fa
  replace st1 : Tbl.Step 2 T0 T1 := st1
  replace fa : a.Fit := fa
  have st2 := Tbl.restrict_step T1 a g
  have fb := Tbl.restrict_fit (st1.ok ok1) fa g
  rw [e2] at st2 fb
  replace st2 : Tbl.Step 2 T1 T2 := st2
  replace fb : b.Fit := fb
  have st3 := Tbl.restrict_step T2 ⟨7, 0, 255, d⟩ (f &&& g)
  rw [e3] at st3
  replace st3 : Tbl.Step 2 T2 T3 := st3
  have k1 := st1.rs; have k2 := st2.rs; have k3 := st3.rs
  have hfg : f &&& g < 256 := and_lt8 _ _ hf
  have bfg := band8 f g hf hg
  have bfgn := band8 (f &&& g) need hfg hn
  simp [pf4_7]
  rw [← hT0] at ec
  refine Ev.mono (create_eq hT ok0 ec) ?_
  rintro v s5 ⟨hc5, F5, hg5, hT5, rfl⟩
  obtain ⟨x6, b6, c6⟩ := box_new (F := F5) (s := s5) [.int .u64 0, .int .u32 0, .int .u8 0, .int .u64 0] ⟨7, 0, 255, d⟩ hT5.lt
  simp [capE, errV, write_new]
  obtain ⟨s6, hs6⟩ : ∃ t, t = (s5.new (.cells [.int .u64 0, .int .u32 0, .int .u8 0, .int .u64 0] 0 false)).set s5.ctr (some (.cells (Cp.cells ⟨7, 0, 255, d⟩) 0 false)) := ⟨_, rfl⟩
  rw [← hs6] at x6 b6 c6 ⊢
  replace hT5 := hT5.ext x6
  simp [pf4_6, b6.rd4]
  refine Ev.mono (restrict_eq hT5 (by omega) hown hf e1) ?_
  rintro v s7 ⟨hc7, F7, hg7, hT7, rfl⟩
  replace b6 := b6.step hc7 hg7
  obtain ⟨x8, b8, c8⟩ := box_new (F := F7) (s := s7) [.int .u64 0, .int .u32 0, .int .u8 0, .int .u64 0] a hT7.lt
  simp [capE, errV, write_new]
  obtain ⟨s8, hs8⟩ : ∃ t, t = (s7.new (.cells [.int .u64 0, .int .u32 0, .int .u8 0, .int .u64 0] 0 false)).set s7.ctr (some (.cells a.cells 0 false)) := ⟨_, rfl⟩
  rw [← hs8] at x8 b8 c8 ⊢
  replace hT7 := hT7.ext x8
  replace b6 := b6.ext x8
  simp [pf4_5, pf4_4, b8.rd4]
  refine Ev.mono (restrict_eq hT7 (by omega) fa hg e2) ?_
  rintro v s9 ⟨hc9, F9, hg9, hT9, rfl⟩
  replace b6 := b6.step hc9 hg9
  obtain ⟨x10, b10, c10⟩ := box_new (F := F9) (s := s9) [.int .u64 0, .int .u32 0, .int .u8 0, .int .u64 0] b hT9.lt
  simp [capE, errV, write_new]
  obtain ⟨s10, hs10⟩ : ∃ t, t = (s9.new (.cells [.int .u64 0, .int .u32 0, .int .u8 0, .int .u64 0] 0 false)).set s9.ctr (some (.cells b.cells 0 false)) := ⟨_, rfl⟩
  rw [← hs10] at x10 b10 c10 ⊢
  replace hT9 := hT9.ext x10
  replace b6 := b6.ext x10
  obtain ⟨m, hm⟩ : ∃ m, m = f &&& g := ⟨_, rfl⟩
  rw [← hm] at bfg bfgn e3 hfg hbr hwv
  simp [pf4_3, b6.rd4, bfg, -binV_and]
  refine Ev.mono (restrict_eq hT9 (by omega) hown hfg e3) ?_
  rintro v s11 ⟨hc11, F11, hg11, hT11, rfl⟩
  replace b10 := b10.step hc11 hg11
  obtain ⟨x12, b12, c12⟩ := box_new (F := F11) (s := s11) [.int .u64 0, .int .u32 0, .int .u8 0, .int .u64 0] c hT11.lt
  simp [capE, errV, write_new]
  obtain ⟨s12, hs12⟩ : ∃ t, t = (s11.new (.cells [.int .u64 0, .int .u32 0, .int .u8 0, .int .u64 0] 0 false)).set s11.ctr (some (.cells c.cells 0 false)) := ⟨_, rfl⟩
  rw [← hs12] at x12 b12 c12 ⊢
  replace hT11 := hT11.ext x12
  replace b10 := b10.ext x12
  simp [pf4_2, b10.rd4]
  obtain ⟨k, e⟩ := w
  refine Ev.mono (check_eq hT11 (by omega) fb hn e4) ?_
  rintro v s13 ⟨hc13, F13, hg13, hT13, rfl⟩
  replace b10 := b10.step hc13 hg13
  replace b12 := b12.step hc13 hg13
  subst hbc
  obtain ⟨mn, hmn⟩ : ∃ mn, mn = m &&& need := ⟨_, rfl⟩
  rw [← hmn] at bfgn hwv
  have hr2 := b10.rd2
  rw [hbr] at hr2
  by_cases hq : mn = need
  · rw [if_pos hq] at hwv
    simp only at hwv
    subst hwv
    simp [idxE, errV, pf4_1, bfg, bfgn, hq, pf4_0, b10.rd4, b12.rd4, hr2, Cp.cells, -binV_and]
  · have hqi : ¬ (mn : Int) = need := by omega
    rw [if_neg hq] at hwv
    simp only at hwv
    subst hwv
    simp [idxE, errV, pf4_1, bfg, bfgn, hqi, pf4_0, b10.rd4, b12.rd4, hr2, Cp.cells, -binV_and]
    refine ev_num ?_
    simp
end Go.Ab
