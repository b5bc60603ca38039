/- 'ObjectsNarrow' over the abstract machine. -/
import Derived.Test.YtcdkkdnpphkieaaDoorObjM
namespace Go.Ab

theorem spread_w {n : Nat} (hn : n ≤ 1000) : ∀ y ∈ spreadL n, y < w48 := fun y hy => ((spread_clean hn).sort y hy).2
theorem spread_len (n : Nat) : (spreadL n).length = n := by simp [spreadL]

/-- The tape's oracle in memory, from what the three calls give. -/
theorem tbl_ready {s s1 s2 s3 s4 : S} {tp n port : Nat} {F0 F1 : List Nat} (hn : n < 1000) (hx1 : Ext s s1) (hx2 : Ext s1 s2) (hF0 : ∀ x ∈ F0, s1.ctr ≤ x) (hx3 : Ext s2 s3) (hg1 : Grow F0 F1 s2.ctr) (hx4 : Ext s3 s4) (htp : s3.ctr ≤ tp)
    (hT : Tb s4 tp ⟨port, ⟨[], (spreadL n).map (· % w48), 0⟩, []⟩ (tp :: F1)) : Ext s s4 ∧ Tb s4 tp ⟨port, ⟨[], spreadL n, 0⟩, []⟩ (tp :: F1) ∧ ∀ x ∈ tp :: F1, s.ctr ≤ x := by
  rw [spread_cut (by omega)] at hT
  refine ⟨hx1.trans (hx2.trans (hx3.trans hx4)), hT, fun x hx => ?_⟩
  have a1 := hx1.ctr; have a2 := hx2.ctr; have a3 := hx3.ctr
  rcases List.mem_cons.1 hx with rfl | hx
  · omega
  · rcases hg1 x hx with h | h
    · have := hF0 x h; omega
    · omega

set_option maxRecDepth 10000 in
theorem narrow_ok (f g need : Nat) (hf : f < 256) (hg : g < 256) (hn : need < 256) (s : S) : Ev tab 4 [.int .u8 f, .int .u8 g, .int .u8 need] s fun v _ => v = .bool true := by
  refine Ev.intro rfl rfl rfl ?_
  simp [pf4, pf4_12, pf4_11, pf4_10]
  refine ev_awake23 ?_
  simp [pf4_8]
  refine Ev.mono (spread_ok 20 (by omega) s) ?_
  rintro v s1 ⟨hx1, hN⟩
  simp
  refine Ev.mono (tapeOf_ok hN (by simp [spread_len])) ?_
  rintro v s2 ⟨hx2, tp0, F0, rfl, hTp, hF0⟩
  simp
  refine Ev.mono (oracleOf_ok hTp) ?_
  rintro v s3 ⟨hx3, op, F1, rfl, hO, hg1⟩
  simp
  refine Ev.mono (objectsOf_ok hO 7) ?_
  rintro v s4 ⟨hx4, tp, rfl, htp, hT⟩
  obtain ⟨hx, hT, hF⟩ := tbl_ready (by omega) hx1 hx2 hF0 hx3 hg1 hx4 htp hT
  obtain ⟨es, hes⟩ : ∃ es, es = spreadL 20 := ⟨_, rfl⟩
  have hel : es.length = 20 := by rw [hes, spread_len]
  have hw : ∀ y ∈ es, y < w48 := by rw [hes]; exact spread_w (by omega)
  rw [← hes] at hT
  obtain ⟨d, hd⟩ : ∃ d, es[0]? = some d := ⟨_, List.getElem?_eq_getElem (by omega)⟩
  have hdw := hw d (List.mem_of_getElem? hd)
  have ok0 : Tbl.Ok ⟨7, ⟨[], es, 0⟩, []⟩ := Tbl.Ok.fresh (by omega) hw
  have ec : (⟨7, ⟨[], es, 0⟩, []⟩ : Tbl).create 1 = ((⟨7, 0, 255, d⟩, none), ⟨7, ⟨[], es, 1⟩, [⟨true, d, 0, 1, 24⟩]⟩) := by
    simp [Tbl.create, lowest, Orc.draw, hd]
  obtain ⟨T0, hT0⟩ : ∃ T0 : Tbl, T0 = ⟨7, ⟨[], es, 1⟩, [⟨true, d, 0, 1, 24⟩]⟩ := ⟨_, rfl⟩
  have ok1 : T0.Ok := by have := (Tbl.create_step ⟨7, ⟨[], es, 0⟩, []⟩ 1).ok ok0; rw [ec] at this; rw [hT0]; exact this
  obtain ⟨a, T1, b, T2, c, T3, w, T4, e1, e2, e3, e4, hbc, hbr, hwv⟩ := narrow_law T0 ⟨true, d, 0, 1, 24⟩ (by rw [hT0]; rfl) hdw f g need hf hg (by rw [hT0]; simp only; omega)
  have hp7 : T0.port = 7 := by rw [hT0]
  have hown : Cp.Fit ⟨7, 0, 255, d⟩ := ⟨by simp, by simp, by simp, by unfold w48 at hdw; simp only; omega⟩
  rw [hp7] at e1 e3
  have r0 : T0.orc.rs.length = 0 := by rw [hT0]; rfl
  have st1 := Tbl.restrict_step T0 ⟨7, 0, 255, d⟩ f
  have fa := Tbl.restrict_fit ok1 hown f
  rw [e1] at st1 fa
  replace st1 : Tbl.Step 2 T0 T1 := st1
  replace fa : a.Fit := fa
  have st2 := Tbl.restrict_step T1 a g
  have fb := Tbl.restrict_fit (st1.ok ok1) fa g
  rw [e2] at st2 fb
  replace st2 : Tbl.Step 2 T1 T2 := st2
  replace fb : b.Fit := fb
  have st3 := Tbl.restrict_step T2 ⟨7, 0, 255, d⟩ (f &&& g)
  rw [e3] at st3
  replace st3 : Tbl.Step 2 T2 T3 := st3
  have k1 := st1.rs; have k2 := st2.rs; have k3 := st3.rs
  have hfg : f &&& g < 256 := and_lt8 _ _ hf
  have bfg := band8 f g hf hg
  have bfgn := band8 (f &&& g) need hfg hn
  simp [pf4_7]
  rw [← hT0] at ec
  refine Ev.mono (create_eq hT ok0 ec) ?_
  rintro v s5 ⟨hc5, F5, hg5, hT5, rfl⟩
  obtain ⟨x6, b6, c6⟩ := box_new (F := F5) (s := s5) [.int .u64 0, .int .u32 0, .int .u8 0, .int .u64 0] ⟨7, 0, 255, d⟩ hT5.lt
  simp [capE, errV, write_new]
  obtain ⟨s6, hs6⟩ : ∃ t, t = (s5.new (.cells [.int .u64 0, .int .u32 0, .int .u8 0, .int .u64 0] 0 false)).set s5.ctr (some (.cells (Cp.cells ⟨7, 0, 255, d⟩) 0 false)) := ⟨_, rfl⟩
  rw [← hs6] at x6 b6 c6 ⊢
  replace hT5 := hT5.ext x6
  simp [pf4_6, b6.rd4]
  refine Ev.mono (restrict_eq hT5 (by omega) hown hf e1) ?_
  rintro v s7 ⟨hc7, F7, hg7, hT7, rfl⟩
  replace b6 := b6.step hc7 hg7
  obtain ⟨x8, b8, c8⟩ := box_new (F := F7) (s := s7) [.int .u64 0, .int .u32 0, .int .u8 0, .int .u64 0] a hT7.lt
  simp [capE, errV, write_new]
  obtain ⟨s8, hs8⟩ : ∃ t, t = (s7.new (.cells [.int .u64 0, .int .u32 0, .int .u8 0, .int .u64 0] 0 false)).set s7.ctr (some (.cells a.cells 0 false)) := ⟨_, rfl⟩
  rw [← hs8] at x8 b8 c8 ⊢
  replace hT7 := hT7.ext x8
  replace b6 := b6.ext x8
  simp [pf4_5, pf4_4, b8.rd4]
  refine Ev.mono (restrict_eq hT7 (by omega) fa hg e2) ?_
  rintro v s9 ⟨hc9, F9, hg9, hT9, rfl⟩
  replace b6 := b6.step hc9 hg9
  obtain ⟨x10, b10, c10⟩ := box_new (F := F9) (s := s9) [.int .u64 0, .int .u32 0, .int .u8 0, .int .u64 0] b hT9.lt
  simp [capE, errV, write_new]
  obtain ⟨s10, hs10⟩ : ∃ t, t = (s9.new (.cells [.int .u64 0, .int .u32 0, .int .u8 0, .int .u64 0] 0 false)).set s9.ctr (some (.cells b.cells 0 false)) := ⟨_, rfl⟩
  rw [← hs10] at x10 b10 c10 ⊢
  replace hT9 := hT9.ext x10
  replace b6 := b6.ext x10
  obtain ⟨m, hm⟩ : ∃ m, m = f &&& g := ⟨_, rfl⟩
  rw [← hm] at bfg bfgn e3 hfg hbr hwv
  simp [pf4_3, b6.rd4, bfg, -binV_and]
  refine Ev.mono (restrict_eq hT9 (by omega) hown hfg e3) ?_
  rintro v s11 ⟨hc11, F11, hg11, hT11, rfl⟩
  replace b10 := b10.step hc11 hg11
  obtain ⟨x12, b12, c12⟩ := box_new (F := F11) (s := s11) [.int .u64 0, .int .u32 0, .int .u8 0, .int .u64 0] c hT11.lt
  simp [capE, errV, write_new]
  obtain ⟨s12, hs12⟩ : ∃ t, t = (s11.new (.cells [.int .u64 0, .int .u32 0, .int .u8 0, .int .u64 0] 0 false)).set s11.ctr (some (.cells c.cells 0 false)) := ⟨_, rfl⟩
  rw [← hs12] at x12 b12 c12 ⊢
  replace hT11 := hT11.ext x12
  replace b10 := b10.ext x12
  simp [pf4_2, b10.rd4]
  obtain ⟨k, e⟩ := w
  refine Ev.mono (check_eq hT11 (by omega) fb hn e4) ?_
  rintro v s13 ⟨hc13, F13, hg13, hT13, rfl⟩
  replace b10 := b10.step hc13 hg13
  replace b12 := b12.step hc13 hg13
  subst hbc
  obtain ⟨mn, hmn⟩ : ∃ mn, mn = m &&& need := ⟨_, rfl⟩
  rw [← hmn] at bfgn hwv
  have hr2 := b10.rd2
  rw [hbr] at hr2
  by_cases hq : mn = need
  · rw [if_pos hq] at hwv
    simp only at hwv
    subst hwv
    simp [idxE, errV, pf4_1, bfg, bfgn, hq, pf4_0, b10.rd4, b12.rd4, hr2, Cp.cells, -binV_and]
  · have hqi : ¬ (mn : Int) = need := by omega
    rw [if_neg hq] at hwv
    simp only at hwv
    subst hwv
    simp [idxE, errV, pf4_1, bfg, bfgn, hqi, pf4_0, b10.rd4, b12.rd4, hr2, Cp.cells, -binV_and]
    refine ev_num ?_
    simp
end Go.Ab
/-! Objects' laws (layer 23): a capability that is changed in some way; rows of capabilities. -/
namespace Go.Ab

theorem wrapU8 (x : Int) : ∃ n : Nat, IntKind.u8.wrap x = (n : Int) ∧ n < 256 := by
  refine ⟨(x % 256).toNat, ?_, by omega⟩
  simp [IntKind.wrap, IntKind.signed, IntKind.bits]
  omega
theorem wrapU32 (x : Int) : ∃ n : Nat, IntKind.u32.wrap x = (n : Int) ∧ n < 4294967296 := by
  refine ⟨(x % 4294967296).toNat, ?_, by omega⟩
  simp [IntKind.wrap, IntKind.signed, IntKind.bits]
  omega
theorem wrapU64 (x : Int) : ∃ n : Nat, IntKind.u64.wrap x = (n : Int) ∧ n < 18446744073709551616 := by
  refine ⟨(x % 18446744073709551616).toNat, ?_, by omega⟩
  simp [IntKind.wrap, IntKind.signed, IntKind.bits]
  omega

set_option maxRecDepth 10000 in
theorem change_ok {c : Cp} (hc : c.Fit) (how : Nat) (hh : how < 256) (s : S) : Ev tab 20 [capA c, .int .u8 how] s fun v s' => Ext s s' ∧ ∃ c' : Cp, c'.Fit ∧ v = capA c' := by
  refine Ev.intro rfl rfl rfl ?_
  have t12 : (how : Int).tmod 12 = ((how % 12 : Nat) : Int) := rfl
  have q12 : IntKind.u8.wrap ((how : Int) / 12) = ((how / 12 : Nat) : Int) := by
    simp [IntKind.wrap, IntKind.signed, IntKind.bits]
    omega
  obtain ⟨m, hm⟩ : ∃ m, m = how % 12 := ⟨_, rfl⟩
  obtain ⟨d, hd⟩ : ∃ d, d = how / 12 := ⟨_, rfl⟩
  rw [← hm] at t12
  rw [← hd] at q12
  have hm12 : m < 12 := by omega
  have r8 : (d : Int).tmod 8 = ((d % 8 : Nat) : Int) := rfl
  have r48 : (d : Int).tmod 48 = ((d % 48 : Nat) : Int) := rfl
  have r3 : (d : Int).tmod 3 = ((d % 3 : Nat) : Int) := rfl
  have r2 : (d : Int).tmod 2 = ((d % 2 : Nat) : Int) := rfl
  obtain ⟨d8, hd8⟩ : ∃ x, x = d % 8 := ⟨_, rfl⟩
  obtain ⟨d48, hd48⟩ : ∃ x, x = d % 48 := ⟨_, rfl⟩
  obtain ⟨d3, hd3⟩ : ∃ x, x = d % 3 := ⟨_, rfl⟩
  obtain ⟨d2, hd2⟩ : ∃ x, x = d % 2 := ⟨_, rfl⟩
  rw [← hd8] at r8
  rw [← hd48] at r48
  rw [← hd3] at r3
  rw [← hd2] at r2
  have n8 : ¬ (d8 : Int) < 0 := by omega
  have n48 : ¬ (d48 : Int) < 0 := by omega
  simp (maxDischargeDepth := 30) [pf20, pf20_13, capA, Cp.cells, pf20_12, pf20_11, t12]
  by_cases h0 : m = 0
  · subst h0
    simp (maxDischargeDepth := 30) [pf20_10, pf20_9, pf20_8, S.read, S.write, q12, r8, n8, pf20_0, -binV_xor]
    rw [binV_xor]
    obtain ⟨n, hn, hn2⟩ := wrapU8 (BitVec.ofInt IntKind.u8.bits (c.r : Int) ^^^ BitVec.ofInt IntKind.u8.bits (IntKind.u8.wrap (2 ^ min d8 IntKind.u8.bits))).toNat
    rw [hn]
    simp (maxDischargeDepth := 30) [S.read, S.write]
    exact ⟨⟨c.p, c.o, n, c.k⟩, ⟨hc.p, hc.o, hn2, hc.k⟩, rfl, rfl, rfl, rfl⟩
  have h0i : ¬ (m : Int) = 0 := by omega
  by_cases h1 : m = 1
  · subst h1
    simp (maxDischargeDepth := 30) [pf20_10, pf20_9, pf20_7, pf20_6, S.read, S.write, q12, r48, n48, pf20_0, -binV_xor]
    rw [binV_xor]
    obtain ⟨n, hn, hn2⟩ := wrapU64 (BitVec.ofInt IntKind.u64.bits (c.k : Int) ^^^ BitVec.ofInt IntKind.u64.bits (IntKind.u64.wrap (2 ^ min d48 IntKind.u64.bits))).toNat
    rw [hn]
    simp (maxDischargeDepth := 30) [S.read, S.write]
    exact ⟨⟨c.p, c.o, c.r, n⟩, ⟨hc.p, hc.o, hc.r, hn2⟩, rfl, rfl, rfl, rfl⟩
  have h1i : ¬ (m : Int) = 1 := by omega
  by_cases h2 : m = 2
  · subst h2
    simp (maxDischargeDepth := 30) [pf20_10, pf20_9, pf20_7, pf20_5, pf20_4, pf20_3, S.read, S.write, q12, r3, pf20_0]
    obtain ⟨n, hn, hn2⟩ := wrapU32 ((c.o : Int) + IntKind.u32.wrap (d3 : Int))
    rw [hn]
    exact ⟨⟨c.p, n, c.r, c.k⟩, ⟨hc.p, hn2, hc.r, hc.k⟩, rfl, rfl, rfl, rfl⟩
  have h2i : ¬ (m : Int) = 2 := by omega
  by_cases h3 : m = 3
  · subst h3
    simp (maxDischargeDepth := 30) [pf20_10, pf20_9, pf20_7, pf20_5, pf20_4, pf20_2, pf20_1, S.read, S.write, q12, r2, pf20_0, -binV_xor]
    rw [binV_xor]
    obtain ⟨n, hn, hn2⟩ := wrapU64 (BitVec.ofInt IntKind.u64.bits (c.p : Int) ^^^ BitVec.ofInt IntKind.u64.bits (IntKind.u64.wrap (d2 : Int))).toNat
    rw [hn]
    simp (maxDischargeDepth := 30) [S.read, S.write]
    exact ⟨⟨n, c.o, c.r, c.k⟩, ⟨hn2, hc.o, hc.r, hc.k⟩, rfl, rfl, rfl, rfl⟩
  have h3i : ¬ (m : Int) = 3 := by omega
  simp (maxDischargeDepth := 30) [h0, h0i, h1, h1i, h2, h2i, h3, h3i, pf20_10, pf20_9, pf20_7, pf20_5, pf20_4, pf20_2, S.read, S.write, pf20_0]
  exact ⟨c, hc, rfl, rfl, rfl, rfl⟩
end Go.Ab
/-! 'ObjectsForged' over the abstract machine. -/
namespace Go.Ab

theorem spoilt_ok (c : Cp) (s : S) : Ev tab 23 [capA c] s fun v s' => Ext s s' ∧ v = .bool (decide (c.k ∈ spreadL 40)) := by
  refine Ev.intro rfl rfl rfl ?_
  obtain ⟨s0, hs0⟩ : ∃ s0, s0 = s.new (.cells c.cells 0 false) := ⟨_, rfl⟩
  have x0 : Ext s s0 := by rw [hs0]; simp
  have g0 : Bx s0 s.ctr c [] := ⟨by rw [hs0]; simp, by rw [hs0]; simp, by simp⟩
  simp [pf23, pf23_10, Cp.cells_flat, ← hs0, pf23_9, pf23_8]
  refine Ev.mono (spread_ok 40 (by omega) s0) ?_
  rintro v s1 ⟨hx1, hN⟩
  have b1 := g0.ext hx1
  have wl := hN.wlen
  rw [spread_len] at wl
  simp [wl]
  refine WpC.loop (fun m r' s' => ∃ i, i ≤ 40 ∧ m = 40 - i ∧ r' 1 = .ptr s.ctr 0 ∧ r' 5 = v ∧ r' 6 = .int .i64 40 ∧ r' 7 = .int .i64 (i : Nat) ∧ c.k ∉ (spreadL 40).take i ∧ s' = s1) (m := 40) ?_ ?_
  · exact ⟨0, by omega, rfl, by simp, by simp, by simp, by simp, by simp, rfl⟩
  rintro m r' s' ⟨i, hi, rfl, e1, e5, e6, e7, hno, rfl⟩
  have hxx := x0.trans hx1
  by_cases hlt : i < 40
  · obtain ⟨y, hy⟩ : ∃ y, (spreadL 40)[i]? = some y := ⟨_, List.getElem?_eq_getElem (by rw [spread_len]; exact hlt)⟩
    obtain ⟨A, cap, opn, rfl, hrd⟩ := hN.elem (Ext.refl s') hy
    have hl : i < (spreadL 40).length := by rw [spread_len]; exact hlt
    have w1 : IntKind.i64.wrap ((i : Int) + 1) = ((i + 1 : Nat) : Int) := by rw [wrap_i64] <;> omega
    have hlt' : (i : Int) < 40 := by omega
    by_cases hk : c.k = y
    · have hmem : c.k ∈ spreadL 40 := by rw [hk]; exact List.mem_of_getElem? hy
      simp [pf23_7, pf23_6, e7, e6, hlt', pf23_4, pf23_3, e5, hl, hrd, pf23_2, e1, b1.rd3, hk, pf23_1]
      refine ⟨hxx, ?_⟩
      rw [← hk]; exact hmem
    · have hki : ¬ (c.k : Int) = y := by omega
      simp [pf23_7, pf23_6, e7, e6, hlt', pf23_4, pf23_3, e5, hl, hrd, pf23_2, e1, b1.rd3, hk, hki, pf23_5, w1, -Int.natCast_add]
      refine ⟨40 - (i + 1), by omega, i + 1, by omega, rfl, rfl, ?_⟩
      rw [List.take_add_one, hy]
      simp [hno, hk]
  · obtain rfl : i = 40 := by omega
    rw [List.take_of_length_le (by simp [spread_len])] at hno
    simp [pf23_7, pf23_6, e7, e6, pf23_0]
    exact ⟨hxx, hno⟩

theorem eqV_cp (a b : Cp) : eqV .st (.agg a.cells) (.agg b.cells) = some (decide (a = b)) := by
  simp only [Cp.cells, eqV_st]
  congr 1
  apply decide_eq_decide.2
  cases a; cases b
  simp only [Cp.mk.injEq, Int.natCast_inj]

theorem rows_read {s : S} {b sz : Nat} {l : List Cp} {ro : Bool} (hg : s.get b = some (.cells (rowsOf Cp.cells l) sz ro)) {i : Nat} {c : Cp} (hi : l[i]? = some c) : s.read b (i * 4) 4 = some c.cells := by
  have hil := (List.getElem?_eq_some_iff.1 hi).1
  have hlen := rowsOf_length (f := Cp.cells) (sz := 4) Cp.cells_length l
  rw [rd hg (by omega), rowsOf_part Cp.cells_length hi]
end Go.Ab
/-! 'ObjectsForged' over the abstract machine: the law. -/
namespace Go.Ab

theorem Bx.wr3 {s : S} {i : Nat} {c : Cp} {F : List Nat} (h : Bx s i c F) (x : Nat) : s.write i 3 [.int .u64 (x : Int)] = some (s.set i (some (.cells (Cp.cells { c with k := x }) 0 false))) := by
  rw [wrc h.get (by simp) (by simp)]
  rfl
theorem Bx.wr4 {s : S} {i : Nat} {c c' : Cp} {F : List Nat} (h : Bx s i c F) : s.write i 0 c'.cells = some (s.set i (some (.cells c'.cells 0 false))) := by
  rw [wrc h.get (by simp) (Cp.cells_flat _), over4 _ _ (by simp)]
theorem Bx.put {s : S} {i : Nat} {c c' : Cp} {F : List Nat} (h : Bx s i c F) : Bx (s.set i (some (.cells c'.cells 0 false))) i c' F := ⟨by simp, by simpa using h.lt, h.out⟩
theorem Bx.keep {s : S} {i j : Nat} {c : Cp} {F : List Nat} {o : Option AO} (h : Bx s i c F) (hij : ¬ i = j) : Bx (s.set j o) i c F := ⟨by rw [S.get_set, if_neg hij]; exact h.get, by simpa using h.lt, h.out⟩

/-- A capability that was told. -/
theorem Orc.knows_check {T : Tbl} {c : Cp} {x : Ob} (hp : c.p = T.port) (hg : T.get c.o = some x) (hk : T.orc.knows x.secret c.r c.k) (need : Nat) : T.check c need = (if c.r &&& need ≠ need then (0, some 2) else (c.o, none), T) := by
  rw [Tbl.check_ok hp hg (Orc.knows_tok hk)]

def tblForged (q : Orc) (d1 d2 s : Nat) : Tbl := ⟨7, q, [ob d1 1, { ob d2 2 with secret := s, epoch := 1 }]⟩
theorem forged_good {q : Orc} {d1 d2 s y mask : Nat} (h1 : q.knows d1 255 d1) (h2 : q.knows d1 mask y) (h3 : q.knows s 255 s) {c : Cp} (hc : c ∈ [(⟨7, 0, 255, d1⟩ : Cp), ⟨7, 0, mask, y⟩, ⟨7, 1, 255, s⟩]) (need : Nat) :
    (tblForged q d1 d2 s).check c need = (if c.r &&& need ≠ need then (0, some 2) else (c.o, none), tblForged q d1 d2 s) := by
  simp only [List.mem_cons, List.not_mem_nil, or_false] at hc
  rcases hc with rfl | rfl | rfl
  · exact Orc.knows_check (x := ob d1 1) rfl rfl h1 need
  · exact Orc.knows_check (x := ob d1 1) rfl rfl h2 need
  · exact Orc.knows_check (x := { ob d2 2 with secret := s, epoch := 1 }) rfl rfl h3 need

/-- The law's end: a capability is held against those that were told, and checked. -/
theorem forged_end {T : Tbl} {F : List Nat} {tp i : Nat} (a r n : Cp) (need : Nat) (hn : need < 256) (hrs : T.orc.rs.length ≤ 100)
    (hgood : ∀ c ∈ [a, r, n], (T.check c need).1.2 = if c.r &&& need ≠ need then some 2 else none) (hbad : ∀ c : Cp, c.r < 256 → (T.check c need).1 = (0, some 1) ∨ c.k ∈ spreadL 40)
    {t : S} (hT : Tb t tp T F) {c : Cp} (hc : c.Fit) (hb : Bx t i c F) {b : Nat} (hbn : b ≠ i) (hbl : b < t.ctr) (hbF : b ∉ F) (hg : t.get b = some (.cells (rowsOf Cp.cells [a, r, n]) 0 false))
    {R : Regs} (e2 : R 2 = .int .u8 need) (e4 : R 4 = .ptr i 0) (e9 : R 9 = .ptr tp 0) (e18 : R 18 = .slice b 0 3 3 false) :
    WpC tab pf3_13 R t (seqK tab (pf3_12.seq pf3_11) (FinP [PR.tmp 8] fun v _ => v = .bool true)) := by
  have hcut := b48' c.k
  obtain ⟨x, hx⟩ : ∃ x, x = c.k % w48 := ⟨_, rfl⟩
  have hxw : x < w48 := by rw [hx]; exact Nat.mod_lt _ (by decide)
  rw [← hx] at hcut
  obtain ⟨c2, hc2⟩ : ∃ c2 : Cp, c2 = { c with k := x } := ⟨_, rfl⟩
  have hw3 := hb.wr3 x
  rw [← hc2] at hw3
  have fc2 : c2.Fit := by rw [hc2]; exact ⟨hc.p, hc.o, hc.r, by unfold w48 at hxw; simp only; omega⟩
  have b2 : Bx (t.set i (some (.cells c2.cells 0 false))) i c2 F := hb.put
  have hT2 : Tb (t.set i (some (.cells c2.cells 0 false))) tp T F := hT.setOut hb.out
  obtain ⟨t2, ht2⟩ : ∃ t2, t2 = t.set i (some (.cells c2.cells 0 false)) := ⟨_, rfl⟩
  rw [← ht2] at hw3 b2 hT2
  have g2 : t2.get b = some (.cells (rowsOf Cp.cells [a, r, n]) 0 false) := by rw [ht2, S.get_set, if_neg hbn, hg]
  have hbl2 : b < t2.ctr := by rw [ht2]; exact hbl
  simp [pf3_13, e4, hb.rd3, hcut, hw3, -binV_and]
  simp [pf3_12, pf3_11, pf3_10, e18]
  refine WpC.loop (fun m r' s' => ∃ k, k ≤ 3 ∧ m = 3 - k ∧ r' 2 = .int .u8 need ∧ r' 4 = .ptr i 0 ∧ r' 9 = .ptr tp 0 ∧ r' 90 = .slice b 0 3 3 false ∧ r' 91 = .int .i64 3 ∧ r' 92 = .int .i64 (k : Nat) ∧ r' 19 = .bool (decide (c2 ∈ [a, r, n].take k)) ∧ Ext t2 s') (m := 3) ?_ ?_
  · exact ⟨0, by omega, rfl, by simp [e2], by simp [e4], by simp [e9], by simp, by simp, by simp, by simp, Ext.refl _⟩
  rintro m r' s' ⟨k, hk, rfl, q2, q4, q9, q90, q91, q92, q19, hx'⟩
  have b2' := b2.ext hx'
  have hT' := hT2.ext hx'
  by_cases hlt : k < 3
  · obtain ⟨z, hz⟩ : ∃ z, [a, r, n][k]? = some z := ⟨_, List.getElem?_eq_getElem (by simpa using hlt)⟩
    have hrd := rows_read (s := s') (by rw [hx'.get b hbl2, g2]) hz
    have hlt' : (k : Int) < 3 := by omega
    have w1 : IntKind.i64.wrap ((k : Int) + 1) = ((k + 1 : Nat) : Int) := by rw [wrap_i64] <;> omega
    obtain ⟨x3, b3, c3⟩ := box_new (F := F) (s := s') [.int .u64 0, .int .u32 0, .int .u8 0, .int .u64 0] z hT'.lt
    have b2'' := b2'.ext x3
    obtain ⟨u, hu⟩ : ∃ u, u = (s'.new (.cells [.int .u64 0, .int .u32 0, .int .u8 0, .int .u64 0] 0 false)).set s'.ctr (some (.cells z.cells 0 false)) := ⟨_, rfl⟩
    rw [← hu] at x3 b3 c3 b2''
    have hdec : decide (c2 ∈ [a, r, n].take (k + 1)) = (decide (c2 ∈ [a, r, n].take k) || decide (z = c2)) := by
      rw [List.take_add_one, hz]
      have e : (z = c2) = (c2 = z) := propext eq_comm
      simp [List.mem_append, e]
    obtain ⟨is, his⟩ : ∃ is, is = decide (c2 ∈ [a, r, n].take k) := ⟨_, rfl⟩
    rw [← his] at q19 hdec
    simp [pf3_9, q92, q91, hlt', pf3_8, pf3_6, q90, hlt, hrd, write_new, ← hu]
    cases is with
    | true =>
      simp [pf3_5, q19, pf3_7, q92, w1, q2, q4, q9, q90, q91, -Int.natCast_add]
      refine ⟨3 - (k + 1), by omega, k + 1, by omega, rfl, rfl, ?_, hx'.trans x3⟩
      simpa using hdec.symm
    | false =>
      simp [pf3_5, q19, q4, b3.rd4, b2''.rd4, eqV_cp, pf3_7, q92, w1, q2, q9, q90, q91, -Int.natCast_add]
      refine ⟨3 - (k + 1), by omega, k + 1, by omega, rfl, rfl, ?_, hx'.trans x3⟩
      rw [Bool.false_or] at hdec
      exact (decide_eq_decide.1 hdec).symm
  · obtain rfl : k = 3 := by omega
    rw [List.take_of_length_le (by simp)] at q19
    simp [pf3_9, q92, q91, pf3_8, pf3_4, q9, q4, q2, b2'.rd4]
    obtain ⟨ke, T', hchk⟩ : ∃ ke T', T.check c2 need = (ke, T') := ⟨_, _, rfl⟩
    obtain ⟨kk, e⟩ := ke
    refine Ev.mono (check_eq hT' (by omega) fc2 hn hchk) ?_
    rintro v s3 ⟨hc3, F3, hg3, hT3, rfl⟩
    have b3 := b2'.step hc3 hg3
    by_cases his : c2 ∈ [a, r, n]
    · have hgd := hgood c2 his
      rw [hchk] at hgd
      simp only at hgd
      have hb8 := band8 c2.r need fc2.r hn
      obtain ⟨mm, hmm⟩ : ∃ mm, mm = c2.r &&& need := ⟨_, rfl⟩
      rw [← hmm] at hb8 hgd
      simp only [his, decide_true] at q19
      by_cases hq : mm = need
      · rw [if_neg (by simpa using hq)] at hgd
        subst hgd
        simp [idxE, errV, pf3_3, pf3_2, q19, pf3_0, q4, b3.rd2, q2, hb8, hq, -binV_and]
      · have hqi : ¬ (mm : Int) = need := by omega
        rw [if_pos hq] at hgd
        subst hgd
        simp [idxE, errV, pf3_3, pf3_2, q19, pf3_0, q4, b3.rd2, q2, hb8, hqi, -binV_and]
        refine ev_num ?_
        simp
    · simp only [his, decide_false] at q19
      have hbb := hbad c2 fc2.r
      rw [hchk] at hbb
      simp [idxE, pf3_3, pf3_2, q19, pf3_1]
      have num : ∀ (Q : AV → S → Prop), (∀ j : Int, (j = 1 ∨ c2.k ∈ spreadL 40) → Q (.int .i64 j) s3) → Ev tab 22 [errV e] s3 Q := by
        intro Q hQ
        cases e with
        | none =>
          refine ev_num0 (hQ 0 (.inr ?_))
          rcases hbb with h | h
          · simp at h
          · exact h
        | some j =>
          refine ev_num (hQ j ?_)
          rcases hbb with h | h
          · simp at h; exact .inl h.2
          · exact .inr h
      refine num _ ?_
      intro j hj
      by_cases h1 : j = 1
      · subst h1
        simp
      · rcases hj with h | h
        · exact absurd h h1
        · simp [h1, q4, b3.rd4]
          refine Ev.mono (spoilt_ok c2 s3) ?_
          rintro v s4 ⟨hx4, rfl⟩
          simp [h]

/-- The law's middle: which capability is held against the others. -/
theorem forged_mid {T : Tbl} {F : List Nat} {tp i j : Nat} (a r n : Cp) (need : Nat) (hn : need < 256) (hrs : T.orc.rs.length ≤ 100) (own : Nat) (ho : own < 256)
    (hgood : ∀ c ∈ [a, r, n], (T.check c need).1.2 = if c.r &&& need ≠ need then some 2 else none) (hbad : ∀ c : Cp, c.r < 256 → (T.check c need).1 = (0, some 1) ∨ c.k ∈ spreadL 40)
    {t : S} (hT : Tb t tp T F) {c : Cp} (hc : c.Fit) (hb : Bx t i c F) {c2 : Cp} (hc2 : c2.Fit) (hb2 : Bx t j c2 F) {b : Nat} (hbn : b ≠ i) (hbl : b < t.ctr) (hbF : b ∉ F) (hg : t.get b = some (.cells (rowsOf Cp.cells [a, r, n]) 0 false)) (hf : a.Fit ∧ r.Fit ∧ n.Fit)
    {R : Regs} (e2 : R 2 = .int .u8 need) (e3 : R 3 = .int .u8 own) (e4 : R 4 = .ptr i 0) (e9 : R 9 = .ptr tp 0) (e12 : R 12 = .ptr j 0) (e18 : R 18 = .slice b 0 3 3 false) :
    WpC tab pf3_17 R t (seqK tab (PC.cond (Opd.r 73) pf3_16 PC.skip) (seqK tab pf3_18 (FinP [PR.tmp 8] fun v _ => v = .bool true))) := by
  have t5 : (own : Int).tmod 5 = ((own % 5 : Nat) : Int) := rfl
  have q5 : IntKind.u8.wrap ((own : Int) / 5) = ((own / 5 : Nat) : Int) := by
    simp [IntKind.wrap, IntKind.signed, IntKind.bits]
    omega
  obtain ⟨m, hm⟩ : ∃ m, m = own % 5 := ⟨_, rfl⟩
  obtain ⟨d, hd⟩ : ∃ d, d = own / 5 := ⟨_, rfl⟩
  rw [← hm] at t5
  rw [← hd] at q5
  have fin : ∀ (R : Regs) (t : S) (c : Cp) (F : List Nat), Tb t tp T F → c.Fit → Bx t i c F → b < t.ctr → b ∉ F → t.get b = some (.cells (rowsOf Cp.cells [a, r, n]) 0 false) → R 2 = .int .u8 need → R 4 = .ptr i 0 → R 9 = .ptr tp 0 → R 18 = .slice b 0 3 3 false →
      WpC tab pf3_13 R t (seqK tab (pf3_12.seq pf3_11) (FinP [PR.tmp 8] fun v _ => v = .bool true)) :=
    fun R t c F h1 h2 h3 h4 h5 h6 h7 h8 h9 h10 => forged_end a r n need hn hrs hgood hbad h1 h2 h3 hbn h4 h5 h6 h7 h8 h9 h10
  by_cases h3 : m < 3
  · obtain ⟨z, hz⟩ : ∃ z, [a, r, n][m]? = some z := ⟨_, List.getElem?_eq_getElem (by simpa using h3)⟩
    have hrd := rows_read hg hz
    have hzf : z.Fit := by
      have := List.mem_of_getElem? hz
      simp only [List.mem_cons, List.not_mem_nil, or_false] at this
      rcases this with rfl | rfl | rfl
      · exact hf.1
      · exact hf.2.1
      · exact hf.2.2
    have h3i : (m : Int) < 3 := by omega
    have hm3 : ¬ (m : Int) = 3 := by omega
    simp [pf3_17, e3, t5, h3i, pf3_16, e18, h3, hrd, q5]
    refine Ev.mono (change_ok hzf d (by omega) t) ?_
    rintro v t2 ⟨hx2, c3, hc3, rfl⟩
    have hb' := hb.ext hx2
    have w := hb'.wr4 (c' := c3)
    simp [e4, w, pf3_18, pf3_15, e3, t5, hm3]
    have := hx2.ctr
    exact fin _ _ c3 F ((hT.ext hx2).setOut hb.out) hc3 hb'.put (by simp; omega) hbF (by rw [S.get_set, if_neg hbn, hx2.get b hbl, hg]) (by simp [e2]) (by simp [e4]) (by simp [e9]) (by simp [e18])
  · have h3i : ¬ (m : Int) < 3 := by omega
    by_cases hm3 : m = 3
    · have hm3i : (m : Int) = 3 := by omega
      have w := hb.wr4 (c' := c2)
      simp [pf3_17, e3, t5, h3i, pf3_18, pf3_15, hm3i, pf3_14, e12, hb2.rd4, e4, w]
      exact fin _ _ c2 F (hT.setOut hb.out) hc2 hb.put (by simpa using hbl) hbF (by rw [S.get_set, if_neg hbn, hg]) (by simp [e2]) (by simp [e4]) (by simp [e9]) (by simp [e18])
    · have hm3i : ¬ (m : Int) = 3 := by omega
      simp [pf3_17, e3, t5, h3i, pf3_18, pf3_15, hm3i]
      exact fin _ _ c F hT hc hb hbl hbF hg (by simp [e2]) (by simp [e4]) (by simp [e9]) (by simp [e18])

set_option maxRecDepth 10000 in
set_option maxHeartbeats 1000000 in
theorem forged_ok {c : Cp} (hc : c.Fit) (mask need own : Nat) (hm : mask < 256) (hn : need < 256) (ho : own < 256) (s : S) : Ev tab 3 [capA c, .int .u8 mask, .int .u8 need, .int .u8 own] s fun v _ => v = .bool true := by
  refine Ev.intro rfl rfl rfl ?_
  obtain ⟨s0, hs0⟩ : ∃ s0, s0 = s.new (.cells c.cells 0 false) := ⟨_, rfl⟩
  have x0 : Ext s s0 := by rw [hs0]; simp
  have g0 : Bx s0 s.ctr c [] := ⟨by rw [hs0]; simp, by rw [hs0]; simp, by simp⟩
  have c0 : s0.ctr = s.ctr + 1 := by rw [hs0]; rfl
  simp [pf3, pf3_33, Cp.cells_flat, ← hs0, pf3_32, pf3_31]
  refine ev_awake23 ?_
  simp [pf3_29]
  refine Ev.mono (spread_ok 40 (by omega) s0) ?_
  rintro v s1 ⟨hx1, hN⟩
  simp
  refine Ev.mono (tapeOf_ok hN (by simp [spread_len])) ?_
  rintro v s2 ⟨hx2, tp0, F0, rfl, hTp, hF0⟩
  simp
  refine Ev.mono (oracleOf_ok hTp) ?_
  rintro v s3 ⟨hx3, op, F1, rfl, hO, hg1⟩
  simp
  refine Ev.mono (objectsOf_ok hO 7) ?_
  rintro v s4 ⟨hx4, tp, rfl, htp, hT⟩
  obtain ⟨hx, hT, hF⟩ := tbl_ready (by omega) hx1 hx2 hF0 hx3 hg1 hx4 htp hT
  have hcl := spread_clean (n := 40) (by omega)
  have hw : ∀ y ∈ spreadL 40, y < w48 := spread_w (by omega)
  have hel := spread_len 40
  obtain ⟨es, hes⟩ : ∃ es, es = spreadL 40 := ⟨_, rfl⟩
  rw [← hes] at hT hcl hw hel
  have ok0 : Tbl.Ok ⟨7, ⟨[], es, 0⟩, []⟩ := Tbl.Ok.fresh (by omega) hw
  obtain ⟨d1, d2, sec, y, q3, q4, e1, e2, e3, e4, fair, hq4, hat4, kn1, kn2, kn3⟩ := forged_run es hcl (by omega) mask hm
  have bc : Bx s4 s.ctr c (tp :: F1) := ⟨(g0.ext hx).get, (g0.ext hx).lt, fun h => by have := hF _ h; omega⟩
  have s1' := Tbl.create_step ⟨7, ⟨[], es, 0⟩, []⟩ 1
  rw [e1] at s1'
  have f1 := Tbl.create_fit ok0 1
  rw [e1] at f1
  have s2' := Tbl.create_step ⟨7, ⟨[], es, 1⟩, [ob d1 1]⟩ 2
  rw [e2] at s2'
  have f2 := Tbl.create_fit (s1'.ok ok0) 2
  rw [e2] at f2
  have s3' := Tbl.restrict_step ⟨7, ⟨[], es, 2⟩, [ob d1 1, ob d2 2]⟩ ⟨7, 0, 255, d1⟩ mask
  rw [e3] at s3'
  have f3 := Tbl.restrict_fit (s2'.ok (s1'.ok ok0)) f1 mask
  rw [e3] at f3
  have s4' := Tbl.revoke_step ⟨7, q3, [ob d1 1, ob d2 2]⟩ ⟨7, 1, 255, d2⟩
  rw [e4] at s4'
  have f4 := Tbl.revoke_fit (s3'.ok (s2'.ok (s1'.ok ok0))) f2
  rw [e4] at f4
  have ok1 := s1'.ok ok0
  have ok2 := s2'.ok ok1
  have ok3 := s3'.ok ok2
  have r3 := s3'.rs
  have r4 := s4'.rs
  simp only [List.length_nil] at r3
  obtain ⟨T1, hT1⟩ : ∃ T1 : Tbl, T1 = ⟨7, ⟨[], es, 1⟩, [ob d1 1]⟩ := ⟨_, rfl⟩
  obtain ⟨T2, hT2⟩ : ∃ T2 : Tbl, T2 = ⟨7, ⟨[], es, 2⟩, [ob d1 1, ob d2 2]⟩ := ⟨_, rfl⟩
  obtain ⟨T3, hT3⟩ : ∃ T3 : Tbl, T3 = ⟨7, q3, [ob d1 1, ob d2 2]⟩ := ⟨_, rfl⟩
  obtain ⟨T4, hT4⟩ : ∃ T4 : Tbl, T4 = tblForged q4 d1 d2 sec := ⟨_, rfl⟩
  obtain ⟨a, ha⟩ : ∃ a : Cp, a = ⟨7, 0, 255, d1⟩ := ⟨_, rfl⟩
  obtain ⟨b, hb⟩ : ∃ a : Cp, a = ⟨7, 1, 255, d2⟩ := ⟨_, rfl⟩
  obtain ⟨r, hr⟩ : ∃ a : Cp, a = ⟨7, 0, mask, y⟩ := ⟨_, rfl⟩
  obtain ⟨n, hnn⟩ : ∃ a : Cp, a = ⟨7, 1, 255, sec⟩ := ⟨_, rfl⟩
  have hgood : ∀ c ∈ [a, r, n], (T4.check c need).1.2 = if c.r &&& need ≠ need then some 2 else none := by
    intro c hc
    rw [ha, hr, hnn] at hc
    rw [hT4, forged_good kn1 kn2 kn3 hc need]
    split <;> rfl
  have hbad : ∀ c : Cp, c.r < 256 → (T4.check c need).1 = (0, some 1) ∨ c.k ∈ spreadL 40 := by
    intro c hc
    rw [hT4, ← hes]
    have := fair.check_or (c := c) hc (by rw [hq4]; exact hat4) need
    rw [hq4] at this
    exact this
  rw [← hT1, ← ha] at e1
  rw [← hT1, ← hT2, ← hb] at e2
  rw [← hT2, ← hT3, ← ha, ← hr] at e3
  rw [← hT3, ← hb, ← hnn] at e4
  replace e4 : T3.revoke b = ((n, none), T4) := by rw [e4, hT4]; rfl
  replace f1 : a.Fit := by rw [ha]; exact f1
  replace f2 : b.Fit := by rw [hb]; exact f2
  replace f3 : r.Fit := by rw [hr]; exact f3
  replace f4 : n.Fit := by rw [hnn]; exact f4
  replace ok1 : T1.Ok := by rw [hT1]; exact ok1
  replace ok2 : T2.Ok := by rw [hT2]; exact ok2
  replace ok3 : T3.Ok := by rw [hT3]; exact ok3
  replace r3 : T3.orc.rs.length ≤ 2 := by rw [hT3]; simpa using r3
  have r2 : T2.orc.rs.length ≤ 2 := by rw [hT2]; simp
  replace r4 : T4.orc.rs.length ≤ 4 := by rw [hT3] at r3; rw [hT4]; exact Nat.le_trans r4 (by simp only at r3 ⊢; omega)
  have hi1 := bc.lt
  simp [pf3_28, pf3_27]
  refine Ev.mono (create_eq hT ok0 e1) ?_
  rintro v s5 ⟨hc5, F5, hg5, hT5, rfl⟩
  replace bc := bc.step hc5 hg5
  obtain ⟨x6, b6, k6⟩ := box_new (F := F5) (s := s5) [.int .u64 0, .int .u32 0, .int .u8 0, .int .u64 0] a hT5.lt
  simp [capE, errV, write_new]
  obtain ⟨s6, hs6⟩ : ∃ t, t = (s5.new (.cells [.int .u64 0, .int .u32 0, .int .u8 0, .int .u64 0] 0 false)).set s5.ctr (some (.cells (Cp.cells a) 0 false)) := ⟨_, rfl⟩
  rw [← hs6] at x6 b6 k6 ⊢
  replace hT5 := hT5.ext x6
  replace bc := bc.ext x6
  simp [pf3_26]
  refine Ev.mono (create_eq hT5 ok1 e2) ?_
  rintro v s7 ⟨hc7, F7, hg7, hT7, rfl⟩
  replace bc := bc.step hc7 hg7
  replace b6 := b6.step hc7 hg7
  obtain ⟨x8, b8, k8⟩ := box_new (F := F7) (s := s7) [.int .u64 0, .int .u32 0, .int .u8 0, .int .u64 0] b hT7.lt
  simp [capE, errV, write_new]
  obtain ⟨s8, hs8⟩ : ∃ t, t = (s7.new (.cells [.int .u64 0, .int .u32 0, .int .u8 0, .int .u64 0] 0 false)).set s7.ctr (some (.cells (Cp.cells b) 0 false)) := ⟨_, rfl⟩
  rw [← hs8] at x8 b8 k8 ⊢
  replace hT7 := hT7.ext x8
  replace bc := bc.ext x8
  replace b6 := b6.ext x8
  simp [pf3_25, b6.rd4]
  refine Ev.mono (restrict_eq hT7 (by omega) f1 hm e3) ?_
  rintro v s9 ⟨hc9, F9, hg9, hT9, rfl⟩
  replace bc := bc.step hc9 hg9
  replace b6 := b6.step hc9 hg9
  replace b8 := b8.step hc9 hg9
  obtain ⟨x10, b10, k10⟩ := box_new (F := F9) (s := s9) [.int .u64 0, .int .u32 0, .int .u8 0, .int .u64 0] r hT9.lt
  simp [capE, errV, write_new]
  obtain ⟨s10, hs10⟩ : ∃ t, t = (s9.new (.cells [.int .u64 0, .int .u32 0, .int .u8 0, .int .u64 0] 0 false)).set s9.ctr (some (.cells (Cp.cells r) 0 false)) := ⟨_, rfl⟩
  rw [← hs10] at x10 b10 k10 ⊢
  replace hT9 := hT9.ext x10
  replace bc := bc.ext x10
  replace b6 := b6.ext x10
  replace b8 := b8.ext x10
  simp [pf3_24, b8.rd4]
  refine Ev.mono (revoke_eq hT9 ok3 (by omega) f2 e4) ?_
  rintro v s11 ⟨hc11, F11, hg11, hT11, rfl⟩
  replace bc := bc.step hc11 hg11
  replace b6 := b6.step hc11 hg11
  replace b8 := b8.step hc11 hg11
  replace b10 := b10.step hc11 hg11
  obtain ⟨x12, b12, k12⟩ := box_new (F := F11) (s := s11) [.int .u64 0, .int .u32 0, .int .u8 0, .int .u64 0] n hT11.lt
  simp [capE, errV, write_new]
  obtain ⟨s12, hs12⟩ : ∃ t, t = (s11.new (.cells [.int .u64 0, .int .u32 0, .int .u8 0, .int .u64 0] 0 false)).set s11.ctr (some (.cells (Cp.cells n) 0 false)) := ⟨_, rfl⟩
  rw [← hs12] at x12 b12 k12 ⊢
  replace hT11 := hT11.ext x12
  replace bc := bc.ext x12
  replace b6 := b6.ext x12
  replace b8 := b8.ext x12
  replace b10 := b10.ext x12
  simp [pf3_23, pf3_21, pf3_22, pf3_19, b6.rd4, b10.rd4, b12.rd4, Cp.cells]
  have xz : Ext s12 (s12.new (.cells (rowsOf Cp.cells [a, r, n]) 0 false)) := by simp
  have n1 : s.ctr < s12.ctr := bc.lt
  exact forged_mid a r n need hn (by omega) own ho hgood hbad (hT11.ext xz) hc (bc.ext xz) f2 (b8.ext xz) (b := s12.ctr) (by omega) (by simp) (fun h => by have := hT11.lt _ h; omega) (by simp) ⟨f1, f3, f4⟩ (by simp) (by simp) (by simp) (by simp) (by simp) (by simp)
end Go.Ab
/-! 'ObjectsGone' over the abstract machine. -/
namespace Go.Ab

@[simp] theorem Cp.flat_all (c : Cp) : (∀ x, x ∈ c.cells → isFlat x = true) ↔ True := ⟨fun _ => trivial, fun _ x hx => List.all_eq_true.1 c.cells_flat x hx⟩

/-- A capability behind others. -/
theorem cap_app {s : S} {v : AV} {l : List Cp} {F : List Nat} (c : Cp) (h : OwnR Cp.cells 4 s v l F) (hl : l.length ≤ 5000000000000) {Q : AV → S → Prop} (hq : ∀ v' s' F', OwnR Cp.cells 4 s' v' (l ++ [c]) F' → Chg F s s' → Grow F F' s.ctr → Q v' s') :
    cont ((s.new (.cells c.cells 0 false)).app 4 24 v (.slice s.ctr 0 1 1 false)) Q := by
  refine cont_app_ownF (m := 1) (ds := c.cells) (OwnF.ext h (by simp)) rfl ?_ rfl (Cp.cells_flat c) (rowsOf_flat Cp.cells_flat _) (by omega) (by omega) (by omega) ?_
  · simp [S.cellsOf, S.read]; rfl
  intro v' s' F' hO hc hg
  have x : Ext s (s.new (.cells c.cells 0 false)) := by simp
  refine hq v' s' F' ?_ ((x.chg _).trans hc) (hg.le (by simp))
  unfold OwnR
  simpa [rowsOf_append, rowsOf_cons] using hO

def goneCaps (es : List Nat) (k : Nat) : List Cp := (List.range k).map fun i => ⟨7, i, 255, es.getD i 0⟩

set_option maxRecDepth 10000 in
set_option maxHeartbeats 1000000 in
theorem gone_ok (mask n : Nat) (hm : mask < 256) (hn : n < 256) (s : S) : Ev tab 6 [.int .u8 mask, .int .u8 n] s fun v _ => v = .bool true := by
  refine Ev.intro rfl rfl rfl ?_
  simp [pf6, pf6_22, pf6_21, pf6_20]
  refine ev_awake23 ?_
  simp [pf6_18]
  refine Ev.mono (spread_ok 40 (by omega) s) ?_
  rintro v s1 ⟨hx1, hN⟩
  simp
  refine Ev.mono (tapeOf_ok hN (by simp [spread_len])) ?_
  rintro v s2 ⟨hx2, tp0, F0, rfl, hTp, hF0⟩
  simp
  refine Ev.mono (oracleOf_ok hTp) ?_
  rintro v s3 ⟨hx3, op, F1, rfl, hO, hg1⟩
  simp
  refine Ev.mono (objectsOf_ok hO 7) ?_
  rintro v s4 ⟨hx4, tp, rfl, htp, hT⟩
  obtain ⟨hx, hT, hF⟩ := tbl_ready (by omega) hx1 hx2 hF0 hx3 hg1 hx4 htp hT
  have hcl := spread_clean (n := 40) (by omega)
  have hw : ∀ y ∈ spreadL 40, y < w48 := spread_w (by omega)
  have hel := spread_len 40
  obtain ⟨es, hes⟩ : ∃ es, es = spreadL 40 := ⟨_, rfl⟩
  rw [← hes] at hT hcl hw hel
  have t8 : (n : Int).tmod 8 = ((n % 8 : Nat) : Int) := rfl
  obtain ⟨N, hN8⟩ : ∃ N, N = n % 8 := ⟨_, rfl⟩
  rw [← hN8] at t8
  have hN7 : N < 8 := by omega
  have wN : IntKind.i64.wrap (N : Int) = N := by rw [wrap_i64] <;> omega
  have okk : ∀ k, k ≤ 40 → Tbl.Ok ⟨7, ⟨[], es, k⟩, objs es k⟩ := by
    intro k
    induction k with
    | zero => intro _; exact Tbl.Ok.fresh (by omega) hw
    | succ k ih =>
      intro hk
      have h1 := (Tbl.create_step _ k).ok (ih (by omega))
      rw [objs_create es k (by omega) (by omega)] at h1
      exact h1
  simp [pf6_17, pf6_16, pf6_15]
  refine WpC.loop (fun m r' s' => ∃ k F Fh, k ≤ N + 1 ∧ m = N + 1 - k ∧ r' 0 = .int .u8 mask ∧ r' 1 = .int .u8 n ∧ r' 5 = .ptr tp 0 ∧ r' 7 = .int .i64 (k : Nat) ∧ Tb s' tp ⟨7, ⟨[], es, k⟩, objs es k⟩ F ∧ OwnR Cp.cells 4 s' (r' 6) (goneCaps es k) Fh ∧ Apart F Fh) (m := N + 1) ?_ ?_
  · exact ⟨0, _, [], by omega, rfl, by simp, by simp, by simp, by simp, hT, OwnF.nil _ _, fun _ _ => by simp⟩
  rintro m r' s' ⟨k, F, Fh, hk, rfl, e0, e1, e5, e7, hTk, hOk, hap⟩
  by_cases hlt : k ≤ N
  · have hlt' : (k : Int) ≤ N := by omega
    have w1 : IntKind.i64.wrap ((k : Int) + 1) = ((k + 1 : Nat) : Int) := by rw [wrap_i64] <;> omega
    simp [pf6_14, pf6_13, e7, e1, t8, wN, hlt', pf6_11, e5]
    refine Ev.mono (create_eq hTk (okk k (by omega)) (objs_create es k (by omega) (by omega))) ?_
    rintro v s5 ⟨hc5, F5, hg5, hT5, rfl⟩
    have hO5 := OwnF.chg hOk hc5 hap.symm
    have hap5 : Apart F5 Fh := hap.grow hg5 (OwnF.lt hOk)
    obtain ⟨c, hc⟩ : ∃ c : Cp, c = ⟨7, k, 255, es.getD k 0⟩ := ⟨_, rfl⟩
    rw [← hc]
    obtain ⟨x6, b6, k6⟩ := box_new (F := F5) (s := s5) [.int .u64 0, .int .u32 0, .int .u8 0, .int .u64 0] c hT5.lt
    simp [capE, errV, write_new]
    obtain ⟨s6, hs6⟩ : ∃ t, t = (s5.new (.cells [.int .u64 0, .int .u32 0, .int .u8 0, .int .u64 0] 0 false)).set s5.ctr (some (.cells (Cp.cells c) 0 false)) := ⟨_, rfl⟩
    rw [← hs6] at x6 b6 k6 ⊢
    have hT6 := hT5.ext x6
    have hO6 : OwnR Cp.cells 4 s6 (r' 6) (goneCaps es k) Fh := OwnF.ext hO5 x6
    have hl6 : (goneCaps es k).length = k := by simp [goneCaps]
    simp [pf6_10, b6.rd4, Cp.cells_flat]
    refine cap_app c hO6 (by omega) ?_
    intro v7 s7 F7 hO7 hc7 hg7
    simp [pf6_12, e7, w1, e0, e1, e5, -Int.natCast_add]
    refine ⟨N + 1 - (k + 1), by omega, k + 1, by omega, rfl, rfl, F5, ?_, F7, ?_, ?_⟩
    · exact hT6.chg hc7 hap5
    · have : goneCaps es (k + 1) = goneCaps es k ++ [c] := by simp [goneCaps, List.range_succ, hc]
      rw [this]
      exact hO7
    · exact (hap5.symm.grow hg7 hT6.lt).symm
  · obtain rfl : k = N + 1 := by omega
    obtain ⟨K, hK⟩ : ∃ K, K = (N + 1) / 2 := ⟨_, rfl⟩
    have hKN : K < N + 1 := by omega
    have hlc : (goneCaps es (N + 1)).length = N + 1 := by simp [goneCaps]
    have hgk : (goneCaps es (N + 1))[K]? = some ⟨7, K, 255, es.getD K 0⟩ := by simp [goneCaps, hKN]
    have wl := OwnF.wlen hOk
    rw [hlc] at wl
    have w2 : IntKind.i64.wrap (((N + 1 : Nat) : Int) / 2) = (K : Int) := by
      rw [show ((N + 1 : Nat) : Int) / 2 = ((N + 1) / 2 : Nat) from rfl, ← hK, wrap_i64] <;> omega
    have hlt2 : ¬ (N + 1 : Nat) ≤ (N : Int) := by omega
    obtain ⟨N1, hN1⟩ : ∃ N1, N1 = N + 1 := ⟨_, rfl⟩
    obtain ⟨y, sec, q3, q4, q5, e1', e2', e3', e4', e5', e6', r3, r4, r5⟩ := gone_run es hcl (N + 1) K mask hKN (by omega) (by omega) hm
    have okN := okk (N + 1) (by omega)
    obtain ⟨own, hown⟩ : ∃ c : Cp, c = ⟨7, K, 255, es.getD K 0⟩ := ⟨_, rfl⟩
    obtain ⟨r, hr⟩ : ∃ c : Cp, c = ⟨7, K, mask, y⟩ := ⟨_, rfl⟩
    obtain ⟨nx, hnx⟩ : ∃ c : Cp, c = ⟨7, K, 255, sec⟩ := ⟨_, rfl⟩
    have fown : own.Fit := by
      rw [hown]
      have h := hw (es.getD K 0) (by rw [List.getD_eq_getElem?_getD, List.getElem?_eq_getElem (by omega)]; exact List.getElem_mem _)
      exact ⟨by simp, by simp only; omega, by simp, by unfold w48 at h; simp only; omega⟩
    have fr := Tbl.restrict_fit okN fown mask
    have st1 := (Tbl.restrict_step ⟨7, ⟨[], es, N + 1⟩, objs es (N + 1)⟩ own mask).ok okN
    rw [hown, e1', ← hr] at fr
    rw [hown, e1'] at st1
    obtain ⟨TA, hTA⟩ : ∃ T : Tbl, T = ⟨7, ⟨[], es, N + 1⟩, objs es (N + 1)⟩ := ⟨_, rfl⟩
    obtain ⟨TB, hTB⟩ : ∃ T : Tbl, T = ⟨7, q3, objs es (N + 1)⟩ := ⟨_, rfl⟩
    obtain ⟨TC, hTC⟩ : ∃ T : Tbl, T = ⟨7, q3, (objs es (N + 1)).set K Ob.none⟩ := ⟨_, rfl⟩
    obtain ⟨TD, hTD⟩ : ∃ T : Tbl, T = ⟨7, q4, (objs es (N + 1)).set K (ob sec 99)⟩ := ⟨_, rfl⟩
    obtain ⟨TE, hTE⟩ : ∃ T : Tbl, T = ⟨7, q5, (objs es (N + 1)).set K (ob sec 99)⟩ := ⟨_, rfl⟩
    rw [← hTA, ← hTB, ← hr, ← hown] at e1'
    rw [← hTB, ← hTC, ← hown] at e2'
    rw [← hTC, ← hown] at e3'
    rw [← hTC, ← hTD, ← hnx] at e4'
    rw [← hTD, ← hown] at e5'
    rw [← hTD, ← hTE, ← hr] at e6'
    have st2 := (Tbl.destroy_step TB own).ok (by rw [hTB]; exact st1)
    rw [e2'] at st2
    replace st2 : TC.Ok := st2
    rw [← hTA] at hTk
    have rA : TA.orc.rs.length = 0 := by rw [hTA]; rfl
    have rB : TB.orc.rs.length ≤ 1 := by rw [hTB]; exact r3
    have rC : TC.orc.rs.length ≤ 1 := by rw [hTC]; exact r3
    have rD : TD.orc.rs.length ≤ 1 := by rw [hTD]; exact r4
    have hval : TE.get K = some (ob sec 99) := by
      rw [hTE]; simp [Tbl.get, hKN, ob]
    obtain ⟨bb, hv6, hFh, hrd5, hrd1⟩ := OwnR.load hOk Cp.cells_length hgk
    rw [hlc] at hv6
    rw [← hown] at hrd5
    rw [← hN1] at e7 hlt2 w2 wl hv6
    have hKN1 : K < N1 := by omega
    simp [pf6_14, pf6_13, e7, e1, t8, wN, hlt2, pf6_9, wl, hv6, w2, hKN1, hrd5, write_new]
    obtain ⟨x10, b10, k10⟩ := box_new (F := F) (s := s') [.int .u64 0, .int .u32 0, .int .u8 0, .int .u64 0] own hTk.lt
    obtain ⟨s10, hs10⟩ : ∃ t, t = (s'.new (.cells [.int .u64 0, .int .u32 0, .int .u8 0, .int .u64 0] 0 false)).set s'.ctr (some (.cells (Cp.cells own) 0 false)) := ⟨_, rfl⟩
    rw [← hs10] at x10 b10 k10 ⊢
    replace hTk := hTk.ext x10
    simp [pf6_8, e5, b10.rd4, e0]
    refine Ev.mono (restrict_eq hTk (by omega) fown hm e1') ?_
    rintro v s11 ⟨hc11, F11, hg11, hT11, rfl⟩
    replace b10 := b10.step hc11 hg11
    obtain ⟨x12, b12, k12⟩ := box_new (F := F11) (s := s11) [.int .u64 0, .int .u32 0, .int .u8 0, .int .u64 0] r hT11.lt
    simp [capE, errV, write_new]
    obtain ⟨s12, hs12⟩ : ∃ t, t = (s11.new (.cells [.int .u64 0, .int .u32 0, .int .u8 0, .int .u64 0] 0 false)).set s11.ctr (some (.cells (Cp.cells r) 0 false)) := ⟨_, rfl⟩
    rw [← hs12] at x12 b12 k12 ⊢
    replace hT11 := hT11.ext x12
    replace b10 := b10.ext x12
    simp [pf6_7, e5, b10.rd4]
    refine Ev.mono (destroy_eq hT11 (by omega) fown e2') ?_
    rintro v s13 ⟨hc13, F13, hg13, hT13, rfl⟩
    replace b10 := b10.step hc13 hg13
    replace b12 := b12.step hc13 hg13
    simp [errV, pf6_6, e5, b10.rd4]
    refine Ev.mono (check_eq hT13 (by omega) fown (m := 0) (by omega) e3') ?_
    rintro v s14 ⟨hc14, F14, hg14, hT14, rfl⟩
    replace b10 := b10.step hc14 hg14
    replace b12 := b12.step hc14 hg14
    simp [idxE, errV, pf6_5, pf6_4, e5]
    refine Ev.mono (create_eq hT14 st2 e4') ?_
    rintro v s15 ⟨hc15, F15, hg15, hT15, rfl⟩
    replace b10 := b10.step hc15 hg15
    replace b12 := b12.step hc15 hg15
    obtain ⟨x16, b16, k16⟩ := box_new (F := F15) (s := s15) [.int .u64 0, .int .u32 0, .int .u8 0, .int .u64 0] nx hT15.lt
    simp [capE, errV, write_new]
    obtain ⟨s16, hs16⟩ : ∃ t, t = (s15.new (.cells [.int .u64 0, .int .u32 0, .int .u8 0, .int .u64 0] 0 false)).set s15.ctr (some (.cells (Cp.cells nx) 0 false)) := ⟨_, rfl⟩
    rw [← hs16] at x16 b16 k16 ⊢
    replace hT15 := hT15.ext x16
    replace b10 := b10.ext x16
    replace b12 := b12.ext x16
    simp [pf6_3, e5, b10.rd4]
    refine Ev.mono (check_eq hT15 (by omega) fown (m := 0) (by omega) e5') ?_
    rintro v s17 ⟨hc17, F17, hg17, hT17, rfl⟩
    replace b10 := b10.step hc17 hg17
    replace b12 := b12.step hc17 hg17
    replace b16 := b16.step hc17 hg17
    simp [idxE, errV, pf6_2, e5, b12.rd4]
    refine Ev.mono (check_eq hT17 (by omega) fr (m := 0) (by omega) e6') ?_
    rintro v s18 ⟨hc18, F18, hg18, hT18, rfl⟩
    replace b16 := b16.step hc18 hg18
    simp [idxE, errV, pf6_1, e5]
    refine Ev.mono (value_ok hT18 K) ?_
    rintro v s19 ⟨rfl, rfl⟩
    have hno : nx.o = K := by rw [hnx]
    have hr1 := b16.rd1
    rw [hno] at hr1
    have wK : IntKind.i64.wrap (K : Int) = K := by rw [wrap_i64] <;> omega
    simp [hval, ob, pf6_0, hv6, w2, hr1, wK]
    refine ev_num ?_
    simp
    refine ev_num ?_
    simp
    refine ev_num ?_
    simp
end Go.Ab
/-! 'ObjectsRevoke' over the abstract machine: its loops. -/
namespace Go.Ab

theorem Bx.step_l {s s' : S} {i : Nat} {c : Cp} {F F' G : List Nat} (h : Bx s i c (F ++ G)) (hc : Chg F s s') (hg : Grow F F' s.ctr) : Bx s' i c (F' ++ G) :=
  h.step (hc.sub (fun x hx => by simp [hx])) (fun x hx => by
    rcases List.mem_append.1 hx with h1 | h1
    · rcases hg x h1 with h2 | h2
      · exact .inl (by simp [h2])
      · exact .inr h2
    · exact .inl (by simp [h1]))
theorem Bx.step_r {s s' : S} {i : Nat} {c : Cp} {F G G' : List Nat} (h : Bx s i c (F ++ G)) (hc : Chg G s s') (hg : Grow G G' s.ctr) : Bx s' i c (F ++ G') :=
  h.step (hc.sub (fun x hx => by simp [hx])) (fun x hx => by
    rcases List.mem_append.1 hx with h1 | h1
    · exact .inl (by simp [h1])
    · rcases hg x h1 with h2 | h2
      · exact .inl (by simp [h2])
      · exact .inr h2)

/-- Capabilities of earlier epochs. -/
def OldOk (es : List Nat) (b : Nat) (l : List Cp) : Prop := ∀ c ∈ l, ∃ r y o, c = ⟨7, 1, r, y⟩ ∧ r < 256 ∧ es[o]? = some y ∧ o < b
theorem OldOk.mono {es : List Nat} {b b' : Nat} {l : List Cp} (h : OldOk es b l) (hb : b ≤ b') : OldOk es b' l := fun c hc => by
  obtain ⟨r, y, o, h1, h2, h3, h4⟩ := h c hc
  exact ⟨r, y, o, h1, h2, h3, by omega⟩
theorem OldOk.push {es : List Nat} {b : Nat} {l : List Cp} (h : OldOk es b l) {r y o : Nat} (hr : r < 256) (hy : es[o]? = some y) (ho : o < b) : OldOk es b (l ++ [⟨7, 1, r, y⟩]) := fun c hc => by
  rcases List.mem_append.1 hc with h1 | h1
  · exact h c h1
  · exact ⟨r, y, o, List.mem_singleton.1 h1, hr, hy, ho⟩

theorem Chg.keep {l : List Nat} {s s' : S} {n : Nat} (h : Chg l s s') (hl : ∀ x ∈ l, n ≤ x) (hn : n ≤ s.ctr) : Keep n s s' := ⟨h.ctr, fun id hid => h.get id (by omega) (fun hx => by have := hl _ hx; omega)⟩

/-- What is so between the law's steps. -/
structure RvX (st0 st : S) (n0 tp b6 b8 : Nat) (v : AV) (es : List Nat) (d s i j : Nat) (T : Tbl) (F Fh : List Nat) (old : List Cp) : Prop where
  rv : Rv T es d s i j
  tb : Tb st tp T F
  ok : T.Ok
  hold : OwnR Cp.cells 4 st v old Fh
  ap : Apart F Fh
  oldok : OldOk es T.orc.at_ old
  x6 : Bx st b6 ⟨7, 0, 255, d⟩ (F ++ Fh)
  x8 : Bx st b8 ⟨7, 1, 255, s⟩ (F ++ Fh)
  low : ∀ x ∈ F ++ Fh, n0 ≤ x
  keep : Keep n0 st0 st
  hn0 : n0 ≤ st.ctr
  lo6 : n0 ≤ b6
  lo8 : n0 ≤ b8
  ne : b6 ≠ b8

section
variable {st0 st st' : S} {n0 tp b6 b8 : Nat} {v : AV} {es : List Nat} {d s i j : Nat} {T : Tbl} {F Fh : List Nat} {old : List Cp}
theorem RvX.lt (h : RvX st0 st n0 tp b6 b8 v es d s i j T F Fh old) : ∀ x ∈ F ++ Fh, x < st.ctr := fun x hx => by
  rcases List.mem_append.1 hx with h1 | h1
  · exact h.tb.lt x h1
  · exact OwnF.lt h.hold x h1
theorem RvX.tbl (h : RvX st0 st n0 tp b6 b8 v es d s i j T F Fh old) {T' : Tbl} {F' : List Nat} (hc : Chg F st st') (hg : Grow F F' st.ctr) (hT : Tb st' tp T' F') (hr : Rv T' es d s i j) (ok : T'.Ok) (ha : T.orc.at_ ≤ T'.orc.at_) : RvX st0 st' n0 tp b6 b8 v es d s i j T' F' Fh old :=
  ⟨hr, hT, ok, OwnF.chg h.hold hc h.ap.symm, h.ap.grow hg (OwnF.lt h.hold), h.oldok.mono ha, h.x6.step_l hc hg, h.x8.step_l hc hg, fun x hx => by
    have := h.hn0
    rcases List.mem_append.1 hx with h1 | h1
    · rcases hg x h1 with h2 | h2
      · exact h.low x (by simp [h2])
      · omega
    · exact h.low x (by simp [h1]), h.keep.trans (hc.keep (fun x hx => h.low x (by simp [hx])) h.hn0), by have := h.hn0; have := hc.ctr; omega, h.lo6, h.lo8, h.ne⟩
theorem RvX.ext (h : RvX st0 st n0 tp b6 b8 v es d s i j T F Fh old) (hx : Ext st st') : RvX st0 st' n0 tp b6 b8 v es d s i j T F Fh old :=
  ⟨h.rv, h.tb.ext hx, h.ok, OwnF.ext h.hold hx, h.ap, h.oldok, h.x6.ext hx, h.x8.ext hx, h.low, h.keep.trans (hx.keep h.hn0), by have := h.hn0; have := hx.ctr; omega, h.lo6, h.lo8, h.ne⟩
theorem RvX.push (h : RvX st0 st n0 tp b6 b8 v es d s i j T F Fh old) {v' : AV} {c : Cp} {F' : List Nat} (hO : OwnR Cp.cells 4 st' v' (old ++ [c]) F') (hc : Chg Fh st st') (hg : Grow Fh F' st.ctr) (ho : OldOk es T.orc.at_ (old ++ [c])) : RvX st0 st' n0 tp b6 b8 v' es d s i j T F F' (old ++ [c]) :=
  ⟨h.rv, h.tb.chg hc h.ap, h.ok, hO, (h.ap.symm.grow hg h.tb.lt).symm, ho, h.x6.step_r hc hg, h.x8.step_r hc hg, fun x hx => by
    have := h.hn0
    rcases List.mem_append.1 hx with h1 | h1
    · exact h.low x (by simp [h1])
    · rcases hg x h1 with h2 | h2
      · exact h.low x (by simp [h2])
      · omega, h.keep.trans (hc.keep (fun x hx => h.low x (by simp [hx])) h.hn0), by have := h.hn0; have := hc.ctr; omega, h.lo6, h.lo8, h.ne⟩
end

theorem fit7 {es : List Nat} (hw : ∀ y ∈ es, y < w48) {k r y o : Nat} (hk : k < 4294967296) (hr : r < 256) (hy : es[o]? = some y) : Cp.Fit ⟨7, k, r, y⟩ := by
  have h := hw y (List.mem_of_getElem? hy)
  exact ⟨by simp, by simpa using hk, hr, by unfold w48 at h; simp only; omega⟩

set_option maxRecDepth 10000 in
theorem revoke_loop1 {es : List Nat} (hw : ∀ y ∈ es, y < w48) (hel : es.length = 200) {st0 st : S} {v mv : AV} {l : List UInt8} {n0 tp b6 b8 d s i j L : Nat} {T : Tbl} {F Fh : List Nat} {old : List Cp} (hv : Bytes st0 mv l) (hvn : mv.inS n0) (hll : l.length ≤ 140737488355328)
    (hX : RvX st0 st n0 tp b6 b8 v es d s i j T F Fh old) (hA : T.orc.at_ + 8 ≤ 199) (hL : old.length ≤ 100) {K : KP} {R : Regs} (e0 : R 1 = .int .u8 L) (e5 : R 5 = .ptr tp 0) (e6 : R 6 = .ptr b6 0) (e7 : R 7 = .nilIface) (e8 : R 8 = .ptr b8 0) (e9 : R 9 = .nilIface) (e10 : R 10 = v) (e11 : R 11 = .int .i64 (i : Nat)) (e50 : R 50 = mv) (e51 : R 51 = .int .i64 l.length) (e52 : R 52 = .int .i64 0) (eR : R 0 = mv)
    (hK : ∀ (R' : Regs) st' v' T' F' Fh' old', RvX st0 st' n0 tp b6 b8 v' es d s i j T' F' Fh' old' → T'.orc.at_ ≤ T.orc.at_ + 8 → old'.length ≤ old.length + 8 → R' 0 = mv → R' 1 = .int .u8 L → R' 5 = .ptr tp 0 → R' 6 = .ptr b6 0 → R' 7 = .nilIface → R' 8 = .ptr b8 0 → R' 9 = .nilIface → R' 10 = v' → R' 11 = .int .i64 (i : Nat) → K (.exit 2) R' st') :
    WpC tab (.loop (pf5_32.seq pf5_31)) R st K := by
  refine WpC.loop (fun m R' st' => ∃ k T' F' Fh' old', k ≤ l.length ∧ m = l.length - k ∧ RvX st0 st' n0 tp b6 b8 (R' 10) es d s i j T' F' Fh' old' ∧ T'.orc.at_ ≤ T.orc.at_ + min k 8 ∧ old'.length ≤ old.length + min k 8 ∧ R' 0 = mv ∧ R' 1 = .int .u8 L ∧ R' 5 = .ptr tp 0 ∧ R' 6 = .ptr b6 0 ∧ R' 7 = .nilIface ∧ R' 8 = .ptr b8 0 ∧ R' 9 = .nilIface ∧ R' 11 = .int .i64 (i : Nat) ∧ R' 50 = mv ∧ R' 51 = .int .i64 l.length ∧ R' 52 = .int .i64 (k : Nat)) (m := l.length) ?_ ?_
  · exact ⟨0, T, F, Fh, old, by omega, rfl, by rw [e10]; exact hX, by omega, by omega, eR, e0, e5, e6, e7, e8, e9, e11, e50, e51, by simpa using e52⟩
  rintro m R st ⟨k, T', F', Fh', old', hk, rfl, hX', ha, hl, e0, e1, e5, e6, e7, e8, e9, e11, e50, e51, e52⟩
  have hb := hv.keep hX'.keep hvn
  by_cases hlt : k < l.length
  · obtain ⟨x, hx⟩ : ∃ x, l[k]? = some x := ⟨_, List.getElem?_eq_getElem hlt⟩
    obtain ⟨b, o, c, opn, rfl, hrd⟩ := hb.elem hx
    have w1 : IntKind.i64.wrap ((k : Int) + 1) = ((k + 1 : Nat) : Int) := by rw [wrap_i64] <;> omega
    have hxl := x.toNat_lt
    rw [Nat.mul_one] at hrd
    by_cases h8 : k < 8
    · have h8i : (k : Int) < 8 := by omega
      simp [pf5_32, e52, e51, hlt, pf5_31, pf5_29, pf5_28, e50, hrd, pf5_27, h8i, pf5_26, e5, e8, hX'.x8.rd4]
      obtain ⟨y, q', o', r1, r2, r3, r4, r5, r6, r7, r8⟩ := hX'.rv.restrict (m := x.toNat) hxl (by omega)
      have hsm := hX'.tb.small
      have st2 := Tbl.restrict_step T' ⟨7, 1, 255, s⟩ x.toNat
      rw [r1] at st2
      refine Ev.mono (restrict_eq hX'.tb (by omega) (fit7 hw (by omega) (by omega) hX'.rv.sj) hxl r1) ?_
      rintro v5 s5 ⟨hc5, F5, hg5, hT5, rfl⟩
      have hX5 := hX'.tbl hc5 hg5 hT5 r2 (st2.ok hX'.ok) r3
      obtain ⟨cc, hcc⟩ : ∃ c : Cp, c = ⟨7, 1, x.toNat, y⟩ := ⟨_, rfl⟩
      rw [← hcc]
      obtain ⟨x6, b6', k6⟩ := box_new (F := F5) (s := s5) [.int .u64 0, .int .u32 0, .int .u8 0, .int .u64 0] cc hT5.lt
      simp [capE, errV, write_new]
      obtain ⟨s6, hs6⟩ : ∃ t, t = (s5.new (.cells [.int .u64 0, .int .u32 0, .int .u8 0, .int .u64 0] 0 false)).set s5.ctr (some (.cells (Cp.cells cc) 0 false)) := ⟨_, rfl⟩
      rw [← hs6] at x6 b6' k6 ⊢
      have hX6 := hX5.ext x6
      simp [pf5_25, pf5_23, pf5_24, b6'.rd4]
      refine cap_app cc hX6.hold (by omega) ?_
      intro v7 s7 F7 hO7 hc7 hg7
      have hX7 := hX6.push hO7 hc7 hg7 (by rw [hcc]; exact hX6.oldok.push hxl r8 r7)
      simp [pf5_30, e52, w1, -Int.natCast_add]
      refine ⟨l.length - (k + 1), by omega, k + 1, by omega, rfl, _, _, _, _, hX7, ?_, ?_, e0, e1, e5, e6, e7, e8, e9, e11, e50, e51, rfl⟩
      · simp only; omega
      · simp only [List.length_append, List.length_cons, List.length_nil]; omega
    · have h8i : ¬ (k : Int) < 8 := by omega
      simp [pf5_32, e52, e51, hlt, pf5_31, pf5_29, pf5_28, e50, hrd, pf5_27, h8i, pf5_30, w1, -Int.natCast_add]
      exact ⟨l.length - (k + 1), by omega, k + 1, by omega, rfl, T', F', Fh', old', hX', by omega, by omega, e0, e1, e5, e6, e7, e8, e9, e11, rfl⟩
  · obtain rfl : k = l.length := by omega
    simp [pf5_32, e52, e51, pf5_31]
    exact hK _ st _ T' F' Fh' old' hX' (by omega) (by omega) (by simp [e0]) (by simp [e1]) (by simp [e5]) (by simp [e6]) (by simp [e7]) (by simp [e8]) (by simp [e9]) (by simp) (by simp [e11])
end Go.Ab
/-! 'ObjectsRevoke' over the abstract machine: the second loop; the law. -/
namespace Go.Ab

set_option maxRecDepth 10000 in
theorem revoke_loop2 {es : List Nat} (hw : ∀ y ∈ es, y < w48) (hel : es.length = 200) {st0 st : S} {v mv tv : AV} {n0 tp b6 b8 d s i j i0 : Nat} {T : Tbl} {F Fh : List Nat} {old : List Cp}
    (hX : RvX st0 st n0 tp b6 b8 v es d s i j T F Fh old) (hold : OldOk es j old) (hA : T.orc.at_ + old.length ≤ 199) (hL : old.length ≤ 100) {K : KP} {R : Regs} (e0 : R 0 = mv) (e1 : R 1 = tv) (e5 : R 5 = .ptr tp 0) (e6 : R 6 = .ptr b6 0) (e7 : R 7 = .nilIface) (e8 : R 8 = .ptr b8 0) (e9 : R 9 = .nilIface) (e10 : R 10 = v) (e11 : R 11 = .int .i64 (i0 : Nat)) (e86 : R 86 = v) (e87 : R 87 = .int .i64 old.length) (e88 : R 88 = .int .i64 0)
    (hK : ∀ (R' : Regs) st' T' F', RvX st0 st' n0 tp b6 b8 v es d s i j T' F' Fh old → T'.orc.at_ ≤ T.orc.at_ + old.length → R' 0 = mv → R' 1 = tv → R' 5 = .ptr tp 0 → R' 6 = .ptr b6 0 → R' 7 = .nilIface → R' 8 = .ptr b8 0 → R' 9 = .nilIface → R' 10 = v → R' 11 = .int .i64 (i0 : Nat) → K (.exit 4) R' st') :
    WpC tab (.loop (pf5_12.seq pf5_11)) R st K := by
  refine WpC.loop (fun m R' st' => ∃ k T' F', k ≤ old.length ∧ m = old.length - k ∧ RvX st0 st' n0 tp b6 b8 v es d s i j T' F' Fh old ∧ T'.orc.at_ ≤ T.orc.at_ + k ∧ R' 0 = mv ∧ R' 1 = tv ∧ R' 5 = .ptr tp 0 ∧ R' 6 = .ptr b6 0 ∧ R' 7 = .nilIface ∧ R' 8 = .ptr b8 0 ∧ R' 9 = .nilIface ∧ R' 10 = v ∧ R' 11 = .int .i64 (i0 : Nat) ∧ R' 86 = v ∧ R' 87 = .int .i64 old.length ∧ R' 88 = .int .i64 (k : Nat)) (m := old.length) ?_ ?_
  · exact ⟨0, T, F, by omega, rfl, hX, by omega, e0, e1, e5, e6, e7, e8, e9, e10, e11, e86, e87, by simpa using e88⟩
  rintro m R st ⟨k, T', F', hk, rfl, hX', ha, e0, e1, e5, e6, e7, e8, e9, e10, e11, e86, e87, e88⟩
  by_cases hlt : k < old.length
  · obtain ⟨x, hx⟩ : ∃ x, old[k]? = some x := ⟨_, List.getElem?_eq_getElem hlt⟩
    obtain ⟨b, rfl, hFb, hrd, _⟩ := OwnR.load hX'.hold Cp.cells_length hx
    have w1 : IntKind.i64.wrap ((k : Int) + 1) = ((k + 1 : Nat) : Int) := by rw [wrap_i64] <;> omega
    obtain ⟨r, y, o, rfl, hr, hy, ho⟩ := hold x (List.mem_of_getElem? hx)
    have fx := fit7 hw (k := 1) (by omega) hr hy
    obtain ⟨q', c1, c2, c3, c4, c5⟩ := hX'.rv.old hr ho hy (by omega)
    have hsm := hX'.tb.small
    have st2 := Tbl.check_step T' ⟨7, 1, r, y⟩ 0
    rw [c1] at st2
    obtain ⟨cc, hcc⟩ : ∃ c : Cp, c = ⟨7, 1, r, y⟩ := ⟨_, rfl⟩
    rw [← hcc] at hrd c1 fx
    obtain ⟨x6, b6', k6⟩ := box_new (F := F') (s := st) [.int .u64 0, .int .u32 0, .int .u8 0, .int .u64 0] cc hX'.tb.lt
    simp [pf5_12, e88, e87, hlt, pf5_11, pf5_9, e86, hrd, write_new]
    obtain ⟨s6, hs6⟩ : ∃ t, t = (st.new (.cells [.int .u64 0, .int .u32 0, .int .u8 0, .int .u64 0] 0 false)).set st.ctr (some (.cells (Cp.cells cc) 0 false)) := ⟨_, rfl⟩
    rw [← hs6] at x6 b6' k6 ⊢
    have hX6 := hX'.ext x6
    simp [pf5_8, pf5_7, e5, b6'.rd4]
    refine Ev.mono (check_eq hX6.tb (by omega) fx (m := 0) (by omega) c1) ?_
    rintro v5 s5 ⟨hc5, F5, hg5, hT5, rfl⟩
    have hX5 := hX6.tbl hc5 hg5 hT5 c2 (st2.ok hX'.ok) c3
    simp [idxE, errV, pf5_6]
    refine ev_num ?_
    simp [pf5_10, e88, w1, -Int.natCast_add]
    exact ⟨old.length - (k + 1), by omega, k + 1, by omega, rfl, _, ⟨F5, hX5⟩, by simp only; omega, e0, e1, e5, e6, e7, e8, e9, e10, e11, e86, e87, rfl⟩
  · obtain rfl : k = old.length := by omega
    simp [pf5_12, e88, e87, pf5_11]
    exact hK _ st T' F' hX' (by omega) (by simp [e0]) (by simp [e1]) (by simp [e5]) (by simp [e6]) (by simp [e7]) (by simp [e8]) (by simp [e9]) (by simp [e10]) (by simp [e11])

/-- The secret is drawn anew, and the owner's capability with it. -/
theorem RvX.turn {st0 st st' st2 : S} {n0 tp b6 b8 : Nat} {v : AV} {es : List Nat} {d s i j s2 i2 j2 : Nat} {T T' : Tbl} {F F' Fh : List Nat} {old : List Cp} (h : RvX st0 st n0 tp b6 b8 v es d s i j T F Fh old) (hc : Chg F st st') (hg : Grow F F' st.ctr) (hT : Tb st' tp T' F') (hr : Rv T' es d s2 i2 j2) (ok : T'.Ok) (ha : T.orc.at_ ≤ T'.orc.at_) (hx : Ext st' st2) :
    Bx st2 b8 ⟨7, 1, 255, s⟩ (F' ++ Fh) ∧ RvX st0 (st2.set b8 (some (.cells (Cp.cells ⟨7, 1, 255, s2⟩) 0 false))) n0 tp b6 b8 v es d s2 i2 j2 T' F' Fh old := by
  have x8 := (h.x8.step_l hc hg).ext hx
  have x6 := (h.x6.step_l hc hg).ext hx
  have hap := h.ap.grow hg (OwnF.lt h.hold)
  have hO : OwnR Cp.cells 4 st2 v old Fh := OwnF.ext (OwnF.chg h.hold hc h.ap.symm) hx
  have h0 := h.hn0
  have hctr := hc.ctr
  have hctr2 := hx.ctr
  refine ⟨x8, hr, (hT.ext hx).setOut (fun hm => x8.out (by simp [hm])), ok, OwnF.chg hO (l := [b8]) (by simp) (fun z hz => by simp; rintro rfl; exact x8.out (by simp [hz])), hap, h.oldok.mono ha, x6.keep h.ne, x8.put, ?_, ?_, by simp; omega, h.lo6, h.lo8, h.ne⟩
  · intro x hx
    rcases List.mem_append.1 hx with h1 | h1
    · rcases hg x h1 with h2 | h2
      · exact h.low x (by simp [h2])
      · omega
    · exact h.low x (by simp [h1])
  · exact h.keep.trans ((hc.keep (fun x hx => h.low x (by simp [hx])) h0).trans (Keep.set h.lo8 (hx.keep (by omega))))

def drawsTo : Nat → Nat
  | 0 => 2
  | i + 1 => drawsTo i + 18 + 9 * i
theorem drawsTo_le : ∀ i, i ≤ 4 → drawsTo (i + 1) ≤ 182 := by decide

set_option maxRecDepth 10000 in
set_option maxHeartbeats 1000000 in
theorem revoke_law {mv : AV} {l : List UInt8} (times : Nat) (ht : times < 256) (s : S) (hv : Bytes s mv l) (hll : l.length ≤ 140737488355328) : Ev tab 5 [mv, .int .u8 times] s fun v _ => v = .bool true := by
  refine Ev.intro rfl rfl rfl ?_
  simp [pf5, pf5_47, pf5_46, pf5_45]
  refine ev_awake23 ?_
  simp [pf5_43]
  refine Ev.mono (spread_ok 200 (by omega) s) ?_
  rintro v s1 ⟨hx1, hN⟩
  simp
  refine Ev.mono (tapeOf_ok hN (by simp [spread_len])) ?_
  rintro v s2 ⟨hx2, tp0, F0, rfl, hTp, hF0⟩
  simp
  refine Ev.mono (oracleOf_ok hTp) ?_
  rintro v s3 ⟨hx3, op, F1, rfl, hO, hg1⟩
  simp
  refine Ev.mono (objectsOf_ok hO 7) ?_
  rintro v s4 ⟨hx4, tp, rfl, htp, hT⟩
  obtain ⟨hx, hT, hF⟩ := tbl_ready (by omega) hx1 hx2 hF0 hx3 hg1 hx4 htp hT
  have hcl := spread_clean (n := 200) (by omega)
  have hw : ∀ y ∈ spreadL 200, y < w48 := spread_w (by omega)
  have hel := spread_len 200
  obtain ⟨es, hes⟩ : ∃ es, es = spreadL 200 := ⟨_, rfl⟩
  rw [← hes] at hT hcl hw hel
  obtain ⟨d, hd⟩ : ∃ d, es[0]? = some d := ⟨_, List.getElem?_eq_getElem (by omega)⟩
  obtain ⟨sc, hsc⟩ : ∃ d, es[1]? = some d := ⟨_, List.getElem?_eq_getElem (by omega)⟩
  have ok0 : Tbl.Ok ⟨7, ⟨[], es, 0⟩, []⟩ := Tbl.Ok.fresh (by omega) hw
  obtain ⟨T1, hT1⟩ : ∃ T : Tbl, T = ⟨7, ⟨[], es, 1⟩, [ob d 5]⟩ := ⟨_, rfl⟩
  obtain ⟨T2, hT2⟩ : ∃ T : Tbl, T = ⟨7, ⟨[], es, 2⟩, [ob d 5, ob sc 6]⟩ := ⟨_, rfl⟩
  have e1 : (⟨7, ⟨[], es, 0⟩, []⟩ : Tbl).create 5 = ((⟨7, 0, 255, d⟩, none), T1) := by simp [hT1, Tbl.create, lowest, Orc.draw, hd, ob]
  have e2 : T1.create 6 = ((⟨7, 1, 255, sc⟩, none), T2) := by simp [hT1, hT2, Tbl.create, lowest, Orc.draw, hsc, ob]
  have ok1 := (Tbl.create_step _ 5).ok ok0
  rw [e1] at ok1
  replace ok1 : T1.Ok := ok1
  have ok2 := (Tbl.create_step T1 6).ok ok1
  rw [e2] at ok2
  replace ok2 : T2.Ok := ok2
  have rv2 : Rv T2 es d sc 0 1 := by
    rw [hT2]
    exact ⟨rfl, rfl, ⟨hcl.nodup, hcl.sort, by simp only; omega, fun a ha => by simp at ha⟩, rfl, hd, hsc, by simp⟩
  obtain ⟨own, hown⟩ : ∃ c : Cp, c = ⟨7, 1, 255, sc⟩ := ⟨_, rfl⟩
  obtain ⟨oth, hoth⟩ : ∃ c : Cp, c = ⟨7, 0, 255, d⟩ := ⟨_, rfl⟩
  rw [← hoth] at e1
  rw [← hown] at e2
  simp [pf5_42]
  refine Ev.mono (create_eq hT ok0 e1) ?_
  rintro v s5 ⟨hc5, F5, hg5, hT5, rfl⟩
  obtain ⟨x6, b6, k6⟩ := box_new (F := F5) (s := s5) [.int .u64 0, .int .u32 0, .int .u8 0, .int .u64 0] oth hT5.lt
  simp [capE, errV, write_new]
  obtain ⟨s6, hs6⟩ : ∃ t, t = (s5.new (.cells [.int .u64 0, .int .u32 0, .int .u8 0, .int .u64 0] 0 false)).set s5.ctr (some (.cells oth.cells 0 false)) := ⟨_, rfl⟩
  rw [← hs6] at x6 b6 k6 ⊢
  replace hT5 := hT5.ext x6
  simp [pf5_41]
  refine Ev.mono (create_eq hT5 ok1 e2) ?_
  rintro v s7 ⟨hc7, F7, hg7, hT7, rfl⟩
  replace b6 := b6.step hc7 hg7
  obtain ⟨x8, b8, k8⟩ := box_new (F := F7) (s := s7) [.int .u64 0, .int .u32 0, .int .u8 0, .int .u64 0] own hT7.lt
  simp [capE, errV, write_new]
  obtain ⟨s8, hs8⟩ : ∃ t, t = (s7.new (.cells [.int .u64 0, .int .u32 0, .int .u8 0, .int .u64 0] 0 false)).set s7.ctr (some (.cells own.cells 0 false)) := ⟨_, rfl⟩
  rw [← hs8] at x8 b8 k8 ⊢
  replace hT7 := hT7.ext x8
  replace b6 := b6.ext x8
  have cx := hx.ctr
  have cc5 := hc5.ctr
  have cc7 := hc7.ctr
  have l5 : ∀ z ∈ F5, s.ctr ≤ z := fun z hz => by
    rcases hg5 z hz with h | h
    · exact hF z h
    · omega
  have l7 : ∀ z ∈ F7, s.ctr ≤ z := fun z hz => by
    rcases hg7 z hz with h | h
    · exact l5 z h
    · omega
  have kp : Keep s.ctr s s8 := (hx.keep (by omega)).trans ((hc5.keep hF (by omega)).trans ((x6.keep (by omega)).trans ((hc7.keep l5 (by omega)).trans (x8.keep (by omega)))))
  have hX0 : RvX s s8 s.ctr tp s5.ctr s7.ctr .snil es d sc 0 1 T2 F7 [] [] :=
    ⟨rv2, hT7, ok2, OwnF.nil _ _, fun _ _ => by simp, fun c hc => by simp at hc, by rw [List.append_nil, ← hoth]; exact b6, by rw [List.append_nil, ← hown]; exact b8, by rw [List.append_nil]; exact l7, kp, by omega, by omega, by omega, by omega⟩
  have t5 : (times : Int).tmod 5 = ((times % 5 : Nat) : Int) := rfl
  obtain ⟨M, hM⟩ : ∃ M, M = times % 5 := ⟨_, rfl⟩
  rw [← hM] at t5
  have hM5 : M < 5 := by omega
  have wM : IntKind.i64.wrap (M : Int) = M := by rw [wrap_i64] <;> omega
  have hbl := hv.below
  have hat2 : T2.orc.at_ = 2 := by rw [hT2]
  simp [pf5_40, pf5_39, pf5_38]
  refine WpC.loop (fun m R st => ∃ i0 T F Fh old sec j, i0 ≤ M + 1 ∧ m = M + 1 - i0 ∧ RvX s st s.ctr tp s5.ctr s7.ctr (R 10) es d sec i0 j T F Fh old ∧ T.orc.at_ ≤ drawsTo i0 ∧ old.length ≤ 9 * i0 ∧ R 0 = mv ∧ R 1 = .int .u8 times ∧ R 5 = .ptr tp 0 ∧ R 6 = .ptr s5.ctr 0 ∧ R 7 = .nilIface ∧ R 8 = .ptr s7.ctr 0 ∧ R 9 = .nilIface ∧ R 11 = .int .i64 (i0 : Nat)) (m := M + 1) ?_ ?_
  · exact ⟨0, T2, F7, [], [], sc, 1, by omega, rfl, by simpa using hX0, by rw [hat2]; simp [drawsTo], by simp, by simp, by simp, by simp, by simp, by simp, by simp, by simp, by simp⟩
  rintro m R st ⟨i0, T, F, Fh, old, sec, j, hi, rfl, hX, ha, hl, e0, e1', e5, e6, e7, e8, e9, e11⟩
  by_cases hlt : i0 ≤ M
  · have hlt' : (i0 : Int) ≤ M := by omega
    have hd1 := drawsTo_le i0 (by omega)
    have hd2 : drawsTo (i0 + 1) = drawsTo i0 + 18 + 9 * i0 := rfl
    have hb := hv.keep hX.keep hbl
    have wl := hb.wlen
    simp [pf5_37, pf5_36, e11, e1', t5, wM, hlt', pf5_34, pf5_33, e0, wl]
    refine revoke_loop1 (L := times) hw hel hv hbl hll hX (by omega) (by omega) (by simp [e1']) (by simp [e5]) (by simp [e6]) (by simp [e7]) (by simp [e8]) (by simp [e9]) (by simp) (by simp [e11]) (by simp) (by simp) (by simp) (by simp [e0]) ?_
    intro R2 st2 v2 T2' F2 Fh2 old2 hX2 ha2 hl2 q0 q1 q5 q6 q7 q8 q9 q10 q11
    have hO2 : OwnR Cp.cells 4 st2 v2 old2 Fh2 := hX2.hold
    simp [pf5_21, q10, q8, hX2.x8.rd4]
    refine cap_app _ hO2 (by omega) ?_
    intro v3 st3 Fh3 hO3 hc3 hg3
    have hX3 := hX2.push hO3 hc3 hg3 (hX2.oldok.push (by omega) hX2.rv.sj hX2.rv.lt)
    simp [pf5_20, q5, q8, hX3.x8.rd4]
    obtain ⟨s2', T3, r1, r2, r3, r4⟩ := hX3.rv.revoke (by omega)
    have hsm := hX3.tb.small
    have st4 := Tbl.revoke_step T2' ⟨7, 1, 255, sec⟩
    rw [r1] at st4
    replace st4 : Tbl.Step 2 T2' T3 := st4
    refine Ev.mono (revoke_eq hX3.tb hX3.ok (by omega) (fit7 hw (by omega) (by omega) hX3.rv.sj) r1) ?_
    rintro v5 st5 ⟨hc5', F5', hg5', hT5', rfl⟩
    obtain ⟨cc, hcc⟩ : ∃ c : Cp, c = ⟨7, 1, 255, s2'⟩ := ⟨_, rfl⟩
    rw [← hcc]
    obtain ⟨x6', bn, k6'⟩ := box_new (F := F5') (s := st5) [.int .u64 0, .int .u32 0, .int .u8 0, .int .u64 0] cc hT5'.lt
    simp [capE, errV, write_new]
    obtain ⟨st6, hst6⟩ : ∃ t, t = (st5.new (.cells [.int .u64 0, .int .u32 0, .int .u8 0, .int .u64 0] 0 false)).set st5.ctr (some (.cells cc.cells 0 false)) := ⟨_, rfl⟩
    rw [← hst6] at x6' bn k6' ⊢
    obtain ⟨xb, hX6⟩ := hX3.turn hc5' hg5' hT5' r2 (st4.ok hX3.ok) (by omega) x6'
    have w4 := xb.wr4 (c' := cc)
    rw [← hcc] at hX6
    have hll6 : (old2 ++ [(⟨7, 1, 255, sec⟩ : Cp)]).length = old2.length + 1 := by simp
    obtain ⟨st7, hst7⟩ : ∃ t, t = st6.set s7.ctr (some (.cells cc.cells 0 false)) := ⟨_, rfl⟩
    rw [← hst7] at hX6 w4
    have wl6 := OwnF.wlen hX6.hold
    have hold6 : OldOk es T2'.orc.at_ (old2 ++ [(⟨7, 1, 255, sec⟩ : Cp)]) := hX3.oldok
    obtain ⟨old3, ho3⟩ : ∃ o, o = old2 ++ [(⟨7, 1, 255, sec⟩ : Cp)] := ⟨_, rfl⟩
    rw [← ho3] at hX6 hll6 wl6 hold6
    simp [pf5_19, pf5_18, pf5_16, bn.rd4, q8, w4, pf5_15, pf5_13, wl6]
    refine revoke_loop2 (i0 := i0) hw hel (mv := mv) (tv := .int .u8 times) hX6 hold6 (by omega) (by omega) (by simp [q0]) (by simp [q1]) (by simp [q5]) (by simp [q6]) (by simp [q7]) (by simp [q8]) (by simp [q9]) (by simp) (by simp [q11]) (by simp) (by simp) (by simp) ?_
    intro R8 st8 T8 F8 hX8 ha8 p0 p1 p5 p6 p7 p8 p9 p10 p11
    have hsm8 := hX8.tb.small
    have hin := hX8.rv.info
    have w1 : IntKind.i64.wrap ((i0 : Int) + 1) = ((i0 + 1 : Nat) : Int) := by rw [wrap_i64] <;> omega
    have st9' := Tbl.info_step T8 ⟨7, 1, 255, s2'⟩
    rw [hin] at st9'
    simp [pf5_14, pf5_4, p5, p8, hX8.x8.rd4]
    refine Ev.mono (info_eq hX8.tb (by omega) (fit7 hw (by omega) (by omega) hX8.rv.sj) hin) ?_
    rintro v st9 ⟨hc9, F9, hg9, hT9, rfl⟩
    have hX9 := hX8.tbl hc9 hg9 hT9 hX8.rv hX8.ok (Nat.le_refl _)
    obtain ⟨I1, hI1⟩ : ∃ x, x = i0 + 1 := ⟨_, rfl⟩
    rw [← hI1] at w1
    simp [errV, pf5_3, p11, w1, hI1, pf5_35]
    refine ⟨M + 1 - (i0 + 1), by omega, i0 + 1, by omega, rfl, T8, F9, Fh3, old3, ⟨s2', T2'.orc.at_, ?_⟩, by omega, by omega, p0, p1, p5, p6, p7, p8, p9, by omega⟩
    rw [p10]
    exact hX9
  · obtain rfl : i0 = M + 1 := by omega
    have hlt' : ¬ ((M + 1 : Nat) : Int) ≤ M := by omega
    obtain ⟨I1, hI1⟩ : ∃ x, x = M + 1 := ⟨_, rfl⟩
    rw [← hI1] at e11 hlt'
    have hd1 := drawsTo_le M (by omega)
    have hsm := hX.tb.small
    simp [pf5_37, pf5_36, e11, e1', t5, wM, hlt', pf5_1, e5, e6, hX.x6.rd4]
    refine Ev.mono (check_eq hX.tb (by omega) (fit7 hw (by omega) (by omega) hX.rv.d0) (m := 255) (by omega) hX.rv.other) ?_
    rintro v st9 ⟨hc9, F9, hg9, hT9, rfl⟩
    simp [idxE, errV, pf5_0, e7, e9]
end Go.Ab
