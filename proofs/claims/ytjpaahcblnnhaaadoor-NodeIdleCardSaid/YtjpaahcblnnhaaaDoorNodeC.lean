/- Nodes (layer 29): the law NodeBoot's end: what was drawn is held against the node. -/
import Derived.Test.YtjpaahcblnnhaaaDoorNodeB
namespace Go.Ab

theorem ev_errE {s : S} (e : Option Int) {Q : AV → S → Prop} (h : Q (.int .i64 (e.getD 0)) s) : Ev tab 17 [errV e] s Q := by
  cases e with
  | none => exact ev_num0 h
  | some n => exact ev_num h

theorem errorOf_ok (b : Bool) (s : S) : Ev tab 21 [.bool b] s fun v s' => s' = s ∧ v = .int .i64 (if b then 15 else 0) := by
  refine Ev.intro rfl rfl rfl ?_
  cases b <;> simp [pf21, pf21_3, pf21_2, pf21_1, pf21_0]

theorem eqErr (e : Option Int) : eqV EqK.ifc (errV e) .nilIface = some e.isNone := by cases e <;> rfl
theorem boot_tail {t : S} {base n op1 op2 nb k : Nat} {F F1 : List Nat} {d : Dr} {c : Cfg} {rp port : Nat} {root : Cp} {p5 : Parts}
    (hS : Sc t base n op2 F d) (hO : Oc t op1 d.q F1) (hn : t.get nb = some (.cells (ncells 3 k c op1 d.e.isNone 0 0 rp port root p5) 0 false)) (hb : nb < base) (hF1 : ∀ z ∈ F1, z < base) (hnF : nb ∉ F1)
    (h1 : d.e = none → k ≠ 0 → port = d.p ∧ root = ⟨d.p, 0, 255, d.c⟩) (h0 : k = 0 → port = 0)
    {R : Regs} (e5 : R 5 = .int .i64 k) (e6 : R 6 = .ptr op1 0) (e7 : R 7 = .ptr nb 0) (e8 : R 8 = errV d.e) (e9 : R 9 = .ptr n 0) (e11 : R 11 = .ptr (n + 2) 0) (e12 : R 12 = .ptr (n + 3) 0) (e13 : R 13 = .ptr (n + 4) 0) :
    WpC tab (.seq pf3_8 pf3_7) R t (FinP [PR.tmp 4] fun u _ => u = .bool true) := by
  have hlt := hS.lt
  have hbn := hS.bn
  simp [pf3_8, e7]
  refine Ev.mono (root_ok hn (by omega)) ?_
  rintro v t1 ⟨x1, rfl⟩
  have kc1 := x1.ctr
  obtain ⟨t2, ht2⟩ : ∃ u, u = t1.new (.cells [.int .u64 0, .int .u32 0, .int .u8 0, .int .u64 0] 0 false) := ⟨_, rfl⟩
  have x2 : Ext t1 t2 := by rw [ht2]; simp
  have g2 : t2.get t1.ctr = some (.cells [.int .u64 0, .int .u32 0, .int .u8 0, .int .u64 0] 0 false) := by rw [ht2]; simp
  have c2 : t2.ctr = t1.ctr + 1 := by rw [ht2]; rfl
  obtain ⟨t3, ht3⟩ : ∃ u, u = t2.set t1.ctr (some (.cells [.int .u64 (root.p : Int), .int .u32 (root.o : Int), .int .u8 (root.r : Int), .int .u64 (root.k : Int)] 0 false)) := ⟨_, rfl⟩
  have c3 : t3.ctr = t1.ctr + 1 := by rw [ht3]; exact c2
  have x3 : Ext t1 t3 := by rw [ht3, ht2]; simp
  have g3 : t3.get t1.ctr = some (.cells [.int .u64 (root.p : Int), .int .u32 (root.o : Int), .int .u8 (root.r : Int), .int .u64 (root.k : Int)] 0 false) := by rw [ht3]; simp
  have x03 := x1.trans x3
  have hS3 := hS.ext x03
  have hO3 := hO.ext x03
  have n3 : t3.get nb = some (.cells (ncells 3 k c op1 d.e.isNone 0 0 rp port root p5) 0 false) := by rw [x03.get _ (by omega), hn]
  have fe := flat_errV d.e
  have ce := cells_errV d.e
  simp [capA, Cp.cells, ← ht2, wrc g2, ← ht3, pf3_7, pf3_5, e8, e13, rd hS3.g4]
  refine ev_errE d.e ?_
  simp [e13, rd hS3.g4]
  refine ev_errE d.e ?_
  simp [e7, e13, rd hS3.g4, eqErr]
  refine Ev.mono (up_ok n3) ?_
  rintro v t4 ⟨rfl, rfl⟩
  simp [e13, rd hS3.g4, e6, e9, rd hS3.g0]
  refine Ev.mono (left_ok hO3) ?_
  rintro v t5 ⟨rfl, rfl⟩
  simp [e9, rd hS3.g0]
  refine Ev.mono (left_ok hS3.hO) ?_
  rintro v t6 ⟨rfl, rfl⟩
  simp [pf3_6, pf3_3, e13, rd hS3.g4, eqErr, e5]
  have hn0 : ∀ z : Nat, z = n + 4 → z ∉ [nb] := fun z hz => by simp; omega
  cases he : d.e with
  | some x =>
    rw [he] at n3
    have g34 : t6.get (n + 4) = some (.cells [.iface 49 (.int .i64 x)] 0 false) := by rw [hS3.g4, he]; rfl
    simp [pf3_2, e7, e13, rd g34]
    refine Ev.mono (crash_ok n3 (by omega)) ?_
    rintro v t4 hv
    simp at hv
    obtain ⟨rfl, rfl⟩ := hv
    simp [e13, rd g34]
    refine ev_num ?_
    simp [e13, rd g34]
    refine Ev.mono (errorOf_ok true t4) ?_
    rintro v t5 ⟨rfl, rfl⟩
    simp
  | none =>
    rw [he] at n3
    have g34 : t6.get (n + 4) = some (.cells [.nilIface] 0 false) := by rw [hS3.g4, he]; rfl
    by_cases hk : k = 0
    · have hp := h0 hk
      subst hk hp
      simp [e5, pf3_2, e7, e13, rd g34]
      refine Ev.mono (crash_ok n3 (by omega)) ?_
      rintro v t4 hv
      simp at hv
      obtain ⟨rfl, hc4, hctr4, n4⟩ := hv
      have g44 : t4.get (n + 4) = some (.cells [.nilIface] 0 false) := by rw [hc4.get _ (by omega) (hn0 _ rfl), g34]
      simp [e13, rd g44]
      refine ev_num0 ?_
      simp [e13, rd g44]
      refine Ev.mono (errorOf_ok false t4) ?_
      rintro v t5 ⟨rfl, rfl⟩
      simp
    · obtain ⟨rfl, rfl⟩ := h1 he hk
      simp [e5, hk, pf3_1, e11, rd hS3.g2, pf3_0]
      have g15 : t6.get t1.ctr = some (.cells [.int .u64 (d.p : Int), .int .u32 0, .int .u8 255, .int .u64 (d.c : Int)] 0 false) := by rw [g3]; rfl
      by_cases hp0 : d.p = 0
      · simp [hp0, e7]
        refine Ev.mono (again_ok n3) ?_
        rintro v t7 ⟨rfl, rfl⟩
        simp
        refine ev_num ?_
        simp [e7]
        refine Ev.mono (crash_ok n3 (by omega)) ?_
        rintro v t8 hv
        simp at hv
        obtain ⟨rfl, hc4, hctr4, n4⟩ := hv
        simp [e7]
        refine Ev.mono (up_ok n4) ?_
        rintro v t9 ⟨rfl, rfl⟩
        simp
      · simp [hp0, rd g15, e11, e12, rd hS3.g2, rd hS3.g3, e7]
        refine Ev.mono (again_ok n3) ?_
        rintro v t7 ⟨rfl, rfl⟩
        simp
        refine ev_num ?_
        simp [e7]
        refine Ev.mono (crash_ok n3 (by omega)) ?_
        rintro v t8 hv
        simp at hv
        obtain ⟨rfl, hc4, hctr4, n4⟩ := hv
        simp [e7]
        refine Ev.mono (up_ok n4) ?_
        rintro v t9 ⟨rfl, rfl⟩
        simp
end Go.Ab
/-! Nodes (layer 29): the law NodeBoot. -/
namespace Go.Ab

theorem wpI_callv {T : Tab} {x : Opd} {args : List Opd} {r : Regs} {s : S} {Q : AV → S → Prop} {fn : FuncId} {first caps a : List AV} (hx : x.ev r = .func (.func fn) first caps) (ha : first ++ args.map (·.ev r) ++ caps = a) (h : Ev T fn a s Q) : WpI T (.callv x args) r s Q := by
  subst ha
  simp only [WpI, hx]
  exact h

theorem ev_awake29 {s : S} {Q : AV → S → Prop} (h : Q (.bool true) s) : Ev tab 5 [] s Q := Ev.prim (p := closedPrim [] (.bool true)) rfl rfl h

theorem NumsAt.ext {s s' : S} {v : AV} {ns : List Nat} (h : NumsAt s v ns) (hx : Ext s s') : NumsAt s' v ns := by
  refine ⟨h.1, ?_⟩
  rcases h.2 with h2 | h2 | ⟨A, cap, opn, h2, h3, h4⟩
  · exact .inl h2
  · exact .inr (.inl h2)
  · refine .inr (.inr ⟨A, cap, opn, h2, Nat.lt_of_lt_of_le h3 hx.ctr, fun i n hi => ?_⟩)
    have h5 := h4 i n hi
    simp only [S.read] at h5 ⊢
    rw [hx.get _ h3]
    exact h5

theorem nodeBoot_ok (kk : Nat) (hk : kk < 256) (v : AV) (ns : List Nat) (s : S) (hv : NumsAt s v ns) (hl : ns.length ≤ 17592186044416) : Ev tab 3 [.int .u8 kk, v] s fun u _ => u = .bool true := by
  refine Ev.intro rfl rfl rfl ?_
  simp [pf3, pf3_30, pf3_29, pf3_27]
  refine ev_awake29 ?_
  have hk4 : kk % 4 < 4 := Nat.mod_lt _ (by decide)
  obtain ⟨k, hkk⟩ : ∃ k, k = kk % 4 := ⟨_, rfl⟩
  have hm : ((kk : Int).tmod 4) = (k : Int) := by rw [hkk]; rfl
  have w1 : IntKind.u8.wrap (k : Int) = (k : Int) := by simp [IntKind.wrap, IntKind.signed, IntKind.bits]; omega
  have w2 : IntKind.i64.wrap (k : Int) = (k : Int) := by rw [wrap_i64] <;> omega
  simp [pf3_28, pf3_25, hm, w1, w2, pf3_24]
  refine Ev.mono (tapeOf_ok hv hl) ?_
  rintro v1 s1 ⟨x1, tp1, G1, rfl, hT1, hG1⟩
  simp
  refine Ev.mono (oracleOf_ok hT1) ?_
  rintro v2 s2 ⟨x2, op1, F1, rfl, hO1, hF1⟩
  have k1 := x1.ctr
  have k2 := x2.ctr
  have hlow1 : ∀ z ∈ F1, s.ctr ≤ z := fun z hz => by rcases hF1 z hz with h9 | h9; exact hG1 z h9; omega
  simp [pf3_23]
  refine Ev.mono (config_ok 1 1 1 1 1 (by decide) (by decide) (by decide) (by decide) (by decide)) ?_
  rintro v3 s3 ⟨x3, rfl⟩
  have k3 := x3.ctr
  obtain ⟨c, hc⟩ : ∃ c : Cfg, c = ⟨2, 1 + (1 % 120 : Nat), 1 + (1 % 5 : Nat), 1 + (1 % 5 : Nat), 1 + (1 % 20 : Nat), 10, 1 + (1 % 10 : Nat)⟩ := ⟨_, rfl⟩
  rw [← hc]
  simp
  refine Ev.mono (nodeOf_ok (id := 3) (k := k) (c := c) (op := op1)) ?_
  rintro v4 s4 ⟨x4, c4, rfl, n4⟩
  obtain ⟨nb, hnb⟩ : ∃ nb, nb = s3.ctr + 1 := ⟨_, rfl⟩
  rw [← hnb] at n4
  simp [← hnb, pf3_22]
  have hO4 := (hO1.ext x3).ext x4
  have hlt1 := hO1.lt
  have hnF : nb ∉ F1 := fun hx => by have := hlt1 _ hx; omega
  refine Ev.mono (boot_ok hO4 (by simp) n4 (by omega) hnF ⟨rfl, rfl, rfl, rfl, rfl, rfl, rfl⟩) ?_
  rintro v5 s5 ⟨rfl, hc5, rp, p5, F5, hp5, hg5, hO5, n5, _⟩
  have k5 := hc5.ctr
  have hx5 : Ext s s5 := ((x1.trans x2).trans (x3.trans x4)).then (hc5.keep (n := s.ctr) (fun z hz => by
    rcases List.mem_cons.1 hz with rfl | hz
    · omega
    · exact hlow1 z hz) (by omega))
  simp [pf3_21, pf3_20]
  refine Ev.mono (tapeOf_ok (hv.ext hx5) hl) ?_
  rintro v6 s6 ⟨x6, tp2, G2, rfl, hT2, hG2⟩
  simp
  refine Ev.mono (oracleOf_ok hT2) ?_
  rintro v7 s7 ⟨x7, op2, F2, rfl, hO2, hF2⟩
  have k6 := x6.ctr
  have k7 := x7.ctr
  have hlow2 : ∀ z ∈ F2, s5.ctr ≤ z := fun z hz => by rcases hF2 z hz with h9 | h9; exact hG2 z h9; omega
  obtain ⟨n, hn⟩ : ∃ n, n = s7.ctr := ⟨_, rfl⟩
  obtain ⟨b0, hb0⟩ : ∃ t, t = s7.new (.cells [.pnil] 0 false) := ⟨_, rfl⟩
  have cb0 : b0.ctr = n + 1 := by rw [hb0, hn]; rfl
  have g0 : b0.get n = some (.cells [.pnil] 0 false) := by rw [hb0, hn]; simp
  obtain ⟨b1, hb1⟩ : ∃ t, t = b0.set n (some (.cells [.ptr op2 0] 0 false)) := ⟨_, rfl⟩
  have cb1 : b1.ctr = n + 1 := by rw [hb1]; exact cb0
  have g1 : b1.get n = some (.cells [.ptr op2 0] 0 false) := by rw [hb1]; simp
  have xb1 : Ext s7 b1 := by rw [hb1, hb0, hn]; simp
  obtain ⟨b2, hb2⟩ : ∃ t, t = b1.new (.cells [.int .u64 0] 0 false) := ⟨_, rfl⟩
  have cb2 : b2.ctr = n + 2 := by rw [hb2]; show b1.ctr + 1 = _; omega
  have xb2 : Ext b1 b2 := by rw [hb2]; simp
  obtain ⟨b3, hb3⟩ : ∃ t, t = b2.new (.cells [.int .u64 0] 0 false) := ⟨_, rfl⟩
  have cb3 : b3.ctr = n + 3 := by rw [hb3]; show b2.ctr + 1 = _; omega
  have xb3 : Ext b2 b3 := by rw [hb3]; simp
  obtain ⟨b4, hb4⟩ : ∃ t, t = b3.new (.cells [.int .u64 0] 0 false) := ⟨_, rfl⟩
  have cb4 : b4.ctr = n + 4 := by rw [hb4]; show b3.ctr + 1 = _; omega
  have xb4 : Ext b3 b4 := by rw [hb4]; simp
  obtain ⟨b5, hb5⟩ : ∃ t, t = b4.new (.cells [.nilIface] 0 false) := ⟨_, rfl⟩
  have cb5 : b5.ctr = n + 5 := by rw [hb5]; show b4.ctr + 1 = _; omega
  have g5 : b5.get (n + 4) = some (.cells [.nilIface] 0 false) := by rw [hb5, ← cb4]; simp
  obtain ⟨b6, hb6⟩ : ∃ t, t = b5.set (n + 4) (some (.cells [.nilIface] 0 false)) := ⟨_, rfl⟩
  have cb6 : b6.ctr = n + 5 := by rw [hb6]; exact cb5
  have xb6 : Ext b4 b6 := by rw [hb6, hb5, ← cb4]; simp
  have hlt2 := hO2.lt
  have x46 := xb6
  have x36 := xb4.trans x46
  have x26 := xb3.trans x36
  have x16 := xb2.trans x26
  have x76 := xb1.trans x16
  have hS : Sc b6 s5.ctr n op2 F2 ⟨⟨[], ns.map (· % w48), 0⟩, 0, 0, 0, none⟩ :=
    ⟨hO2.ext x76, by rw [x16.get _ (by omega), g1], by rw [x26.get _ (by omega), hb2, ← cb1]; simp, by rw [x36.get _ (by omega), hb3, ← cb2]; simp, by rw [x46.get _ (by omega), hb4, ← cb3]; simp, by rw [hb6]; simp [errV],
      fun z hz => by have := hlt2 z hz; omega, hlow2, by omega, by omega⟩
  have hk56 : Keep s5.ctr s5 b6 := ((x6.trans x7).trans x76).keep (Nat.le_refl _)
  simp [← hn, ← hb0, wrc g0, ← hb1, pf3_19, cb1, ← hb2, cb2, ← hb3, cb3, ← hb4, pf3_18, cb4, ← hb5, wrc g5, ← hb6, pf3_17, pf3_16, pf3_15, rd hS.g0]
  refine wpI_callv (fn := 11) (first := []) (caps := [.ptr (n + 4) 0]) (a := [.ptr (n + 1) 0, .func (.func 12) [.ptr op2 0] [], .ptr (n + 4) 0]) rfl rfl (Ev.mono (drawG_ok hS) ?_)
  rintro v8 s8 ⟨rfl, hk8, F8, hS8⟩
  simp [pf3_14]
  have r8 := Dr.drawG_rs ⟨⟨[], ns.map (· % w48), 0⟩, 0, 0, 0, none⟩
  refine wpI_callv (fn := 11) (first := []) (caps := [.ptr (n + 4) 0]) (a := [.ptr (n + 2) 0, .func (.func 13) [] [.ptr n 0, .ptr (n + 1) 0], .ptr (n + 4) 0]) rfl rfl (Ev.mono (drawP_ok hS8 (by rw [r8]; simp) (.inl rfl)) ?_)
  rintro v9 s9 ⟨rfl, hk9, F9, hS9⟩
  have r9 := Dr.drawP_rs (Dr.drawG ⟨⟨[], ns.map (· % w48), 0⟩, 0, 0, 0, none⟩)
  have hk59 := (hk56.trans hk8).trans hk9
  obtain ⟨a1, a2, a3, a4⟩ := all_boot ⟨[], ns.map (· % w48), 0⟩ (k : Int)
  obtain ⟨d0, hd0⟩ : ∃ d0 : Dr, d0 = ⟨⟨[], ns.map (· % w48), 0⟩, 0, 0, 0, none⟩ := ⟨_, rfl⟩
  rw [← hd0] at hS8 hS9 r8 r9 a1 a2 a3
  have r0 : d0.q.rs.length = 0 := by rw [hd0]; rfl
  have hltF5 := hO5.lt
  have hnF5 : nb ∉ F5 := fun hx => by rcases hg5 nb hx with h9 | h9; exact hnF h9; omega
  by_cases hk0 : k = 0
  · have e0 : Dr.all d0 (k : Int) = d0.drawG.drawP := by unfold Dr.all; rw [if_pos (by omega)]
    rw [e0] at a1 a2 a3
    simp [pf3_13, pf3_12, hk0]
    refine boot_tail hS9 (by rw [a2]; exact hO5.ext hk59.ext) (by rw [hk59.ext.get _ (by omega), a1]; exact n5) (by omega) hltF5 hnF5 (k := k) (fun he hk => absurd hk0 hk) (fun _ => a4 (by omega)) ?_ ?_ ?_ ?_ ?_ ?_ ?_ ?_
    all_goals (first | rfl | (rw [a1]; simp [hk0]; done) | (rw [a1]; simp; done) | (simp [hk0]; done))
  · simp [pf3_13, pf3_12, hk0, pf3_11, rd hS9.g0]
    refine wpI_callv (fn := 11) (first := []) (caps := [.ptr (n + 4) 0]) (a := [.ptr (n + 1) 0, .func (.func 12) [.ptr op2 0] [], .ptr (n + 4) 0]) rfl rfl (Ev.mono (drawG_ok hS9) ?_)
    rintro v10 s10 ⟨rfl, hk10, F10, hS10⟩
    have r10 := Dr.drawG_rs d0.drawG.drawP
    simp [pf3_10]
    refine wpI_callv (fn := 11) (first := []) (caps := [.ptr (n + 4) 0]) (a := [.ptr (n + 2) 0, .func (.func 15) [] [.ptr n 0, .ptr (n + 1) 0], .ptr (n + 4) 0]) rfl rfl (Ev.mono (drawP_ok hS10 (by rw [r10]; rw [r8] at r9; omega) (.inr rfl)) ?_)
    rintro v11 s11 ⟨rfl, hk11, F11, hS11⟩
    simp [pf3_9, rd hS11.g0]
    refine wpI_callv (fn := 11) (first := []) (caps := [.ptr (n + 4) 0]) (a := [.ptr (n + 3) 0, .func (.func 12) [.ptr op2 0] [], .ptr (n + 4) 0]) rfl rfl (Ev.mono (drawC_ok hS11) ?_)
    rintro v12 s12 ⟨rfl, hk12, F12, hS12⟩
    have e0 : Dr.all d0 (k : Int) = d0.drawG.drawP.drawG.drawP.drawC := by unfold Dr.all; rw [if_neg (by omega)]
    rw [e0] at a1 a2 a3
    have hk512 := ((hk59.trans hk10).trans hk11).trans hk12
    simp
    refine boot_tail hS12 (by rw [a2]; exact hO5.ext hk512.ext) (by rw [hk512.ext.get _ (by omega), a1]; exact n5) (by omega) hltF5 hnF5 (k := k) (fun he hk => a3 (by rw [← a1]; exact he) (by omega)) (fun h => absurd h hk0) ?_ ?_ ?_ ?_ ?_ ?_ ?_ ?_
    all_goals (first | rfl | (rw [a1]; simp [hk0]; done) | (rw [a1]; simp; done) | (simp [hk0]; done))
end Go.Ab
