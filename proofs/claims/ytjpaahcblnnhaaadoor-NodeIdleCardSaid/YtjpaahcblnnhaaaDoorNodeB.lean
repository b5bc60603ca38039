/- Nodes (layer 29) over the abstract machine: a first object; the servers. -/
import Derived.Test.YtjpaahcblnnhaaaDoorObjM
namespace Go.Ab

/-- A first object. -/
def crt (port : Nat) (q : Orc) : Cp × Option Int := match q.draw.1 with
  | none => (Cp.zero, some 7)
  | some y => (⟨port, 0, 255, y⟩, none)

theorem capRaw {s : S} {tp port : Nat} {w1 w2 : AV} (h1 : s.get tp = some (.cells [.int .u64 (port : Int), w1, w2] 0 false)) (ht : tp < s.ctr) (x : Nat) : Ev tab 65 [.ptr tp 0, .int .i64 0, .int .u8 255, .int .u64 x] s fun v s' => Ext s s' ∧ v = capA ⟨port, 0, 255, x⟩ := by
  refine Ev.intro rfl rfl rfl ?_
  have w : IntKind.u32.wrap (0 : Int) = 0 := by simp [IntKind.wrap, IntKind.signed, IntKind.bits]
  have hne : ¬ tp = s.ctr := by omega
  simp [pf65, pf65_1, pf65_0, h1, hne, w, capA, Cp.cells, S.write, S.read]

section
variable {s : S} {tp op port : Nat} {q : Orc} {F : List Nat}
set_option maxRecDepth 10000 in
set_option maxHeartbeats 1000000 in
theorem createFresh (h : Oc s op q F) (hg : s.get tp = some (.cells [.int .u64 (port : Int), .ptr op 0, .snil] 0 false)) (ht : tp < s.ctr) (hF : tp ∉ F) (val : Int) :
    Ev tab 57 [.ptr tp 0, .int .i64 val] s fun v s' => Chg (tp :: F) s s' ∧ Oc s' op q.draw.2 F ∧ v = capE (crt port q).1 (crt port q).2 := by
  refine Ev.intro rfl rfl rfl ?_
  obtain ⟨s0, hs0⟩ : ∃ s0, s0 = s.new (.cells [.int .u64 0, .int .u32 0, .int .u8 0, .int .u64 0] 0 false) := ⟨_, rfl⟩
  have x0 : Ext s s0 := by rw [hs0]; simp
  have g0 : s0.get s.ctr = some (.cells [.int .u64 0, .int .u32 0, .int .u8 0, .int .u64 0] 0 false) := by rw [hs0]; simp
  have c0 : s0.ctr = s.ctr + 1 := by rw [hs0]; rfl
  have hO := h.ext x0
  have hlt := h.lt
  have hn0 : s.ctr ∉ F := fun hx => by have := hlt _ hx; omega
  have gt : s0.get tp = some (.cells [.int .u64 (port : Int), .ptr op 0, .snil] 0 false) := by rw [x0.get tp ht, hg]
  simp [pf57, pf57_16, ← hs0, pf57_15]
  refine WpC.loop (fun m R' st' => R' 0 = .ptr tp 0 ∧ R' 1 = .int .i64 val ∧ R' 4 = .ptr s.ctr 0 ∧ R' 6 = .int .i64 0 ∧ st' = s0) (m := 0) ⟨by simp, by simp, by simp, by simp, rfl⟩ ?_
  rintro m R st ⟨e0, e1, e4, e6, rfl⟩
  simp [pf57_13, pf57_12, e6, e0, rd gt, pf57_14, pf57_10, pf57_8]
  refine Ev.mono (oracleDraw_ok hO) ?_
  rintro v s1 ⟨hc1, hctr1, rfl, hO1⟩
  have g1 : s1.get s.ctr = some (.cells [.int .u64 0, .int .u32 0, .int .u8 0, .int .u64 0] 0 false) := by rw [hc1.get _ (by omega) hn0, g0]
  have gt1 : s1.get tp = some (.cells [.int .u64 (port : Int), .ptr op 0, .snil] 0 false) := by rw [hc1.get tp (by omega) hF, gt]
  have hcs : Chg (tp :: F) s s1 := (x0.chg _).trans (hc1.sub (fun y hy => by simp [hy]))
  have hne : ¬ tp = s.ctr := by omega
  unfold crt
  cases hd : q.draw.1 with
  | none =>
    simp [ansV, pf57_7, pf57_5, pf57_4, e4, wrc g1]
    refine ⟨Chg.set (.inl (by omega)) hcs, hO1.chg (l := [s.ctr]) (by simp) (fun y hy => by simp; rintro rfl; exact hn0 hy), by simp [capE, capA, Cp.zero_cells, errV]⟩
  | some y =>
    simp [ansV, pf57_7, pf57_5, pf57_6, pf57_3, e6, e0, rd gt1, pf57_2]
    refine cont_app_ownF (m := 1) (ds := Ob.none.cells) (OwnF.nil 5 _) rfl ?_ rfl rfl rfl (by omega) (by omega) (by omega) ?_
    · simp [S.cellsOf, S.read, Ob.cells, Ob.none]
    intro v' s2 fa hV hc2 hg2
    have xn : Ext s1 (s1.new (.cells [.bool false, .int .u64 0, .int .i64 0, .int .i64 0, .int .i64 0] 0 false)) := by simp
    have hx2 : Ext s1 s2 := xn.trans hc2.ext0
    have hO2 := hO1.ext hx2
    have gt2 : s2.get tp = some (.cells [.int .u64 (port : Int), .ptr op 0, .snil] 0 false) := by rw [hx2.get tp (by omega), gt1]
    have g2 : s2.get s.ctr = some (.cells [.int .u64 0, .int .u32 0, .int .u8 0, .int .u64 0] 0 false) := by rw [hx2.get _ (by omega), g1]
    have hx2c := hx2.ctr
    obtain ⟨bb, rfl, gb, hb, rfl⟩ : ∃ b, v' = .slice b 0 1 0 true ∧ s2.get b = some (.cells Ob.none.cells 5 false) ∧ b < s2.ctr ∧ fa = [b] := by
      rcases hV.2 with ⟨_, h0, _⟩ | ⟨b, h1, h2, h3, h4⟩
      · simp at h0
      · exact ⟨b, by simpa using h1, by simpa using h2, h3, h4⟩
    have hbn : s1.ctr ≤ bb := by
      rcases hg2 bb (by simp) with h9 | h9
      · cases h9
      · simp at h9; omega
    have nt : ¬ bb = tp := by omega
    have ns : ¬ bb = s.ctr := by omega
    have nst : ¬ s.ctr = tp := by omega
    obtain ⟨s3, hs3⟩ : ∃ t, t = s2.set tp (some (.cells [.int .u64 (port : Int), .ptr op 0, .slice bb 0 1 0 true] 0 false)) := ⟨_, rfl⟩
    have gt3 : s3.get tp = some (.cells [.int .u64 (port : Int), .ptr op 0, .slice bb 0 1 0 true] 0 false) := by rw [hs3]; simp
    have gb3 : s3.get bb = some (.cells Ob.none.cells 5 false) := by rw [hs3, S.get_set, if_neg nt, gb]
    have g3 : s3.get s.ctr = some (.cells [.int .u64 0, .int .u32 0, .int .u8 0, .int .u64 0] 0 false) := by rw [hs3, S.get_set, if_neg nst, g2]
    simp [wrc gt2, ← hs3, pf57_1, e0, rd gt3, e6, e1]
    have gb3' : s3.get bb = some (.cells [.bool false, .int .u64 0, .int .i64 0, .int .i64 0, .int .i64 0] 5 false) := gb3
    obtain ⟨s4, hs4⟩ : ∃ t, t = s3.set bb (some (.cells [.bool true, .int .u64 (y : Int), .int .i64 0, .int .i64 val, .int .i64 24] 5 false)) := ⟨_, rfl⟩
    have gt4 : s4.get tp = some (.cells [.int .u64 (port : Int), .ptr op 0, .slice bb 0 1 0 true] 0 false) := by rw [hs4, S.get_set, if_neg (fun h => nt h.symm), gt3]
    have g4 : s4.get s.ctr = some (.cells [.int .u64 0, .int .u32 0, .int .u8 0, .int .u64 0] 0 false) := by rw [hs4, S.get_set, if_neg (fun h => ns h.symm), g3]
    simp [wrc gb3', ← hs4, pf57_0, e0, e6, e4]
    have hx4 : Chg (tp :: F) s s4 := by
      rw [hs4, hs3]
      exact Chg.set (.inl (by omega)) (Chg.set (.inr (by simp)) (hcs.trans (hx2.chg _)))
    have hO4 : Oc s4 op q.draw.2 F := by
      refine hO2.chg (l := [bb, tp]) (by rw [hs4, hs3]; simp) (fun z hz => ?_)
      have := hlt z hz
      simp only [List.mem_cons, List.not_mem_nil, or_false, not_or]
      exact ⟨by omega, by rintro rfl; exact hF hz⟩
    have c4 : s2.ctr = s4.ctr := by rw [hs4, hs3]; rfl
    refine Ev.mono (capRaw gt4 (by omega) y) ?_
    rintro v s5 ⟨hx5, rfl⟩
    have g5 : s5.get s.ctr = some (.cells [.int .u64 0, .int .u32 0, .int .u8 0, .int .u64 0] 0 false) := by rw [hx5.get _ (by omega), g4]
    have hx5c := hx5.ctr
    simp [capA, Cp.cells, e4, wrc g5]
    refine ⟨Chg.set (.inl (by omega)) (hx4.trans (hx5.chg _)), (hO4.ext hx5).chg (l := [s.ctr]) (by simp) (fun z hz => by simp; rintro rfl; exact hn0 hz), by simp [capE, capA, Cp.cells, errV]⟩
end
end Go.Ab
/-! Nodes (layer 29) over the abstract machine: the servers that a node has. -/
namespace Go.Ab

theorem pagesOf_w (n : Int) (s : S) : Ev tab 66 [.int .i64 n] s fun v s' => Ext s s' ∧ ∃ p, v = .ptr p 0 := by
  refine Ev.intro rfl rfl rfl ?_
  obtain ⟨m, hm, hm2⟩ : ∃ m : Nat, max 0 (min n 4096) = (m : Int) ∧ m ≤ 4096 := ⟨(max 0 (min n 4096)).toNat, by omega, by omega⟩
  have e1 : (if (if 4096 < n then (4096 : Int) else n) > 0 then (if 4096 < n then (4096 : Int) else n) else 0) = (m : Int) := by omega
  obtain ⟨L, hL⟩ : ∃ L, L = 64 * m := ⟨_, rfl⟩
  have w1 : IntKind.i64.wrap ((m : Int) * 64) = (L : Int) := by rw [wrap_i64] <;> omega
  have b1 : (L : Int) ≤ 281474976710656 := by omega
  have b2 : (m : Int) ≤ 281474976710656 := by omega
  simp (maxDischargeDepth := 30) [pf66, pf66_1, pf66_0, foldO, minV, maxV, e1, w1, flat_replicate, b1, b2]

theorem segOf_w (n : Int) (s : S) : Ev tab 59 [.int .i64 n] s fun v s' => Ext s s' ∧ ∃ p, v = .ptr p 0 := by
  refine Ev.intro rfl rfl rfl ?_
  simp [pf59, pf59_0]
  refine Ev.mono (pagesOf_w n s) ?_
  rintro v s1 ⟨hx, p, rfl⟩
  simp [hx]

theorem skelOf_w (tp : Nat) (ty x : Nat) (s : S) : Ev tab 58 [.ptr tp 0, .iface ty (.ptr x 0)] s fun v s' => Ext s s' ∧ ∃ p, v = .ptr p 0 := by
  refine Ev.intro rfl rfl rfl ?_
  simp [pf58, pf58_0]

section
variable {s : S} {tp op port : Nat} {q : Orc} {F : List Nat}
theorem memOf_w (h : Oc s op q F) (hg : s.get tp = some (.cells [.int .u64 (port : Int), .ptr op 0, .snil] 0 false)) (ht : tp < s.ctr) (hF : tp ∉ F) (n : Int) :
    Ev tab 44 [.ptr tp 0, .int .i64 n] s fun v s' => Chg (tp :: F) s s' ∧ Oc s' op q.draw.2 F ∧ ∃ sv, v = .tuple [sv, capA (crt port q).1, errV (crt port q).2] ∧ (sv = .pnil ∨ ∃ p, sv = .ptr p 0) := by
  refine Ev.intro rfl rfl rfl ?_
  obtain ⟨s0, hs0⟩ : ∃ s0, s0 = s.new (.cells [.int .u64 0, .int .u32 0, .int .u8 0, .int .u64 0] 0 false) := ⟨_, rfl⟩
  have x0 : Ext s s0 := by rw [hs0]; simp
  have hlt := h.lt
  have g0 : s0.get s.ctr = some (.cells [.int .u64 0, .int .u32 0, .int .u8 0, .int .u64 0] 0 false) := by rw [hs0]; simp
  have c0 : s0.ctr = s.ctr + 1 := by rw [hs0]; rfl
  have hn0 : s.ctr ∉ tp :: F := fun hx => by
    rcases List.mem_cons.1 hx with rfl | hx
    · omega
    · have := hlt _ hx; omega
  simp [pf44, pf44_5, pf44_4, ← hs0]
  refine Ev.mono (createFresh (h.ext x0) (by rw [x0.get tp ht, hg]) (by omega) hF (-1)) ?_
  rintro v s1 ⟨hc1, hO1, rfl⟩
  have k1 := hc1.ctr
  have g1 : s1.get s.ctr = some (.cells [.int .u64 0, .int .u32 0, .int .u8 0, .int .u64 0] 0 false) := by rw [hc1.get _ (by omega) hn0, g0]
  have hcs := (x0.chg (tp :: F)).trans hc1
  have hcase : ((crt port q).2 = some 7 ∧ (crt port q).1 = Cp.zero) ∨ (crt port q).2 = none := by unfold crt; cases q.draw.1 <;> simp
  generalize (crt port q).1 = c at *
  generalize (crt port q).2 = e at *
  obtain ⟨sa, hsa⟩ : ∃ t, t = s1.new (.cells [.int .u64 0, .int .u32 0, .int .u8 0, .int .u64 0] 0 false) := ⟨_, rfl⟩
  have xa : Ext s1 sa := by rw [hsa]; simp
  have ga : sa.get s1.ctr = some (.cells [.int .u64 0, .int .u32 0, .int .u8 0, .int .u64 0] 0 false) := by rw [hsa]; simp
  have ca : sa.ctr = s1.ctr + 1 := by rw [hsa]; rfl
  obtain ⟨s2, hs2⟩ : ∃ t, t = sa.set s1.ctr (some (.cells c.cells 0 false)) := ⟨_, rfl⟩
  have c2 : s2.ctr = s1.ctr + 1 := by rw [hs2]; exact ca
  have x2 : Ext s1 s2 := by rw [hs2, hsa]; simp
  have g2 : s2.get s1.ctr = some (.cells c.cells 0 false) := by rw [hs2]; simp
  have g2' : s2.get s.ctr = some (.cells [.int .u64 0, .int .u32 0, .int .u8 0, .int .u64 0] 0 false) := by rw [x2.get _ (by omega), g1]
  have hO2 := hO1.ext x2
  have hc2 : Chg (tp :: F) s s2 := hcs.trans (x2.chg _)
  simp only [Cp.cells] at hs2 g2
  have wl : ∀ x : Cp, sa.write s1.ctr 0 [.int .u64 (x.p : Int), .int .u32 (x.o : Int), .int .u8 (x.r : Int), .int .u64 (x.k : Int)] = some (sa.set s1.ctr (some (.cells [.int .u64 (x.p : Int), .int .u32 (x.o : Int), .int .u8 (x.r : Int), .int .u64 (x.k : Int)] 0 false))) := fun x => by
    rw [wrc ga] <;> simp [over, isFlat]
  rcases hcase with ⟨rfl, rfl⟩ | rfl
  · simp [capE, capA, Cp.cells, ← hsa, wl, ← hs2, pf44_3, pf44_2, pf44_1, errV, wrc g2']
    exact ⟨Chg.set (.inl (by omega)) hc2, hO2.chg (l := [s.ctr]) (by simp) (fun z hz => by simp; rintro rfl; exact hn0 (List.mem_cons_of_mem _ hz)), by simp [Cp.zero]⟩
  · simp [capE, capA, Cp.cells, ← hsa, wl, ← hs2, pf44_3, pf44_2, pf44_0, errV, rd g2]
    refine Ev.mono (segOf_w n s2) ?_
    rintro v s3 ⟨x3, p, rfl⟩
    have k3 := x3.ctr
    have g3 : s3.get s1.ctr = some (.cells [.int .u64 (c.p : Int), .int .u32 (c.o : Int), .int .u8 (c.r : Int), .int .u64 (c.k : Int)] 0 false) := by rw [x3.get _ (by omega), g2]
    obtain ⟨s4, hs4⟩ : ∃ t, t = s3.new (.cells [.ptr p 0, .ptr tp 0] 0 false) := ⟨_, rfl⟩
    have x4 : Ext s3 s4 := by rw [hs4]; simp
    simp [rd g3, ← hs4]
    refine Ev.mono (skelOf_w tp 150 s3.ctr s4) ?_
    rintro v s5 ⟨x5, p5, rfl⟩
    have x35 := x4.trans x5
    have k5 := x35.ctr
    have x25 := x3.trans x35
    have g5 : s5.get s1.ctr = some (.cells [.int .u64 (c.p : Int), .int .u32 (c.o : Int), .int .u8 (c.r : Int), .int .u64 (c.k : Int)] 0 false) := by rw [x35.get _ (by omega), g3]
    have g5' : s5.get s.ctr = some (.cells [.int .u64 0, .int .u32 0, .int .u8 0, .int .u64 0] 0 false) := by rw [x25.get _ (by omega), g2']
    simp [rd g5, wrc g5']
    exact ⟨Chg.set (.inl (by omega)) (hc2.trans (x25.chg _)), (hO2.ext x25).chg (l := [s.ctr]) (by simp) (fun z hz => by simp; rintro rfl; exact hn0 (List.mem_cons_of_mem _ hz))⟩

theorem fileOf_w (h : Oc s op q F) (hg : s.get tp = some (.cells [.int .u64 (port : Int), .ptr op 0, .snil] 0 false)) (ht : tp < s.ctr) (hF : tp ∉ F) :
    Ev tab 46 [.ptr tp 0] s fun v s' => Chg (tp :: F) s s' ∧ Oc s' op q.draw.2 F ∧ ∃ sv, v = .tuple [sv, capA (crt port q).1, errV (crt port q).2] ∧ (sv = .pnil ∨ ∃ p, sv = .ptr p 0) := by
  refine Ev.intro rfl rfl rfl ?_
  obtain ⟨s0, hs0⟩ : ∃ s0, s0 = s.new (.cells [.int .u64 0, .int .u32 0, .int .u8 0, .int .u64 0] 0 false) := ⟨_, rfl⟩
  have x0 : Ext s s0 := by rw [hs0]; simp
  have hlt := h.lt
  have g0 : s0.get s.ctr = some (.cells [.int .u64 0, .int .u32 0, .int .u8 0, .int .u64 0] 0 false) := by rw [hs0]; simp
  have c0 : s0.ctr = s.ctr + 1 := by rw [hs0]; rfl
  have hn0 : s.ctr ∉ tp :: F := fun hx => by
    rcases List.mem_cons.1 hx with rfl | hx
    · omega
    · have := hlt _ hx; omega
  simp [pf46, pf46_5, pf46_4, ← hs0]
  refine Ev.mono (createFresh (h.ext x0) (by rw [x0.get tp ht, hg]) (by omega) hF (-1)) ?_
  rintro v s1 ⟨hc1, hO1, rfl⟩
  have k1 := hc1.ctr
  have g1 : s1.get s.ctr = some (.cells [.int .u64 0, .int .u32 0, .int .u8 0, .int .u64 0] 0 false) := by rw [hc1.get _ (by omega) hn0, g0]
  have hcs := (x0.chg (tp :: F)).trans hc1
  have hcase : ((crt port q).2 = some 7 ∧ (crt port q).1 = Cp.zero) ∨ (crt port q).2 = none := by unfold crt; cases q.draw.1 <;> simp
  generalize (crt port q).1 = c at *
  generalize (crt port q).2 = e at *
  obtain ⟨sa, hsa⟩ : ∃ t, t = s1.new (.cells [.int .u64 0, .int .u32 0, .int .u8 0, .int .u64 0] 0 false) := ⟨_, rfl⟩
  have xa : Ext s1 sa := by rw [hsa]; simp
  have ga : sa.get s1.ctr = some (.cells [.int .u64 0, .int .u32 0, .int .u8 0, .int .u64 0] 0 false) := by rw [hsa]; simp
  have ca : sa.ctr = s1.ctr + 1 := by rw [hsa]; rfl
  obtain ⟨s2, hs2⟩ : ∃ t, t = sa.set s1.ctr (some (.cells c.cells 0 false)) := ⟨_, rfl⟩
  have c2 : s2.ctr = s1.ctr + 1 := by rw [hs2]; exact ca
  have x2 : Ext s1 s2 := by rw [hs2, hsa]; simp
  have g2 : s2.get s1.ctr = some (.cells c.cells 0 false) := by rw [hs2]; simp
  have g2' : s2.get s.ctr = some (.cells [.int .u64 0, .int .u32 0, .int .u8 0, .int .u64 0] 0 false) := by rw [x2.get _ (by omega), g1]
  have hO2 := hO1.ext x2
  have hc2 : Chg (tp :: F) s s2 := hcs.trans (x2.chg _)
  simp only [Cp.cells] at hs2 g2
  have wl : ∀ x : Cp, sa.write s1.ctr 0 [.int .u64 (x.p : Int), .int .u32 (x.o : Int), .int .u8 (x.r : Int), .int .u64 (x.k : Int)] = some (sa.set s1.ctr (some (.cells [.int .u64 (x.p : Int), .int .u32 (x.o : Int), .int .u8 (x.r : Int), .int .u64 (x.k : Int)] 0 false))) := fun x => by
    rw [wrc ga] <;> simp [over, isFlat]
  rcases hcase with ⟨rfl, rfl⟩ | rfl
  · simp [capE, capA, Cp.cells, ← hsa, wl, ← hs2, pf46_3, pf46_2, pf46_1, errV, wrc g2']
    exact ⟨Chg.set (.inl (by omega)) hc2, hO2.chg (l := [s.ctr]) (by simp) (fun z hz => by simp; rintro rfl; exact hn0 (List.mem_cons_of_mem _ hz)), by simp [Cp.zero]⟩
  · simp [capE, capA, Cp.cells, ← hsa, wl, ← hs2, pf46_3, pf46_2, pf46_0, errV, rd g2]
    obtain ⟨s3, hs3⟩ : ∃ t, t = s2.new (.map []) := ⟨_, rfl⟩
    have x3 : Ext s2 s3 := by rw [hs3]; simp
    have k3 : s3.ctr = s2.ctr + 1 := by rw [hs3]; rfl
    obtain ⟨s4, hs4⟩ : ∃ t, t = s3.new (.cells [.map s2.ctr, .int .i64 0, .int .i64 0, .ptr tp 0] 0 false) := ⟨_, rfl⟩
    have x4 : Ext s3 s4 := by rw [hs4]; simp
    have g3 : s3.get s1.ctr = some (.cells [.int .u64 (c.p : Int), .int .u32 (c.o : Int), .int .u8 (c.r : Int), .int .u64 (c.k : Int)] 0 false) := by rw [x3.get _ (by omega), g2]
    have g4 : s4.get s1.ctr = some (.cells [.int .u64 (c.p : Int), .int .u32 (c.o : Int), .int .u8 (c.r : Int), .int .u64 (c.k : Int)] 0 false) := by rw [x4.get _ (by omega), g3]
    simp [← hs3, ← hs4, rd g4, ← k3]
    refine Ev.mono (skelOf_w tp 159 s3.ctr s4) ?_
    rintro v s5 ⟨x5, p5, rfl⟩
    have x35 := x4.trans x5
    have k5 := x35.ctr
    have x25 := x3.trans x35
    have g5 : s5.get s1.ctr = some (.cells [.int .u64 (c.p : Int), .int .u32 (c.o : Int), .int .u8 (c.r : Int), .int .u64 (c.k : Int)] 0 false) := by rw [x35.get _ (by omega), g3]
    have g5' : s5.get s.ctr = some (.cells [.int .u64 0, .int .u32 0, .int .u8 0, .int .u64 0] 0 false) := by rw [x25.get _ (by omega), g2']
    simp [rd g5, wrc g5']
    exact ⟨Chg.set (.inl (by omega)) (hc2.trans (x25.chg _)), (hO2.ext x25).chg (l := [s.ctr]) (by simp) (fun z hz => by simp; rintro rfl; exact hn0 (List.mem_cons_of_mem _ hz))⟩

theorem dirOf_w (h : Oc s op q F) (hg : s.get tp = some (.cells [.int .u64 (port : Int), .ptr op 0, .snil] 0 false)) (ht : tp < s.ctr) (hF : tp ∉ F) :
    Ev tab 45 [.ptr tp 0, .ptr op 0] s fun v s' => Chg (tp :: F) s s' ∧ Oc s' op q.draw.2 F ∧ ∃ sv, v = .tuple [sv, capA (crt port q).1, errV (crt port q).2] ∧ (sv = .pnil ∨ ∃ p, sv = .ptr p 0) := by
  refine Ev.intro rfl rfl rfl ?_
  obtain ⟨s0, hs0⟩ : ∃ s0, s0 = s.new (.cells [.int .u64 0, .int .u32 0, .int .u8 0, .int .u64 0] 0 false) := ⟨_, rfl⟩
  have x0 : Ext s s0 := by rw [hs0]; simp
  have hlt := h.lt
  have g0 : s0.get s.ctr = some (.cells [.int .u64 0, .int .u32 0, .int .u8 0, .int .u64 0] 0 false) := by rw [hs0]; simp
  have c0 : s0.ctr = s.ctr + 1 := by rw [hs0]; rfl
  have hn0 : s.ctr ∉ tp :: F := fun hx => by
    rcases List.mem_cons.1 hx with rfl | hx
    · omega
    · have := hlt _ hx; omega
  simp [pf45, pf45_9, pf45_8, ← hs0]
  refine Ev.mono (createFresh (h.ext x0) (by rw [x0.get tp ht, hg]) (by omega) hF 0) ?_
  rintro v s1 ⟨hc1, hO1, rfl⟩
  have k1 := hc1.ctr
  have g1 : s1.get s.ctr = some (.cells [.int .u64 0, .int .u32 0, .int .u8 0, .int .u64 0] 0 false) := by rw [hc1.get _ (by omega) hn0, g0]
  have hcs := (x0.chg (tp :: F)).trans hc1
  have hcase : ((crt port q).2 = some 7 ∧ (crt port q).1 = Cp.zero) ∨ (crt port q).2 = none := by unfold crt; cases q.draw.1 <;> simp
  generalize (crt port q).1 = c at *
  generalize (crt port q).2 = e at *
  obtain ⟨sa, hsa⟩ : ∃ t, t = s1.new (.cells [.int .u64 0, .int .u32 0, .int .u8 0, .int .u64 0] 0 false) := ⟨_, rfl⟩
  have xa : Ext s1 sa := by rw [hsa]; simp
  have ga : sa.get s1.ctr = some (.cells [.int .u64 0, .int .u32 0, .int .u8 0, .int .u64 0] 0 false) := by rw [hsa]; simp
  have ca : sa.ctr = s1.ctr + 1 := by rw [hsa]; rfl
  obtain ⟨s2, hs2⟩ : ∃ t, t = sa.set s1.ctr (some (.cells c.cells 0 false)) := ⟨_, rfl⟩
  have c2 : s2.ctr = s1.ctr + 1 := by rw [hs2]; exact ca
  have x2 : Ext s1 s2 := by rw [hs2, hsa]; simp
  have g2 : s2.get s1.ctr = some (.cells c.cells 0 false) := by rw [hs2]; simp
  have g2' : s2.get s.ctr = some (.cells [.int .u64 0, .int .u32 0, .int .u8 0, .int .u64 0] 0 false) := by rw [x2.get _ (by omega), g1]
  have hO2 := hO1.ext x2
  have hc2 : Chg (tp :: F) s s2 := hcs.trans (x2.chg _)
  simp only [Cp.cells] at hs2 g2
  have wl : ∀ x : Cp, sa.write s1.ctr 0 [.int .u64 (x.p : Int), .int .u32 (x.o : Int), .int .u8 (x.r : Int), .int .u64 (x.k : Int)] = some (sa.set s1.ctr (some (.cells [.int .u64 (x.p : Int), .int .u32 (x.o : Int), .int .u8 (x.r : Int), .int .u64 (x.k : Int)] 0 false))) := fun x => by
    rw [wrc ga] <;> simp [over, isFlat]
  rcases hcase with ⟨rfl, rfl⟩ | rfl
  · simp [capE, capA, Cp.cells, ← hsa, wl, ← hs2, pf45_7, pf45_5, pf45_4, errV, wrc g2']
    exact ⟨Chg.set (.inl (by omega)) hc2, hO2.chg (l := [s.ctr]) (by simp) (fun z hz => by simp; rintro rfl; exact hn0 (List.mem_cons_of_mem _ hz)), by simp [Cp.zero]⟩
  · simp [capE, capA, Cp.cells, ← hsa, wl, ← hs2, pf45_7, pf45_5, pf45_6, pf45_3, pf45_1, errV, rd g2]
    obtain ⟨s3, hs3⟩ : ∃ t, t = (s2.new (.map [])).set s2.ctr (some (.map [(.int .i64 0, .snil)])) := ⟨_, rfl⟩
    have x3 : Ext s2 s3 := by rw [hs3]; simp
    have k3 : s3.ctr = s2.ctr + 1 := by rw [hs3]; rfl
    obtain ⟨s4, hs4⟩ : ∃ t, t = s3.new (.cells [.map s2.ctr, .int .i64 1, .ptr tp 0, .ptr op 0] 0 false) := ⟨_, rfl⟩
    have x4 : Ext s3 s4 := by rw [hs4]; simp
    have g3 : s3.get s1.ctr = some (.cells [.int .u64 (c.p : Int), .int .u32 (c.o : Int), .int .u8 (c.r : Int), .int .u64 (c.k : Int)] 0 false) := by rw [x3.get _ (by omega), g2]
    have g4 : s4.get s1.ctr = some (.cells [.int .u64 (c.p : Int), .int .u32 (c.o : Int), .int .u8 (c.r : Int), .int .u64 (c.k : Int)] 0 false) := by rw [x4.get _ (by omega), g3]
    simp [findA, setA, ← hs3, ← hs4, rd g4, ← k3, pf45_0]
    refine Ev.mono (skelOf_w tp 155 s3.ctr s4) ?_
    rintro v s5 ⟨x5, p5, rfl⟩
    have x35 := x4.trans x5
    have k5 := x35.ctr
    have x25 := x3.trans x35
    have g5 : s5.get s1.ctr = some (.cells [.int .u64 (c.p : Int), .int .u32 (c.o : Int), .int .u8 (c.r : Int), .int .u64 (c.k : Int)] 0 false) := by rw [x35.get _ (by omega), g3]
    have g5' : s5.get s.ctr = some (.cells [.int .u64 0, .int .u32 0, .int .u8 0, .int .u64 0] 0 false) := by rw [x25.get _ (by omega), g2']
    simp [rd g5, wrc g5']
    exact ⟨Chg.set (.inl (by omega)) (hc2.trans (x25.chg _)), (hO2.ext x25).chg (l := [s.ctr]) (by simp) (fun z hz => by simp; rintro rfl; exact hn0 (List.mem_cons_of_mem _ hz))⟩
end
end Go.Ab
/-! Nodes (layer 29) over the abstract machine: a node's cells; its server is started. -/
namespace Go.Ab

/-- How all nodes are. -/
structure Cfg where
  nodes : Int
  piece : Int
  wait : Int
  tries : Int
  age : Int
  pages : Int
  room : Int
def Cfg.cells (c : Cfg) : List AV := [.int .i64 c.nodes, .int .i64 c.piece, .int .i64 c.wait, .int .i64 c.tries, .int .i64 c.age, .int .i64 c.pages, .int .i64 c.room]

/-- What a node has that is not numbers. -/
structure Parts where
  server : AV
  served : AV
  gather : AV
  client : AV
  places : AV
  box : AV
  senders : AV
def Parts.none : Parts := ⟨.pnil, .pnil, .pnil, .pnil, .pnil, .pnil, .mnil⟩
structure Parts.Flat (p : Parts) : Prop where
  f1 : isFlat p.server = true
  f2 : isFlat p.served = true
  f3 : isFlat p.gather = true
  f4 : isFlat p.client = true
  f5 : isFlat p.places = true
  f6 : isFlat p.box = true
  f7 : isFlat p.senders = true

/-- A node's cells. -/
def ncells (id k : Int) (c : Cfg) (op : Nat) (up : Bool) (now : Int) (sent reply port : Nat) (r : Cp) (p : Parts) : List AV :=
  [.int .i64 id, .int .i64 k, .int .i64 c.nodes, .int .i64 c.piece, .int .i64 c.wait, .int .i64 c.tries, .int .i64 c.age, .int .i64 c.pages, .int .i64 c.room, .ptr op 0, .bool up, .int .i64 now, .int .u64 (sent : Int), .int .u64 (reply : Int), .int .u64 (port : Int),
   .int .u64 (r.p : Int), .int .u32 (r.o : Int), .int .u8 (r.r : Int), .int .u64 (r.k : Int), p.server, p.served, p.gather, p.client, p.places, p.box, p.senders]

theorem tokenPort_ok {s : S} {op : Nat} {q : Orc} {F : List Nat} (h : Oc s op q F) (hq : q.rs.length ≤ 5000000000000) (x : Nat) : Ev tab 28 [.ptr op 0, .int .u64 x] s fun v s' => Chg F s s' ∧ ∃ F', Grow F F' s.ctr ∧ Oc s' op (q.ask 0 x).2 F' ∧ v = ansV (q.ask 0 x).1 := by
  refine Ev.intro rfl rfl rfl ?_
  simp [pf28, pf28_1, pf28_0]
  refine Ev.mono (ask_ok h hq 0 x) ?_
  rintro v s' ⟨hc, F', hg, hO, rfl⟩
  simp [ansV_eq]
  exact ⟨hc, F', hg, hO⟩

theorem objectsOf_w {s : S} (op port : Nat) : Ev tab 43 [.int .u64 port, .ptr op 0] s fun v s' => s' = s.new (.cells [.int .u64 (port : Int), .ptr op 0, .snil] 0 false) ∧ v = .ptr s.ctr 0 := by
  refine Ev.intro rfl rfl rfl ?_
  simp [pf43, pf43_3, pf43_2, pf43_0]

/-- What a server's start answers: an error; the port, the root; and the oracle then. -/
def serveP (q : Orc) : Option Int × Nat × Cp × Orc :=
  match q.draw.1 with
  | none => (some 7, 0, Cp.zero, q.draw.2)
  | some g =>
    match (q.draw.2.ask 0 g).1 with
    | none => (some 7, 0, Cp.zero, (q.draw.2.ask 0 g).2)
    | some p => ((crt p (q.draw.2.ask 0 g).2).2, (if (crt p (q.draw.2.ask 0 g).2).2 = none then p else 0), (crt p (q.draw.2.ask 0 g).2).1, (q.draw.2.ask 0 g).2.draw.2)

theorem Orc.draw_rs (q : Orc) : q.draw.2.rs = q.rs := (Orc.draw_facts (q' := q.draw.2) (a := q.draw.1) rfl).2.2.2.1
theorem tapeE_none : tapeE none = some 7 := rfl
theorem tapeE_some (x : Nat) : tapeE (some x) = none := rfl

section
variable {s : S} {nb op : Nat} {q : Orc} {F : List Nat}
theorem serve_ok {id k : Int} {c : Cfg} {up : Bool} {now : Int} {sent reply : Nat} {p : Parts} (h : Oc s op q F) (hq : q.rs.length ≤ 4000000000000)
    (hn : s.get nb = some (.cells (ncells id k c op up now sent reply 0 Cp.zero p) 0 false)) (hb : nb < s.ctr) (hF : nb ∉ F) (hp : p.Flat) :
    Ev tab 29 [.ptr nb 0] s fun v s' => v = errV (serveP q).1 ∧ Chg (nb :: F) s s' ∧ ∃ sv F', isFlat sv = true ∧ Grow F F' s.ctr ∧ Oc s' op (serveP q).2.2.2 F' ∧
      s'.get nb = some (.cells (ncells id k c op up now sent reply (serveP q).2.1 (serveP q).2.2.1 {p with server := sv}) 0 false) := by
  refine Ev.intro rfl rfl rfl ?_
  unfold ncells at hn
  simp [pf29, pf29_20, rd hn]
  refine Ev.mono (oracleDraw_ok h) ?_
  rintro v s1 ⟨hc1, hctr1, rfl, hO1⟩
  have n1 : s1.get nb = some (.cells (ncells id k c op up now sent reply 0 Cp.zero p) 0 false) := by rw [hc1.get nb hb hF, hn]; rfl
  unfold ncells at n1
  unfold serveP
  cases hd : q.draw.1 with
  | none =>
    simp [ansV, pf29_19, pf29_18, pf29_17]
    exact ⟨rfl, hc1.sub (fun y hy => by simp [hy]), p.server, hp.f1, F, Grow.refl _ _, hO1, n1⟩
  | some g =>
    simp [ansV, pf29_19, pf29_18, pf29_16, rd n1]
    refine Ev.mono (tokenPort_ok hO1 (by rw [Orc.draw_rs]; omega) g) ?_
    rintro v s2 ⟨hc2, F2, hg2, hO2, rfl⟩
    have k2 := hc2.ctr
    have n2 : s2.get nb = some (.cells (ncells id k c op up now sent reply 0 Cp.zero p) 0 false) := by rw [hc2.get nb (by omega) hF, n1]; rfl
    have hF2 : nb ∉ F2 := fun hx => by rcases hg2 nb hx with h9 | h9; exact hF h9; omega
    have hcs : Chg (nb :: F) s s2 := (hc1.trans hc2).sub (fun y hy => by simp [hy])
    have hgs : Grow F F2 s.ctr := hg2.le (by omega)
    cases ha : (q.draw.2.ask 0 g).1 with
    | none =>
      simp [ansV, pf29_15, pf29_14, pf29_13]
      exact ⟨rfl, hcs, p.server, hp.f1, F2, hgs, hO2, n2⟩
    | some port =>
      have n2' := n2
      unfold ncells at n2'
      simp [ansV, pf29_15, pf29_14, pf29_12, rd n2']
      refine Ev.mono (objectsOf_w op port) ?_
      rintro v s3 ⟨hs3, rfl⟩
      have x3 : Ext s2 s3 := by rw [hs3]; simp
      have k3 : s3.ctr = s2.ctr + 1 := by rw [hs3]; rfl
      have t3 : s3.get s2.ctr = some (.cells [.int .u64 (port : Int), .ptr op 0, .snil] 0 false) := by rw [hs3]; simp
      have n3 : s3.get nb = some (.cells (ncells id k c op up now sent reply 0 Cp.zero p) 0 false) := by rw [x3.get nb (by omega), n2]
      have hO3 := hO2.ext x3
      have hlt2 := hO2.lt
      have htF : s2.ctr ∉ F2 := fun hx => by have := hlt2 _ hx; omega
      have hnb : nb ∉ s2.ctr :: F2 := fun hx => by
        rcases List.mem_cons.1 hx with h9 | h9
        · omega
        · exact hF2 h9
      have hcs3 : Chg (nb :: F) s s3 := hcs.trans (x3.chg _)
      have hsub : ∀ x ∈ s2.ctr :: F2, x ∈ nb :: F ∨ s.ctr ≤ x := fun x hx => by
        rcases List.mem_cons.1 hx with rfl | hx
        · right; omega
        · rcases hgs x hx with h9 | h9
          · left; simp [h9]
          · exact .inr h9
      have fin : ∀ (s4 : S) (sv : AV), Chg (s2.ctr :: F2) s3 s4 → Oc s4 op (q.draw.2.ask 0 g).2.draw.2 F2 → (sv = .pnil ∨ ∃ p, sv = .ptr p 0) →
          ∀ s5, Chg [nb] s4 s5 → s5.get nb = some (.cells (ncells id k c op up now sent reply (if (crt port (q.draw.2.ask 0 g).2).2 = none then port else 0) (crt port (q.draw.2.ask 0 g).2).1 {p with server := sv}) 0 false) →
          Chg (nb :: F) s s5 ∧ ∃ sv F', isFlat sv = true ∧ Grow F F' s.ctr ∧ Oc s5 op (q.draw.2.ask 0 g).2.draw.2 F' ∧ s5.get nb = some (.cells (ncells id k c op up now sent reply (if (crt port (q.draw.2.ask 0 g).2).2 = none then port else 0) (crt port (q.draw.2.ask 0 g).2).1 {p with server := sv}) 0 false) := by
        intro s4 sv hc4 hO4 hsv s5 hs5 hg5
        exact ⟨(hcs3.comp hc4 hsub).trans (hs5.sub (fun x hx => by simp at hx; simp [hx])), sv, F2, by rcases hsv with rfl | ⟨_, rfl⟩ <;> rfl, hgs, hO4.chg hs5 (fun z hz => by simp; rintro rfl; exact hF2 hz), hg5⟩
      have n3' := n3
      unfold ncells at n3'
      by_cases hk1 : k = 1
      · subst hk1
        simp [pf29_11, pf29_9, rd n3', pf29_8, pf29_7, pf29_6]
        refine Ev.mono (memOf_w hO3 t3 (by omega) htF c.pages) ?_
        rintro v s4 ⟨hc4, hO4, sv, rfl, hsv⟩
        have n4 : s4.get nb = some (.cells (ncells id 1 c op up now sent reply 0 Cp.zero p) 0 false) := by rw [hc4.get nb (by omega) hnb, n3]
        have fin4 := fin s4 sv hc4 hO4 hsv
        have fsv : isFlat sv = true := by rcases hsv with rfl | ⟨_, rfl⟩ <;> rfl
        have csv : sv.cells = [sv] := by rcases hsv with rfl | ⟨_, rfl⟩ <;> rfl
        generalize (crt port (q.draw.2.ask 0 g).2).1 = cc at *
        generalize (crt port (q.draw.2.ask 0 g).2).2 = ee at *
        obtain ⟨sA, hsA⟩ : ∃ t, t = s4.set nb (some (.cells (ncells id 1 c op up now sent reply 0 Cp.zero {p with server := sv}) 0 false)) := ⟨_, rfl⟩
        have nA : sA.get nb = some (.cells (ncells id 1 c op up now sent reply 0 Cp.zero {p with server := sv}) 0 false) := by rw [hsA]; simp
        obtain ⟨sB, hsB⟩ : ∃ t, t = sA.set nb (some (.cells (ncells id 1 c op up now sent reply 0 cc {p with server := sv}) 0 false)) := ⟨_, rfl⟩
        have nB : sB.get nb = some (.cells (ncells id 1 c op up now sent reply 0 cc {p with server := sv}) 0 false) := by rw [hsB]; simp
        obtain ⟨sC, hsC⟩ : ∃ t, t = sB.set nb (some (.cells (ncells id 1 c op up now sent reply port cc {p with server := sv}) 0 false)) := ⟨_, rfl⟩
        have nC : sC.get nb = some (.cells (ncells id 1 c op up now sent reply port cc {p with server := sv}) 0 false) := by rw [hsC]; simp
        have hcA : Chg [nb] s4 sA := by rw [hsA]; simp
        have hcB : Chg [nb] s4 sB := hcA.trans (by rw [hsB]; simp)
        simp [ncells] at n4 nA hsA nB hsB hsC
        simp [wrc n4, fsv, csv, ← hsA, capA, Cp.cells]
        simp [wrc nA, ← hsB, pf29_10, pf29_2]
        cases ee with
        | none =>
          simp [errV, pf29_1, wrc nB, pf29_0, ← hsC]
          obtain ⟨z1, z2, z3, z4, z5, z6, z7⟩ := fin4 sC (hcB.trans (by rw [hsC]; simp)) (by rw [if_pos rfl]; exact nC)
          exact ⟨z1, z2, z4, z3, z5, z6, by simpa using z7⟩
        | some ee =>
          simp [errV, pf29_0]
          obtain ⟨z1, z2, z3, z4, z5, z6, z7⟩ := fin4 sB hcB (by rw [if_neg (by simp)]; simpa [ncells] using nB)
          exact ⟨z1, z2, z4, z3, z5, z6, by simpa using z7⟩
      by_cases hk2 : k = 2
      · subst hk2
        simp [pf29_11, pf29_9, rd n3', pf29_8, pf29_7, pf29_5, pf29_4]
        refine Ev.mono (dirOf_w hO3 t3 (by omega) htF) ?_
        rintro v s4 ⟨hc4, hO4, sv, rfl, hsv⟩
        have n4 : s4.get nb = some (.cells (ncells id 2 c op up now sent reply 0 Cp.zero p) 0 false) := by rw [hc4.get nb (by omega) hnb, n3]
        have fin4 := fin s4 sv hc4 hO4 hsv
        have fsv : isFlat sv = true := by rcases hsv with rfl | ⟨_, rfl⟩ <;> rfl
        have csv : sv.cells = [sv] := by rcases hsv with rfl | ⟨_, rfl⟩ <;> rfl
        generalize (crt port (q.draw.2.ask 0 g).2).1 = cc at *
        generalize (crt port (q.draw.2.ask 0 g).2).2 = ee at *
        obtain ⟨sA, hsA⟩ : ∃ t, t = s4.set nb (some (.cells (ncells id 2 c op up now sent reply 0 Cp.zero {p with server := sv}) 0 false)) := ⟨_, rfl⟩
        have nA : sA.get nb = some (.cells (ncells id 2 c op up now sent reply 0 Cp.zero {p with server := sv}) 0 false) := by rw [hsA]; simp
        obtain ⟨sB, hsB⟩ : ∃ t, t = sA.set nb (some (.cells (ncells id 2 c op up now sent reply 0 cc {p with server := sv}) 0 false)) := ⟨_, rfl⟩
        have nB : sB.get nb = some (.cells (ncells id 2 c op up now sent reply 0 cc {p with server := sv}) 0 false) := by rw [hsB]; simp
        obtain ⟨sC, hsC⟩ : ∃ t, t = sB.set nb (some (.cells (ncells id 2 c op up now sent reply port cc {p with server := sv}) 0 false)) := ⟨_, rfl⟩
        have nC : sC.get nb = some (.cells (ncells id 2 c op up now sent reply port cc {p with server := sv}) 0 false) := by rw [hsC]; simp
        have hcA : Chg [nb] s4 sA := by rw [hsA]; simp
        have hcB : Chg [nb] s4 sB := hcA.trans (by rw [hsB]; simp)
        simp [ncells] at n4 nA hsA nB hsB hsC
        simp [wrc n4, fsv, csv, ← hsA, capA, Cp.cells]
        simp [wrc nA, ← hsB, pf29_10, pf29_2]
        cases ee with
        | none =>
          simp [errV, pf29_1, wrc nB, pf29_0, ← hsC]
          obtain ⟨z1, z2, z3, z4, z5, z6, z7⟩ := fin4 sC (hcB.trans (by rw [hsC]; simp)) (by rw [if_pos rfl]; exact nC)
          exact ⟨z1, z2, z4, z3, z5, z6, by simpa using z7⟩
        | some ee =>
          simp [errV, pf29_0]
          obtain ⟨z1, z2, z3, z4, z5, z6, z7⟩ := fin4 sB hcB (by rw [if_neg (by simp)]; simpa [ncells] using nB)
          exact ⟨z1, z2, z4, z3, z5, z6, by simpa using z7⟩
      · simp [pf29_11, pf29_9, rd n3', pf29_8, pf29_7, hk1, pf29_5, hk2, pf29_3]
        refine Ev.mono (fileOf_w hO3 t3 (by omega) htF) ?_
        rintro v s4 ⟨hc4, hO4, sv, rfl, hsv⟩
        have n4 : s4.get nb = some (.cells (ncells id k c op up now sent reply 0 Cp.zero p) 0 false) := by rw [hc4.get nb (by omega) hnb, n3]
        have fin4 := fin s4 sv hc4 hO4 hsv
        have fsv : isFlat sv = true := by rcases hsv with rfl | ⟨_, rfl⟩ <;> rfl
        have csv : sv.cells = [sv] := by rcases hsv with rfl | ⟨_, rfl⟩ <;> rfl
        generalize (crt port (q.draw.2.ask 0 g).2).1 = cc at *
        generalize (crt port (q.draw.2.ask 0 g).2).2 = ee at *
        obtain ⟨sA, hsA⟩ : ∃ t, t = s4.set nb (some (.cells (ncells id k c op up now sent reply 0 Cp.zero {p with server := sv}) 0 false)) := ⟨_, rfl⟩
        have nA : sA.get nb = some (.cells (ncells id k c op up now sent reply 0 Cp.zero {p with server := sv}) 0 false) := by rw [hsA]; simp
        obtain ⟨sB, hsB⟩ : ∃ t, t = sA.set nb (some (.cells (ncells id k c op up now sent reply 0 cc {p with server := sv}) 0 false)) := ⟨_, rfl⟩
        have nB : sB.get nb = some (.cells (ncells id k c op up now sent reply 0 cc {p with server := sv}) 0 false) := by rw [hsB]; simp
        obtain ⟨sC, hsC⟩ : ∃ t, t = sB.set nb (some (.cells (ncells id k c op up now sent reply port cc {p with server := sv}) 0 false)) := ⟨_, rfl⟩
        have nC : sC.get nb = some (.cells (ncells id k c op up now sent reply port cc {p with server := sv}) 0 false) := by rw [hsC]; simp
        have hcA : Chg [nb] s4 sA := by rw [hsA]; simp
        have hcB : Chg [nb] s4 sB := hcA.trans (by rw [hsB]; simp)
        simp [ncells] at n4 nA hsA nB hsB hsC
        simp [wrc n4, fsv, csv, ← hsA, capA, Cp.cells]
        simp [wrc nA, ← hsB, pf29_10, pf29_2]
        cases ee with
        | none =>
          simp [errV, pf29_1, wrc nB, pf29_0, ← hsC]
          obtain ⟨z1, z2, z3, z4, z5, z6, z7⟩ := fin4 sC (hcB.trans (by rw [hsC]; simp)) (by rw [if_pos rfl]; exact nC)
          exact ⟨z1, z2, z4, z3, z5, z6, by simpa using z7⟩
        | some ee =>
          simp [errV, pf29_0]
          obtain ⟨z1, z2, z3, z4, z5, z6, z7⟩ := fin4 sB hcB (by rw [if_neg (by simp)]; simpa [ncells] using nB)
          exact ⟨z1, z2, z4, z3, z5, z6, by simpa using z7⟩
end
end Go.Ab
/-! Nodes (layer 29) over the abstract machine: a node is booted. -/
namespace Go.Ab

def mx1 (n : Int) : Int := if 1 < n then n else 1

theorem clientOf_w (reply : Nat) (w t : Int) (s : S) : Ev tab 30 [.int .u64 reply, .int .i64 w, .int .i64 t] s fun v s' => s' = s.new (.cells [.int .u64 (reply : Int), .int .i64 (mx1 w), .int .i64 (mx1 t), .snil] 0 false) ∧ v = .ptr s.ctr 0 := by
  refine Ev.intro rfl rfl rfl ?_
  simp [pf30, pf30_0, foldO, maxV, mx1]

theorem portmapOf_w (a : Int) (s : S) : Ev tab 31 [.int .i64 a] s fun v s' => s' = s.new (.cells [.snil, .int .i64 (mx1 a)] 0 false) ∧ v = .ptr s.ctr 0 := by
  refine Ev.intro rfl rfl rfl ?_
  simp [pf31, pf31_0, foldO, maxV, mx1]

theorem mailboxOf_w (n : Int) (s : S) : Ev tab 32 [.int .i64 n] s fun v s' => Ext s s' ∧ ∃ g x y, v = .ptr g 0 ∧ s.ctr ≤ g ∧ g < s'.ctr ∧ s'.get g = some (.cells [.chan x, .chan y] 0 false) := by
  refine Ev.intro rfl rfl rfl ?_
  obtain ⟨m, hm, hm2⟩ : ∃ m : Nat, max 0 (min n 64) = (m : Int) ∧ m ≤ 64 := ⟨(max 0 (min n 64)).toNat, by omega, by omega⟩
  have e1 : (if (if 64 < n then (64 : Int) else n) > 0 then (if 64 < n then (64 : Int) else n) else 0) = (m : Int) := by omega
  have b1 : (m : Int) ≤ 65536 := by omega
  simp [pf32, pf32_1, pf32_0, foldO, maxV, minV, e1, b1]
  exact ⟨Ext.new (Ext.new (Ext.new (Ext.refl _))), by omega⟩

end Go.Ab
/-! Nodes (layer 29) over the abstract machine: a node is booted. -/
namespace Go.Ab

/-- What a boot answers: an error; the port, the root; and the oracle then. -/
def bootP (q : Orc) (k : Int) : Option Int × Nat × Cp × Orc :=
  match q.draw.1 with
  | none => (some 7, 0, Cp.zero, q.draw.2)
  | some g =>
    match (q.draw.2.ask 0 g).1 with
    | none => (some 7, 0, Cp.zero, (q.draw.2.ask 0 g).2)
    | some _ => if k = 0 then (none, 0, Cp.zero, (q.draw.2.ask 0 g).2) else serveP (q.draw.2.ask 0 g).2

/-- What a node has when it begins to run: blocks of its own. -/
def Born (s : S) (lo reply : Nat) (c : Cfg) (F : List Nat) (p : Parts) : Prop :=
  ∃ a b d e g m x y, p = ⟨p.server, .ptr a 0, .ptr b 0, .ptr d 0, .ptr e 0, .ptr g 0, .map m⟩ ∧
    s.get a = some (.cells [.snil] 0 false) ∧ s.get b = some (.cells [.snil] 0 false) ∧ s.get d = some (.cells [.int .u64 (reply : Int), .int .i64 (mx1 c.wait), .int .i64 (mx1 c.tries), .snil] 0 false) ∧
    s.get e = some (.cells [.snil, .int .i64 (mx1 c.age)] 0 false) ∧ s.get g = some (.cells [.chan x, .chan y] 0 false) ∧ s.get m = some (.map []) ∧
    lo ≤ a ∧ lo ≤ b ∧ lo ≤ d ∧ lo ≤ e ∧ lo ≤ g ∧ lo ≤ m ∧ a < s.ctr ∧ b < s.ctr ∧ d < s.ctr ∧ e < s.ctr ∧ g < s.ctr ∧ m < s.ctr ∧ (∀ z ∈ F, z < a ∧ z < b ∧ z < d ∧ z < e ∧ z < g ∧ z < m)

section
variable {s : S} {nb op : Nat} {q : Orc} {F : List Nat}
theorem run_ok {id k : Int} {c : Cfg} {now : Int} {sent reply port : Nat} {r : Cp} {p : Parts} (h : Oc s op q F)
    (hn : s.get nb = some (.cells (ncells id k c op false now sent reply port r p) 0 false)) (hb : nb < s.ctr) (hF : nb ∉ F) (hp : p.Flat)
    {R : Regs} {Q : AV → S → Prop} (e0 : R 0 = .ptr nb 0) (e5 : R 5 = .int .u64 (reply : Int))
    (hQ : ∀ s' p', Chg [nb] s s' → Oc s' op q F → s'.get nb = some (.cells (ncells id k c op true now sent reply port r p') 0 false) → p'.Flat → p'.server = p.server → Born s' s.ctr reply c F p' → Q .nilIface s') :
    WpC tab (.seq pf10_3 (.seq pf10_2 (.seq pf10_1 pf10_0))) R s (FinP [PR.tmp 2] Q) := by
  have n0 := hn
  unfold ncells at n0
  obtain ⟨s1, hs1⟩ : ∃ t, t = s.new (.cells [.snil] 0 false) := ⟨_, rfl⟩
  have x1 : Ext s s1 := by rw [hs1]; simp
  have c1 : s1.ctr = s.ctr + 1 := by rw [hs1]; rfl
  obtain ⟨s2, hs2⟩ : ∃ t, t = s1.new (.cells [.snil] 0 false) := ⟨_, rfl⟩
  have x2 : Ext s1 s2 := by rw [hs2]; simp
  have c2 : s2.ctr = s1.ctr + 1 := by rw [hs2]; rfl
  have n2 : s2.get nb = some (.cells (ncells id k c op false now sent reply port r p) 0 false) := by rw [(x1.trans x2).get nb hb, hn]
  have n2' := n2
  unfold ncells at n2'
  have ga2 : s2.get s.ctr = some (.cells [.snil] 0 false) := by rw [x2.get _ (by omega), hs1]; simp
  have gb2 : s2.get s1.ctr = some (.cells [.snil] 0 false) := by rw [hs2]; simp
  simp [pf10_3, e0, e5, ← hs1, ← hs2, rd n2']
  refine Ev.mono (clientOf_w reply c.wait c.tries s2) ?_
  rintro v s3 ⟨hs3, rfl⟩
  have x3 : Ext s2 s3 := by rw [hs3]; simp
  have c3 : s3.ctr = s2.ctr + 1 := by rw [hs3]; rfl
  have x03 : Ext s s3 := (x1.trans x2).trans x3
  have n3 : s3.get nb = some (.cells (ncells id k c op false now sent reply port r p) 0 false) := by rw [x3.get _ (by omega), n2]
  have gd3 : s3.get s2.ctr = some (.cells [.int .u64 (reply : Int), .int .i64 (mx1 c.wait), .int .i64 (mx1 c.tries), .snil] 0 false) := by rw [hs3]; simp
  obtain ⟨u1, hu1⟩ : ∃ t, t = s3.set nb (some (.cells (ncells id k c op false now sent reply port r {p with served := .ptr s.ctr 0}) 0 false)) := ⟨_, rfl⟩
  have nu1 : u1.get nb = some (.cells (ncells id k c op false now sent reply port r {p with served := .ptr s.ctr 0}) 0 false) := by rw [hu1]; simp
  have du1 : Chg [nb] s3 u1 := by rw [hu1]; simp
  have cu1 : u1.ctr = s3.ctr := by rw [hu1]; rfl
  obtain ⟨u2, hu2⟩ : ∃ t, t = u1.set nb (some (.cells (ncells id k c op false now sent reply port r {p with served := .ptr s.ctr 0, gather := .ptr s1.ctr 0}) 0 false)) := ⟨_, rfl⟩
  have nu2 : u2.get nb = some (.cells (ncells id k c op false now sent reply port r {p with served := .ptr s.ctr 0, gather := .ptr s1.ctr 0}) 0 false) := by rw [hu2]; simp
  have du2 : Chg [nb] u1 u2 := by rw [hu2]; simp
  have cu2 : u2.ctr = u1.ctr := by rw [hu2]; rfl
  obtain ⟨u3, hu3⟩ : ∃ t, t = u2.set nb (some (.cells (ncells id k c op false now sent reply port r {p with served := .ptr s.ctr 0, gather := .ptr s1.ctr 0, client := .ptr s2.ctr 0}) 0 false)) := ⟨_, rfl⟩
  have nu3 : u3.get nb = some (.cells (ncells id k c op false now sent reply port r {p with served := .ptr s.ctr 0, gather := .ptr s1.ctr 0, client := .ptr s2.ctr 0}) 0 false) := by rw [hu3]; simp
  have du3 : Chg [nb] u2 u3 := by rw [hu3]; simp
  have cu3 : u3.ctr = u2.ctr := by rw [hu3]; rfl
  have d3 : Chg [nb] s3 u3 := (du1.trans du2).trans du3
  have n3' := n3
  have nu3' := nu3
  simp [ncells] at n3' hu1 nu1 hu2 nu2 hu3 nu3'
  simp [wrc n3', ← hu1]
  simp [wrc nu1, ← hu2]
  simp [wrc nu2, ← hu3]
  have hne : ∀ z, s.ctr ≤ z → z ∉ [nb] := fun z hz => by simp; omega
  have ga : u3.get s.ctr = some (.cells [.snil] 0 false) := by rw [d3.get _ (by omega) (hne _ (by omega)), x3.get _ (by omega), ga2]
  have gb : u3.get s1.ctr = some (.cells [.snil] 0 false) := by rw [d3.get _ (by omega) (hne _ (by omega)), x3.get _ (by omega), gb2]
  have gd : u3.get s2.ctr = some (.cells [.int .u64 (reply : Int), .int .i64 (mx1 c.wait), .int .i64 (mx1 c.tries), .snil] 0 false) := by rw [d3.get _ (by omega) (hne _ (by omega)), gd3]
  have cu : u3.ctr = s.ctr + 3 := by omega
  obtain ⟨t1, ht1⟩ : ∃ t, t = u3.new (.map []) := ⟨_, rfl⟩
  have y1 : Ext u3 t1 := by rw [ht1]; simp
  have ct1 : t1.ctr = u3.ctr + 1 := by rw [ht1]; rfl
  have gm1 : t1.get u3.ctr = some (.map []) := by rw [ht1]; simp
  simp [pf10_2, e0, rd nu3', ← ht1]
  refine Ev.mono (portmapOf_w c.age t1) ?_
  rintro v t2 ⟨ht2, rfl⟩
  have y2 : Ext t1 t2 := by rw [ht2]; simp
  have ct2 : t2.ctr = t1.ctr + 1 := by rw [ht2]; rfl
  have ge2 : t2.get t1.ctr = some (.cells [.snil, .int .i64 (mx1 c.age)] 0 false) := by rw [ht2]; simp
  have nt2 : t2.get nb = some (.cells (ncells id k c op false now sent reply port r {p with served := .ptr s.ctr 0, gather := .ptr s1.ctr 0, client := .ptr s2.ctr 0}) 0 false) := by rw [(y1.trans y2).get _ (by omega), nu3]
  have nt2' := nt2
  simp [ncells] at nt2'
  simp [rd nt2']
  refine Ev.mono (mailboxOf_w c.room t2) ?_
  rintro v t3 ⟨y3, g, xa, xb, rfl, hg1, hg2, hg3⟩
  have ct3 := y3.ctr
  have nt3 : t3.get nb = some (.cells (ncells id k c op false now sent reply port r {p with served := .ptr s.ctr 0, gather := .ptr s1.ctr 0, client := .ptr s2.ctr 0}) 0 false) := by rw [y3.get _ (by omega), nt2]
  obtain ⟨v1, hv1⟩ : ∃ t, t = t3.set nb (some (.cells (ncells id k c op false now sent reply port r {p with served := .ptr s.ctr 0, gather := .ptr s1.ctr 0, client := .ptr s2.ctr 0, places := .ptr t1.ctr 0}) 0 false)) := ⟨_, rfl⟩
  have nv1 : v1.get nb = some (.cells (ncells id k c op false now sent reply port r {p with served := .ptr s.ctr 0, gather := .ptr s1.ctr 0, client := .ptr s2.ctr 0, places := .ptr t1.ctr 0}) 0 false) := by rw [hv1]; simp
  have dv1 : Chg [nb] t3 v1 := by rw [hv1]; simp
  have cv1 : v1.ctr = t3.ctr := by rw [hv1]; rfl
  obtain ⟨v2, hv2⟩ : ∃ t, t = v1.set nb (some (.cells (ncells id k c op false now sent reply port r {p with served := .ptr s.ctr 0, gather := .ptr s1.ctr 0, client := .ptr s2.ctr 0, places := .ptr t1.ctr 0, box := .ptr g 0}) 0 false)) := ⟨_, rfl⟩
  have nv2 : v2.get nb = some (.cells (ncells id k c op false now sent reply port r {p with served := .ptr s.ctr 0, gather := .ptr s1.ctr 0, client := .ptr s2.ctr 0, places := .ptr t1.ctr 0, box := .ptr g 0}) 0 false) := by rw [hv2]; simp
  have dv2 : Chg [nb] v1 v2 := by rw [hv2]; simp
  have cv2 : v2.ctr = v1.ctr := by rw [hv2]; rfl
  obtain ⟨v3, hv3⟩ : ∃ t, t = v2.set nb (some (.cells (ncells id k c op false now sent reply port r {p with served := .ptr s.ctr 0, gather := .ptr s1.ctr 0, client := .ptr s2.ctr 0, places := .ptr t1.ctr 0, box := .ptr g 0, senders := .map u3.ctr}) 0 false)) := ⟨_, rfl⟩
  have nv3 : v3.get nb = some (.cells (ncells id k c op false now sent reply port r {p with served := .ptr s.ctr 0, gather := .ptr s1.ctr 0, client := .ptr s2.ctr 0, places := .ptr t1.ctr 0, box := .ptr g 0, senders := .map u3.ctr}) 0 false) := by rw [hv3]; simp
  have dv3 : Chg [nb] v2 v3 := by rw [hv3]; simp
  have cv3 : v3.ctr = v2.ctr := by rw [hv3]; rfl
  obtain ⟨v4, hv4⟩ : ∃ t, t = v3.set nb (some (.cells (ncells id k c op true now sent reply port r {p with served := .ptr s.ctr 0, gather := .ptr s1.ctr 0, client := .ptr s2.ctr 0, places := .ptr t1.ctr 0, box := .ptr g 0, senders := .map u3.ctr}) 0 false)) := ⟨_, rfl⟩
  have nv4 : v4.get nb = some (.cells (ncells id k c op true now sent reply port r {p with served := .ptr s.ctr 0, gather := .ptr s1.ctr 0, client := .ptr s2.ctr 0, places := .ptr t1.ctr 0, box := .ptr g 0, senders := .map u3.ctr}) 0 false) := by rw [hv4]; simp
  have dv4 : Chg [nb] v3 v4 := by rw [hv4]; simp
  have cv4 : v4.ctr = v3.ctr := by rw [hv4]; rfl
  have nt3' := nt3
  have nv3' := nv3
  simp [ncells] at nt3' hv1 nv1 hv2 nv2 hv3 nv3' hv4
  simp [wrc nt3', ← hv1]
  simp [wrc nv1, ← hv2]
  simp [wrc nv2, ← hv3, pf10_1, e0]
  simp [wrc nv3', ← hv4, pf10_0, FinP]
  have d34 : Chg [nb] t3 v4 := ((dv1.trans dv2).trans dv3).trans dv4
  have y13 : Ext u3 t3 := (y1.trans y2).trans y3
  have dall : Chg [nb] s v4 := (((x03.chg [nb]).trans d3).trans (y13.chg [nb])).trans d34
  have cv : v4.ctr = t3.ctr := by omega
  have hlt := h.lt
  refine hQ v4 _ dall (h.chg dall (fun z hz => by simp; rintro rfl; exact hF hz)) nv4 ⟨hp.f1, rfl, rfl, rfl, rfl, rfl, rfl⟩ rfl ?_
  refine ⟨s.ctr, s1.ctr, s2.ctr, t1.ctr, g, u3.ctr, xa, xb, rfl, ?_, ?_, ?_, ?_, ?_, ?_, by omega, by omega, by omega, by omega, by omega, by omega, by omega, by omega, by omega, by omega, by omega, by omega, fun z hz => ?_⟩
  · rw [d34.get _ (by omega) (hne _ (by omega)), y13.get _ (by omega), ga]
  · rw [d34.get _ (by omega) (hne _ (by omega)), y13.get _ (by omega), gb]
  · rw [d34.get _ (by omega) (hne _ (by omega)), y13.get _ (by omega), gd]
  · rw [d34.get _ (by omega) (hne _ (by omega)), y3.get _ (by omega), ge2]
  · rw [d34.get _ (by omega) (hne _ (by omega)), hg3]
  · rw [d34.get _ (by omega) (hne _ (by omega)), (y2.trans y3).get _ (by omega), gm1]
  · have := hlt z hz
    omega
end
end Go.Ab
/-! Nodes (layer 29) over the abstract machine: a node is booted. -/
namespace Go.Ab

theorem Born.le {s : S} {lo lo' reply : Nat} {c : Cfg} {F : List Nat} {p : Parts} (h : Born s lo reply c F p) (hl : lo' ≤ lo) : Born s lo' reply c F p := by
  obtain ⟨a, b, d, e, g, m, x, y, h0, h1, h2, h3, h4, h5, h6, k1, k2, k3, k4, k5, k6, r⟩ := h
  exact ⟨a, b, d, e, g, m, x, y, h0, h1, h2, h3, h4, h5, h6, by omega, by omega, by omega, by omega, by omega, by omega, r⟩

section
variable {s : S} {nb op : Nat} {q : Orc} {F : List Nat}
theorem boot_ok {id k : Int} {c : Cfg} {now : Int} {sent reply : Nat} {p : Parts} (h : Oc s op q F) (hq : q.rs.length ≤ 3000000000000)
    (hn : s.get nb = some (.cells (ncells id k c op false now sent reply 0 Cp.zero p) 0 false)) (hb : nb < s.ctr) (hF : nb ∉ F) (hp : p.Flat) :
    Ev tab 10 [.ptr nb 0] s fun v s' => v = errV (bootP q k).1 ∧ Chg (nb :: F) s s' ∧ ∃ reply p F', p.Flat ∧ Grow F F' s.ctr ∧ Oc s' op (bootP q k).2.2.2 F' ∧
      s'.get nb = some (.cells (ncells id k c op (bootP q k).1.isNone now sent reply (bootP q k).2.1 (bootP q k).2.2.1 p) 0 false) ∧
      ((bootP q k).1 = none → Born s' s.ctr reply c F' p ∧ ∃ g, q.draw.1 = some g ∧ (q.draw.2.ask 0 g).1 = some reply) := by
  refine Ev.intro rfl rfl rfl ?_
  have n0 := hn
  unfold ncells at n0
  simp [pf10, pf10_21, pf10_20, rd n0, pf10_18]
  refine Ev.mono (oracleDraw_ok h) ?_
  rintro v s1 ⟨hc1, hctr1, rfl, hO1⟩
  have n1 : s1.get nb = some (.cells (ncells id k c op false now sent reply 0 Cp.zero p) 0 false) := by rw [hc1.get nb hb hF, hn]
  have n1' := n1
  unfold ncells at n1'
  unfold bootP
  cases hd : q.draw.1 with
  | none =>
    simp [ansV, pf10_17, pf10_16, pf10_15]
    exact ⟨rfl, hc1.sub (fun y hy => by simp [hy]), reply, p, hp, F, Grow.refl _ _, hO1, by simpa using n1⟩
  | some g =>
    simp [ansV, pf10_17, pf10_16, pf10_14, rd n1']
    refine Ev.mono (tokenPort_ok hO1 (by rw [Orc.draw_rs]; omega) g) ?_
    rintro v s2 ⟨hc2, F2, hg2, hO2, rfl⟩
    have k2 := hc2.ctr
    have n2 : s2.get nb = some (.cells (ncells id k c op false now sent reply 0 Cp.zero p) 0 false) := by rw [hc2.get nb (by omega) hF, n1]
    have hF2 : nb ∉ F2 := fun hx => by rcases hg2 nb hx with h9 | h9; exact hF h9; omega
    have hcs : Chg (nb :: F) s s2 := (hc1.trans hc2).sub (fun y hy => by simp [hy])
    have hgs : Grow F F2 s.ctr := hg2.le (by omega)
    cases ha : (q.draw.2.ask 0 g).1 with
    | none =>
      simp [ansV, pf10_13, pf10_12, pf10_11]
      exact ⟨rfl, hcs, reply, p, hp, F2, hgs, hO2, by simpa using n2⟩
    | some rp =>
      have n2' := n2
      obtain ⟨u1, hu1⟩ : ∃ t, t = s2.set nb (some (.cells (ncells id k c op false now sent rp 0 Cp.zero p) 0 false)) := ⟨_, rfl⟩
      have nu1 : u1.get nb = some (.cells (ncells id k c op false now sent rp 0 Cp.zero p) 0 false) := by rw [hu1]; simp
      have du1 : Chg [nb] s2 u1 := by rw [hu1]; simp
      have cu1 : u1.ctr = s2.ctr := by rw [hu1]; rfl
      obtain ⟨u2, hu2⟩ : ∃ t, t = u1.set nb (some (.cells (ncells id k c op false now sent rp 0 Cp.zero p) 0 false)) := ⟨_, rfl⟩
      have nu2 : u2.get nb = some (.cells (ncells id k c op false now sent rp 0 Cp.zero p) 0 false) := by rw [hu2]; simp
      have du2 : Chg [nb] u1 u2 := by rw [hu2]; simp
      have cu2 : u2.ctr = u1.ctr := by rw [hu2]; rfl
      obtain ⟨u3, hu3⟩ : ∃ t, t = u2.set nb (some (.cells (ncells id k c op false now sent rp 0 Cp.zero p) 0 false)) := ⟨_, rfl⟩
      have nu3 : u3.get nb = some (.cells (ncells id k c op false now sent rp 0 Cp.zero p) 0 false) := by rw [hu3]; simp
      have du3 : Chg [nb] u2 u3 := by rw [hu3]; simp
      have cu3 : u3.ctr = u2.ctr := by rw [hu3]; rfl
      obtain ⟨u4, hu4⟩ : ∃ t, t = u3.set nb (some (.cells (ncells id k c op false now sent rp 0 Cp.zero {p with server := .pnil}) 0 false)) := ⟨_, rfl⟩
      have nu4 : u4.get nb = some (.cells (ncells id k c op false now sent rp 0 Cp.zero {p with server := .pnil}) 0 false) := by rw [hu4]; simp
      have du4 : Chg [nb] u3 u4 := by rw [hu4]; simp
      have cu4 : u4.ctr = u3.ctr := by rw [hu4]; rfl
      have nu4' := nu4
      simp [ncells, Cp.zero] at n2' hu1 nu1 hu2 nu2 hu3 nu3 hu4 nu4'
      simp [ansV, pf10_13, pf10_12, pf10_10, wrc n2', ← hu1]
      simp [wrc nu1, ← hu2]
      simp [wrc nu2, ← hu3]
      simp [wrc nu3, ← hu4, pf10_9, pf10_8, rd nu4']
      have d4 : Chg [nb] s2 u4 := ((du1.trans du2).trans du3).trans du4
      have hO4 : Oc u4 op (q.draw.2.ask 0 g).2 F2 := hO2.chg d4 (fun z hz => by simp; rintro rfl; exact hF2 hz)
      have hp4 : Parts.Flat {p with server := .pnil} := ⟨rfl, hp.f2, hp.f3, hp.f4, hp.f5, hp.f6, hp.f7⟩
      have hcs4 : Chg (nb :: F) s u4 := hcs.trans (d4.sub (fun x hx => by simp at hx; simp [hx]))
      by_cases hk : k = 0
      · subst hk
        simp
        refine run_ok hO4 nu4 (by omega) hF2 hp4 (by simp) (by simp) ?_
        intro s5 p5 hd5 hO5 n5 hp5 hs5 hB5
        exact ⟨rfl, hcs4.trans (hd5.sub (fun x hx => by simp at hx; simp [hx])), rp, p5, hp5, F2, hgs, hO5, n5, hB5.le (by omega), rfl⟩
      · simp [hk, pf10_7, pf10_6]
        refine Ev.mono (serve_ok hO4 (by have := @Orc.ask_rs q.draw.2 0 g; rw [Orc.draw_rs] at this; omega) nu4 (by omega) hF2 hp4) ?_
        rintro v s5 ⟨rfl, hc5, sv, F5, hsv, hg5, hO5, n5⟩
        have k5 := hc5.ctr
        have hF5 : nb ∉ F5 := fun hx => by rcases hg5 nb hx with h9 | h9; exact hF2 h9; omega
        have hgs5 : Grow F F5 s.ctr := hgs.trans hg5 (by omega)
        have hcs5 : Chg (nb :: F) s s5 := hcs4.comp hc5 (fun x hx => by
          rcases List.mem_cons.1 hx with rfl | hx
          · simp
          · rcases hgs x hx with h9 | h9
            · left; simp [h9]
            · exact .inr h9)
        have hp5 : Parts.Flat {p with server := sv} := ⟨hsv, hp.f2, hp.f3, hp.f4, hp.f5, hp.f6, hp.f7⟩
        generalize serveP (q.draw.2.ask 0 g).2 = z at *
        obtain ⟨ze, zp, zr, zq⟩ := z
        cases ze with
        | some x =>
          simp [errV, pf10_5, pf10_4]
          exact ⟨hcs5, rp, _, hp5, F5, hgs5, hO5, n5⟩
        | none =>
          simp [errV, pf10_5]
          refine run_ok hO5 n5 (by omega) hF5 hp5 (by simp) (by simp) ?_
          intro s6 p6 hd6 hO6 n6 hp6 hs6 hB6
          exact ⟨rfl, hcs5.trans (hd6.sub (fun x hx => by simp at hx; simp [hx])), rp, p6, hp6, F5, hgs5, hO6, n6, hB6.le (by omega), rfl⟩
end
end Go.Ab
/-! Nodes (layer 29) over the abstract machine: what a node tells; how it stops. -/
namespace Go.Ab

section
variable {s : S} {nb op : Nat} {q : Orc} {F : List Nat} {id k : Int} {c : Cfg} {up : Bool} {now : Int} {sent reply port : Nat} {r : Cp} {p : Parts}
theorem root_ok (hn : s.get nb = some (.cells (ncells id k c op up now sent reply port r p) 0 false)) (hb : nb < s.ctr) :
    Ev tab 16 [.ptr nb 0] s fun v s' => Ext s s' ∧ v = .tuple [capA r, .bool (up && decide (port ≠ 0))] := by
  refine Ev.intro rfl rfl rfl ?_
  obtain ⟨s1, hs1⟩ : ∃ t, t = s.new (.cells [.int .u64 0, .int .u32 0, .int .u8 0, .int .u64 0] 0 false) := ⟨_, rfl⟩
  have x1 : Ext s s1 := by rw [hs1]; simp
  have g1 : s1.get s.ctr = some (.cells [.int .u64 0, .int .u32 0, .int .u8 0, .int .u64 0] 0 false) := by rw [hs1]; simp
  have n1 : s1.get nb = some (.cells (ncells id k c op up now sent reply port r p) 0 false) := by rw [x1.get _ hb, hn]
  unfold ncells at n1
  obtain ⟨s2, hs2⟩ : ∃ t, t = s1.set s.ctr (some (.cells [.int .u64 (r.p : Int), .int .u32 (r.o : Int), .int .u8 (r.r : Int), .int .u64 (r.k : Int)] 0 false)) := ⟨_, rfl⟩
  have x2 : Ext s s2 := by rw [hs2, hs1]; simp
  have g2 : s2.get s.ctr = some (.cells [.int .u64 (r.p : Int), .int .u32 (r.o : Int), .int .u8 (r.r : Int), .int .u64 (r.k : Int)] 0 false) := by rw [hs2]; simp
  have n2 : s2.get nb = some (.cells (ncells id k c op up now sent reply port r p) 0 false) := by rw [x2.get _ hb, hn]
  unfold ncells at n2
  cases up with
  | false =>
    simp [pf16, pf16_1, pf16_0, ← hs1, rd n1, wrc g1, ← hs2, rd g2, capA, Cp.cells, x2]
  | true =>
    simp [pf16, pf16_1, pf16_0, ← hs1, rd n1, wrc g1, ← hs2, rd g2, rd n2, capA, Cp.cells, x2]

theorem left_ok (h : Oc s op q F) : Ev tab 19 [.ptr op 0] s fun v s' => s' = s ∧ v = .int .i64 ((q.es.length - q.at_ : Nat) : Int) := by
  refine Ev.intro rfl rfl rfl ?_
  obtain ⟨av, fa, tp, ft, h1, h2, h3, rfl, h5, h6, h7, h8, h9⟩ := h
  simp [pf19, pf19_1, pf19_0, rd h1]
  refine Ev.mono (Q := fun v s' => s' = s ∧ v = .int .i64 ((q.es.length - q.at_ : Nat) : Int)) (Ev.intro rfl rfl rfl ?_) ?_
  · obtain ⟨ev, fe, t1, t2, t3, t4, t5, t6⟩ := h3
    have wl := t2.wlen
    have w : IntKind.i64.wrap ((q.es.length : Int) - (q.at_ : Int)) = ((q.es.length - q.at_ : Nat) : Int) := by rw [wrap_i64] <;> omega
    simp [pf36, pf36_1, pf36_0, rd t1, wl, w]
  · rintro v s' ⟨rfl, rfl⟩
    simp

theorem up_ok (hn : s.get nb = some (.cells (ncells id k c op up now sent reply port r p) 0 false)) :
    Ev tab 18 [.ptr nb 0] s fun v s' => s' = s ∧ v = .bool up := by
  refine Ev.intro rfl rfl rfl ?_
  unfold ncells at hn
  simp [pf18, pf18_1, pf18_0, rd hn]

theorem crash_ok (hn : s.get nb = some (.cells (ncells id k c op up now sent reply port r p) 0 false)) (hb : nb < s.ctr) :
    Ev tab 20 [.ptr nb 0] s fun v s' => if up then v = .nilIface ∧ Chg [nb] s s' ∧ s'.ctr = s.ctr ∧ s'.get nb = some (.cells (ncells id k c op false now sent 0 0 Cp.zero Parts.none) 0 false) else v = .iface 49 (.int .i64 15) ∧ s' = s := by
  refine Ev.intro rfl rfl rfl ?_
  unfold ncells at hn
  cases up with
  | false => simp [pf20, pf20_4, pf20_3, rd hn, pf20_2]
  | true =>
    simp [pf20, pf20_4, pf20_3, rd hn, pf20_1]
    simp [wrc hn, pf20_0, ncells, Cp.zero, Parts.none]

theorem again_ok (hn : s.get nb = some (.cells (ncells id k c op true now sent reply port r p) 0 false)) :
    Ev tab 10 [.ptr nb 0] s fun v s' => s' = s ∧ v = .iface 49 (.int .i64 15) := by
  refine Ev.intro rfl rfl rfl ?_
  unfold ncells at hn
  simp [pf10, pf10_21, pf10_20, rd hn, pf10_19]

theorem config_ok (a b d e f : Nat) (ha : a < 256) (hb : b < 256) (hd : d < 256) (he : e < 256) (hf : f < 256) :
    Ev tab 9 [.int .u8 a, .int .u8 b, .int .u8 d, .int .u8 e, .int .u8 f] s fun v s' => Ext s s' ∧ v = .agg (Cfg.cells ⟨2, 1 + (a % 120 : Nat), 1 + (b % 5 : Nat), 1 + (d % 5 : Nat), 1 + (e % 20 : Nat), 10, 1 + (f % 10 : Nat)⟩) := by
  refine Ev.intro rfl rfl rfl ?_
  have w : ∀ (x : Nat) (m : Int), 0 < m → m < 200 → IntKind.i64.wrap (1 + IntKind.i64.wrap ((x : Int).tmod m)) = 1 + (x : Int) % m := fun x m hm hm2 => by
    have h1 : (x : Int).tmod m = (x : Int) % m := Int.tmod_eq_emod_of_nonneg (by omega)
    have h2 := Int.emod_lt_of_pos (x : Int) hm
    have h3 := Int.emod_nonneg (x : Int) (show m ≠ 0 by omega)
    have h4 : IntKind.i64.wrap ((x : Int) % m) = (x : Int) % m := by rw [wrap_i64] <;> omega
    rw [h1, h4, wrap_i64] <;> omega
  have w1 := w a 120 (by omega) (by omega)
  have w2 := w b 5 (by omega) (by omega)
  have w3 := w d 5 (by omega) (by omega)
  have w4 := w e 20 (by omega) (by omega)
  have w5 := w f 10 (by omega) (by omega)
  obtain ⟨s1, hs1⟩ : ∃ t, t = s.new (.cells [.int .i64 0, .int .i64 0, .int .i64 0, .int .i64 0, .int .i64 0, .int .i64 0, .int .i64 0] 0 false) := ⟨_, rfl⟩
  have x1 : Ext s s1 := by rw [hs1]; simp
  have g1 : s1.get s.ctr = some (.cells [.int .i64 0, .int .i64 0, .int .i64 0, .int .i64 0, .int .i64 0, .int .i64 0, .int .i64 0] 0 false) := by rw [hs1]; simp
  simp [pf9, pf9_1, pf9_0, ← hs1, w1, w2, w3, w4, w5]
  simp [wrc g1, Cfg.cells, w1, w2, w3, w4, w5]
  exact Ext.set (Nat.le_refl _) x1

theorem nodeOf_ok : Ev tab 8 [.int .i64 id, .int .i64 k, .agg c.cells, .ptr op 0] s fun v s' => Ext s s' ∧ s'.ctr = s.ctr + 2 ∧ v = .ptr (s.ctr + 1) 0 ∧ s'.get (s.ctr + 1) = some (.cells (ncells id k c op false 0 0 0 0 Cp.zero Parts.none) 0 false) := by
  refine Ev.intro rfl rfl rfl ?_
  obtain ⟨s1, hs1⟩ : ∃ t, t = s.new (.cells [.int .i64 c.nodes, .int .i64 c.piece, .int .i64 c.wait, .int .i64 c.tries, .int .i64 c.age, .int .i64 c.pages, .int .i64 c.room] 0 false) := ⟨_, rfl⟩
  have x1 : Ext s s1 := by rw [hs1]; simp
  have c1 : s1.ctr = s.ctr + 1 := by rw [hs1]; rfl
  have g1 : s1.get s.ctr = some (.cells [.int .i64 c.nodes, .int .i64 c.piece, .int .i64 c.wait, .int .i64 c.tries, .int .i64 c.age, .int .i64 c.pages, .int .i64 c.room] 0 false) := by rw [hs1]; simp
  simp [pf8, pf8_1, pf8_0, Cfg.cells, ← hs1, rd g1, c1, ncells, Cp.zero, Parts.none]
  exact Ext.new x1
end
end Go.Ab
/-! Nodes (layer 29) over the abstract machine: the law's own draws, in boxes. -/
namespace Go.Ab

/-- What the law keeps: an oracle; a secret, a port, a check; and the error. -/
structure Dr where
  q : Orc
  g : Nat
  p : Nat
  c : Nat
  e : Option Int
def Dr.drawG (d : Dr) : Dr := if d.e = none then {d with q := d.q.draw.2, g := d.q.draw.1.getD 0, e := tapeE d.q.draw.1} else d
def Dr.drawC (d : Dr) : Dr := if d.e = none then {d with q := d.q.draw.2, c := d.q.draw.1.getD 0, e := tapeE d.q.draw.1} else d
def Dr.drawP (d : Dr) : Dr := if d.e = none then {d with q := (d.q.ask 0 d.g).2, p := (d.q.ask 0 d.g).1.getD 0, e := tapeE (d.q.ask 0 d.g).1} else d

/-- The boxes, from a number on; nothing of it below a base. -/
structure Sc (s : S) (base n op : Nat) (F : List Nat) (d : Dr) : Prop where
  hO : Oc s op d.q F
  g0 : s.get n = some (.cells [.ptr op 0] 0 false)
  g1 : s.get (n + 1) = some (.cells [.int .u64 (d.g : Int)] 0 false)
  g2 : s.get (n + 2) = some (.cells [.int .u64 (d.p : Int)] 0 false)
  g3 : s.get (n + 3) = some (.cells [.int .u64 (d.c : Int)] 0 false)
  g4 : s.get (n + 4) = some (.cells [errV d.e] 0 false)
  ap : ∀ z ∈ F, z < n ∨ n + 4 < z
  lo : ∀ z ∈ F, base ≤ z
  bn : base ≤ n
  lt : n + 4 < s.ctr

theorem Chg.keep {l : List Nat} {a b : S} {n : Nat} (h : Chg l a b) (hl : ∀ x ∈ l, n ≤ x) (hn : n ≤ a.ctr) : Keep n a b :=
  ⟨h.ctr, fun id hid => h.get id (by omega) (fun hx => by have := hl id hx; omega)⟩

theorem wpI_callv0 {T : Tab} {x : Opd} {r : Regs} {s : S} {Q : AV → S → Prop} {fn : FuncId} {first caps : List AV} (hx : x.ev r = .func (.func fn) first caps) (h : Ev T fn (first ++ caps) s Q) : WpI T (.callv x []) r s Q := by
  simp only [WpI, hx]
  simpa using h

section
variable {s : S} {base n op : Nat} {F : List Nat} {d : Dr}

theorem Sc.ext {s' : S} (h : Sc s base n op F d) (hx : Ext s s') : Sc s' base n op F d := by
  have := h.lt
  exact ⟨h.hO.ext hx, by rw [hx.get _ (by omega), h.g0], by rw [hx.get _ (by omega), h.g1], by rw [hx.get _ (by omega), h.g2], by rw [hx.get _ (by omega), h.g3], by rw [hx.get _ (by omega), h.g4], h.ap, h.lo, h.bn, by have := hx.ctr; omega⟩

/-- One of the closure's draws: into the box x. -/
theorem draw_step (h : Sc s base n op F d) {x j : Nat} (hx : x = n + j) (hj : 1 ≤ j) (hj4 : j < 4) {x0 : Nat} (hgx : s.get x = some (.cells [.int .u64 (x0 : Int)] 0 false)) {fn : FuncId} {first caps : List AV} {a : Option Nat} {q' : Orc}
    (hcall : d.e = none → Ev tab fn (first ++ caps) s fun v s' => Chg F s s' ∧ ∃ F', Grow F F' s.ctr ∧ Oc s' op q' F' ∧ v = ansV a) :
    Ev tab 11 [.ptr x 0, .func (.func fn) first caps, .ptr (n + 4) 0] s fun v s' => v = .tuple [] ∧ ((d.e ≠ none ∧ s' = s) ∨ (d.e = none ∧ Keep base s s' ∧ ∃ F', Oc s' op q' F' ∧ (∀ z ∈ F', z < n ∨ n + 4 < z) ∧ (∀ z ∈ F', base ≤ z) ∧
      s'.get x = some (.cells [.int .u64 ((a.getD 0 : Nat) : Int)] 0 false) ∧ s'.get (n + 4) = some (.cells [errV (tapeE a)] 0 false) ∧ n + 4 < s'.ctr ∧ ∀ i, i < 4 → n + i ≠ x → s'.get (n + i) = s.get (n + i))) := by
  refine Ev.intro rfl rfl rfl ?_
  obtain ⟨q, g, p, c, e⟩ := d
  have g4 := h.g4
  have hlt := h.lt
  have hap := h.ap
  cases e with
  | some e => simp [pf11, pf11_1, rd g4, errV]
  | none =>
    have g4' : s.get (n + 4) = some (.cells [.nilIface] 0 false) := g4
    simp [pf11, pf11_1, rd g4', pf11_0]
    refine wpI_callv0 (fn := fn) (first := first) (caps := caps) rfl (Ev.mono (hcall rfl) ?_)
    rintro v s1 ⟨hc1, F1, hg1, hO1, rfl⟩
    have k1 := hc1.ctr
    have hnF : ∀ i, i ≤ 4 → n + i ∉ F := fun i hi hz => by rcases hap _ hz with h9 | h9 <;> omega
    have gx1 : s1.get x = some (.cells [.int .u64 (x0 : Int)] 0 false) := by rw [hx, hc1.get _ (by omega) (hnF j (by omega)), ← hx, hgx]
    have g41 : s1.get (n + 4) = some (.cells [errV none] 0 false) := by rw [hc1.get _ (by omega) (hnF 4 (by omega)), g4]
    have hne : ¬ n + 4 = x := by omega
    obtain ⟨s2, hs2⟩ : ∃ t, t = s1.set x (some (.cells [.int .u64 ((a.getD 0 : Nat) : Int)] 0 false)) := ⟨_, rfl⟩
    have g42 : s2.get (n + 4) = some (.cells [errV none] 0 false) := by rw [hs2, S.get_set, if_neg hne, g41]
    have gx2 : s2.get x = some (.cells [.int .u64 ((a.getD 0 : Nat) : Int)] 0 false) := by rw [hs2]; simp
    obtain ⟨s3, hs3⟩ : ∃ t, t = s2.set (n + 4) (some (.cells [errV (tapeE a)] 0 false)) := ⟨_, rfl⟩
    have g43 : s3.get (n + 4) = some (.cells [errV (tapeE a)] 0 false) := by rw [hs3]; simp
    have gx3 : s3.get x = some (.cells [.int .u64 ((a.getD 0 : Nat) : Int)] 0 false) := by rw [hs3, S.get_set, if_neg (fun h => hne h.symm), gx2]
    have d3 : Chg [x, n + 4] s1 s3 := by rw [hs3, hs2]; simp
    have hF1 : ∀ z ∈ F1, z < n ∨ n + 4 < z := fun z hz => by
      rcases hg1 z hz with h9 | h9
      · exact hap z h9
      · omega
    have hB1 : ∀ z ∈ F1, base ≤ z := fun z hz => by
      rcases hg1 z hz with h9 | h9
      · exact h.lo z h9
      · have := h.bn; omega
    have c3 : s3.ctr = s1.ctr := by rw [hs3, hs2]; rfl
    have hbn := h.bn
    simp [ansV_eq, wrc gx1, ← hs2, wrc g42, ← hs3, cells_errV, flat_errV]
    refine ⟨(hc1.keep h.lo (by omega)).trans (d3.keep (fun z hz => by simp at hz; omega) (by omega)), F1, hO1.chg d3 (fun z hz => by simp; have := hF1 z hz; omega), hF1, hB1, gx3, g43, by omega, fun i hi hix => ?_⟩
    rw [d3.get _ (by omega) (by simp; omega), hc1.get _ (by omega) (hnF i (by omega))]
end
end Go.Ab
/-! Nodes (layer 29) over the abstract machine: the law's draws, each; and what they come to. -/
namespace Go.Ab

section
variable {s : S} {base n op : Nat} {F : List Nat} {d : Dr}

theorem drawG_ok (h : Sc s base n op F d) : Ev tab 11 [.ptr (n + 1) 0, .func (.func 12) [.ptr op 0] [], .ptr (n + 4) 0] s fun v s' => v = .tuple [] ∧ Keep base s s' ∧ ∃ F', Sc s' base n op F' d.drawG := by
  refine Ev.mono (draw_step h (x := n + 1) (j := 1) rfl (by omega) (by omega) h.g1 (a := d.q.draw.1) (q' := d.q.draw.2) (fun _ => Ev.mono (oracleDraw_ok h.hO) ?_)) ?_
  · rintro v s' ⟨hc, hctr, rfl, hO⟩
    exact ⟨hc, F, Grow.refl _ _, hO, rfl⟩
  · rintro v s' ⟨rfl, ⟨he, rfl⟩ | ⟨he, hk, F', hO, ha, hl, gx, g4, hlt, hr⟩⟩
    · refine ⟨rfl, Keep.refl _ _, F, ?_⟩
      rw [Dr.drawG, if_neg he]; exact h
    · refine ⟨rfl, hk, F', ?_⟩
      rw [Dr.drawG, if_pos he]
      exact ⟨hO, by rw [show s'.get n = s.get n from hr 0 (by omega) (by omega), h.g0], gx, by rw [hr 2 (by omega) (by omega), h.g2], by rw [hr 3 (by omega) (by omega), h.g3], g4, ha, hl, h.bn, hlt⟩

theorem drawC_ok (h : Sc s base n op F d) : Ev tab 11 [.ptr (n + 3) 0, .func (.func 12) [.ptr op 0] [], .ptr (n + 4) 0] s fun v s' => v = .tuple [] ∧ Keep base s s' ∧ ∃ F', Sc s' base n op F' d.drawC := by
  refine Ev.mono (draw_step h (x := n + 3) (j := 3) rfl (by omega) (by omega) h.g3 (a := d.q.draw.1) (q' := d.q.draw.2) (fun _ => Ev.mono (oracleDraw_ok h.hO) ?_)) ?_
  · rintro v s' ⟨hc, hctr, rfl, hO⟩
    exact ⟨hc, F, Grow.refl _ _, hO, rfl⟩
  · rintro v s' ⟨rfl, ⟨he, rfl⟩ | ⟨he, hk, F', hO, ha, hl, gx, g4, hlt, hr⟩⟩
    · refine ⟨rfl, Keep.refl _ _, F, ?_⟩
      rw [Dr.drawC, if_neg he]; exact h
    · refine ⟨rfl, hk, F', ?_⟩
      rw [Dr.drawC, if_pos he]
      exact ⟨hO, by rw [show s'.get n = s.get n from hr 0 (by omega) (by omega), h.g0], by rw [hr 1 (by omega) (by omega), h.g1], by rw [hr 2 (by omega) (by omega), h.g2], gx, g4, ha, hl, h.bn, hlt⟩

theorem askc13 (h : Sc s base n op F d) (hq : d.q.rs.length ≤ 5000000000000) : Ev tab 13 [.ptr n 0, .ptr (n + 1) 0] s fun v s' => Chg F s s' ∧ ∃ F', Grow F F' s.ctr ∧ Oc s' op (d.q.ask 0 d.g).2 F' ∧ v = ansV (d.q.ask 0 d.g).1 := by
  refine Ev.intro rfl rfl rfl ?_
  simp [pf13, pf13_1, pf13_0, rd h.g0, rd h.g1]
  refine Ev.mono (ask_ok h.hO hq 0 d.g) ?_
  rintro v s' ⟨hc, F', hg, hO, rfl⟩
  simp [ansV_eq]
  exact ⟨hc, F', hg, hO⟩
theorem askc15 (h : Sc s base n op F d) (hq : d.q.rs.length ≤ 5000000000000) : Ev tab 15 [.ptr n 0, .ptr (n + 1) 0] s fun v s' => Chg F s s' ∧ ∃ F', Grow F F' s.ctr ∧ Oc s' op (d.q.ask 0 d.g).2 F' ∧ v = ansV (d.q.ask 0 d.g).1 := by
  refine Ev.intro rfl rfl rfl ?_
  simp [pf15, pf15_1, pf15_0, rd h.g0, rd h.g1]
  refine Ev.mono (ask_ok h.hO hq 0 d.g) ?_
  rintro v s' ⟨hc, F', hg, hO, rfl⟩
  simp [ansV_eq]
  exact ⟨hc, F', hg, hO⟩

theorem drawP_ok (h : Sc s base n op F d) (hq : d.q.rs.length ≤ 5000000000000) {fn : FuncId} (hf : fn = 13 ∨ fn = 15) : Ev tab 11 [.ptr (n + 2) 0, .func (.func fn) [] [.ptr n 0, .ptr (n + 1) 0], .ptr (n + 4) 0] s fun v s' => v = .tuple [] ∧ Keep base s s' ∧ ∃ F', Sc s' base n op F' d.drawP := by
  refine Ev.mono (draw_step h (x := n + 2) (j := 2) rfl (by omega) (by omega) h.g2 (a := (d.q.ask 0 d.g).1) (q' := (d.q.ask 0 d.g).2) (fun _ => ?_)) ?_
  · rcases hf with rfl | rfl
    · exact askc13 h hq
    · exact askc15 h hq
  · rintro v s' ⟨rfl, ⟨he, rfl⟩ | ⟨he, hk, F', hO, ha, hl, gx, g4, hlt, hr⟩⟩
    · refine ⟨rfl, Keep.refl _ _, F, ?_⟩
      rw [Dr.drawP, if_neg he]; exact h
    · refine ⟨rfl, hk, F', ?_⟩
      rw [Dr.drawP, if_pos he]
      exact ⟨hO, by rw [show s'.get n = s.get n from hr 0 (by omega) (by omega), h.g0], by rw [hr 1 (by omega) (by omega), h.g1], gx, by rw [hr 3 (by omega) (by omega), h.g3], g4, ha, hl, h.bn, hlt⟩
end

theorem Dr.drawG_rs (d : Dr) : d.drawG.q.rs = d.q.rs := by unfold Dr.drawG; split; exact Orc.draw_rs _; rfl
theorem Dr.drawP_rs (d : Dr) : d.drawP.q.rs.length ≤ d.q.rs.length + 1 := by
  unfold Dr.drawP
  split
  · exact Orc.ask_rs
  · omega

/-- All of the law's draws. -/
def Dr.all (d : Dr) (k : Int) : Dr := if k = 0 then d.drawG.drawP else d.drawG.drawP.drawG.drawP.drawC

theorem all_boot (q : Orc) (k : Int) : ((Dr.all ⟨q, 0, 0, 0, none⟩ k).e = (bootP q k).1) ∧ (Dr.all ⟨q, 0, 0, 0, none⟩ k).q = (bootP q k).2.2.2 ∧
    ((bootP q k).1 = none → k ≠ 0 → (bootP q k).2.1 = (Dr.all ⟨q, 0, 0, 0, none⟩ k).p ∧ (bootP q k).2.2.1 = ⟨(Dr.all ⟨q, 0, 0, 0, none⟩ k).p, 0, 255, (Dr.all ⟨q, 0, 0, 0, none⟩ k).c⟩) ∧ (k = 0 → (bootP q k).2.1 = 0) := by
  unfold Dr.all bootP
  cases h1 : q.draw.1 with
  | none =>
    by_cases hk : k = 0 <;> simp [hk, Dr.drawG, Dr.drawP, Dr.drawC, h1, tapeE]
  | some g =>
    cases h2 : (q.draw.2.ask 0 g).1 with
    | none => by_cases hk : k = 0 <;> simp [hk, Dr.drawG, Dr.drawP, Dr.drawC, h1, h2, tapeE]
    | some rp =>
      by_cases hk : k = 0
      · simp [hk, Dr.drawG, Dr.drawP, h1, h2, tapeE]
      · unfold serveP crt
        cases h3 : (q.draw.2.ask 0 g).2.draw.1 with
        | none => simp [hk, Dr.drawG, Dr.drawP, Dr.drawC, h1, h2, h3, tapeE]
        | some g2 =>
          cases h4 : ((q.draw.2.ask 0 g).2.draw.2.ask 0 g2).1 with
          | none => simp [hk, Dr.drawG, Dr.drawP, Dr.drawC, h1, h2, h3, h4, tapeE]
          | some p =>
            cases h5 : ((q.draw.2.ask 0 g).2.draw.2.ask 0 g2).2.draw.1 with
            | none => simp [hk, Dr.drawG, Dr.drawP, Dr.drawC, h1, h2, h3, h4, h5, tapeE]
            | some x => simp [hk, Dr.drawG, Dr.drawP, Dr.drawC, h1, h2, h3, h4, h5, tapeE]
end Go.Ab
