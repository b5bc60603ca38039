/- 'SkeletonNone' over the abstract machine. -/
import Derived.Test.YtcdkkdnpphkieaaDoorServ
namespace Go.Ab

theorem ev_awake24 {s : S} {Q : AV → S → Prop} (h : Q (.bool true) s) : Ev tab 29 [] s Q := Ev.prim (p := closedPrim [] (.bool true)) rfl rfl h

theorem skOf_ok (a b : AV) (ha : isFlat a = true) (hb : isFlat b = true) (hac : a.cells = [a]) (hbc : b.cells = [b]) (s : S) : Ev tab 30 [a, b] s fun v s' => v = .ptr s.ctr 0 ∧ s' = s.new (.cells [a, b] 0 false) := by
  refine Ev.intro rfl rfl rfl ?_
  simp [pf30, pf30_0, ha, hb, hac, hbc]

/-- The message of the laws in its box. -/
def zMs : List AV := [.int .u64 0, .int .u64 0, .int .u32 0, .int .u16 0, .int .u16 0, .int .u64 0, .int .u32 0, .int .u8 0, .int .u64 0, .int .u64 0, .snil]

theorem serveNil_ok {s : S} {sp : Nat} {a b : AV} (hg : s.get sp = some (.cells [a, b] 0 false)) (hl : sp < s.ctr) (hab : a = .pnil ∨ (∃ p o, a = .ptr p o) ∧ b = .nilIface) {m : Ms} {d : AV} (hd : Bytes s d m.data) :
    Ev tab 32 [.ptr sp 0, .agg (m.cells d)] s fun u s' => Ext s s' ∧ ∃ w, Own s.ctr s' w [] ∧ u = .agg ((m.answer 3 0 0 0 0 0 []).cells w) := by
  refine Ev.intro rfl rfl rfl ?_
  have fl := hd.flat
  have hcl0 := hd.cells1
  obtain ⟨s0, hs0⟩ : ∃ s0, s0 = (s.new (.cells (m.cells d) 0 false)).new (.cells zMs 0 false) := ⟨_, rfl⟩
  have x0 : Ext s s0 := by rw [hs0]; simp (maxDischargeDepth := 30)
  have b0 : Bg s0 s.ctr (m.cells d) [] := ⟨by rw [hs0]; simp, by rw [hs0]; simp; omega, by simp⟩
  have r0 : Bg s0 (s.ctr + 1) zMs [] := ⟨by rw [hs0]; simp, by rw [hs0]; simp, by simp⟩
  have hg0 : s0.get sp = some (.cells [a, b] 0 false) := by rw [x0.get sp hl, hg]
  have hs0' : (s.new (.cells (m.cells d) 0 false)).new (.cells [.int .u64 0, .int .u64 0, .int .u32 0, .int .u16 0, .int .u16 0, .int .u64 0, .int .u32 0, .int .u8 0, .int .u64 0, .int .u64 0, .snil] 0 false) = s0 := hs0.symm
  rcases hab with rfl | ⟨⟨p, o, rfl⟩, rfl⟩
  · simp [pf32, pf32_8, Ms.cells_flat, fl, hs0', pf32_7, pf32_6, rd hg0, pf32_5, b0.all]
    refine Ev.mono (fault_ok m (errV (some 3)) 3 (by omega) (fun t Q hQ => ev_num hQ) s0 (hd.ext x0)) ?_
    rintro u s3 ⟨hx3, w, rfl, hw⟩
    have hwf := hw.flat
    have r3 := r0.ext hx3
    have hctr := hx3.ctr
    have hl0 := r0.lt
    have hxc := x0.ctr
    have ww := wrc (o := 0) (v := (m.answer 3 0 0 0 0 0 []).cells w) r3.get (by simp [zMs]) (Ms.cells_flat hwf)
    rw [over11 _ _ _ rfl] at ww
    simp [ww]
    exact ⟨Ext.set (by omega) (x0.trans hx3), w, (hw.setLow hl0).le hxc, rfl⟩
  · simp [pf32, pf32_8, Ms.cells_flat, fl, hs0', pf32_7, pf32_6, rd hg0, pf32_5, b0.all]
    refine Ev.mono (fault_ok m (errV (some 3)) 3 (by omega) (fun t Q hQ => ev_num hQ) s0 (hd.ext x0)) ?_
    rintro u s3 ⟨hx3, w, rfl, hw⟩
    have hwf := hw.flat
    have r3 := r0.ext hx3
    have hctr := hx3.ctr
    have hl0 := r0.lt
    have hxc := x0.ctr
    have ww := wrc (o := 0) (v := (m.answer 3 0 0 0 0 0 []).cells w) r3.get (by simp [zMs]) (Ms.cells_flat hwf)
    rw [over11 _ _ _ rfl] at ww
    simp [ww]
    exact ⟨Ext.set (by omega) (x0.trans hx3), w, (hw.setLow hl0).le hxc, rfl⟩

theorem ageNil_ok {s : S} {sp : Nat} {a b : AV} (hg : s.get sp = some (.cells [a, b] 0 false)) (hab : a = .pnil ∨ (∃ p o, a = .ptr p o) ∧ b = .nilIface) :
    Ev tab 36 [.ptr sp 0] s fun u s' => s' = s ∧ u = .int .i64 0 := by
  refine Ev.intro rfl rfl rfl ?_
  rcases hab with rfl | ⟨⟨p, o, rfl⟩, rfl⟩
  · simp [pf36, pf36_12, pf36_11, pf36_10, rd hg, pf36_9]
  · simp [pf36, pf36_12, pf36_11, pf36_10, rd hg, pf36_9]

theorem objectsNil_ok (port : Nat) (s : S) : Ev tab 13 [.int .u64 port, .pnil] s fun v s' => Ext s s' ∧ ∃ tp, v = .ptr tp 0 := by
  refine Ev.intro rfl rfl rfl ?_
  simp [pf13, pf13_3, pf13_2, pf13_1]
  have h14 : Ev tab 14 [.pnil] s fun v s' => Ext s s' ∧ ∃ b, v = .ptr b 0 := by
    refine Ev.intro rfl rfl rfl ?_
    simp [pf14, pf14_3, pf14_2, pf14_1]
    refine Ev.mono (tapeOf_ok (s := s) (v := .snil) (ns := []) ⟨rfl, .inl rfl⟩ (by simp)) ?_
    rintro v s1 ⟨hx, tp, F, rfl, _⟩
    simp [pf14_0, hx]
  refine Ev.mono h14 ?_
  rintro v s1 ⟨hx, b, rfl⟩
  simp [pf13_0, hx]

set_option maxRecDepth 10000 in
set_option maxHeartbeats 1000000 in
theorem none_ok {m : Ms} (hm : m.fit) {d : AV} (s : S) (hd : Bytes s d m.data) : Ev tab 10 [.agg (m.cells d)] s fun u _ => u = .bool true := by
  refine Ev.intro rfl rfl rfl ?_
  have fl := hd.flat
  obtain ⟨s0, hs0⟩ : ∃ s0, s0 = s.new (.cells (m.cells d) 0 false) := ⟨_, rfl⟩
  have x0 : Ext s s0 := by rw [hs0]; simp
  have b0 : Bg s0 s.ctr (m.cells d) [] := ⟨by rw [hs0]; simp, by rw [hs0]; simp, by simp⟩
  simp [pf10, pf10_8, Ms.cells_flat, fl, ← hs0, pf10_7, pf10_5]
  refine ev_awake24 ?_
  obtain ⟨s1, hs1⟩ : ∃ t, t = s0.new (.cells [.snil, .snil] 0 false) := ⟨_, rfl⟩
  have x1 : Ext s0 s1 := by rw [hs1]; simp
  have b1 := b0.ext x1
  obtain ⟨s2, hs2⟩ : ∃ t, t = s1.new (.cells zMs 0 false) := ⟨_, rfl⟩
  have x2 : Ext s1 s2 := by rw [hs2]; simp
  have b2 := b1.ext x2
  have hs2' : s1.new (.cells [.int .u64 0, .int .u64 0, .int .u32 0, .int .u16 0, .int .u16 0, .int .u64 0, .int .u32 0, .int .u8 0, .int .u64 0, .int .u64 0, .snil] 0 false) = s2 := hs2.symm
  have r2 : Bg s2 s1.ctr zMs [] := ⟨by rw [hs2]; simp, by rw [hs2]; simp, by simp⟩
  simp [pf10_6, pf10_3, ← hs1, b1.all, hs2']
  refine Ev.mono (skOf_ok .pnil (.iface 71 (.ptr s0.ctr 0)) rfl rfl rfl rfl s2) ?_
  rintro v s3 ⟨rfl, hs3⟩
  have x3 : Ext s2 s3 := by rw [hs3]; simp
  have g3 : s3.get s2.ctr = some (.cells [.pnil, .iface 71 (.ptr s0.ctr 0)] 0 false) := by rw [hs3]; simp
  have l3 : s2.ctr < s3.ctr := by rw [hs3]; simp
  have b3 := b2.ext x3
  have r3 := r2.ext x3
  have hd3 := hd.ext (x0.trans (x1.trans (x2.trans x3)))
  simp [ChkP, b3.all]
  refine Ev.mono (serveNil_ok g3 l3 (.inl rfl) hd3) ?_
  rintro v s4 ⟨x4, w, hw, rfl⟩
  have hwf := hw.flat
  have b4 := b3.ext x4
  have r4 := r3.ext x4
  have ww := wrc (o := 0) (v := (m.answer 3 0 0 0 0 0 []).cells w) r4.get (by simp [zMs]) (Ms.cells_flat hwf)
  rw [over11 _ _ _ rfl] at ww
  have hne : ¬ s.ctr = s1.ctr := by have := b1.lt; omega
  obtain ⟨s5, hs5⟩ : ∃ t, t = s4.set s1.ctr (some (.cells ((m.answer 3 0 0 0 0 0 []).cells w) 0 false)) := ⟨_, rfl⟩
  have b5 : Bg s5 s.ctr (m.cells d) [] := by rw [hs5]; exact b4.set hne
  have r5 : Bg s5 s1.ctr ((m.answer 3 0 0 0 0 0 []).cells w) [] := by rw [hs5]; exact r4.put _
  have w5 : Bytes s5 w [] := by rw [hs5]; exact (hw.setLow r3.lt).bytes
  have hd5 : Bytes s5 d m.data := by
    rw [hs5]
    refine (hd3.ext x4).chg (l := [s1.ctr]) (by simp) ?_
    have hb := hd.below
    have := b1.lt
    cases d <;> first | trivial | (simp only [AV.inS] at hb; simp only [AV.out, List.mem_singleton]; omega)
  rw [← hs5] at ww
  simp [ww, pf10_2]
  refine Ev.mono (objectsNil_ok 1 s5) ?_
  rintro v s6 ⟨x6, tp, rfl⟩
  simp
  refine Ev.mono (skOf_ok (.ptr tp 0) .nilIface rfl rfl rfl rfl s6) ?_
  rintro v s7 ⟨rfl, hs7⟩
  have x7 : Ext s6 s7 := by rw [hs7]; simp
  have g7 : s7.get s6.ctr = some (.cells [.ptr tp 0, .nilIface] 0 false) := by rw [hs7]; simp
  have l7 : s6.ctr < s7.ctr := by rw [hs7]; simp
  have x57 := x6.trans x7
  have b7 := b5.ext x57
  have r7 := r5.ext x57
  have hd7 := hd5.ext x57
  simp [pf10_1, b7.all]
  refine Ev.mono (fault_ok m (errV (some 3)) 3 (by omega) (fun t Q hQ => ev_num hQ) s7 hd7) ?_
  rintro v s8 ⟨x8, w8, rfl, hw8⟩
  have hwf8 := hw8.flat
  obtain ⟨s9, hs9⟩ : ∃ t, t = (s8.new (.cells zMs 0 false)).set s8.ctr (some (.cells ((m.answer 3 0 0 0 0 0 []).cells w8) 0 false)) := ⟨_, rfl⟩
  have x9 : Ext s8 s9 := by rw [hs9]; simp
  have wn : (s8.new (.cells [.int .u64 0, .int .u64 0, .int .u32 0, .int .u16 0, .int .u16 0, .int .u64 0, .int .u32 0, .int .u8 0, .int .u64 0, .int .u64 0, .snil] 0 false)).write s8.ctr 0 ((m.answer 3 0 0 0 0 0 []).cells w8) = some s9 := by
    rw [wrc (sz := 0) (c := zMs) (by simp [zMs]) (by simp [zMs]) (Ms.cells_flat hwf8), over11 _ _ _ rfl, hs9]
    rfl
  have x79 := x8.trans x9
  have b9 := b7.ext x79
  have r9 := r7.ext x79
  have q9 : Bg s9 s8.ctr ((m.answer 3 0 0 0 0 0 []).cells w8) [] := ⟨by rw [hs9]; simp, by rw [hs9]; simp, by simp⟩
  have g9 : s9.get s6.ctr = some (.cells [.ptr tp 0, .nilIface] 0 false) := by rw [x79.get _ l7, g7]
  have l9 : s6.ctr < s9.ctr := by have := x79.ctr; omega
  have a9 : Bytes s9 w [] := w5.ext (x57.trans x79)
  have c9 : Bytes s9 w8 [] := hw8.bytes.ext x9
  have d9 := hd7.ext x79
  simp [wn, pf10_0, r9.all, q9.all]
  refine Ev.mono (sameMs_ok (m.answer 3 0 0 0 0 0 []) (m.answer 3 0 0 0 0 0 []) s9 a9 c9) ?_
  rintro v s10 ⟨x10, rfl⟩
  have b10 := b9.ext x10
  have q10 := q9.ext x10
  have g10 : s10.get s6.ctr = some (.cells [.ptr tp 0, .nilIface] 0 false) := by rw [x10.get _ l9, g9]
  have l10 : s6.ctr < s10.ctr := by have := x10.ctr; omega
  simp [b10.all, q10.all]
  refine Ev.mono (serveNil_ok g10 l10 (.inr ⟨⟨_, _, rfl⟩, rfl⟩) (d9.ext x10)) ?_
  rintro v s11 ⟨x11, w11, hw11, rfl⟩
  have q11 := q10.ext x11
  simp [ChkP, q11.all]
  refine Ev.mono (sameMs_ok (m.answer 3 0 0 0 0 0 []) (m.answer 3 0 0 0 0 0 []) s11 hw11.bytes (c9.ext (x10.trans x11))) ?_
  rintro v s12 ⟨x12, rfl⟩
  have g12 : s12.get s6.ctr = some (.cells [.ptr tp 0, .nilIface] 0 false) := by rw [(x11.trans x12).get _ l10, g10]
  simp
  refine Ev.mono (ageNil_ok g12 (.inr ⟨⟨_, _, rfl⟩, rfl⟩)) ?_
  rintro v s13 ⟨rfl, rfl⟩
  simp
  refine Ev.mono (skOf_ok .pnil .nilIface rfl rfl rfl rfl s13) ?_
  rintro v s14 ⟨rfl, hs14⟩
  have g14 : s14.get s13.ctr = some (.cells [.pnil, .nilIface] 0 false) := by rw [hs14]; simp
  simp
  refine Ev.mono (ageNil_ok g14 (.inl rfl)) ?_
  rintro v s15 ⟨rfl, rfl⟩
  simp
end Go.Ab
