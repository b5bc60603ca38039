/- 'SkeletonNone' over the abstract machine. -/
import Derived.Test.YtcdkkdnpphkieaaDoorServ
namespace Go.Ab

theorem ev_awake24 {s : S} {Q : AV → S → Prop} (h : Q (.bool true) s) : Ev tab 29 [] s Q := Ev.prim (p := closedPrim [] (.bool true)) rfl rfl h

theorem skOf_ok (a b : AV) (ha : isFlat a = true) (hb : isFlat b = true) (hac : a.cells = [a]) (hbc : b.cells = [b]) (s : S) : Ev tab 30 [a, b] s fun v s' => v = .ptr s.ctr 0 ∧ s' = s.new (.cells [a, b] 0 false) := by
  refine Ev.intro rfl rfl rfl ?_
  simp [pf30, pf30_0, ha, hb, hac, hbc]

/-- The message of the laws in its box. -/
def zMs : List AV := [.int .u64 0, .int .u64 0, .int .u32 0, .int .u16 0, .int .u16 0, .int .u64 0, .int .u32 0, .int .u8 0, .int .u64 0, .int .u64 0, .snil]

theorem serveNil_ok {s : S} {sp : Nat} {a b : AV} (hg : s.get sp = some (.cells [a, b] 0 false)) (hl : sp < s.ctr) (hab : a = .pnil ∨ (∃ p o, a = .ptr p o) ∧ b = .nilIface) {m : Ms} {d : AV} (hd : Bytes s d m.data) :
    Ev tab 32 [.ptr sp 0, .agg (m.cells d)] s fun u s' => Ext s s' ∧ ∃ w, Own s.ctr s' w [] ∧ u = .agg ((m.answer 3 0 0 0 0 0 []).cells w) := by
  refine Ev.intro rfl rfl rfl ?_
  have fl := hd.flat
  have hcl0 := hd.cells1
  obtain ⟨s0, hs0⟩ : ∃ s0, s0 = (s.new (.cells (m.cells d) 0 false)).new (.cells zMs 0 false) := ⟨_, rfl⟩
  have x0 : Ext s s0 := by rw [hs0]; simp (maxDischargeDepth := 30)
  have b0 : Bg s0 s.ctr (m.cells d) [] := ⟨by rw [hs0]; simp, by rw [hs0]; simp; omega, by simp⟩
  have r0 : Bg s0 (s.ctr + 1) zMs [] := ⟨by rw [hs0]; simp, by rw [hs0]; simp, by simp⟩
  have hg0 : s0.get sp = some (.cells [a, b] 0 false) := by rw [x0.get sp hl, hg]
  have hs0' : (s.new (.cells (m.cells d) 0 false)).new (.cells [.int .u64 0, .int .u64 0, .int .u32 0, .int .u16 0, .int .u16 0, .int .u64 0, .int .u32 0, .int .u8 0, .int .u64 0, .int .u64 0, .snil] 0 false) = s0 := hs0.symm
  rcases hab with rfl | ⟨⟨p, o, rfl⟩, rfl⟩
  · simp [pf32, pf32_8, Ms.cells_flat, fl, hs0', pf32_7, pf32_6, rd hg0, pf32_5, b0.all]
    refine Ev.mono (fault_ok m (errV (some 3)) 3 (by omega) (fun t Q hQ => ev_num hQ) s0 (hd.ext x0)) ?_
    rintro u s3 ⟨hx3, w, rfl, hw⟩
    have hwf := hw.flat
    have r3 := r0.ext hx3
    have hctr := hx3.ctr
    have hl0 := r0.lt
    have hxc := x0.ctr
    have ww := wrc (o := 0) (v := (m.answer 3 0 0 0 0 0 []).cells w) r3.get (by simp [zMs]) (Ms.cells_flat hwf)
    rw [over11 _ _ _ rfl] at ww
    simp [ww]
    exact ⟨Ext.set (by omega) (x0.trans hx3), w, (hw.setLow hl0).le hxc, rfl⟩
  · simp [pf32, pf32_8, Ms.cells_flat, fl, hs0', pf32_7, pf32_6, rd hg0, pf32_5, b0.all]
    refine Ev.mono (fault_ok m (errV (some 3)) 3 (by omega) (fun t Q hQ => ev_num hQ) s0 (hd.ext x0)) ?_
    rintro u s3 ⟨hx3, w, rfl, hw⟩
    have hwf := hw.flat
    have r3 := r0.ext hx3
    have hctr := hx3.ctr
    have hl0 := r0.lt
    have hxc := x0.ctr
    have ww := wrc (o := 0) (v := (m.answer 3 0 0 0 0 0 []).cells w) r3.get (by simp [zMs]) (Ms.cells_flat hwf)
    rw [over11 _ _ _ rfl] at ww
    simp [ww]
    exact ⟨Ext.set (by omega) (x0.trans hx3), w, (hw.setLow hl0).le hxc, rfl⟩

theorem ageNil_ok {s : S} {sp : Nat} {a b : AV} (hg : s.get sp = some (.cells [a, b] 0 false)) (hab : a = .pnil ∨ (∃ p o, a = .ptr p o) ∧ b = .nilIface) :
    Ev tab 36 [.ptr sp 0] s fun u s' => s' = s ∧ u = .int .i64 0 := by
  refine Ev.intro rfl rfl rfl ?_
  rcases hab with rfl | ⟨⟨p, o, rfl⟩, rfl⟩
  · simp [pf36, pf36_12, pf36_11, pf36_10, rd hg, pf36_9]
  · simp [pf36, pf36_12, pf36_11, pf36_10, rd hg, pf36_9]

theorem objectsNil_ok (port : Nat) (s : S) : Ev tab 13 [.int .u64 port, .pnil] s fun v s' => Ext s s' ∧ ∃ tp, v = .ptr tp 0 := by
  refine Ev.intro rfl rfl rfl ?_
  simp [pf13, pf13_3, pf13_2, pf13_1]
  have h14 : Ev tab 14 [.pnil] s fun v s' => Ext s s' ∧ ∃ b, v = .ptr b 0 := by
    refine Ev.intro rfl rfl rfl ?_
    simp [pf14, pf14_3, pf14_2, pf14_1]
    refine Ev.mono (tapeOf_ok (s := s) (v := .snil) (ns := []) ⟨rfl, .inl rfl⟩ (by simp)) ?_
    rintro v s1 ⟨hx, tp, F, rfl, _⟩
    simp [pf14_0, hx]
  refine Ev.mono h14 ?_
  rintro v s1 ⟨hx, b, rfl⟩
  simp [pf13_0, hx]

set_option maxRecDepth 10000 in
set_option maxHeartbeats 1000000 in
theorem none_ok {m : Ms} (hm : m.fit) {d : AV} (s : S) (hd : Bytes s d m.data) : Ev tab 10 [.agg (m.cells d)] s fun u _ => u = .bool true := by
  refine Ev.intro rfl rfl rfl ?_
  have fl := hd.flat
  obtain ⟨s0, hs0⟩ : ∃ s0, s0 = s.new (.cells (m.cells d) 0 false) := ⟨_, rfl⟩
  have x0 : Ext s s0 := by rw [hs0]; simp
  have b0 : Bg s0 s.ctr (m.cells d) [] := ⟨by rw [hs0]; simp, by rw [hs0]; simp, by simp⟩
  simp [pf10, pf10_8, Ms.cells_flat, fl, ← hs0, pf10_7, pf10_5]
  refine ev_awake24 ?_
  obtain ⟨s1, hs1⟩ : ∃ t, t = s0.new (.cells [.snil, .snil] 0 false) := ⟨_, rfl⟩
  have x1 : Ext s0 s1 := by rw [hs1]; simp
  have b1 := b0.ext x1
  obtain ⟨s2, hs2⟩ : ∃ t, t = s1.new (.cells zMs 0 false) := ⟨_, rfl⟩
  have x2 : Ext s1 s2 := by rw [hs2]; simp
  have b2 := b1.ext x2
  have hs2' : s1.new (.cells [.int .u64 0, .int .u64 0, .int .u32 0, .int .u16 0, .int .u16 0, .int .u64 0, .int .u32 0, .int .u8 0, .int .u64 0, .int .u64 0, .snil] 0 false) = s2 := hs2.symm
  have r2 : Bg s2 s1.ctr zMs [] := ⟨by rw [hs2]; simp, by rw [hs2]; simp, by simp⟩
  simp [pf10_6, pf10_3, ← hs1, b1.all, hs2']
  refine Ev.mono (skOf_ok .pnil (.iface 71 (.ptr s0.ctr 0)) rfl rfl rfl rfl s2) ?_
  rintro v s3 ⟨rfl, hs3⟩
  have x3 : Ext s2 s3 := by rw [hs3]; simp
  have g3 : s3.get s2.ctr = some (.cells [.pnil, .iface 71 (.ptr s0.ctr 0)] 0 false) := by rw [hs3]; simp
  have l3 : s2.ctr < s3.ctr := by rw [hs3]; simp
  have b3 := b2.ext x3
  have r3 := r2.ext x3
  have hd3 := hd.ext (x0.trans (x1.trans (x2.trans x3)))
  simp [ChkP, b3.all]
  refine Ev.mono (serveNil_ok g3 l3 (.inl rfl) hd3) ?_
  rintro v s4 ⟨x4, w, hw, rfl⟩
  have hwf := hw.flat
  have b4 := b3.ext x4
  have r4 := r3.ext x4
  have ww := wrc (o := 0) (v := (m.answer 3 0 0 0 0 0 []).cells w) r4.get (by simp [zMs]) (Ms.cells_flat hwf)
  rw [over11 _ _ _ rfl] at ww
  have hne : ¬ s.ctr = s1.ctr := by have := b1.lt; omega
  obtain ⟨s5, hs5⟩ : ∃ t, t = s4.set s1.ctr (some (.cells ((m.answer 3 0 0 0 0 0 []).cells w) 0 false)) := ⟨_, rfl⟩
  have b5 : Bg s5 s.ctr (m.cells d) [] := by rw [hs5]; exact b4.set hne
  have r5 : Bg s5 s1.ctr ((m.answer 3 0 0 0 0 0 []).cells w) [] := by rw [hs5]; exact r4.put _
  have w5 : Bytes s5 w [] := by rw [hs5]; exact (hw.setLow r3.lt).bytes
  have hd5 : Bytes s5 d m.data := by
    rw [hs5]
    refine (hd3.ext x4).chg (l := [s1.ctr]) (by simp) ?_
    have hb := hd.below
    have := b1.lt
    cases d <;> first | trivial | (simp only [AV.inS] at hb; simp only [AV.out, List.mem_singleton]; omega)
  rw [← hs5] at ww
  simp [ww, pf10_2]
  refine Ev.mono (objectsNil_ok 1 s5) ?_
  rintro v s6 ⟨x6, tp, rfl⟩
  simp
  refine Ev.mono (skOf_ok (.ptr tp 0) .nilIface rfl rfl rfl rfl s6) ?_
  rintro v s7 ⟨rfl, hs7⟩
  have x7 : Ext s6 s7 := by rw [hs7]; simp
  have g7 : s7.get s6.ctr = some (.cells [.ptr tp 0, .nilIface] 0 false) := by rw [hs7]; simp
  have l7 : s6.ctr < s7.ctr := by rw [hs7]; simp
  have x57 := x6.trans x7
  have b7 := b5.ext x57
  have r7 := r5.ext x57
  have hd7 := hd5.ext x57
  simp [pf10_1, b7.all]
  refine Ev.mono (fault_ok m (errV (some 3)) 3 (by omega) (fun t Q hQ => ev_num hQ) s7 hd7) ?_
  rintro v s8 ⟨x8, w8, rfl, hw8⟩
  have hwf8 := hw8.flat
  obtain ⟨s9, hs9⟩ : ∃ t, t = (s8.new (.cells zMs 0 false)).set s8.ctr (some (.cells ((m.answer 3 0 0 0 0 0 []).cells w8) 0 false)) := ⟨_, rfl⟩
  have x9 : Ext s8 s9 := by rw [hs9]; simp
  have wn : (s8.new (.cells [.int .u64 0, .int .u64 0, .int .u32 0, .int .u16 0, .int .u16 0, .int .u64 0, .int .u32 0, .int .u8 0, .int .u64 0, .int .u64 0, .snil] 0 false)).write s8.ctr 0 ((m.answer 3 0 0 0 0 0 []).cells w8) = some s9 := by
    rw [wrc (sz := 0) (c := zMs) (by simp [zMs]) (by simp [zMs]) (Ms.cells_flat hwf8), over11 _ _ _ rfl, hs9]
    rfl
  have x79 := x8.trans x9
  have b9 := b7.ext x79
  have r9 := r7.ext x79
  have q9 : Bg s9 s8.ctr ((m.answer 3 0 0 0 0 0 []).cells w8) [] := ⟨by rw [hs9]; simp, by rw [hs9]; simp, by simp⟩
  have g9 : s9.get s6.ctr = some (.cells [.ptr tp 0, .nilIface] 0 false) := by rw [x79.get _ l7, g7]
  have l9 : s6.ctr < s9.ctr := by have := x79.ctr; omega
  have a9 : Bytes s9 w [] := w5.ext (x57.trans x79)
  have c9 : Bytes s9 w8 [] := hw8.bytes.ext x9
  have d9 := hd7.ext x79
  simp [wn, pf10_0, r9.all, q9.all]
  refine Ev.mono (sameMs_ok (m.answer 3 0 0 0 0 0 []) (m.answer 3 0 0 0 0 0 []) s9 a9 c9) ?_
  rintro v s10 ⟨x10, rfl⟩
  have b10 := b9.ext x10
  have q10 := q9.ext x10
  have g10 : s10.get s6.ctr = some (.cells [.ptr tp 0, .nilIface] 0 false) := by rw [x10.get _ l9, g9]
  have l10 : s6.ctr < s10.ctr := by have := x10.ctr; omega
  simp [b10.all, q10.all]
  refine Ev.mono (serveNil_ok g10 l10 (.inr ⟨⟨_, _, rfl⟩, rfl⟩) (d9.ext x10)) ?_
  rintro v s11 ⟨x11, w11, hw11, rfl⟩
  have q11 := q10.ext x11
  simp [ChkP, q11.all]
  refine Ev.mono (sameMs_ok (m.answer 3 0 0 0 0 0 []) (m.answer 3 0 0 0 0 0 []) s11 hw11.bytes (c9.ext (x10.trans x11))) ?_
  rintro v s12 ⟨x12, rfl⟩
  have g12 : s12.get s6.ctr = some (.cells [.ptr tp 0, .nilIface] 0 false) := by rw [(x11.trans x12).get _ l10, g10]
  simp
  refine Ev.mono (ageNil_ok g12 (.inr ⟨⟨_, _, rfl⟩, rfl⟩)) ?_
  rintro v s13 ⟨rfl, rfl⟩
  simp
  refine Ev.mono (skOf_ok .pnil .nilIface rfl rfl rfl rfl s13) ?_
  rintro v s14 ⟨rfl, hs14⟩
  have g14 : s14.get s13.ctr = some (.cells [.pnil, .nilIface] 0 false) := by rw [hs14]; simp
  simp
  refine Ev.mono (ageNil_ok g14 (.inl rfl)) ?_
  rintro v s15 ⟨rfl, rfl⟩
  simp
end Go.Ab
/-! 'SkeletonRights' over the abstract machine. -/
namespace Go.Ab

set_option maxRecDepth 100000 in
theorem bit3 : ∀ k < 3, ∀ mask < 256, (mask &&& 2 ^ k = 2 ^ k ∨ mask &&& 2 ^ k = 0) := by decide

theorem Sx.fresh {s : S} {xp : Nat} (h : s.get xp = some (.cells [.snil, .snil] 0 false)) (hl : xp < s.ctr) : Sx s xp ⟨[], []⟩ [xp] :=
  ⟨.snil, .snil, [], [], h, by simpa [u64s] using OwnF.nil 1 s, by simpa [i64s] using OwnF.nil 1 s, by simp, hl, (fun _ hx => by cases hx), by simp, by simp⟩

/-- The plain law: of a table with one object, whose capability is restricted. -/
theorem rights_run (es : List Nat) (d y0 : Nat) (h0 : es[0]? = some d) (h1 : es[1]? = some y0) (hd : d < w48) (hy : y0 < w48) (mask : Nat) (hm : mask < 256) :
    ∃ y q, (⟨5, ⟨[], es, 1⟩, [⟨true, d, 0, 4, 24⟩]⟩ : Tbl).restrict ⟨5, 0, 255, d⟩ mask = ((⟨5, 0, mask, y⟩, none), ⟨5, q, [⟨true, d, 0, 4, 24⟩]⟩) ∧ y < w48 ∧ q.rs.length ≤ 1 ∧
      ∀ need, (⟨5, q, [⟨true, d, 0, 4, 24⟩]⟩ : Tbl).check ⟨5, 0, mask, y⟩ need = (if mask &&& need ≠ need then (0, some 2) else (0, none), ⟨5, q, [⟨true, d, 0, 4, 24⟩]⟩) := by
  have hdm : d % w48 = d := Nat.mod_eq_of_lt hd
  have hg : ∀ q : Orc, (⟨5, q, [⟨true, d, 0, 4, 24⟩]⟩ : Tbl).get 0 = some ⟨true, d, 0, 4, 24⟩ := fun q => rfl
  obtain ⟨a, q, ht⟩ : ∃ a q, (⟨[], es, 1⟩ : Orc).tok d mask = (a, q) := ⟨_, _, rfl⟩
  have hrs : q.rs.length ≤ 1 := by have := Orc.tok_rs (q := ⟨[], es, 1⟩) (s := d) (r := mask); rw [ht] at this; simpa using this
  have ha : ∃ y, a = some y ∧ y < w48 := by
    unfold Orc.tok at ht
    split at ht
    · cases ht; exact ⟨_, rfl, Nat.mod_lt _ (by decide)⟩
    · simp only [Orc.ask, Orc.known, List.find?_nil, Option.map_none, h1] at ht
      cases ht; exact ⟨_, rfl, hy⟩
  obtain ⟨y, rfl, hyw⟩ := ha
  refine ⟨y, q, ?_, hyw, hrs, fun need => ?_⟩
  · unfold Tbl.restrict
    rw [Tbl.check_ok (T := ⟨5, ⟨[], es, 1⟩, [⟨true, d, 0, 4, 24⟩]⟩) (q := ⟨[], es, 1⟩) rfl (hg _) (by simp [Orc.tok, hdm])]
    simp only [Nat.and_zero, ne_eq, not_true_eq_false, if_false]
    rw [hg]
    simp only [and255 mask hm, ht]
  · exact Tbl.check_ok (T := ⟨5, q, [⟨true, d, 0, 4, 24⟩]⟩) rfl (hg _) (Orc.tok_idem ht) need

set_option maxRecDepth 10000 in
set_option maxHeartbeats 1000000 in
theorem rights_ok (mask op : Nat) (hm : mask < 256) (ho : op < 256) (s : S) : Ev tab 9 [.int .u8 mask, .int .u8 op] s fun v _ => v = .bool true := by
  refine Ev.intro rfl rfl rfl ?_
  simp [pf9, pf9_12, pf9_11, pf9_10]
  refine ev_awake24 ?_
  simp [pf9_8]
  obtain ⟨es, hes⟩ : ∃ es, es = [1048576, 2097152, 3145728] := ⟨_, rfl⟩
  obtain ⟨s1, hs1⟩ : ∃ t, t = s.new (.cells [.int .u64 1048576, .int .u64 2097152, .int .u64 3145728] 0 false) := ⟨_, rfl⟩
  have x1 : Ext s s1 := by rw [hs1]; simp
  have hN : NumsAt s1 (.slice s.ctr 0 3 3 false) es := by
    refine ⟨by rw [hes]; rfl, .inr (.inr ⟨s.ctr, 3, false, by rw [hes]; rfl, by rw [hs1]; simp, fun i n hi => ?_⟩)⟩
    rw [Nat.zero_add, Nat.mul_one]
    refine read_one (l := [.int .u64 1048576, .int .u64 2097152, .int .u64 3145728]) (ro := false) (opn := 0) (by rw [hs1]; simp) ?_
    rw [hes] at hi
    match i, hi with
    | 0, hi => cases hi; rfl
    | 1, hi => cases hi; rfl
    | 2, hi => cases hi; rfl
  have hcut : es.map (· % w48) = es := by rw [hes]; rfl
  rw [← hs1]
  refine Ev.mono (tapeOf_ok hN (by rw [hes]; simp)) ?_
  rintro v s2 ⟨hx2, tp0, F0, rfl, hTp, hF0⟩
  simp
  refine Ev.mono (oracleOf_ok hTp) ?_
  rintro v s3 ⟨hx3, op', F1, rfl, hO, hg1⟩
  simp
  refine Ev.mono (objectsOf_ok hO 5) ?_
  rintro v s4 ⟨hx4, tp, rfl, htp, hT⟩
  rw [hcut] at hT
  simp [pf9_7, pf9_6]
  obtain ⟨s5, hs5⟩ : ∃ t, t = s4.new (.cells [.snil, .snil] 0 false) := ⟨_, rfl⟩
  have x5 : Ext s4 s5 := by rw [hs5]; simp
  have hX : Sx s5 s4.ctr ⟨[], []⟩ [s4.ctr] := Sx.fresh (by rw [hs5]; simp) (by rw [hs5]; simp)
  rw [← hs5]
  refine Ev.mono (skOf_ok (.ptr tp 0) (.iface 71 (.ptr s4.ctr 0)) rfl rfl rfl rfl s5) ?_
  rintro v s6 ⟨rfl, hs6⟩
  have x6 : Ext s5 s6 := by rw [hs6]; simp
  have hT6 := hT.ext (x5.trans x6)
  have hlt := hT.lt
  have hc5 : s5.ctr = s4.ctr + 1 := by rw [hs5]; rfl
  have H : Sy s6 s5.ctr tp s4.ctr ⟨5, ⟨[], es, 0⟩, []⟩ ⟨[], []⟩ (tp :: F1) [s4.ctr] :=
    ⟨by rw [hs6]; simp; rfl, by rw [hs6]; simp, hT6, hX.ext x6, fun x hx => by have := hlt x hx; simp; omega, fun hx => by
      rcases List.mem_append.1 hx with h | h
      · have := hlt _ h; omega
      · simp at h; omega⟩
  have ok0 : Tbl.Ok ⟨5, ⟨[], es, 0⟩, []⟩ := Tbl.Ok.fresh (by omega) (by rw [hes]; unfold w48; simp)
  obtain ⟨T1, hT1⟩ : ∃ T : Tbl, T = ⟨5, ⟨[], es, 1⟩, [⟨true, 1048576, 0, 4, 24⟩]⟩ := ⟨_, rfl⟩
  have e1 : (⟨5, ⟨[], es, 0⟩, []⟩ : Tbl).create 4 = ((⟨5, 0, 255, 1048576⟩, none), T1) := by simp [hT1, Tbl.create, lowest, Orc.draw, hes]
  have ok1 := (Tbl.create_step _ 4).ok ok0
  rw [e1] at ok1
  replace ok1 : T1.Ok := ok1
  obtain ⟨y, q, e2, hyw, hqr, hchk⟩ := rights_run es 1048576 2097152 (by rw [hes]; rfl) (by rw [hes]; rfl) (by decide) (by decide) mask hm
  obtain ⟨T2, hT2⟩ : ∃ T : Tbl, T = ⟨5, q, [⟨true, 1048576, 0, 4, 24⟩]⟩ := ⟨_, rfl⟩
  rw [← hT1, ← hT2] at e2
  rw [← hT2] at hchk
  have ok2 := (Tbl.restrict_step T1 ⟨5, 0, 255, 1048576⟩ mask).ok ok1
  rw [e2] at ok2
  replace ok2 : T2.Ok := ok2
  obtain ⟨own, hown⟩ : ∃ c : Cp, c = ⟨5, 0, 255, 1048576⟩ := ⟨_, rfl⟩
  obtain ⟨c, hc⟩ : ∃ c : Cp, c = ⟨5, 0, mask, y⟩ := ⟨_, rfl⟩
  rw [← hown] at e1 e2
  rw [← hc] at e2 hchk
  have fown : own.Fit := by rw [hown]; exact ⟨by simp, by simp, by simp, by simp⟩
  have fc : c.Fit := by rw [hc]; exact ⟨by simp, by simp, by simpa using hm, by unfold w48 at hyw; simp only; omega⟩
  have hC := H.start
  simp [pf9_5, pf9_4]
  refine Ev.mono (create_eq hC.sy.tb ok0 e1) ?_
  rintro v s7 ⟨hc7, F7, hg7, hT7, rfl⟩
  replace hC := hC.t hc7 hg7 hT7
  obtain ⟨x8, b8, k8⟩ := box_new (F := F7 ++ [s4.ctr]) (s := s7) [.int .u64 0, .int .u32 0, .int .u8 0, .int .u64 0] own hC.sy.flt
  simp [capE, errV, write_new]
  obtain ⟨s8, hs8⟩ : ∃ t, t = (s7.new (.cells [.int .u64 0, .int .u32 0, .int .u8 0, .int .u64 0] 0 false)).set s7.ctr (some (.cells own.cells 0 false)) := ⟨_, rfl⟩
  rw [← hs8] at x8 b8 k8 ⊢
  replace hC := hC.ext x8
  have r1 : T1.orc.rs.length = 0 := by rw [hT1]; rfl
  simp [pf9_3, b8.rd4]
  refine Ev.mono (restrict_eq hC.sy.tb (by omega) fown hm e2) ?_
  rintro v s9 ⟨hc9, F9, hg9, hT9, rfl⟩
  replace hC := hC.t hc9 hg9 hT9
  obtain ⟨x10, b10, k10⟩ := box_new (F := F9 ++ [s4.ctr]) (s := s9) [.int .u64 0, .int .u32 0, .int .u8 0, .int .u64 0] c hC.sy.flt
  simp [capE, errV, write_new]
  obtain ⟨s10, hs10⟩ : ∃ t, t = (s9.new (.cells [.int .u64 0, .int .u32 0, .int .u8 0, .int .u64 0] 0 false)).set s9.ctr (some (.cells c.cells 0 false)) := ⟨_, rfl⟩
  rw [← hs10] at x10 b10 k10 ⊢
  replace hC := hC.ext x10
  have t3 : (op : Int).tmod 3 = ((op % 3 : Nat) : Int) := rfl
  obtain ⟨k, hk⟩ : ∃ k, k = op % 3 := ⟨_, rfl⟩
  rw [← hk] at t3
  have hk3 : k < 3 := by omega
  have w16 : IntKind.u16.wrap (k : Int) = k := by simp [IntKind.wrap, IntKind.signed, IntKind.bits]; omega
  have w16b : IntKind.u16.wrap (100 + (k : Int)) = ((100 + k : Nat) : Int) := by simp [IntKind.wrap, IntKind.signed, IntKind.bits]; omega
  obtain ⟨o100, ho100⟩ : ∃ o, o = 100 + k := ⟨_, rfl⟩
  rw [← ho100] at w16b
  obtain ⟨M, hM⟩ : ∃ M : Ms, M = ⟨0, 0, 0, o100, 0, c.p, c.o, c.r, c.k, 7, []⟩ := ⟨_, rfl⟩
  have hMc : M.cap = c := by rw [hM]; rfl
  have hMf : M.fit := by
    have f1 := fc.p; have f2 := fc.o; have f3 := fc.r; have f4 := fc.k
    rw [hM]; unfold Ms.fit; simp; omega
  have hsvr := svServe_ok (x := ⟨[], []⟩) hC.sy ok2 (by rw [hT2]; simp only; omega) ⟨by simp, by simp⟩ hMf (d := .snil) (by rw [hM]; exact Bytes.nil _) trivial
  have hneed : svc.need M.op = (2 ^ k, true) := by
    have : M.op = 100 + k := by rw [hM]; exact ho100
    show svNeedOf M.op = _
    rw [this]
    unfold svNeedOf
    rw [if_neg (by omega), if_neg (by omega)]
    congr 1; congr 1; omega
  have hmay : M.cap.may = true := by rw [hMc, hc]; simp [Cp.may, hyw]; unfold w48; omega
  have hMop : M.op = 100 + k := by rw [hM]; exact ho100
  have hrun : svc.run T2 ⟨[], []⟩ M = if mask &&& 2 ^ k ≠ 2 ^ k then ((Rs.zero, some 2), T2, ⟨[], []⟩) else svc.act T2 ⟨[], []⟩ M.op 4 M := by
    have hg : T2.get 0 = some ⟨true, 1048576, 0, 4, 24⟩ := by rw [hT2]; rfl
    unfold Sv.run
    rw [hmay, hneed, hMc, hchk]
    have q1 : ¬ M.op = 1 := by omega
    have q2 : ¬ M.op = 2 := by omega
    have q3 : ¬ M.op = 3 := by omega
    have q4 : ¬ M.op = 4 := by omega
    have q5 : ¬ M.op = 5 := by omega
    have q6 : ¬ M.op < 100 := by omega
    by_cases hb : mask &&& 2 ^ k = 2 ^ k
    · simp [q1, q2, q3, q4, q5, q6, hb, hg]
    · simp [q1, q2, q3, q4, q5, q6, hb]
  simp [pf9_2, t3, w16, w16b, b10.rd4, Cp.cells]
  have hMcells : [AV.int .u64 0, .int .u64 0, .int .u32 0, .int .u16 o100, .int .u16 0, .int .u64 c.p, .int .u32 c.o, .int .u8 c.r, .int .u64 c.k, .int .u64 7, .snil] = M.cells .snil := by rw [hM]; rfl
  rw [hMcells]
  refine Ev.mono hsvr ?_
  rintro v s11 ⟨G1, G2, w, HS, hw, hwo, rfl⟩
  obtain ⟨R, hR⟩ : ∃ R, R = M.reply_ (svc.run T2 ⟨[], []⟩ M).1 := ⟨_, rfl⟩
  rw [← hR] at hw ⊢
  have hwf := hw.flat
  obtain ⟨s12, hs12⟩ : ∃ t, t = (s11.new (.cells zMs 0 false)).set s11.ctr (some (.cells (R.cells w) 0 false)) := ⟨_, rfl⟩
  have x12 : Ext s11 s12 := by rw [hs12]; simp
  have wn : (s11.new (.cells [.int .u64 0, .int .u64 0, .int .u32 0, .int .u16 0, .int .u16 0, .int .u64 0, .int .u32 0, .int .u8 0, .int .u64 0, .int .u64 0, .snil] 0 false)).write s11.ctr 0 (R.cells w) = some s12 := by
    rw [wrc (sz := 0) (c := zMs) (by simp [zMs]) (by simp [zMs]) (Ms.cells_flat hwf), over11 _ _ _ rfl, hs12]
    rfl
  have q12 : Bg s12 s11.ctr (R.cells w) [] := ⟨by rw [hs12]; simp, by rw [hs12]; simp, by simp⟩
  have rst : s12.read s11.ctr 4 1 = some [.int .u16 (R.st : Int)] := by rw [rd q12.get (by simp)]; rfl
  have rar : s12.read s11.ctr 9 1 = some [.int .u64 (R.arg : Int)] := by rw [rd q12.get (by simp)]; rfl
  obtain ⟨vd, vg, fd, fg, hxp, hod, _⟩ := HS.sy.sx.ext x12
  have hdl : hod.1 = hod.1 := rfl
  have wl := OwnF.wlen hod
  obtain ⟨D, hD⟩ : ∃ D, D = (svc.run T2 ⟨[], []⟩ M).2.2.done.length := ⟨_, rfl⟩
  rw [← hD] at wl
  have b8 : IntKind.u8.wrap (2 ^ min k IntKind.u8.bits) = ((2 ^ k : Nat) : Int) := by
    have : k = 0 ∨ k = 1 ∨ k = 2 := by omega
    rcases this with h | h | h <;> rw [h] <;> rfl
  have hpk : 2 ^ k < 256 := by
    have : k = 0 ∨ k = 1 ∨ k = 2 := by omega
    rcases this with h | h | h <;> rw [h] <;> decide
  have hband := band8 mask (2 ^ k) hm hpk
  have hkn : ¬ (k : Int) < 0 := by omega
  simp [wn]
  rcases bit3 k hk3 mask hm with hb | hb
  · have hrun' : svc.run T2 ⟨[], []⟩ M = svc.act T2 ⟨[], []⟩ M.op 4 M := by rw [hrun, if_neg (by simpa using hb)]
    have h103 : ¬ M.op = 103 := by omega
    have hMarg : M.arg = 7 := by rw [hM]
    have eR1 : R.st = 0 := by rw [hR, hrun']; simp [svc, h103, Ms.reply_, Ms.answer]
    have eR2 : R.arg = 8 := by rw [hR, hrun']; simp [svc, h103, Ms.reply_, Ms.answer, hMarg]
    have eD : D = 1 := by rw [hD, hrun']; simp [svc, h103]
    rw [eR1] at rst
    rw [eR2] at rar
    rw [eD] at wl
    rw [hb] at hband
    obtain ⟨z, hz⟩ : ∃ z, z = 2 ^ k := ⟨_, rfl⟩
    have hz0 : ¬ (z : Int) = 0 := by
      have : 0 < 2 ^ k := Nat.pow_pos (by omega)
      omega
    have hz0' : ¬ z = 0 := by omega
    rw [← hz] at hband b8
    simp [pf9_1, t3, hkn, b8, hband, hz0, hz0', -binV_and]
    simp [pf9_0, rst, rar, rd hxp, wl]
  · have hne : ¬ mask &&& 2 ^ k = 2 ^ k := by
      rw [hb]
      have : 0 < 2 ^ k := Nat.pow_pos (by omega)
      omega
    have hrun' : svc.run T2 ⟨[], []⟩ M = ((Rs.zero, some 2), T2, ⟨[], []⟩) := by rw [hrun, if_pos hne]
    have eR1 : R.st = 2 := by rw [hR, hrun']; simp [Ms.reply_, Ms.answer]
    have eD : D = 0 := by rw [hD, hrun']; rfl
    rw [eR1] at rst
    rw [eD] at wl
    rw [hb] at hband
    obtain ⟨z, hz⟩ : ∃ z, z = 2 ^ k := ⟨_, rfl⟩
    rw [← hz] at hband b8
    simp [pf9_1, t3, hkn, b8, hband, -binV_and]
    simp [pf9_0, rst, rar, rd hxp, wl]
end Go.Ab
