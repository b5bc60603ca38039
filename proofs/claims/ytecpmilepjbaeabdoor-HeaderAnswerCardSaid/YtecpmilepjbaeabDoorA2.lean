/- 'HeaderAnswer' over the abstract machine. -/
import Derived.Test.YtecpmilepjbaeabDoorA1
namespace Go.Ab
attribute [local simp] S.read S.write

theorem Bytes.setNew {s : S} {v : AV} {l : List UInt8} (h : Bytes s v l) (o o' : AO) : Bytes ((s.new o).set s.ctr (some o')) v l := h.ext (by simp)

set_option maxRecDepth 20000 in
/-- What is held against what. -/
theorem headerAnswer_rest (a f g told fault back : Ms) (da df dg dt du db : AV) {t : S} {c13 c14 c15 c16 c17 c18 : Nat} (h13 : t.get c13 = some (.cells (a.cells da) 0 false)) (h14 : t.get c14 = some (.cells (f.cells df) 0 false)) (h15 : t.get c15 = some (.cells (g.cells dg) 0 false))
    (h16 : t.get c16 = some (.cells (back.cells db) 0 false)) (h17 : t.get c17 = some (.cells (told.cells dt) 0 false)) (h18 : t.get c18 = some (.cells (fault.cells du) 0 false)) (hlt : c13 < t.ctr ∧ c14 < t.ctr ∧ c15 < t.ctr ∧ c16 < t.ctr ∧ c17 < t.ctr ∧ c18 < t.ctr)
    (b13 : Bytes t da a.data) (b14 : Bytes t df f.data) (b15 : Bytes t dg g.data) (b16 : Bytes t db back.data) (b17 : Bytes t dt told.data) (b18 : Bytes t du fault.data)
    (e1 : a = told) (e2 : f = fault) (e3 : g = back) {R : Regs} (r13 : R 13 = .ptr c13 0) (r14 : R 14 = .ptr c14 0) (r15 : R 15 = .ptr c15 0) (r16 : R 16 = .ptr c16 0) (r17 : R 17 = .ptr c17 0) (r18 : R 18 = .ptr c18 0)
    {K : KP} (hK : ∀ R' t', R' 12 = .bool true → K .ret R' t') : WpC tab pf3_0 R t (seqK tab .ret K) := by
  subst e1 e2 e3
  obtain ⟨l1, l2, l3, l4, l5, l6⟩ := hlt
  simp only [Ms.cells] at h13 h14 h15 h16 h17 h18
  simp (maxDischargeDepth := 30) [pf3_0, r13, r17, h13, h17]
  refine Ev.mono (sameMs_ok a a t b13 b17) ?_
  rintro v t1 ⟨hx1, rfl⟩
  have hg1 := hx1.get
  simp (maxDischargeDepth := 30) [r14, r18, hg1, h14, h18, l2, l6]
  refine Ev.mono (sameMs_ok f f t1 (b14.ext hx1) (b18.ext hx1)) ?_
  rintro v t2 ⟨hx2, rfl⟩
  have hg2 := (hx1.trans hx2).get
  simp (maxDischargeDepth := 30) [r15, r16, hg2, h15, h16, l3, l4]
  refine Ev.mono (sameMs_ok g g t2 (b15.ext (hx1.trans hx2)) (b16.ext (hx1.trans hx2))) ?_
  rintro v t3 ⟨hx3, rfl⟩
  simp
  exact hK _ _ (by simp)

set_option maxRecDepth 20000 in
theorem headerAnswer_law (m : Ms) (hf : m.fit) {d e : AV} (st p o r k arg n : Nat) (data : List UInt8) (hst : st < 65536) (hn : n < 256) (hl : data.length ≤ 140737488355328) (s : S) (hd : Bytes s d m.data) (he : Bytes s e data) :
    Ev tab 3 [.agg (m.cells d), .int .u16 st, .agg [.int .u64 p, .int .u32 o, .int .u8 r, .int .u64 k], .int .u64 arg, e, .int .u8 n] s fun v s' => v = .bool true := by
  refine Ev.intro rfl rfl rfl ?_
  have hc := hd.cells1
  have fl := hd.flat
  have hce := he.cells1
  have fle := he.flat
  have w1 : IntKind.i64.wrap (st : Int) = st := wrap_i64 (by omega) (by omega)
  have w2 : IntKind.i64.wrap (n : Int) = n := wrap_i64 (by omega) (by omega)
  have w3 : IntKind.u16.wrap (n : Int) = n := by simp [IntKind.wrap, IntKind.signed, IntKind.bits]; omega
  obtain ⟨s0, hs0⟩ : ∃ s0, s0 = (s.new (.cells (m.cells d) 0 false)).new (.cells [.int .u64 p, .int .u32 o, .int .u8 r, .int .u64 k] 0 false) := ⟨_, rfl⟩
  have x0 : Ext s s0 := by rw [hs0]; simp (maxDischargeDepth := 30)
  have g6 : s0.get s.ctr = some (.cells (m.cells d) 0 false) := by rw [hs0]; simp
  have g8 : s0.get (s.ctr + 1) = some (.cells [.int .u64 p, .int .u32 o, .int .u8 r, .int .u64 k] 0 false) := by rw [hs0]; simp
  have c0 : s0.ctr = s.ctr + 2 := by rw [hs0]; simp [Nat.add_assoc]
  simp only [Ms.cells] at hs0 g6
  simp (maxDischargeDepth := 30) [pf3, pf3_12, pf3_11, pf3_10, Ms.cells, hc, fl, ← hs0]
  refine ev_awake04 ?_
  simp (maxDischargeDepth := 30) [pf3_8, g6, g8, w1]
  refine Ev.mono (answer_ok m st p o r k arg data hst hl s0 (hd.ext x0) (he.ext x0)) ?_
  rintro v s1 ⟨x1, wa, rfl, hwa⟩
  have hga := x1.get
  have hca := hwa.bytes.cells1
  have fla := hwa.flat
  have k1 := x1.ctr
  have n1 : ¬ s.ctr = s1.ctr := by omega
  have n2 : ¬ s.ctr + 1 = s1.ctr := by omega
  have hd1 := (hd.ext (x0.trans x1)).setNew (.cells [.int .u64 0, .int .u64 0, .int .u32 0, .int .u16 0, .int .u16 0, .int .u64 0, .int .u32 0, .int .u8 0, .int .u64 0, .int .u64 0, .snil] 0 false) (.cells ((m.answer st p o r k arg data).cells wa) 0 false)
  obtain ⟨t1, ht1⟩ : ∃ t1, t1 = (s1.new (.cells [.int .u64 0, .int .u64 0, .int .u32 0, .int .u16 0, .int .u16 0, .int .u64 0, .int .u32 0, .int .u8 0, .int .u64 0, .int .u64 0, .snil] 0 false)).set s1.ctr (some (.cells ((m.answer st p o r k arg data).cells wa) 0 false)) := ⟨_, rfl⟩
  rw [← ht1] at hd1
  have y1 : Ext s1 t1 := by rw [ht1]; simp (maxDischargeDepth := 30)
  have q6 : t1.get s.ctr = some (.cells (m.cells d) 0 false) := by rw [y1.get _ (by omega), hga _ (by omega), g6]; rfl
  have q8 : t1.get (s.ctr + 1) = some (.cells [.int .u64 p, .int .u32 o, .int .u8 r, .int .u64 k] 0 false) := by rw [y1.get _ (by omega), hga _ (by omega), g8]
  have q13 : t1.get s1.ctr = some (.cells ((m.answer st p o r k arg data).cells wa) 0 false) := by rw [ht1]; simp
  have qc : t1.ctr = s1.ctr + 1 := by rw [ht1]; simp
  have bwa : Bytes t1 wa data := hwa.bytes.ext y1
  simp only [Ms.cells] at ht1 q6
  simp (maxDischargeDepth := 30) [Ms.cells, pf3_7, w2, hca, fla, ← ht1, q6]
  refine Ev.mono (fault_ok m (.iface 32 (.int .i64 n)) n (by omega) (fun _ _ h => ev_num h) t1 hd1) ?_
  rintro v s2 ⟨x2, wf, rfl, hwf⟩
  have hgf := x2.get
  have hcf := hwf.bytes.cells1
  have flf := hwf.flat
  have k2 := x2.ctr
  obtain ⟨t2, ht2⟩ : ∃ t2, t2 = (s2.new (.cells [.int .u64 0, .int .u64 0, .int .u32 0, .int .u16 0, .int .u16 0, .int .u64 0, .int .u32 0, .int .u8 0, .int .u64 0, .int .u64 0, .snil] 0 false)).set s2.ctr (some (.cells ((m.answer n 0 0 0 0 0 []).cells wf) 0 false)) := ⟨_, rfl⟩
  have y2 : Ext s2 t2 := by rw [ht2]; simp (maxDischargeDepth := 30)
  have x12 := x2.trans y2
  have hd2 := hd1.ext x12
  have u6 : t2.get s.ctr = some (.cells (m.cells d) 0 false) := by rw [x12.get _ (by omega)]; simpa only [Ms.cells] using q6
  have u14 : t2.get s2.ctr = some (.cells ((m.answer n 0 0 0 0 0 []).cells wf) 0 false) := by rw [ht2]; simp
  have uc : t2.ctr = s2.ctr + 1 := by rw [ht2]; simp
  have bwf : Bytes t2 wf [] := hwf.bytes.ext y2
  simp only [Ms.cells] at ht2 u6
  simp (maxDischargeDepth := 30) [Ms.cells, hcf, flf, ← ht2, pf3_6, u6]
  refine Ev.mono (new_ok [120] _) ?_
  rintro v s3 ⟨x3, bx, rfl⟩
  have hg3 := x3.get
  have k3 := x3.ctr
  simp only [ctr_new_s] at k3 hg3
  have xz : Ext t2 (t2.new (.cells [.int .u64 0, .int .u64 0, .int .u32 0, .int .u16 0, .int .u16 0, .int .u64 0, .int .u32 0, .int .u8 0, .int .u64 0, .int .u64 0, .snil] 0 false)) := by simp
  have x23 := xz.trans x3
  have v6 : s3.get s.ctr = some (.cells (m.cells d) 0 false) := by rw [x23.get _ (by omega)]; simpa only [Ms.cells] using u6
  have v15 : s3.get t2.ctr = some (.cells [.int .u64 0, .int .u64 0, .int .u32 0, .int .u16 0, .int .u16 0, .int .u64 0, .int .u32 0, .int .u8 0, .int .u64 0, .int .u64 0, .snil] 0 false) := by rw [hg3 _ (by omega)]; simp
  simp only [Ms.cells] at v6
  simp (maxDischargeDepth := 30) [v6]
  refine Ev.mono (fault_ok m (.iface 61 (.ptr bx 0)) 0 (by omega) (fun _ _ h => ev_numX h) s3 (hd2.ext x23)) ?_
  rintro v s4 ⟨x4, wg, rfl, hwg⟩
  have hcg := hwg.bytes.cells1
  have flg := hwg.flat
  have k4 := x4.ctr
  obtain ⟨t3, ht3⟩ : ∃ t3, t3 = s4.set t2.ctr (some (.cells ((m.answer 0 0 0 0 0 0 []).cells wg) 0 false)) := ⟨_, rfl⟩
  have w15 : s4.get t2.ctr = some (.cells [.int .u64 0, .int .u64 0, .int .u32 0, .int .u16 0, .int .u16 0, .int .u64 0, .int .u32 0, .int .u8 0, .int .u64 0, .int .u64 0, .snil] 0 false) := by rw [x4.get _ (by omega), v15]
  have y3 : Chg [t2.ctr] s4 t3 := by rw [ht3]; simp
  have z3 : Ext t2 t3 := (x23.trans x4).chg_trans y3 (by simp)
  have g6' : t3.get s.ctr = some (.cells (m.cells d) 0 false) := by rw [z3.get _ (by omega)]; simpa only [Ms.cells] using u6
  have g8' : t3.get (s.ctr + 1) = some (.cells [.int .u64 p, .int .u32 o, .int .u8 r, .int .u64 k] 0 false) := by rw [z3.get _ (by omega), x12.get _ (by omega), q8]
  have g13 : t3.get s1.ctr = some (.cells ((m.answer st p o r k arg data).cells wa) 0 false) := by rw [z3.get _ (by omega), x12.get _ (by omega), q13]
  have g14 : t3.get s2.ctr = some (.cells ((m.answer n 0 0 0 0 0 []).cells wf) 0 false) := by rw [z3.get _ (by omega), u14]
  have g15 : t3.get t2.ctr = some (.cells ((m.answer 0 0 0 0 0 0 []).cells wg) 0 false) := by rw [ht3]; simp
  have kc : t3.ctr = s4.ctr := by rw [ht3]; simp
  have bg : Bytes t3 wg [] := by rw [ht3]; exact (hwg.setLow (by omega)).bytes
  have be : Bytes t3 e data := (((he.ext (x0.trans x1)).ext (y1.trans x12))).ext z3
  simp only [Ms.cells] at ht3 g6' g13 g14 g15
  obtain ⟨t4, ht4⟩ : ∃ t4, t4 = (t3.new (.cells [.int .u64 0, .int .u64 0, .int .u32 0, .int .u16 0, .int .u16 0, .int .u64 0, .int .u32 0, .int .u8 0, .int .u64 0, .int .u64 0, .snil] 0 false)).set t3.ctr (some (.cells [.int .u64 m.reply, .int .u64 m.to, .int .u32 m.id, .int .u16 m.op, .int .u16 0, .int .u64 0, .int .u32 0, .int .u8 0, .int .u64 0, .int .u64 0, .snil] 0 false)) := ⟨_, rfl⟩
  have z4 : Ext t3 t4 := by rw [ht4]; simp (maxDischargeDepth := 30)
  have h8 : t4.get (s.ctr + 1) = some (.cells [.int .u64 p, .int .u32 o, .int .u8 r, .int .u64 k] 0 false) := by rw [z4.get _ (by omega), g8']
  have h13 := (z4.get s1.ctr (by omega)).trans g13
  have h14 := (z4.get s2.ctr (by omega)).trans g14
  have h15 := (z4.get t2.ctr (by omega)).trans g15
  have h16 : t4.get t3.ctr = some (.cells [.int .u64 m.reply, .int .u64 m.to, .int .u32 m.id, .int .u16 m.op, .int .u16 0, .int .u64 0, .int .u32 0, .int .u8 0, .int .u64 0, .int .u64 0, .snil] 0 false) := by rw [ht4]; simp
  have hc4 : t4.ctr = t3.ctr + 1 := by rw [ht4]; simp
  have ba : Bytes t3 wa data := bwa.ext (x12.trans z3)
  have bf : Bytes t3 wf [] := bwf.ext z3
  simp (maxDischargeDepth := 30) [Ms.cells, hcg, flg, w15, ← ht3, pf3_5, pf3_4, g6', ← ht4]
  have m0 : ¬ s.ctr = t4.ctr := by omega
  have m1 : ¬ s.ctr + 1 = t4.ctr := by omega
  have m2 : ¬ s.ctr + 1 = t4.ctr + 1 := by omega
  have m3 : ¬ t3.ctr = t4.ctr := by omega
  have m4 : ¬ t3.ctr = t4.ctr + 1 := by omega
  have m5 : ¬ s1.ctr = t4.ctr := by omega
  have m6 : ¬ s1.ctr = t4.ctr + 1 := by omega
  have m7 : ¬ s2.ctr = t4.ctr := by omega
  have m8 : ¬ s2.ctr = t4.ctr + 1 := by omega
  have m9 : ¬ t2.ctr = t4.ctr := by omega
  have m10 : ¬ t2.ctr = t4.ctr + 1 := by omega
  simp (maxDischargeDepth := 30) [pf3_3, h16, m3, m4, pf3_2, h8, m0, m1, m2, hce, fle, pf3_1, w3, Nat.add_assoc]
  have hxx : ∀ o1 o2 o3 o4 o5 o6 o7 o8 o9, Ext t3 ((((((((t4.new o1).new o2).set t4.ctr o3).set (t4.ctr + 1) o4).set t4.ctr o5).set t4.ctr o6).set t4.ctr o7).set t4.ctr o8 |>.set (t4.ctr + 1) o9) := by
    intro o1 o2 o3 o4 o5 o6 o7 o8 o9
    refine z4.trans ?_
    simp (maxDischargeDepth := 30)
  refine headerAnswer_rest (m.answer st p o r k arg data) (m.answer n 0 0 0 0 0 []) (m.answer 0 0 0 0 0 0 []) (m.answer st p o r k arg data) (m.answer n 0 0 0 0 0 []) (m.answer 0 0 0 0 0 0 []) wa wf wg e .snil .snil
    (c13 := s1.ctr) (c14 := s2.ctr) (c15 := t2.ctr) (c16 := t3.ctr) (c17 := t4.ctr) (c18 := t4.ctr + 1) ?_ ?_ ?_ ?_ ?_ ?_ ?_ ?_ ?_ ?_ ?_ ?_ ?_ rfl rfl rfl ?_ ?_ ?_ ?_ ?_ ?_ (fun R' t' h8 => by simp [FinP, resA, h8])
  · simp [m5, m6, h13, Ms.cells]
  · simp [m7, m8, h14, Ms.cells]
  · simp [m9, m10, h15, Ms.cells]
  · simp [m3, m4, h16, Ms.cells, Ms.answer]
  · simp [Ms.cells, Ms.answer]
  · simp [Ms.cells, Ms.answer]
  · simp; omega
  · exact ba.ext (hxx _ _ _ _ _ _ _ _ _)
  · exact bf.ext (hxx _ _ _ _ _ _ _ _ _)
  · exact bg.ext (hxx _ _ _ _ _ _ _ _ _)
  · exact Bytes.nil _
  · exact be.ext (hxx _ _ _ _ _ _ _ _ _)
  · exact Bytes.nil _
  · simp
  · simp
  · simp
  · simp
  · simp
  · simp
end Go.Ab
