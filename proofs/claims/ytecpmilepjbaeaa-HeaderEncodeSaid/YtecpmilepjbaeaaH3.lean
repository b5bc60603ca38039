/- 'HeaderEncode' over the abstract machine. -/
import Derived.Test.YtecpmilepjbaeaaH2
namespace Go.Ab
attribute [local simp] S.read S.write

theorem ev_awake04 {s : S} {Q : AV → S → Prop} (h : Q (.bool true) s) : Ev tab 45 [] s Q := Ev.prim (p := closedPrim [] (.bool true)) rfl rfl h
theorem ev_is {n m : Int} {s : S} {Q : AV → S → Prop} (h : Q (.bool (decide (n = m))) s) : Ev tab 17 [.iface 44 (.int .i64 n), .iface 44 (.int .i64 m)] s Q := Ev.prim (p := isPrim) rfl rfl h

section
variable {s : S} {d : AV}

set_option maxRecDepth 20000 in
theorem want_ok (m : Ms) (hf : m.fit) (hm : m.may = true) (s : S) (hd : Bytes s d m.data) : Ev tab 48 [.agg (m.cells d)] s fun v s' => Ext s s' ∧ Own s.ctr s' v m.bytes := by
  refine Ev.intro rfl rfl rfl ?_
  have fd := hd.flat
  obtain ⟨f1, f2, f3, f4, f5, f6, f7, f8, f9, f10, f11⟩ := hf
  have hlen : m.data.length ≤ 4096 := by
    simp only [Ms.may, Bool.and_eq_true, decide_eq_true_eq] at hm
    exact hm.2
  have w1 : IntKind.u64.wrap (m.id : Int) = m.id := wrap_u64 (by omega) (by omega)
  have w2 : IntKind.u64.wrap (m.op : Int) = m.op := wrap_u64 (by omega) (by omega)
  have w3 : IntKind.u64.wrap (m.st : Int) = m.st := wrap_u64 (by omega) (by omega)
  obtain ⟨s0, hs0⟩ : ∃ s0, s0 = s.new (.cells (m.cells d) 0 false) := ⟨_, rfl⟩
  have x0 : Ext s s0 := by rw [hs0]; simp
  have c0 : s0.ctr = s.ctr + 1 := by rw [hs0]; simp
  have g0 : s0.get s.ctr = some (.cells [.int .u64 m.to, .int .u64 m.reply, .int .u32 m.id, .int .u16 m.op, .int .u16 m.st, .int .u64 m.p, .int .u32 m.o, .int .u8 m.r, .int .u64 m.k, .int .u64 m.arg, d] 0 false) := by rw [hs0]; simp [Ms.cells]
  have rd : ∀ t, Keep s0.ctr s0 t → t.get s.ctr = some (.cells [.int .u64 m.to, .int .u64 m.reply, .int .u32 m.id, .int .u16 m.op, .int .u16 m.st, .int .u64 m.p, .int .u32 m.o, .int .u8 m.r, .int .u64 m.k, .int .u64 m.arg, d] 0 false) := fun t h => by rw [h.get _ (by omega), g0]
  have hfl : ((m.cells d).all isFlat) = true := by simp [Ms.cells, fd]
  simp [pf48, pf48_6, hfl, ← hs0]
  have k := Keep.refl s0.ctr s0
  simp [pf48_5, g0]
  refine Ev.mono (put_ok s0 (Bytes.nil s0) m.to 6 (by omega) (by simp)) ?_
  rintro v t1 ⟨x, ho1⟩
  have k1 := k.trans (x.keep k.ctr)
  have g := rd _ k1
  simp [g]
  refine Ev.mono (put_ok t1 ho1.bytes m.reply 6 (by omega) (by simp)) ?_
  rintro v t2 ⟨x, ho2⟩
  have k2 := k1.trans (x.keep k1.ctr)
  have g := rd _ k2
  simp [pf48_4, pf48_3, g, w1, w2, w3]
  refine Ev.mono (put_ok t2 ho2.bytes m.id 4 (by omega) (by simp)) ?_
  rintro v t3 ⟨x, ho3⟩
  have k3 := k2.trans (x.keep k2.ctr)
  have g := rd _ k3
  simp [g]
  refine Ev.mono (put_ok t3 ho3.bytes m.op 2 (by omega) (by simp)) ?_
  rintro v t4 ⟨x, ho4⟩
  have k4 := k3.trans (x.keep k3.ctr)
  have g := rd _ k4
  simp [g]
  refine Ev.mono (put_ok t4 ho4.bytes m.st 2 (by omega) (by simp)) ?_
  rintro v t5 ⟨x, ho5⟩
  have k5 := k4.trans (x.keep k4.ctr)
  have g := rd _ k5
  simp [pf48_2, g]
  refine Ev.mono (encode_ok m.p m.o m.r m.k f6 f7 f8 _) ?_
  rintro v t6 ⟨x, ho6⟩
  have k6 := k5.trans (x.keep k5.ctr)
  have := capBytes_length m.p m.o m.r m.k
  simp
  have c5 := k5.ctr
  refine cont_app_own ((ho5.ext x).le k4.ctr) ho6.bytes (by have := k6.ctr; omega) (by simp; omega) ?_
  intro v7 t7 ho7 kk
  have k7 := k6.trans kk
  have g := rd _ k7
  simp [pf48_1, g]
  refine Ev.mono (put_ok t7 ho7.bytes m.arg 8 (by omega) (by simp; omega)) ?_
  rintro v t8 ⟨x, ho8⟩
  have k8 := k7.trans (x.keep k7.ctr)
  have g := rd _ k8
  have hd8 := hd.keep ((x0.keep (n := s.ctr) (Nat.le_refl _)).trans (k8.le (by omega))) hd.below
  simp [g]
  refine Ev.mono (putBytes_ok ho8.bytes hd8 (by omega) (by simp; omega)) ?_
  rintro v t9 ⟨x, w, rfl, ho9⟩
  have k9 := k8.trans (x.keep k8.ctr)
  simp [pf48_0]
  refine ⟨x0.then (k9.le (by omega)), ?_⟩
  have := ho9.le (m := s.ctr) (by have := k8.ctr; omega)
  rw [Ms.capBytes hm] at this
  simpa [Ms.bytes] using this

set_option maxRecDepth 20000 in
theorem headerEncodeLaw_ok (m : Ms) (hf : m.fit) (s : S) (hd : Bytes s d m.data) : Ev tab 10 [.agg (m.cells d)] s fun v s' => v = .bool true := by
  refine Ev.intro rfl rfl rfl ?_
  have fd := hd.flat
  have f11 := hf.2.2.2.2.2.2.2.2.2.2
  obtain ⟨s0, hs0⟩ : ∃ s0, s0 = s.new (.cells (m.cells d) 0 false) := ⟨_, rfl⟩
  have x0 : Ext s s0 := by rw [hs0]; simp
  have c0 : s0.ctr = s.ctr + 1 := by rw [hs0]; simp
  have g0 : s0.get s.ctr = some (.cells [.int .u64 m.to, .int .u64 m.reply, .int .u32 m.id, .int .u16 m.op, .int .u16 m.st, .int .u64 m.p, .int .u32 m.o, .int .u8 m.r, .int .u64 m.k, .int .u64 m.arg, d] 0 false) := by rw [hs0]; simp [Ms.cells]
  have hfl : ((m.cells d).all isFlat) = true := by simp [Ms.cells, fd]
  simp [pf10, pf10_10, hfl, ← hs0, pf10_9, pf10_8]
  refine ev_awake04 ?_
  simp [pf10_6, g0]
  refine Ev.mono (make_ok m f11 s0 (hd.ext x0)) ?_
  rintro v s1 ⟨x1, d1, rfl, hd1, hsi⟩
  have fd1 := hd1.flat
  obtain ⟨c, hc⟩ : ∃ c, c = m.cut := ⟨_, rfl⟩
  have hcm : c.may = true := by rw [hc]; exact m.cut_may
  have hcf : c.fit := by rw [hc]; exact Ms.cut_fit hf
  rw [← hc] at hd1 ⊢
  have hfl1 : ((c.cells d1).all isFlat) = true := by simp [Ms.cells, fd1]
  obtain ⟨s2, hs2⟩ : ∃ s2, s2 = (s1.new (.cells [.int .u64 0, .int .u64 0, .int .u32 0, .int .u16 0, .int .u16 0, .int .u64 0, .int .u32 0, .int .u8 0, .int .u64 0, .int .u64 0, .snil] 0 false)).set s1.ctr (some (.cells (c.cells d1) 0 false)) := ⟨_, rfl⟩
  have x2 : Ext s1 s2 := by rw [hs2]; simp
  have c2 : s2.ctr = s1.ctr + 1 := by rw [hs2]; simp
  have g2 : s2.get s1.ctr = some (.cells [.int .u64 c.to, .int .u64 c.reply, .int .u32 c.id, .int .u16 c.op, .int .u16 c.st, .int .u64 c.p, .int .u32 c.o, .int .u8 c.r, .int .u64 c.k, .int .u64 c.arg, d1] 0 false) := by rw [hs2]; simp [Ms.cells]
  have hwr : (s1.new (.cells [.int .u64 0, .int .u64 0, .int .u32 0, .int .u16 0, .int .u16 0, .int .u64 0, .int .u32 0, .int .u8 0, .int .u64 0, .int .u64 0, .snil] 0 false)).write s1.ctr 0 (c.cells d1) = some s2 := by
    rw [hs2]; simp [Ms.cells, fd1]
  have hcl : (c.cells d1).length = 11 := rfl
  simp [hcl, hwr, -S.write]
  simp [pf10_5, g2]
  have y2 : Ext s0 s2 := x1.trans x2
  refine Ev.mono (headerEncode_ok c hcf hcm s2 (hd1.ext x2)) ?_
  rintro v s3 ⟨x3, w, rfl, hw⟩
  have kw := hw.bytes.cvbs_all
  have g3 : s3.get s1.ctr = some (.cells [.int .u64 c.to, .int .u64 c.reply, .int .u32 c.id, .int .u16 c.op, .int .u16 c.st, .int .u64 c.p, .int .u32 c.o, .int .u8 c.r, .int .u64 c.k, .int .u64 c.arg, d1] 0 false) := by rw [x3.get _ (by omega), g2]
  have k1 := kw.1 s3 (Ext.refl _)
  simp [pf10_4, pf10_3, k1, g3, -evI_cvbs, -wpI_cvbs]
  refine Ev.mono (want_ok c hcf hcm s3 ((hd1.ext x2).ext x3)) ?_
  rintro v s4 ⟨x4, hw4⟩
  have k2 := kw.2 s4 x4
  have k3 := hw4.bytes.cvbs_at.1
  have y4 := (y2.trans x3).trans x4
  have g4 : s4.get s.ctr = some (.cells [.int .u64 m.to, .int .u64 m.reply, .int .u32 m.id, .int .u16 m.op, .int .u16 m.st, .int .u64 m.p, .int .u32 m.o, .int .u8 m.r, .int .u64 m.k, .int .u64 m.arg, d] 0 false) := by rw [y4.get _ (by omega), g0]
  simp [k2, k3, g4, -evI_cvbs, -wpI_cvbs]
  refine Ev.mono (headerMay_ok m f11 s4 (hd.ext (x0.trans y4))) ?_
  rintro v s5 ⟨x5, rfl⟩
  have y5 := y4.trans x5
  have g5 : s5.get s.ctr = some (.cells [.int .u64 m.to, .int .u64 m.reply, .int .u32 m.id, .int .u16 m.op, .int .u16 m.st, .int .u64 m.p, .int .u32 m.o, .int .u8 m.r, .int .u64 m.k, .int .u64 m.arg, d] 0 false) := by rw [y5.get _ (by omega), g0]
  simp [g5]
  refine Ev.mono (lawMay_ok m f11 s5 (hd.ext (x0.trans y5))) ?_
  rintro v s6 ⟨x6, rfl⟩
  have y6 := y5.trans x6
  have xs := (x4.trans x5).trans x6
  have g6 : s6.get s1.ctr = some (.cells [.int .u64 c.to, .int .u64 c.reply, .int .u32 c.id, .int .u16 c.op, .int .u16 c.st, .int .u64 c.p, .int .u32 c.o, .int .u8 c.r, .int .u64 c.k, .int .u64 c.arg, d1] 0 false) := by rw [xs.get _ (by have := x3.ctr; omega), g3]
  have wl := (hw.bytes.ext xs).wlen
  have wl2 := (((hd1.ext x2).ext x3).ext xs).wlen
  have hbl := c.bytes_length
  have hdl : c.data.length ≤ 4096 := by
    simp only [Ms.may, Bool.and_eq_true, decide_eq_true_eq] at hcm
    exact hcm.2
  have w46 : IntKind.i64.wrap (46 + (c.data.length : Int)) = ((46 + c.data.length : Nat) : Int) := by rw [wrap_i64] <;> omega
  rw [hbl] at wl
  have g7 : s6.get s.ctr = some (.cells [.int .u64 m.to, .int .u64 m.reply, .int .u32 m.id, .int .u16 m.op, .int .u16 m.st, .int .u64 m.p, .int .u32 m.o, .int .u8 m.r, .int .u64 m.k, .int .u64 m.arg, d] 0 false) := by rw [y6.get _ (by omega), g0]
  simp [g6, wl, wl2, w46, pf10_1, g7]
  cases hm : m.may with
  | true =>
    refine Ev.mono (headerEncode_ok m hf hm s6 (hd.ext (x0.trans y6))) ?_
    rintro v s7 ⟨x7, w7, rfl, hw7⟩
    have g8 : s7.get s.ctr = some (.cells [.int .u64 m.to, .int .u64 m.reply, .int .u32 m.id, .int .u16 m.op, .int .u16 m.st, .int .u64 m.p, .int .u32 m.o, .int .u8 m.r, .int .u64 m.k, .int .u64 m.arg, d] 0 false) := by rw [(y6.trans x7).get _ (by omega), g0]
    simp [pf10_0, g8]
    refine Ev.mono (lawMay_ok m f11 s7 (hd.ext (x0.trans (y6.trans x7)))) ?_
    rintro v s8 ⟨x8, rfl⟩
    simp [hm]
  | false =>
    refine Ev.mono (headerEncode_no m f11 hm s6 (hd.ext (x0.trans y6))) ?_
    rintro v s7 ⟨x7, rfl⟩
    have g8 : s7.get s.ctr = some (.cells [.int .u64 m.to, .int .u64 m.reply, .int .u32 m.id, .int .u16 m.op, .int .u16 m.st, .int .u64 m.p, .int .u32 m.o, .int .u8 m.r, .int .u64 m.k, .int .u64 m.arg, d] 0 false) := by rw [(y6.trans x7).get _ (by omega), g0]
    simp [pf10_0, g8]
    refine Ev.mono (lawMay_ok m f11 s7 (hd.ext (x0.trans (y6.trans x7)))) ?_
    rintro v s8 ⟨x8, rfl⟩
    simp [hm]
    refine ev_is ?_
    simp
end
end Go.Ab
