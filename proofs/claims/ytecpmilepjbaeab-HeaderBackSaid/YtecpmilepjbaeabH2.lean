/- Messages as bytes (layer 4) over the abstract machine. -/
import Derived.Test.YtecpmilepjbaeabH1
namespace Go.Ab
attribute [local simp] S.read S.write

section
variable {s : S} {d : AV}

theorem Ms.eta {m : Ms} : m.cells d = [.int .u64 m.to, .int .u64 m.reply, .int .u32 m.id, .int .u16 m.op, .int .u16 m.st, .int .u64 m.p, .int .u32 m.o, .int .u8 m.r, .int .u64 m.k, .int .u64 m.arg, d] := rfl

/-- The same message. -/
theorem sameMs_ok (a b : Ms) {da db : AV} (s : S) (ha : Bytes s da a.data) (hb : Bytes s db b.data) : Ev tab 12 [.agg (a.cells da), .agg (b.cells db)] s fun v s' => Ext s s' ∧ v = .bool (decide (a = b)) := by
  refine Ev.mono (same_ok a.to a.reply a.id a.op a.st a.p a.o a.r a.k a.arg b.to b.reply b.id b.op b.st b.p b.o b.r b.k b.arg da db a.data b.data s ha hb) ?_
  rintro v s' ⟨hx, rfl⟩
  refine ⟨hx, ?_⟩
  congr 1
  apply decide_eq_decide.2
  cases a; cases b
  simp only [Ms.mk.injEq, Int.natCast_inj, and_assoc]

theorem headerMay_ok (m : Ms) (hl : m.data.length ≤ 140737488355328) (s : S) (hd : Bytes s d m.data) : Ev tab 33 [.agg (m.cells d)] s fun v s' => Ext s s' ∧ v = .bool m.may := by
  refine Ev.intro rfl rfl rfl ?_
  have fd := hd.flat
  have e1 : decide ((m.to : Int) ≤ 281474976710655) = decide (m.to < 281474976710656) := decide_eq_decide.2 (by omega)
  have e2 : decide ((m.reply : Int) ≤ 281474976710655) = decide (m.reply < 281474976710656) := decide_eq_decide.2 (by omega)
  have e3 : decide ((m.data.length : Int) ≤ 4096) = decide (m.data.length ≤ 4096) := decide_eq_decide.2 (by omega)
  unfold Ms.may
  by_cases h1 : m.to < 281474976710656
  case neg => simp [pf33, pf33_1, pf33_0, Ms.cells, fd, e1, h1]
  by_cases h2 : m.reply < 281474976710656
  case neg => simp [pf33, pf33_1, pf33_0, Ms.cells, fd, e1, e2, h1, h2]
  simp [pf33, pf33_1, pf33_0, Ms.cells, fd, e1, e2, h1, h2]
  refine Ev.mono (may_ok m.p m.o m.r m.k _) ?_
  rintro v s1 ⟨x1, rfl⟩
  have hg := x1.get
  have hx0 : Ext s s1 := Ext.trans (by simp) x1
  cases capMay m.p m.o m.k with
  | false => simp [hx0]
  | true =>
    have wl := (hd.ext hx0).wlen
    simp [hg, wl, e3, hx0]

/-- The message of these parts may be just if it is the one that is made of it. -/
theorem lawMay_ok (m : Ms) (hl : m.data.length ≤ 140737488355328) (s : S) (hd : Bytes s d m.data) : Ev tab 15 [.agg (m.cells d)] s fun v s' => Ext s s' ∧ v = .bool m.may := by
  refine Ev.intro rfl rfl rfl ?_
  have fd := hd.flat
  simp [pf15, pf15_1, pf15_0, Ms.cells, fd]
  refine Ev.mono (make_ok m hl _ (hd.ext (by simp))) ?_
  rintro v s1 ⟨x1, d1, rfl, hd1, _⟩
  have hg := x1.get
  have hx0 : Ext s s1 := Ext.trans (by simp) x1
  simp [hg]
  refine Ev.mono (sameMs_ok m m.cut s1 (hd.ext hx0) hd1) ?_
  rintro v s2 ⟨x2, rfl⟩
  have hx1 := hx0.trans x2
  simp [hx1]
  by_cases h : m.may = true
  · rw [h, Ms.may_cut h]; simp
  · rw [Bool.not_eq_true] at h
    rw [h]
    simp
    intro he
    rw [(Ms.may_iff m).2 he.symm] at h
    cases h

set_option maxRecDepth 10000 in
theorem headerEncode_no (m : Ms) (hl : m.data.length ≤ 140737488355328) (hm : m.may = false) (s : S) (hd : Bytes s d m.data) : Ev tab 16 [.agg (m.cells d)] s fun v s' => Ext s s' ∧ v = .tuple [.snil, .iface 39 (.int .i64 8)] := by
  refine Ev.intro rfl rfl rfl ?_
  have fd := hd.flat
  simp [pf16, pf16_14, pf16_13, pf16_12, Ms.cells, fd]
  refine Ev.mono (headerMay_ok m hl _ (hd.ext (by simp))) ?_
  rintro v s1 ⟨x1, rfl⟩
  have hx0 : Ext s s1 := Ext.trans (by simp) x1
  simp [hm, pf16_11, hx0]

set_option maxRecDepth 20000 in
theorem headerEncode_ok (m : Ms) (hf : m.fit) (hm : m.may = true) (s : S) (hd : Bytes s d m.data) : Ev tab 16 [.agg (m.cells d)] s fun v s' => Ext s s' ∧ ∃ w, v = .tuple [w, .nilIface] ∧ Own s.ctr s' w m.bytes := by
  refine Ev.intro rfl rfl rfl ?_
  have fd := hd.flat
  obtain ⟨f1, f2, f3, f4, f5, f6, f7, f8, f9, f10, f11⟩ := hf
  have hlen : m.data.length ≤ 4096 := by
    simp only [Ms.may, Bool.and_eq_true, decide_eq_true_eq] at hm
    exact hm.2
  have w1 : IntKind.u64.wrap (m.id : Int) = m.id := wrap_u64 (by omega) (by omega)
  have w2 : IntKind.u64.wrap (m.op : Int) = m.op := wrap_u64 (by omega) (by omega)
  have w3 : IntKind.u64.wrap (m.st : Int) = m.st := wrap_u64 (by omega) (by omega)
  obtain ⟨s0, hs0⟩ : ∃ s0, s0 = s.new (.cells (m.cells d) 0 false) := ⟨_, rfl⟩
  have x0 : Ext s s0 := by rw [hs0]; simp
  have c0 : s0.ctr = s.ctr + 1 := by rw [hs0]; simp
  have g0 : s0.get s.ctr = some (.cells [.int .u64 m.to, .int .u64 m.reply, .int .u32 m.id, .int .u16 m.op, .int .u16 m.st, .int .u64 m.p, .int .u32 m.o, .int .u8 m.r, .int .u64 m.k, .int .u64 m.arg, d] 0 false) := by rw [hs0]; simp [Ms.cells]
  have rd : ∀ t, Keep s0.ctr s0 t → t.get s.ctr = some (.cells [.int .u64 m.to, .int .u64 m.reply, .int .u32 m.id, .int .u16 m.op, .int .u16 m.st, .int .u64 m.p, .int .u32 m.o, .int .u8 m.r, .int .u64 m.k, .int .u64 m.arg, d] 0 false) := fun t h => by rw [h.get _ (by omega), g0]
  have hfl : ((m.cells d).all isFlat) = true := by simp [Ms.cells, fd]
  simp [pf16, pf16_14, hfl, ← hs0]
  simp [pf16_13, pf16_12, g0]
  refine Ev.mono (headerMay_ok m f11 _ (hd.ext x0)) ?_
  rintro v t ⟨x, rfl⟩
  have k := x.keep (n := s0.ctr) (Nat.le_refl _)
  have g := rd _ k
  simp [hm, pf16_10, g]
  refine Ev.mono (put_ok t (Bytes.nil t) m.to 6 (by omega) (by simp)) ?_
  rintro v t1 ⟨x, ho1⟩
  have k1 := k.trans (x.keep k.ctr)
  have g := rd _ k1
  simp [pf16_9, pf16_8, g]
  refine Ev.mono (put_ok t1 ho1.bytes m.reply 6 (by omega) (by simp)) ?_
  rintro v t2 ⟨x, ho2⟩
  have k2 := k1.trans (x.keep k1.ctr)
  have g := rd _ k2
  simp [pf16_7, g, w1]
  refine Ev.mono (put_ok t2 ho2.bytes m.id 4 (by omega) (by simp)) ?_
  rintro v t3 ⟨x, ho3⟩
  have k3 := k2.trans (x.keep k2.ctr)
  have g := rd _ k3
  simp [pf16_6, g, w2]
  refine Ev.mono (put_ok t3 ho3.bytes m.op 2 (by omega) (by simp)) ?_
  rintro v t4 ⟨x, ho4⟩
  have k4 := k3.trans (x.keep k3.ctr)
  have g := rd _ k4
  simp [pf16_5, g, w3]
  refine Ev.mono (put_ok t4 ho4.bytes m.st 2 (by omega) (by simp)) ?_
  rintro v t5 ⟨x, ho5⟩
  have k5 := k4.trans (x.keep k4.ctr)
  have g := rd _ k5
  simp [pf16_4, pf16_3, g]
  refine Ev.mono (encode_ok m.p m.o m.r m.k f6 f7 f8 _) ?_
  rintro v t6 ⟨x, ho6⟩
  have k6 := k5.trans (x.keep k5.ctr)
  have := capBytes_length m.p m.o m.r m.k
  simp
  have c5 := k5.ctr
  refine cont_app_own ((ho5.ext x).le k4.ctr) ho6.bytes (by have := k6.ctr; omega) (by simp; omega) ?_
  intro v7 t7 ho7 kk
  have k7 := k6.trans kk
  have g := rd _ k7
  simp [pf16_2, g]
  refine Ev.mono (put_ok t7 ho7.bytes m.arg 8 (by omega) (by simp; omega)) ?_
  rintro v t8 ⟨x, ho8⟩
  have k8 := k7.trans (x.keep k7.ctr)
  have g := rd _ k8
  have hd8 := hd.keep ((x0.keep (n := s.ctr) (Nat.le_refl _)).trans (k8.le (by omega))) hd.below
  simp [pf16_1, g]
  refine Ev.mono (putBytes_ok ho8.bytes hd8 (by omega) (by simp; omega)) ?_
  rintro v t9 ⟨x, w, rfl, ho9⟩
  have k9 := k8.trans (x.keep k8.ctr)
  simp [pf16_0]
  refine ⟨x0.then (k9.le (by omega)), ?_⟩
  have := ho9.le (m := s.ctr) (by have := k8.ctr; omega)
  rw [Ms.capBytes hm] at this
  simpa [Ms.bytes] using this
end
end Go.Ab
