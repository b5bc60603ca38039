/- What the law wants of a message's bytes, over the abstract machine. -/
import Derived.Test.YtecpmilepjbaeabH2
namespace Go.Ab
attribute [local simp] S.read S.write

theorem ev_awake04 {s : S} {Q : AV → S → Prop} (h : Q (.bool true) s) : Ev tab 8 [] s Q := Ev.prim (p := closedPrim [] (.bool true)) rfl rfl h
theorem ev_is {n m : Int} {s : S} {Q : AV → S → Prop} (h : Q (.bool (decide (n = m))) s) : Ev tab 13 [.iface 39 (.int .i64 n), .iface 39 (.int .i64 m)] s Q := Ev.prim (p := isPrim) rfl rfl h

section
variable {s : S} {d : AV}

set_option maxRecDepth 20000 in
theorem want_ok (m : Ms) (hf : m.fit) (hm : m.may = true) (s : S) (hd : Bytes s d m.data) : Ev tab 10 [.agg (m.cells d)] s fun v s' => Ext s s' ∧ Own s.ctr s' v m.bytes := by
  refine Ev.intro rfl rfl rfl ?_
  have fd := hd.flat
  obtain ⟨f1, f2, f3, f4, f5, f6, f7, f8, f9, f10, f11⟩ := hf
  have hlen : m.data.length ≤ 4096 := by
    simp only [Ms.may, Bool.and_eq_true, decide_eq_true_eq] at hm
    exact hm.2
  have w1 : IntKind.u64.wrap (m.id : Int) = m.id := wrap_u64 (by omega) (by omega)
  have w2 : IntKind.u64.wrap (m.op : Int) = m.op := wrap_u64 (by omega) (by omega)
  have w3 : IntKind.u64.wrap (m.st : Int) = m.st := wrap_u64 (by omega) (by omega)
  obtain ⟨s0, hs0⟩ : ∃ s0, s0 = s.new (.cells (m.cells d) 0 false) := ⟨_, rfl⟩
  have x0 : Ext s s0 := by rw [hs0]; simp
  have c0 : s0.ctr = s.ctr + 1 := by rw [hs0]; simp
  have g0 : s0.get s.ctr = some (.cells [.int .u64 m.to, .int .u64 m.reply, .int .u32 m.id, .int .u16 m.op, .int .u16 m.st, .int .u64 m.p, .int .u32 m.o, .int .u8 m.r, .int .u64 m.k, .int .u64 m.arg, d] 0 false) := by rw [hs0]; simp [Ms.cells]
  have rd : ∀ t, Keep s0.ctr s0 t → t.get s.ctr = some (.cells [.int .u64 m.to, .int .u64 m.reply, .int .u32 m.id, .int .u16 m.op, .int .u16 m.st, .int .u64 m.p, .int .u32 m.o, .int .u8 m.r, .int .u64 m.k, .int .u64 m.arg, d] 0 false) := fun t h => by rw [h.get _ (by omega), g0]
  have hfl : ((m.cells d).all isFlat) = true := by simp [Ms.cells, fd]
  simp [pf10, pf10_6, hfl, ← hs0]
  have k := Keep.refl s0.ctr s0
  simp [pf10_5, g0]
  refine Ev.mono (put_ok s0 (Bytes.nil s0) m.to 6 (by omega) (by simp)) ?_
  rintro v t1 ⟨x, ho1⟩
  have k1 := k.trans (x.keep k.ctr)
  have g := rd _ k1
  simp [g]
  refine Ev.mono (put_ok t1 ho1.bytes m.reply 6 (by omega) (by simp)) ?_
  rintro v t2 ⟨x, ho2⟩
  have k2 := k1.trans (x.keep k1.ctr)
  have g := rd _ k2
  simp [pf10_4, pf10_3, g, w1, w2, w3]
  refine Ev.mono (put_ok t2 ho2.bytes m.id 4 (by omega) (by simp)) ?_
  rintro v t3 ⟨x, ho3⟩
  have k3 := k2.trans (x.keep k2.ctr)
  have g := rd _ k3
  simp [g]
  refine Ev.mono (put_ok t3 ho3.bytes m.op 2 (by omega) (by simp)) ?_
  rintro v t4 ⟨x, ho4⟩
  have k4 := k3.trans (x.keep k3.ctr)
  have g := rd _ k4
  simp [g]
  refine Ev.mono (put_ok t4 ho4.bytes m.st 2 (by omega) (by simp)) ?_
  rintro v t5 ⟨x, ho5⟩
  have k5 := k4.trans (x.keep k4.ctr)
  have g := rd _ k5
  simp [pf10_2, g]
  refine Ev.mono (encode_ok m.p m.o m.r m.k f6 f7 f8 _) ?_
  rintro v t6 ⟨x, ho6⟩
  have k6 := k5.trans (x.keep k5.ctr)
  have := capBytes_length m.p m.o m.r m.k
  simp
  have c5 := k5.ctr
  refine cont_app_own ((ho5.ext x).le k4.ctr) ho6.bytes (by have := k6.ctr; omega) (by simp; omega) ?_
  intro v7 t7 ho7 kk
  have k7 := k6.trans kk
  have g := rd _ k7
  simp [pf10_1, g]
  refine Ev.mono (put_ok t7 ho7.bytes m.arg 8 (by omega) (by simp; omega)) ?_
  rintro v t8 ⟨x, ho8⟩
  have k8 := k7.trans (x.keep k7.ctr)
  have g := rd _ k8
  have hd8 := hd.keep ((x0.keep (n := s.ctr) (Nat.le_refl _)).trans (k8.le (by omega))) hd.below
  simp [g]
  refine Ev.mono (putBytes_ok ho8.bytes hd8 (by omega) (by simp; omega)) ?_
  rintro v t9 ⟨x, w, rfl, ho9⟩
  have k9 := k8.trans (x.keep k8.ctr)
  simp [pf10_0]
  refine ⟨x0.then (k9.le (by omega)), ?_⟩
  have := ho9.le (m := s.ctr) (by have := k8.ctr; omega)
  rw [Ms.capBytes hm] at this
  simpa [Ms.bytes] using this

end
end Go.Ab
