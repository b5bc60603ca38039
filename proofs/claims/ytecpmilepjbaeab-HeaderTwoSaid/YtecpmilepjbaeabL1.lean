/- 'HeaderTwo' over the abstract machine. -/
import Derived.Test.YtecpmilepjbaeabHD
namespace Go.Ab
attribute [local simp] S.read S.write

theorem ev_awake04' {s : S} {Q : AV → S → Prop} (h : Q (.bool true) s) : Ev tab 8 [] s Q := Ev.prim (p := closedPrim [] (.bool true)) rfl rfl h

def zeroM : List AV := [.int .u64 0, .int .u64 0, .int .u32 0, .int .u16 0, .int .u16 0, .int .u64 0, .int .u32 0, .int .u8 0, .int .u64 0, .int .u64 0, .snil]

set_option maxRecDepth 20000 in
theorem headerTwo_ok (m k : Ms) (hm : m.fit) (hk : k.fit) (s : S) {d e : AV} (hd : Bytes s d m.data) (he : Bytes s e k.data) : Ev tab 4 [.agg (m.cells d), .agg (k.cells e)] s fun v s' => v = .bool true := by
  refine Ev.intro rfl rfl rfl ?_
  have fd := hd.flat
  have fe := he.flat
  have m11 := hm.2.2.2.2.2.2.2.2.2.2
  have k11 := hk.2.2.2.2.2.2.2.2.2.2
  obtain ⟨s0, hs0⟩ : ∃ s0, s0 = (s.new (.cells (m.cells d) 0 false)).new (.cells (k.cells e) 0 false) := ⟨_, rfl⟩
  have x0 : Ext s s0 := by rw [hs0]; simp (maxDischargeDepth := 30)
  have c0 : s0.ctr = s.ctr + 2 := by rw [hs0]; simp [Nat.add_assoc]
  have g0 : s0.get s.ctr = some (.cells (m.cells d) 0 false) := by rw [hs0]; simp
  have g1 : s0.get (s.ctr + 1) = some (.cells (k.cells e) 0 false) := by rw [hs0]; simp
  have hfm : ((m.cells d).all isFlat) = true := by simp [Ms.cells, fd]
  have hfk : ((k.cells e).all isFlat) = true := by simp [Ms.cells, fe]
  have lm : ∀ (m : Ms) (d : AV), (m.cells d).length = 11 := fun _ _ => rfl
  have tm : ∀ (m : Ms) (d : AV), (m.cells d).take 11 = m.cells d := fun _ _ => rfl
  simp [pf4, pf4_7, hfm, hfk, ← hs0, pf4_6, pf4_5]
  refine ev_awake04' ?_
  obtain ⟨s1, hs1⟩ : ∃ s1, s1 = (s0.new (.cells zeroM 0 false)).new (.cells zeroM 0 false) := ⟨_, rfl⟩
  have x1 : Ext s0 s1 := by rw [hs1]; simp (maxDischargeDepth := 30)
  have c1 : s1.ctr = s0.ctr + 2 := by rw [hs1]; simp [Nat.add_assoc]
  have g2 : s1.get s0.ctr = some (.cells zeroM 0 false) := by rw [hs1]; simp
  have g3 : s1.get (s0.ctr + 1) = some (.cells zeroM 0 false) := by rw [hs1]; simp
  have hs1' := hs1
  unfold zeroM at hs1'
  simp [pf4_3, g0, g1, lm, tm, ← hs1']
  have y1 := x0.trans x1
  refine Ev.mono (make_ok m m11 s1 (hd.ext y1)) ?_
  rintro v s2 ⟨x2, d1, rfl, hd1, hsd⟩
  have g4 : s2.get (s.ctr + 1) = some (.cells (k.cells e) 0 false) := by rw [x2.get _ (by omega), x1.get _ (by omega), g1]
  simp [g4, lm, tm]
  have y2 := y1.trans x2
  refine Ev.mono (make_ok k k11 s2 (he.ext y2)) ?_
  rintro v s3 ⟨x3, e1, rfl, he1, hse⟩
  have x13 := x2.trans x3
  have g5 : s3.get s0.ctr = some (.cells zeroM 0 false) := by rw [x13.get _ (by omega), g2]
  have g6 : s3.get (s0.ctr + 1) = some (.cells zeroM 0 false) := by rw [x13.get _ (by omega), g3]
  obtain ⟨M, hM⟩ : ∃ M, M = m.cut := ⟨_, rfl⟩
  obtain ⟨N, hN⟩ : ∃ N, N = k.cut := ⟨_, rfl⟩
  have Mm : M.may = true := by rw [hM]; exact m.cut_may
  have Nm : N.may = true := by rw [hN]; exact k.cut_may
  have Mf : M.fit := by rw [hM]; exact Ms.cut_fit hm
  have Nf : N.fit := by rw [hN]; exact Ms.cut_fit hk
  rw [← hM] at hd1 ⊢
  rw [← hN] at he1 ⊢
  have hd3 := hd1.ext x3
  have fd1 := hd1.flat
  have fe1 := he1.flat
  have hfM : ((M.cells d1).all isFlat) = true := by simp [Ms.cells, fd1]
  have hfN : ((N.cells e1).all isFlat) = true := by simp [Ms.cells, fe1]
  have lz : zeroM.length = 11 := rfl
  have dz : zeroM.drop 11 = [] := rfl
  simp [g5, g6, lm, lz, dz, hfM, hfN]
  have hse1 := since_le (n := s1.ctr) x2.ctr hse
  generalize hs4 : S.set (S.set s3 s0.ctr _) (s0.ctr + 1) _ = s4
  have q1 : s4.get s0.ctr = some (.cells (M.cells d1) 0 false) := by rw [← hs4]; simp
  have q2 : s4.get (s0.ctr + 1) = some (.cells (N.cells e1) 0 false) := by rw [← hs4]; simp
  have c4 : s4.ctr = s3.ctr := by rw [← hs4]; rfl
  have c3 := x13.ctr
  have hd4 : Bytes s4 d1 M.data := by rw [← hs4]; exact (hd3.set hsd (by omega)).set hsd (by omega)
  have he4 : Bytes s4 e1 N.data := by rw [← hs4]; exact (he1.set hse1 (by omega)).set hse1 (by omega)
  clear hs4
  simp [pf4_2, q1, lm, tm]
  refine Ev.mono (headerEncode_ok M Mf Mm s4 hd4) ?_
  rintro v s5 ⟨x5, w1, rfl, hw1⟩
  have q3 : s5.get (s0.ctr + 1) = some (.cells (N.cells e1) 0 false) := by rw [x5.get _ (by omega), q2]
  simp [pf4_1, q3, lm, tm]
  refine Ev.mono (headerEncode_ok N Nf Nm s5 (he4.ext x5)) ?_
  rintro v s6 ⟨x6, w2, rfl, hw2⟩
  have x46 := x5.trans x6
  have q4 : s6.get s0.ctr = some (.cells (M.cells d1) 0 false) := by rw [x46.get _ (by omega), q1]
  have q5 : s6.get (s0.ctr + 1) = some (.cells (N.cells e1) 0 false) := by rw [x46.get _ (by omega), q2]
  have k1 := hw1.bytes.cvbs_all
  have k2 := hw2.bytes.cvbs_all
  have k11 := k1.1 s6 x6
  have k21 := k2.1 s6 (Ext.refl _)
  simp [pf4_0, k11, k21, q4, q5, lm, tm, -evI_cvbs, -wpI_cvbs]
  refine Ev.mono (sameMs_ok M N s6 (hd4.ext x46) (he4.ext x46)) ?_
  rintro v s7 ⟨x7, rfl⟩
  have k12 := k1.2 s7 (x6.trans x7)
  have k22 := k2.2 s7 x7
  have hinj := Ms.bytes_inj Mf Mm Nf Nm
  simp [k12, k22, hinj, -evI_cvbs, -wpI_cvbs]
end Go.Ab
