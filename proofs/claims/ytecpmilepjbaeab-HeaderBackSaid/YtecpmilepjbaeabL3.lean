/- 'HeaderBack' over the abstract machine. -/
import Derived.Test.YtecpmilepjbaeabHC
namespace Go.Ab
attribute [local simp] S.read S.write

theorem ev_awake04' {s : S} {Q : AV → S → Prop} (h : Q (.bool true) s) : Ev tab 8 [] s Q := Ev.prim (p := closedPrim [] (.bool true)) rfl rfl h
def zeroM : List AV := [.int .u64 0, .int .u64 0, .int .u32 0, .int .u16 0, .int .u16 0, .int .u64 0, .int .u32 0, .int .u8 0, .int .u64 0, .int .u64 0, .snil]

theorem num_two {l : List UInt8} {i : Nat} {x y : UInt8} (h : l[i]? = some x) (h2 : l[i + 1]? = some y) : num ((l.drop i).take 2) = x.toNat * 256 + y.toNat := by
  obtain ⟨hi, he⟩ := List.getElem?_eq_some_iff.1 h
  obtain ⟨hi2, he2⟩ := List.getElem?_eq_some_iff.1 h2
  rw [List.drop_eq_getElem_cons hi, List.drop_eq_getElem_cons hi2, he, he2]
  simp [num]

theorem read_ok {s : S} {b : AV} {l : List UInt8} (hb : Bytes s b l) (hl : l.length ≤ 140737488355328) : Ev tab 14 [b] s fun v s' => s' = s ∧ v = .bool (decide (MsgBytes l)) := by
  refine Ev.intro rfl rfl rfl ?_
  have wl := hb.wlen
  by_cases h46 : l.length < 46
  · have h46' : (l.length : Int) < 46 := by omega
    have : ¬ MsgBytes l := fun h => by have := h.1; omega
    simp [pf14, pf14_5, pf14_4, pf14_3, wl, h46', pf14_2, this]
  have h46' : ¬ (l.length : Int) < 46 := by omega
  obtain ⟨x, hx⟩ : ∃ x, l[44]? = some x := ⟨_, List.getElem?_eq_getElem (by omega)⟩
  obtain ⟨y, hy⟩ : ∃ y, l[45]? = some y := ⟨_, List.getElem?_eq_getElem (by omega)⟩
  have hn := num_two hx hy
  obtain ⟨q, hq⟩ : ∃ q, q = num ((l.drop 44).take 2) := ⟨_, rfl⟩
  rw [← hq] at hn
  have hxt := x.toNat_lt
  have hyt := y.toNat_lt
  obtain ⟨bb, o, c, opn, hbe, hrx⟩ := hb.elem hx
  obtain ⟨bb2, o2, c2, opn2, hbe2, hry⟩ := hb.elem hy
  rw [hbe] at hbe2
  simp only [AV.slice.injEq] at hbe2
  obtain ⟨rfl, rfl, _, rfl, rfl⟩ := hbe2
  subst hbe
  simp only [S.read] at hrx hry
  have w1 : IntKind.i64.wrap (x.toNat : Int) = x.toNat := wrap_i64 (by omega) (by omega)
  have w2 : IntKind.i64.wrap ((x.toNat : Int) * 256) = ((x.toNat * 256 : Nat) : Int) := by rw [wrap_i64] <;> omega
  have w3 : IntKind.i64.wrap (y.toNat : Int) = y.toNat := wrap_i64 (by omega) (by omega)
  obtain ⟨X, hX⟩ : ∃ X, X = x.toNat * 256 := ⟨_, rfl⟩
  rw [← hX] at w2 hn
  have w4 : IntKind.i64.wrap ((X : Int) + y.toNat) = (q : Int) := by rw [wrap_i64] <;> omega
  have w5 : IntKind.i64.wrap (46 + (q : Int)) = ((46 + q : Nat) : Int) := by rw [wrap_i64] <;> omega
  obtain ⟨Z, hZ⟩ : ∃ Z, Z = 46 + q := ⟨_, rfl⟩
  rw [← hZ] at w5
  have h44 : (44 : Int) < l.length := by omega
  have h45 : (45 : Int) < l.length := by omega
  have hdec : decide (MsgBytes l) = (decide (q ≤ 4096) && decide (l.length = Z)) := by
    rw [← Bool.decide_and]
    apply decide_eq_decide.2
    unfold MsgBytes
    rw [← hq]
    omega
  rw [hdec]
  by_cases h4 : q ≤ 4096
  · have h4' : (q : Int) ≤ 4096 := by omega
    simp [pf14, pf14_5, pf14_4, pf14_3, wl, h46', pf14_1, h44, h45, hrx, hry, w1, w2, w3, w4, pf14_0, h4, h4', w5]
    omega
  · have h4' : ¬ (q : Int) ≤ 4096 := by omega
    simp [pf14, pf14_5, pf14_4, pf14_3, wl, h46', pf14_1, h44, h45, hrx, hry, w1, w2, w3, w4, pf14_0, h4, h4', w5]

set_option maxRecDepth 20000 in
theorem headerBack_ok (m : Ms) (hm : m.fit) (s : S) {d b : AV} (hd : Bytes s d m.data) {l : List UInt8} (hb : Bytes s b l) (hl : l.length ≤ 140737488355328) : Ev tab 3 [.agg (m.cells d), b] s fun v s' => v = .bool true := by
  refine Ev.intro rfl rfl rfl ?_
  have fd := hd.flat
  have m11 := hm.2.2.2.2.2.2.2.2.2.2
  obtain ⟨s0, hs0⟩ : ∃ s0, s0 = s.new (.cells (m.cells d) 0 false) := ⟨_, rfl⟩
  have x0 : Ext s s0 := by rw [hs0]; simp
  have c0 : s0.ctr = s.ctr + 1 := by rw [hs0]; rfl
  have g0 : s0.get s.ctr = some (.cells (m.cells d) 0 false) := by rw [hs0]; simp
  have hfm : ((m.cells d).all isFlat) = true := by simp [Ms.cells, fd]
  have lm : ∀ (m : Ms) (d : AV), (m.cells d).length = 11 := fun _ _ => rfl
  have tm : ∀ (m : Ms) (d : AV), (m.cells d).take 11 = m.cells d := fun _ _ => rfl
  simp [pf3, pf3_12, hfm, ← hs0, pf3_11, pf3_10]
  refine ev_awake04' ?_
  simp [pf3_8, g0, lm, tm]
  refine Ev.mono (make_ok m m11 s0 (hd.ext x0)) ?_
  rintro v s1 ⟨x1, d1, rfl, hd1, hsd⟩
  obtain ⟨M, hM⟩ : ∃ M, M = m.cut := ⟨_, rfl⟩
  have Mm : M.may = true := by rw [hM]; exact m.cut_may
  have Mf : M.fit := by rw [hM]; exact Ms.cut_fit hm
  rw [← hM] at hd1 ⊢
  simp
  refine Ev.mono (want_ok M Mf Mm s1 hd1) ?_
  rintro v s2 ⟨x2, hw⟩
  simp
  have hbl := M.bytes_length
  have hl4 : M.data.length ≤ 4096 := by
    simp only [Ms.may, Bool.and_eq_true, decide_eq_true_eq] at Mm
    exact Mm.2
  have hof := Ms.of_bytes Mf Mm
  have hgood : MsgBytes M.bytes := by
    have hn : num ((M.bytes.drop 44).take 2) = M.data.length := by
      simp only [Ms.bytes]
      simp [List.take_append, List.drop_append, List.drop_eq_nil_of_le]
      rw [num_be, Nat.mod_eq_of_lt (by omega)]
    exact ⟨by omega, by omega, by omega⟩
  refine Ev.mono (decode_ok hw.bytes (by omega) hgood) ?_
  rintro v s3 ⟨x3, d3, rfl, hd3, hs3⟩
  rw [hof] at hd3 ⊢
  have fd3 := hd3.flat
  have hfM : ((M.cells d3).all isFlat) = true := by simp [Ms.cells, fd3]
  have lz : zeroM.length = 11 := rfl
  have dz : zeroM.drop 11 = [] := rfl
  obtain ⟨s4, hs4⟩ : ∃ s4, s4 = (s3.new (.cells zeroM 0 false)).set s3.ctr (some (.cells (M.cells d3) 0 false)) := ⟨_, rfl⟩
  have x4 : Ext s3 s4 := by rw [hs4]; simp
  have c4 : s4.ctr = s3.ctr + 1 := by rw [hs4]; rfl
  have g4 : s4.get s3.ctr = some (.cells (M.cells d3) 0 false) := by rw [hs4]; simp
  have hwr : (s3.new (.cells zeroM 0 false)).write s3.ctr 0 (M.cells d3) = some s4 := by
    rw [hs4]; simp [hfM, lm, lz, dz]
  unfold zeroM at hwr
  have y4 : Ext s0 s4 := ((x1.trans x2).trans x3).trans x4
  have g0' : s4.get s.ctr = some (.cells (m.cells d) 0 false) := by rw [y4.get _ (by omega), g0]
  simp [lm, hwr, -S.write, pf3_7, pf3_6, g4, g0', tm]
  refine Ev.mono (make_ok m m11 s4 (hd.ext (x0.trans y4))) ?_
  rintro v s5 ⟨x5, d5, rfl, hd5, _⟩
  rw [← hM] at hd5 ⊢
  have g5 : s5.get s3.ctr = some (.cells (M.cells d3) 0 false) := by rw [x5.get _ (by omega), g4]
  simp [g5, lm, tm]
  refine Ev.mono (sameMs_ok M M s5 ((hd3.ext x4).ext x5) hd5) ?_
  rintro v s6 ⟨x6, rfl⟩
  have y6 := (x0.trans y4).trans (x5.trans x6)
  simp [pf3_4]
  by_cases hg : MsgBytes l
  · obtain ⟨q, hq⟩ : ∃ q, q = num ((l.drop 44).take 2) := ⟨_, rfl⟩
    have hby : (Ms.of l).bytes = l := Ms.bytes_of hq (by have := hg.2.1; omega)
    have hmy : (Ms.of l).may = true := Ms.of_may hq (by have := hg.2.1; omega) (by have := hg.2.2; omega)
    have hft : (Ms.of l).fit := Ms.of_fit hl
    refine Ev.mono (decode_ok (hb.ext y6) hl hg) ?_
    rintro v s7 ⟨x7, d7, rfl, hd7, _⟩
    obtain ⟨N, hN⟩ : ∃ N, N = Ms.of l := ⟨_, rfl⟩
    rw [← hN] at hby hmy hft hd7 ⊢
    have fd7 := hd7.flat
    have hfN : ((N.cells d7).all isFlat) = true := by simp [Ms.cells, fd7]
    obtain ⟨s8, hs8⟩ : ∃ s8, s8 = (s7.new (.cells zeroM 0 false)).set s7.ctr (some (.cells (N.cells d7) 0 false)) := ⟨_, rfl⟩
    have x8 : Ext s7 s8 := by rw [hs8]; simp
    have c8 : s8.ctr = s7.ctr + 1 := by rw [hs8]; rfl
    have g8 : s8.get s7.ctr = some (.cells (N.cells d7) 0 false) := by rw [hs8]; simp
    have hwr8 : (s7.new (.cells zeroM 0 false)).write s7.ctr 0 (N.cells d7) = some s8 := by
      rw [hs8]; simp [hfN, lm, lz, dz]
    unfold zeroM at hwr8
    simp [lm, hwr8, -S.write, pf3_3, pf3_2, pf3_0, g8, tm]
    have n11 := hft.2.2.2.2.2.2.2.2.2.2
    refine Ev.mono (lawMay_ok N n11 s8 (hd7.ext x8)) ?_
    rintro v s9 ⟨x9, rfl⟩
    have g9 : s9.get s7.ctr = some (.cells (N.cells d7) 0 false) := by rw [x9.get _ (by omega), g8]
    have y9 := ((y6.trans x7).trans x8).trans x9
    have kb := (hb.ext y9).cvbs_all
    have kb1 := kb.1 s9 (Ext.refl _)
    simp [hmy, g9, lm, tm, kb1, -evI_cvbs, -wpI_cvbs]
    refine Ev.mono (want_ok N hft hmy s9 ((hd7.ext x8).ext x9)) ?_
    rintro v s10 ⟨x10, hw10⟩
    have k10 := hw10.bytes.cvbs_at.1
    have kb2 := kb.2 s10 x10
    simp [k10, kb2, hby, -evI_cvbs, -wpI_cvbs]
  · refine Ev.mono (decode_no (hb.ext y6) hl hg) ?_
    rintro v s7 ⟨x7, rfl⟩
    obtain ⟨Z, hZ⟩ : ∃ Z : Ms, Z = ⟨0, 0, 0, 0, 0, 0, 0, 0, 0, 0, []⟩ := ⟨_, rfl⟩
    rw [← hZ]
    have hzc : Z.cells .snil = zeroM := by rw [hZ]; rfl
    obtain ⟨s8, hs8⟩ : ∃ s8, s8 = (s7.new (.cells zeroM 0 false)).set s7.ctr (some (.cells (Z.cells .snil) 0 false)) := ⟨_, rfl⟩
    have x8 : Ext s7 s8 := by rw [hs8]; simp
    have c8 : s8.ctr = s7.ctr + 1 := by rw [hs8]; rfl
    have g8 : s8.get s7.ctr = some (.cells (Z.cells .snil) 0 false) := by rw [hs8]; simp
    have hfZ : ((Z.cells .snil).all isFlat) = true := by rw [hzc]; rfl
    have hwr8 : (s7.new (.cells zeroM 0 false)).write s7.ctr 0 (Z.cells .snil) = some s8 := by
      rw [hs8]; simp [hfZ, lm, lz, dz]
    unfold zeroM at hwr8
    simp [lm, hwr8, -S.write, pf3_3, pf3_2, pf3_1]
    refine ev_is ?_
    simp [g8, lm, tm]
    have hzd : Z.data = [] := by rw [hZ]
    have hbz : Bytes s8 .snil Z.data := by rw [hzd]; exact Bytes.nil _
    have hz2 : [AV.int .u64 0, .int .u64 0, .int .u32 0, .int .u16 0, .int .u16 0, .int .u64 0, .int .u32 0, .int .u8 0, .int .u64 0, .int .u64 0, .snil] = Z.cells .snil := by rw [hzc]; rfl
    rw [hz2]
    refine Ev.mono (sameMs_ok Z Z s8 hbz hbz) ?_
    rintro v s9 ⟨x9, rfl⟩
    simp
    refine Ev.mono (read_ok (hb.ext (((y6.trans x7).trans x8).trans x9)) hl) ?_
    rintro v s10 ⟨rfl, rfl⟩
    simp [hg]
end Go.Ab
