/- 'HeaderPlaces' over the abstract machine. -/
import Derived.Test.YtecpmilepjbaeabHC
namespace Go.Ab
attribute [local simp] S.read S.write

theorem ev_awake04' {s : S} {Q : AV → S → Prop} (h : Q (.bool true) s) : Ev tab 8 [] s Q := Ev.prim (p := closedPrim [] (.bool true)) rfl rfl h
def zeroM : List AV := [.int .u64 0, .int .u64 0, .int .u32 0, .int .u16 0, .int .u16 0, .int .u64 0, .int .u32 0, .int .u8 0, .int .u64 0, .int .u64 0, .snil]

set_option maxRecDepth 20000 in
theorem headerPlaces_ok (m : Ms) (hm : m.fit) (s : S) {d : AV} (hd : Bytes s d m.data) : Ev tab 5 [.agg (m.cells d)] s fun v s' => v = .bool true := by
  refine Ev.intro rfl rfl rfl ?_
  have fd := hd.flat
  have m11 := hm.2.2.2.2.2.2.2.2.2.2
  obtain ⟨s0, hs0⟩ : ∃ s0, s0 = s.new (.cells (m.cells d) 0 false) := ⟨_, rfl⟩
  have x0 : Ext s s0 := by rw [hs0]; simp
  have c0 : s0.ctr = s.ctr + 1 := by rw [hs0]; rfl
  have g0 : s0.get s.ctr = some (.cells (m.cells d) 0 false) := by rw [hs0]; simp
  have hfm : ((m.cells d).all isFlat) = true := by simp [Ms.cells, fd]
  have lm : ∀ (m : Ms) (d : AV), (m.cells d).length = 11 := fun _ _ => rfl
  have tm : ∀ (m : Ms) (d : AV), (m.cells d).take 11 = m.cells d := fun _ _ => rfl
  simp [pf5, pf5_17, hfm, ← hs0, pf5_16, pf5_15]
  refine ev_awake04' ?_
  simp [pf5_13, g0, lm, tm]
  refine Ev.mono (make_ok m m11 s0 (hd.ext x0)) ?_
  rintro v s1 ⟨x1, d1, rfl, hd1, hsd⟩
  obtain ⟨M, hM⟩ : ∃ M, M = m.cut := ⟨_, rfl⟩
  have Mm : M.may = true := by rw [hM]; exact m.cut_may
  have Mf : M.fit := by rw [hM]; exact Ms.cut_fit hm
  rw [← hM] at hd1 ⊢
  have fd1 := hd1.flat
  have hfM : ((M.cells d1).all isFlat) = true := by simp [Ms.cells, fd1]
  have lz : zeroM.length = 11 := rfl
  have dz : zeroM.drop 11 = [] := rfl
  obtain ⟨s2, hs2⟩ : ∃ s2, s2 = (s1.new (.cells zeroM 0 false)).set s1.ctr (some (.cells (M.cells d1) 0 false)) := ⟨_, rfl⟩
  have x2 : Ext s1 s2 := by rw [hs2]; simp
  have c2 : s2.ctr = s1.ctr + 1 := by rw [hs2]; rfl
  have g2 : s2.get s1.ctr = some (.cells (M.cells d1) 0 false) := by rw [hs2]; simp
  have hwr : (s1.new (.cells zeroM 0 false)).write s1.ctr 0 (M.cells d1) = some s2 := by
    rw [hs2]; simp [hfM, lm, lz, dz]
  unfold zeroM at hwr
  simp [lm, hwr, -S.write, pf5_12, g2, tm]
  have hd2 := hd1.ext x2
  refine Ev.mono (headerEncode_ok M Mf Mm s2 hd2) ?_
  rintro v s3 ⟨x3, w, rfl, hw⟩
  have hb := hw.bytes
  have hbl := M.bytes_length
  obtain ⟨L, hL⟩ : ∃ L, L = M.bytes := ⟨_, rfl⟩
  have hof := Ms.of_bytes Mf Mm
  rw [← hL] at hb hbl hof
  have hl4 : M.data.length ≤ 4096 := by
    simp only [Ms.may, Bool.and_eq_true, decide_eq_true_eq] at Mm
    exact Mm.2
  have wl := hb.wlen
  have h46 : ¬ (L.length : Int) < 46 := by omega
  simp [pf5_11, pf5_10, wl, h46, pf5_8]
  refine Ev.mono (get_ok hb (by omega) (a := 0) (n := 6) (by omega) (by omega)) ?_
  rintro v t ⟨rfl, rfl⟩
  simp [pf5_7]
  refine Ev.mono (get_ok hb (by omega) (a := 6) (n := 6) (by omega) (by omega)) ?_
  rintro v t ⟨rfl, rfl⟩
  simp [pf5_6]
  refine Ev.mono (get_ok hb (by omega) (a := 12) (n := 4) (by omega) (by omega)) ?_
  rintro v t ⟨rfl, rfl⟩
  simp [pf5_5, pf5_4]
  refine Ev.mono (get_ok hb (by omega) (a := 16) (n := 2) (by omega) (by omega)) ?_
  rintro v t ⟨rfl, rfl⟩
  simp [pf5_3]
  refine Ev.mono (get_ok hb (by omega) (a := 18) (n := 2) (by omega) (by omega)) ?_
  rintro v t ⟨rfl, rfl⟩
  simp [pf5_2]
  refine Ev.mono (get_ok hb (by omega) (a := 36) (n := 8) (by omega) (by omega)) ?_
  rintro v t ⟨rfl, rfl⟩
  obtain ⟨u, hu, hbu, _, _⟩ := hb.part (lo := 20) (hi := 36) (k := .i64) (k2 := .i64) (by omega) (by omega)
  have hu' : S.slice 1 w (some (.int .i64 20)) (some (.int .i64 36)) none = some u := hu
  simp [pf5_1, hu']
  refine Ev.mono (decodeCap_ok hbu (by simp; omega)) ?_
  rintro v s4 ⟨x4, rfl⟩
  have cut : ∀ a k, a + k ≤ 16 → (((L.drop 20).take (36 - 20)).drop a).take k = (L.drop (20 + a)).take k := by
    intro a k h
    rw [List.drop_take, List.take_take, List.drop_drop, Nat.min_eq_left (by omega)]
  have e1 : ((L.drop 20).take (36 - 20)).take 6 = (L.drop 20).take 6 := by rw [List.take_take]; rfl
  rw [e1, cut 6 3 (by omega), cut 9 1 (by omega), cut 10 6 (by omega)]
  have f1 : num (L.take 6) = M.to := congrArg Ms.to hof
  have f2 : num ((L.drop 6).take 6) = M.reply := congrArg Ms.reply hof
  have f3 : num ((L.drop 12).take 4) = M.id := congrArg Ms.id hof
  have f4 : num ((L.drop 16).take 2) = M.op := congrArg Ms.op hof
  have f5 : num ((L.drop 18).take 2) = M.st := congrArg Ms.st hof
  have f6 : num ((L.drop 20).take 6) = M.p := congrArg Ms.p hof
  have f7 : num ((L.drop 26).take 3) = M.o := congrArg Ms.o hof
  have f8 : num ((L.drop 29).take 1) = M.r := congrArg Ms.r hof
  have f9 : num ((L.drop 30).take 6) = M.k := congrArg Ms.k hof
  have f10 : num ((L.drop 36).take 8) = M.arg := congrArg Ms.arg hof
  have f11 : L.drop 46 = M.data := congrArg Ms.data hof
  rw [f1, f2, f3, f4, f5, f6, f7, f8, f9, f10]
  obtain ⟨_, _, n3, n4, n5, _⟩ := Mf
  have w1 : IntKind.u64.wrap (M.id : Int) = M.id := wrap_u64 (by omega) (by omega)
  have w2 : IntKind.u64.wrap (M.op : Int) = M.op := wrap_u64 (by omega) (by omega)
  have w3 : IntKind.u64.wrap (M.st : Int) = M.st := wrap_u64 (by omega) (by omega)
  have x34 := x3.trans x4
  have g4 : s4.get s1.ctr = some (.cells [.int .u64 M.to, .int .u64 M.reply, .int .u32 M.id, .int .u16 M.op, .int .u16 M.st, .int .u64 M.p, .int .u32 M.o, .int .u8 M.r, .int .u64 M.k, .int .u64 M.arg, d1] 0 false) := by rw [x34.get _ (by omega), g2]; rfl
  have hne : ¬ s1.ctr = s4.ctr := by have := x34.ctr; omega
  have x5 : ∀ o o', Ext s4 ((s4.new o).set s4.ctr o') := fun o o' => Ext.set (Nat.le_refl _) (Ext.new (Ext.refl s4))
  obtain ⟨u2, hu2, hbu2, _, _⟩ := hb.rest (lo := 46) (k := .i64) (by omega)
  have hu2' : S.slice 1 w (some (.int .i64 46)) none none = some u2 := hu2
  rw [f11] at hbu2
  have k1 := hbu2.cvbs_all.1
  have k2 := (hd2.ext x3).cvbs_all.1
  simp [pf5_0, w1, w2, w3, g4, hne, hu2', k1, k2, x4.trans (x5 _ _), -evI_cvbs, -wpI_cvbs]
end Go.Ab
