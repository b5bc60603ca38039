/- 'PagesApart' over the abstract machine. -/
import Derived.Test.YtecpmilepjbaeaaP3
namespace Go.Ab

theorem ev_awake08 {s : S} {Q : AV → S → Prop} (h : Q (.bool true) s) : Ev tab 11 [] s Q := Ev.prim (p := closedPrim [] (.bool true)) rfl rfl h

theorem page_lay (bs v : List UInt8) (o q : Nat) (hv : o + v.length ≤ bs.length) (hq : q + 64 ≤ bs.length) (h : q + 64 ≤ o ∨ o + v.length ≤ q) : ((lay bs o v).drop q).take 64 = (bs.drop q).take 64 := by
  apply List.ext_getElem?
  intro i
  by_cases hi : i < 64
  · simp only [lay, List.getElem?_take, hi, if_true, List.getElem?_drop]
    rcases h with h | h
    · rw [List.append_assoc, List.getElem?_append_left (by simp; omega)]
      rw [List.getElem?_take, if_pos (by omega)]
    · rw [List.getElem?_append_right (by simp; omega)]
      simp
      congr 1
      omega
  · rw [List.getElem?_take_eq_none (by omega), List.getElem?_take_eq_none (by omega)]

theorem page_zeros (n q : Nat) (h : q + 64 ≤ n) : ((List.replicate n (0 : UInt8)).drop q).take 64 = pg0 := by
  have : min 64 (n - q) = 64 := by omega
  simp [pg0, this]

theorem lay_zeros (n o : Nat) (h : o + 64 ≤ n) : lay (List.replicate n 0) o pg0 = List.replicate n 0 := by
  have e1 : min o n = o := by omega
  simp only [lay, pg0, List.take_replicate, List.drop_replicate, List.length_replicate, List.replicate_append_replicate, e1]
  congr 1
  omega

theorem page_fresh (s : S) : Bytes (s.new (.cells (u8s pg0) 0 false)) (.slice s.ctr 0 64 64 false) pg0 := by
  have := Bytes.made (s := s.new (.cells (u8s pg0) 0 false)) (b := s.ctr) (l := pg0) (n := 0) (by simp) (by simp) 64 false
  rwa [pg0_length] at this

theorem pagesApart_ok (b : AV) (l : List UInt8) (a : Int) (ha : 0 ≤ a ∧ a < 256) (s : S) (hb : Bytes s b l) (hl : l.length ≤ 140737488355328) : Ev tab 3 [b, .int .u8 a] s fun v s' => v = .bool true := by
  refine Ev.intro rfl rfl rfl ?_
  obtain ⟨n, rfl⟩ := Int.eq_ofNat_of_zero_le ha.1
  have hw : IntKind.i64.wrap (n : Int) = n := wrap_i64 (by omega) (by omega)
  simp [pf3, pf3_21, pf3_20, pf3_19]
  refine ev_awake08 ?_
  simp [pf3_17]
  refine Ev.mono (of_ok 3 _) ?_
  rintro v s1 ⟨x1, p, bb, tb, c1, c2, c3, rfl, hm⟩
  simp only [show (max 0 (min (3 : Int) 4096)).toNat = 3 from rfl, show List.replicate 3 false = [false, false, false] from rfl] at hm
  simp [pf3_16, pf3_15]
  have hb1 := hb.ext x1
  obtain ⟨Z, hZ⟩ : ∃ Z : List UInt8, Z = List.replicate (64 * 3) 0 := ⟨_, rfl⟩
  rw [← hZ] at hm
  refine WpC.loop (fun m r' s' => ∃ i : Nat, i ≤ 3 ∧ m = 3 - i ∧ r' 20 = .int .i64 i ∧ r' 5 = .ptr p 0 ∧ r' 0 = b ∧ r' 1 = .int .u8 n ∧ Mem s' p bb tb (List.replicate i true ++ List.replicate (3 - i) false) Z ∧ Bytes s' b l ∧ b.out [bb, tb]) (m := 3) ?_ ?_
  · refine ⟨0, by omega, rfl, by simp, by simp, by simp, by simp, hm, hb1, ?_⟩
    have := hb.below
    rcases hb.sort with rfl | ⟨za, rfl⟩ | ⟨x, o, n, c, opn, rfl⟩
    · trivial
    · trivial
    · simp only [AV.inS] at this
      simp [AV.out]; omega
  have hm0 := hm
  clear hm
  rintro m r' s' ⟨i, hi, rfl, e20, e5, e0, e1, hm, hb2, hout⟩
  by_cases h3 : i < 3
  · have w1 : IntKind.i64.wrap ((i : Int) + 1) = ((i + 1 : Nat) : Int) := by rw [wrap_i64] <;> omega
    have h3' : (i : Int) < 3 := by omega
    simp [pf3_14, pf3_13, e20, h3', pf3_11, pf3_10, e5]
    refine Ev.mono (alloc_yes hm (i := i) ?_ ?_) ?_
    · simp [List.getElem?_append, List.getElem?_replicate, show 0 < 3 - i by omega]
    · intro j hj
      simp [List.getElem?_append, hj]
    rintro v s2 ⟨hc, hct, rfl, hm2⟩
    rw [hZ, lay_zeros _ _ (by omega), ← hZ] at hm2
    simp [pf3_9, pf3_12, e20, w1]
    refine ⟨3 - (i + 1), by omega, i + 1, by omega, rfl, by simp, by simp [e5], by simp [e0], by simp [e1], ?_, hb2.chg hc hout, hout⟩
    have : (List.replicate i true ++ List.replicate (3 - i) false).set i true = List.replicate (i + 1) true ++ List.replicate (3 - (i + 1)) false := by
      have : i = 0 ∨ i = 1 ∨ i = 2 := by omega
      rcases this with rfl | rfl | rfl <;> rfl
    rwa [this] at hm2
  obtain rfl : i = 3 := by omega
  simp only [show List.replicate 3 true ++ List.replicate (3 - 3) false = [true, true, true] from rfl] at hm
  simp [pf3_14, pf3_13, e20, pf3_7, e5, e0, e1, hw]
  have hlz : Z.length = 192 := by rw [hZ, List.length_replicate]
  have wl : IntKind.i64.wrap ((n : Int) + l.length) = ((n + l.length : Nat) : Int) := by rw [wrap_i64] <;> omega
  by_cases hf : n + l.length ≤ 64
  · refine Ev.mono (write_in hm (i := 1) rfl hb2 hf) ?_
    rintro v s2 ⟨hc, rfl, hm2⟩
    have hb3 := hb2.chg hc (AV.out_sub hout (by simp))
    have hlen := hb3.wlen
    simp [pf3_6, e0, e1, e5, hw, hlen, wl, pf3_5, pf3_4]
    refine Ev.mono (read_in hm2 (i := 0) (a := 0) (n := 64) rfl (by omega)) ?_
    rintro v s3 ⟨hx3, d1, rfl, hd1, _⟩
    have hm3 := hm2.ext hx3
    rw [page_lay _ _ _ _ (by omega) (by omega) (by omega), hZ, page_zeros _ _ (by omega)] at hd1
    simp [pf3_3, e5]
    refine Ev.mono (read_in hm3 (i := 2) (a := 0) (n := 64) rfl (by omega)) ?_
    rintro v s4 ⟨hx4, d2, rfl, hd2, _⟩
    have hm4 := hm3.ext hx4
    rw [page_lay _ _ _ _ (by omega) (by omega) (by omega), hZ, page_zeros _ _ (by omega)] at hd2
    have z64 : (List.replicate 64 [AV.int .u8 0]).flatten = u8s pg0 := pg0_cells rfl
    have hx5 : Ext s4 (s4.new (.cells (u8s pg0) 0 false)) := by simp
    have hz : Bytes (s4.new (.cells (u8s pg0) 0 false)) (.slice s4.ctr 0 64 64 false) pg0 := page_fresh s4
    have hm5 := hm4.ext hx5
    have hzc := hz.cvbs_at.1
    simp [pf3_2, z64, hzc, e5, pf3_1, -List.reduceReplicate, -evI_cvbs, -wpI_cvbs]
    refine Ev.mono (read_in hm5 (i := 1) (a := 0) (n := 64) rfl (by omega)) ?_
    rintro v s6 ⟨hx6, d3, rfl, hd3, _⟩
    have k1 := (hd1.ext (hx4.trans (hx5.trans hx6))).cvbs_at.1
    have k2 := (hd2.ext (hx5.trans hx6)).cvbs_at.1
    have hf' : decide (((n + l.length : Nat) : Int) ≤ 64) = true := by simp; omega
    push_cast at hf'
    simp [pf3_0, hf', k1, k2, -evI_cvbs, -wpI_cvbs]
  · refine Ev.mono (write_out hm (i := 1) rfl (a := n) hb2 (by omega)) ?_
    rintro v s2 ⟨rfl, rfl⟩
    have hlen := hb2.wlen
    simp [pf3_6, e0, e1, e5, hw, hlen, wl, pf3_5, pf3_4]
    refine Ev.mono (read_in hm (i := 0) (a := 0) (n := 64) rfl (by omega)) ?_
    rintro v s3 ⟨hx3, d1, rfl, hd1, _⟩
    have hm3 := hm.ext hx3
    rw [hZ, page_zeros _ _ (by omega)] at hd1
    simp [pf3_3, e5]
    refine Ev.mono (read_in hm3 (i := 2) (a := 0) (n := 64) rfl (by omega)) ?_
    rintro v s4 ⟨hx4, d2, rfl, hd2, _⟩
    have hm4 := hm3.ext hx4
    rw [hZ, page_zeros _ _ (by omega)] at hd2
    have z64 : (List.replicate 64 [AV.int .u8 0]).flatten = u8s pg0 := pg0_cells rfl
    have hx5 : Ext s4 (s4.new (.cells (u8s pg0) 0 false)) := by simp
    have hz := page_fresh s4
    have hm5 := hm4.ext hx5
    have hzc := hz.cvbs_at.1
    simp [pf3_2, z64, hzc, e5, pf3_1, -List.reduceReplicate, -evI_cvbs, -wpI_cvbs]
    refine Ev.mono (read_in hm5 (i := 1) (a := 0) (n := 64) rfl (by omega)) ?_
    rintro v s6 ⟨hx6, d3, rfl, hd3, _⟩
    rw [hZ, page_zeros _ _ (by omega)] at hd3
    have k1 := (hd1.ext (hx4.trans (hx5.trans hx6))).cvbs_at.1
    have k2 := (hd2.ext (hx5.trans hx6)).cvbs_at.1
    have k3 := hd3.cvbs_at.1
    have hf' : ¬ ((n + l.length : Nat) : Int) ≤ 64 := by omega
    push_cast at hf'
    simp [pf3_0, hf', k1, k2, k3, -evI_cvbs, -wpI_cvbs]
end Go.Ab
