/- 'PagesClean' over the abstract machine. -/
import Derived.Test.YtecpmilepjbaeaaP4
namespace Go.Ab

theorem lay_page (bs : List UInt8) (h : bs.length = 64) : lay bs (64 * 0) pg0 = pg0 := by
  simp [lay, pg0_length, h]

theorem pagesClean_ok (b : AV) (l : List UInt8) (a : Int) (ha : 0 ≤ a ∧ a < 256) (s : S) (hb : Bytes s b l) (hl : l.length ≤ 140737488355328) : Ev tab 5 [b, .int .u8 a] s fun v s' => v = .bool true := by
  refine Ev.intro rfl rfl rfl ?_
  obtain ⟨n, rfl⟩ := Int.eq_ofNat_of_zero_le ha.1
  obtain ⟨q, hq⟩ : ∃ q, q = n % 64 := ⟨_, rfl⟩
  have hr : Int.tmod (n : Int) 64 = (q : Int) := by rw [Int.tmod_eq_emod_of_nonneg (by omega)]; omega
  have hw : IntKind.i64.wrap (q : Int) = q := wrap_i64 (by omega) (by omega)
  simp [pf5, pf5_11, pf5_10, pf5_9]
  refine ev_awake08 ?_
  simp [pf5_7]
  refine Ev.mono (of_ok 1 _) ?_
  rintro v s1 ⟨x1, p, bb, tb, c1, c2, c3, rfl, hm⟩
  simp only [show (max 0 (min (1 : Int) 4096)).toNat = 1 from rfl, show List.replicate 1 false = [false] from rfl] at hm
  obtain ⟨Z, hZ⟩ : ∃ Z : List UInt8, Z = List.replicate (64 * 1) 0 := ⟨_, rfl⟩
  rw [← hZ] at hm
  have hb1 := hb.ext x1
  have hout : b.out [bb, tb] := by
    have := hb.below
    rcases hb.sort with rfl | ⟨za, rfl⟩ | ⟨x, o, n, c, opn, rfl⟩
    · trivial
    · trivial
    · simp only [AV.inS] at this
      simp [AV.out]; omega
  simp [pf5_6]
  refine Ev.mono (alloc_yes hm (i := 0) rfl (by simp)) ?_
  rintro v s2 ⟨hc, hct, rfl, hm2⟩
  have hb2 := hb1.chg hc hout
  simp only [show [false].set 0 true = [true] from rfl, hZ, lay_zeros _ _ (show 64 * 0 + 64 ≤ 64 * 1 by omega)] at hm2
  simp [pf5_5, pf5_4, hr, hw]
  refine Ev.mono (write_any hm2 (i := 0) (a := q) rfl hb2) ?_
  rintro v s3 ⟨_, bs, hm3⟩
  simp [pf5_3]
  refine Ev.mono (free_yes hm3 (i := 0) rfl) ?_
  rintro v4 s4 ⟨_, _, rfl, hm4⟩
  simp only [show [true].set 0 false = [false] from rfl] at hm4
  simp [pf5_2]
  refine Ev.mono (alloc_yes hm4 (i := 0) rfl (by simp)) ?_
  rintro v5 s5 ⟨_, _, rfl, hm5⟩
  have hlen := hm4.len
  simp only [List.length_cons, List.length_nil] at hlen
  simp only [show [false].set 0 true = [true] from rfl, lay_page bs hlen] at hm5
  simp [pf5_1]
  refine Ev.mono (read_in hm5 (i := 0) (a := 0) (n := 64) rfl (by omega)) ?_
  rintro v6 s6 ⟨hx6, d, rfl, hd, _⟩
  have hm6 := hm5.ext hx6
  rw [show (pg0.drop (64 * 0 + 0)).take 64 = pg0 from rfl] at hd
  have z64 : (List.replicate 64 [AV.int .u8 0]).flatten = u8s pg0 := pg0_cells rfl
  have hx7 : Ext s6 (s6.new (.cells (u8s pg0) 0 false)) := by simp
  have hz := page_fresh s6
  have hm7 := hm6.ext hx7
  have k0 := hz.cvbs_at.1
  have k1 := hd.cvbs_at.1
  simp [pf5_0, z64, k0, k1, -List.reduceReplicate, -evI_cvbs, -wpI_cvbs]
  refine Ev.mono (left_ok hm7) ?_
  rintro v8 s8 ⟨rfl, rfl⟩
  simp
end Go.Ab
