/- 'StubResult' over the abstract machine. -/
import Derived.Test.YtecpmilepjbaeaaDoorD4
namespace Go.Ab
attribute [local simp] S.read S.write

theorem ev_awake28 {s : S} {Q : AV → S → Prop} (h : Q (.bool true) s) : Ev tab 10 [] s Q := Ev.prim (p := closedPrim [] (.bool true)) rfl rfl h

/-- What comes behind the reply. -/
theorem resultRest_ok {b : AV} {l : List UInt8} (hl : l.length ≤ 1099511627776) (a : Nat) (ha : a < 18446744073709551616) {s1 : S} (hb : Bytes s1 b l) {R : Regs} (e1 : R 1 = b) (e2 : R 2 = .int .u64 a) {K : KP}
    (hK : ∀ R' s', R' 6 = .bool true → K .ret R' s') : WpC tab pf4_11 R s1 (seqK tab (.seq pf4_10 pf4_9) K) := by
  simp [pf4_11, e2]
  refine Ev.mono (epoch_ok a ha s1) ?_
  rintro v s2 ⟨rfl, rfl⟩
  simp [pf4_10, e1]
  refine Ev.mono (names_ok s2 hb hl) ?_
  rintro v s3 ⟨hx, hv⟩
  have hb3 := hb.ext hx
  have k1 := hb3.cvbs_at.1
  have wd : IntKind.u64.wrap ((a : Int) / 4294967296) = ((a / 4294967296 : Nat) : Int) := by rw [wrap_u64] <;> omega
  have wm : IntKind.u64.wrap ((a : Int) % 4294967296) = ((a % 4294967296 : Nat) : Int) := by rw [wrap_u64] <;> omega
  have td : (a : Int).tdiv 4294967296 = ((a / 4294967296 : Nat) : Int) := by rw [Int.tdiv_eq_ediv_of_nonneg (by omega)]; omega
  have tm : (a : Int).tmod 4294967296 = ((a % 4294967296 : Nat) : Int) := by rw [Int.tmod_eq_emod_of_nonneg (by omega)]; omega
  rcases hv with ⟨ns, w, hlf, hsh, rfl, hw⟩ | ⟨hno, rfl⟩
  · have wl := hw.wlen
    have hcount := flat_count ns
    rw [← hlf] at hcount
    simp [pf4_9, pf4_8, pf4_7, wl]
    refine WpC.loop (fun m r' s' => ∃ (i : Nat) (q : AV), i ≤ ns.length ∧ m = ns.length - i ∧ r' 88 = .int .i64 i ∧ r' 87 = .int .i64 ns.length ∧ r' 86 = w ∧ r' 13 = q ∧ r' 11 = w ∧ r' 12 = .bool true ∧ r' 1 = b ∧ r' 2 = .int .u64 a ∧ r' 9 = .int .i64 ((a / 4294967296 : Nat) : Int) ∧ r' 10 = .int .i64 ((a % 4294967296 : Nat) : Int) ∧ Own s3.ctr s' q (flat (ns.take i)) ∧ Keep s3.ctr s3 s') (m := ns.length) ?_ ?_
    · exact ⟨0, .snil, by omega, rfl, by simp, by simp, by simp, by simp, by simp, by simp, by simp [e1], by simp [e2], by simp, by simp, by simpa [flat] using Own.nil _ _, Keep.refl _ _⟩
    rintro m r' s' ⟨i, q, hi, rfl, e88, e87, e86, e13, e11, e12, e1, e2, e9, e10, hq, hk⟩
    have hx3 := hk.ext
    by_cases hlt : i < ns.length
    · have hlt' : (i : Int) < ns.length := by omega
      have w1 : IntKind.i64.wrap ((i : Int) + 1) = ((i + 1 : Nat) : Int) := by rw [wrap_i64] <;> omega
      obtain ⟨n, hn⟩ : ∃ n, ns[i]? = some n := ⟨_, List.getElem?_eq_getElem hlt⟩
      have hn2 := hsh n (List.mem_of_getElem? hn)
      obtain ⟨B, rfl, hrd⟩ := (hw.ext hx3).elem hlt
      have hdr : ((ns.map AV.str).drop (i * 1)).take 1 = [.str n] := by
        rw [Nat.mul_one]
        apply List.ext_getElem?
        intro j
        rw [List.getElem?_take]
        cases j with
        | zero => simp [hn]
        | succ j => simp
      rw [hdr, Nat.zero_add, Nat.mul_one] at hrd
      have hn3 : n.length < 9223372036854775807 := by omega
      have hx4 : Ext s' (s'.new (.cells (u8s n) 1 false)) := by simp
      have hbn : Bytes (s'.new (.cells (u8s n) 1 false)) (.slice s'.ctr 0 n.length 0 true) n := Bytes.made (n := 1) (by simp) (by simp) 0 true
      simp [pf4_6, e88, e87, hlt, pf4_5, pf4_3, e86, -S.read, hrd, pf4_2, hn3]
      refine Ev.mono (putBytes_ok (l := []) (Bytes.nil _) hbn hn2 (by simp)) ?_
      rintro v s4 ⟨hx5, z, rfl, hz⟩
      have hx6 : Ext s' s4 := hx4.trans hx5
      have hkc := hk.ctr
      have hc6 := hx6.ctr
      simp [pf4_1, e13]
      have htl : (flat (ns.take i)).length ≤ l.length := by
        rw [hlf]
        conv => rhs; rw [← List.take_append_drop i ns, flat_append]
        simp
      refine cont_app_own (n := s3.ctr) (hq.ext hx6) hz.bytes (by omega) (by simp; omega) ?_
      intro q2 s5 hq2 hk5
      simp [pf4_4, e88, w1]
      refine ⟨ns.length - (i + 1), by omega, i + 1, by omega, rfl, by simp, by simp [e87], by simp [e86], by simp [e11], by simp [e12], by simp [e1], by simp [e2], by simp [e9], by simp [e10], ?_, ?_⟩
      · rw [List.take_add_one, hn, flat_append]
        simpa [flat, enc] using hq2
      · exact (hk.trans (hx6.keep hkc)).trans hk5
    obtain rfl : i = ns.length := by omega
    rw [List.take_length, ← hlf] at hq
    have kq := hq.bytes.cvbs_at.1
    have kb := (hb3.ext hx3).cvbs_at.1
    simp [pf4_6, e88, e87, pf4_5, pf4_0, e9, e10, e2, e12, e13, e1, wd, wm, td, tm, kq, kb, -evI_cvbs, -wpI_cvbs]
    exact hK _ _ (by simp)
  · simp [pf4_9, pf4_8, pf4_7]
    refine WpC.loop (fun m r' s' => r' 88 = .int .i64 0 ∧ r' 87 = .int .i64 0 ∧ r' 11 = .snil ∧ r' 12 = .bool false ∧ r' 2 = .int .u64 a ∧ r' 9 = .int .i64 ((a / 4294967296 : Nat) : Int) ∧ r' 10 = .int .i64 ((a % 4294967296 : Nat) : Int)) (m := 0) ?_ ?_
    · exact ⟨by simp, by simp, by simp, by simp, by simp [e2], by simp, by simp⟩
    rintro m r' s' ⟨e88, e87, e11, e12, e2, e9, e10⟩
    simp [pf4_6, e88, e87, pf4_5, pf4_0, e9, e10, e2, e12, e11, wd, wm, td, tm]
    exact hK _ _ (by simp)

theorem stubResult_ok (m : Ms) (hf : m.fit) (d b : AV) (l : List UInt8) (a : Nat) (ha : a < 18446744073709551616) (s : S) (hd : Bytes s d m.data) (hb : Bytes s b l) (hl : l.length ≤ 1099511627776) : Ev tab 4 [.agg (m.cells d), b, .int .u64 a] s fun v s' => v = .bool true := by
  refine Ev.intro rfl rfl rfl ?_
  have hc := hd.cells1
  have fl := hd.flat
  have hst := hf.2.2.2.2.1
  simp (maxDischargeDepth := 30) [pf4, pf4_23, pf4_22, pf4_21, Ms.cells, hc, fl]
  refine ev_awake28 ?_
  simp (maxDischargeDepth := 30) [pf4_19]
  have hx0 : Ext s (s.new (.cells (m.cells d) 0 false)) := by simp
  have hb0 := hb.ext hx0
  have hd0 := hd.ext hx0
  by_cases h0 : m.st = 0
  · refine Ev.mono (result_ok m hf h0 d _ hd0) ?_
    rintro v s1 ⟨hx1, w, rfl, hw⟩
    have hb1 := hb0.ext hx1
    have hd1 := hd0.ext hx1
    have hg := hx1.get
    have hlt := hx1.ctr
    simp only [ctr_new_s] at hlt
    have hne : ¬ s.ctr = s1.ctr := by omega
    have flw := hw.flat
    have hcw := hw.bytes.cells1
    have k1 := hw.bytes.cvbs_all.1
    have k2 := hd1.cvbs_all.1
    simp (maxDischargeDepth := 30) [pf4_18, pf4_17, pf4_16, hg, h0, hne, Ms.cells, hc, fl, flw, hcw, pf4_13, k1, k2, -evI_cvbs, -wpI_cvbs]
    exact resultRest_ok hl a ha (hb1.ext (by simp)) (by simp) (by simp) (fun R' s' h6 => by simp [FinP, resA, h6])
  · refine Ev.mono (result_err m hf h0 d _ hd0) ?_
    rintro v s1 ⟨hx1, rfl⟩
    have hb1 := hb0.ext hx1
    have hg := hx1.get
    have hlt := hx1.ctr
    simp only [ctr_new_s] at hlt
    have hne : ¬ s.ctr = s1.ctr := by omega
    have w1 : IntKind.i64.wrap (m.st : Int) = m.st := wrap_i64 (by omega) (by omega)
    simp (maxDischargeDepth := 30) [pf4_18, pf4_17, pf4_16, hg, h0, hne, Ms.cells, hc, fl, pf4_15, w1]
    refine ev_num ?_
    simp (maxDischargeDepth := 30) [hg, hne, Ms.cells, hc, fl]
    exact resultRest_ok hl a ha (hb1.ext (by simp)) (by simp) (by simp) (fun R' s' h6 => by simp [FinP, resA, h6])
end Go.Ab
