/- Names of a list (layer 28) and the requests to the server of names over the abstract machine. -/
import Derived.Test.YtecpmilepjbaeaaK3
namespace Go.Ab
attribute [local simp] S.read S.write

/-- Names as bytes. -/
def flat (ns : List (List UInt8)) : List UInt8 := (ns.map enc).flatten
def Short (ns : List (List UInt8)) : Prop := ∀ n ∈ ns, n.length ≤ 65535

theorem enc_num {n x : List UInt8} (h : n.length ≤ 65535) : num ((enc n ++ x).take 2) = n.length ∧ (enc n ++ x).drop 2 = n ++ x ∧ 2 ≤ (enc n ++ x).length := by
  have e : enc n ++ x = be 2 n.length ++ (n ++ x) := by simp [enc]
  rw [e, List.take_append_of_le_length (by simp), List.take_of_length_le (by simp), List.drop_append_of_le_length (by simp), List.drop_of_length_le (by simp), num_be]
  refine ⟨by simp; omega, by simp, by simp⟩
theorem enc_prefix {n m x y : List UInt8} (hn : n.length ≤ 65535) (hm : m.length ≤ 65535) (h : enc n ++ x = enc m ++ y) : n = m ∧ x = y := by
  have h1 := enc_num (x := x) hn
  have h2 := enc_num (x := y) hm
  rw [h] at h1
  have hl : n.length = m.length := by rw [← h1.1, h2.1]
  have h3 : n ++ x = m ++ y := by rw [← h1.2.1, h2.2.1]
  exact List.append_inj h3 hl
theorem flat_cons (n : List UInt8) (ns : List (List UInt8)) : flat (n :: ns) = enc n ++ flat ns := by simp [flat]
theorem flat_append (a b : List (List UInt8)) : flat (a ++ b) = flat a ++ flat b := by simp [flat]
theorem enc_length (n : List UInt8) : (enc n).length = n.length + 2 := by simp [enc]; omega
theorem flat_prefix : ∀ {ns ms : List (List UInt8)} {x : List UInt8}, Short ns → Short ms → flat ns ++ x = flat ms → ∃ ms', ms = ns ++ ms' ∧ x = flat ms'
  | [], ms, x, _, _, h => ⟨ms, rfl, by simpa [flat] using h⟩
  | n :: ns, ms, x, hn, hm, h => by
    cases ms with
    | nil =>
      have := congrArg List.length h
      simp [flat_cons, enc_length, flat] at this
    | cons m ms =>
      rw [flat_cons, flat_cons, List.append_assoc] at h
      obtain ⟨rfl, h2⟩ := enc_prefix (hn n (by simp)) (hm m (by simp)) h
      obtain ⟨ms', rfl, h3⟩ := flat_prefix (fun q hq => hn q (by simp [hq])) (fun q hq => hm q (by simp [hq])) h2
      exact ⟨ms', rfl, h3⟩
theorem flat_inj {ns ms : List (List UInt8)} (hn : Short ns) (hm : Short ms) (h : flat ns = flat ms) : ns = ms := by
  obtain ⟨ms', rfl, h2⟩ := flat_prefix (x := []) hn hm (by simpa using h)
  cases ms' with
  | nil => simp
  | cons m ms =>
    have := congrArg List.length h2
    simp [flat_cons, enc_length] at this
    omega
theorem flat_count (ns : List (List UInt8)) : 2 * ns.length ≤ (flat ns).length := by
  induction ns with
  | nil => simp [flat]
  | cons n ns ih => rw [flat_cons]; simp [enc_length]; omega

set_option maxRecDepth 10000 in
theorem names_ok {b : AV} {l : List UInt8} (s : S) (hb : Bytes s b l) (hl : l.length ≤ 1099511627776) : Ev tab 44 [b] s fun v s' => Ext s s' ∧
    ((∃ ns w, l = flat ns ∧ Short ns ∧ v = .tuple [w, .bool true] ∧ OwnL 1 s.ctr s' w ns.length (ns.map .str)) ∨ ((∀ ns, Short ns → l ≠ flat ns) ∧ v = .tuple [.snil, .bool false])) := by
  refine Ev.intro rfl rfl rfl ?_
  simp [pf44, pf44_12, pf44_11, pf44_10, pf44_9]
  refine WpC.loop (fun m r' s' => ∃ (a : Nat) (ns : List (List UInt8)) (w : AV), a ≤ l.length ∧ m = l.length - a ∧ l = flat ns ++ l.drop a ∧ (flat ns).length = a ∧ Short ns ∧ r' 0 = b ∧ r' 5 = .int .i64 a ∧ r' 4 = w ∧ OwnL 1 s.ctr s' w ns.length (ns.map .str) ∧ Keep s.ctr s s') (m := l.length) ?_ ?_
  · exact ⟨0, [], .snil, by omega, rfl, by simp [flat], by simp [flat], by simp [Short], by simp, by simp, by simp, OwnL.nil _ _ _, Keep.refl _ _⟩
  rintro m r' s' ⟨a, ns, w, ha, rfl, hla, hfa, hsh, e0, e5, e4, hw, hk⟩
  have hb' := hb.ext hk.ext
  have wl := hb'.wlen
  by_cases hlt : a < l.length
  · have hlt' : (a : Int) < l.length := by omega
    simp [pf44_8, pf44_7, e5, e0, wl, hlt', pf44_6]
    obtain ⟨q, hq⟩ : ∃ q, q = num ((l.drop a).take 2) := ⟨_, rfl⟩
    by_cases hok : a + 2 + q ≤ l.length
    · obtain ⟨B, hB⟩ : ∃ B, B = a + 2 + q := ⟨_, rfl⟩
      refine Ev.mono (getBytes_ok hb' (by omega) hq.symm hB (by omega)) ?_
      rintro v s1 ⟨hx1, d, rfl, hd⟩
      have kd := hd.bytes.cvbs_at.1
      obtain ⟨x, hx⟩ : ∃ x, x = (l.drop (a + 2)).take q := ⟨_, rfl⟩
      rw [← hx] at kd
      have hc1 := hx1.ctr
      have hkc := hk.ctr
      have hxl : x.length = q := by rw [hx]; simp; omega
      simp [pf44_5, pf44_4, pf44_2, e4, kd, -evI_cvbs, -wpI_cvbs]
      have hcount := flat_count ns
      refine cont_app_ownL (m := 1) (ds := [.str x]) (hw.ext (hx1.trans (by simp))) rfl ?_ rfl rfl ?_ (by omega) (by omega) ?_ ?_ ?_
      · simp [S.cellsOf]
      · simp
      · omega
      · simp; omega
      intro w3 s3 hw3 hk3
      simp [pf44_1]
      refine ⟨l.length - B, by omega, B, by omega, rfl, ns ++ [x], ?_, ?_, ?_, by simp [e0], rfl, ?_, ?_⟩
      · rw [flat_append, show flat [x] = enc x by simp [flat], List.append_assoc]
        have h2 : l.drop a = enc x ++ l.drop B := by
          have h3 : (l.drop a).take 2 = be 2 q := by
            have := be_num ((l.drop a).take 2)
            rw [← hq] at this
            rw [← this]
            congr 1
            simp; omega
          have h4 : l.drop a = (l.drop a).take 2 ++ (l.drop a).drop 2 := (List.take_append_drop 2 _).symm
          rw [h4, h3, enc, hxl, List.drop_drop, List.append_assoc]
          congr 1
          rw [hx, show l.drop B = (l.drop (a + 2)).drop q by rw [List.drop_drop, hB], List.take_append_drop]
        rw [← h2]
        exact hla
      · rw [flat_append, show flat [x] = enc x by simp [flat], List.length_append, enc_length, hfa, hxl, hB]; omega
      · intro n hn
        rcases List.mem_append.1 hn with hn | hn
        · exact hsh n hn
        · have : n = x := by simpa using hn
          subst this
          rw [hxl, hq]
          have := num_lt ((l.drop a).take 2)
          have h6 : ((l.drop a).take 2).length = 2 := by simp; omega
          rw [h6] at this
          omega
      · simpa using hw3
      · exact (hk.trans (Ext.keep (hx1.trans (by simp)) hkc)).trans hk3
    · refine Ev.mono (getBytes_no hb' (by omega) (by omega) (by omega)) ?_
      rintro v s1 ⟨rfl, rfl⟩
      simp [pf44_5, pf44_4, pf44_3]
      refine ⟨hk.ext, ?_⟩
      intro ms hms hlm
      rw [hlm] at hla
      obtain ⟨ms', rfl, h3⟩ := flat_prefix hsh hms hla.symm
      cases ms' with
      | nil =>
        have := congrArg List.length h3
        simp [flat] at this
        have h5 := congrArg List.length hlm
        simp [hfa] at h5
        rw [hlm] at hlt
        simp [hfa] at hlt
      | cons m ms =>
        have hm := hms m (by simp)
        have hld : l.drop a = enc m ++ flat ms := by rw [hlm, ← hfa, flat_append, List.drop_left, flat_cons]
        have h4 := enc_num (x := flat ms) hm
        rw [← hld] at h4
        have h5 := congrArg List.length hld
        simp [enc_length] at h5
        rw [h4.1] at hq
        omega
  obtain rfl : a = l.length := by omega
  have hlt' : ¬ (l.length : Int) < l.length := by omega
  simp [pf44_8, pf44_7, e5, e0, wl, pf44_0, e4]
  refine ⟨hk.ext, ns, ?_, hsh, hw⟩
  simpa using hla

theorem makeDirectory_ok (p o r k : Int) (s : S) : Ev tab 38 [.agg [.int .u64 p, .int .u32 o, .int .u8 r, .int .u64 k]] s fun v s' => Ext s s' ∧ Req s.ctr s' v p o r k 100 0 [] := by
  refine Ev.intro rfl rfl rfl ?_
  simp [pf38, pf38_1, pf38_0, Nat.add_assoc]
  refine Ev.mono (ask_ok p o r k 100 0 .snil [] _ (Bytes.nil _) (by simp)) ?_
  rintro v s2 ⟨hx, d, rfl, hb, hd⟩
  have hx0 : Ext s s2 := Ext.trans (by simp (maxDischargeDepth := 30)) hx
  have fb := hb.flat
  have hg := hx.get
  simp only [S.ctr_new] at hd
  simp (maxDischargeDepth := 30) [Nat.add_assoc, hg, fb, hx0, Req, hb.set hd]
  exact since_le (by omega) hd

theorem listReq_ok (p o r k : Int) (s : S) : Ev tab 43 [.agg [.int .u64 p, .int .u32 o, .int .u8 r, .int .u64 k]] s fun v s' => Ext s s' ∧ Req s.ctr s' v p o r k 105 0 [] := by
  refine Ev.intro rfl rfl rfl ?_
  simp [pf43, pf43_1, pf43_0, Nat.add_assoc]
  refine Ev.mono (ask_ok p o r k 105 0 .snil [] _ (Bytes.nil _) (by simp)) ?_
  rintro v s2 ⟨hx, d, rfl, hb, hd⟩
  have hx0 : Ext s s2 := Ext.trans (by simp (maxDischargeDepth := 30)) hx
  have fb := hb.flat
  have hg := hx.get
  simp only [S.ctr_new] at hd
  simp (maxDischargeDepth := 30) [Nat.add_assoc, hg, fb, hx0, Req, hb.set hd]
  exact since_le (by omega) hd

theorem lookupReq_ok (p o r k : Int) (n : List UInt8) (hn : n.length < 9223372036854775807) (s : S) : Ev tab 39 [.agg [.int .u64 p, .int .u32 o, .int .u8 r, .int .u64 k], .str n] s fun v s' => Ext s s' ∧ Req s.ctr s' v p o r k 101 0 (encM n) := by
  refine Ev.intro rfl rfl rfl ?_
  simp [pf39, pf39_1, pf39_0, Nat.add_assoc]
  refine Ev.mono (named_ok p o r k 101 0 n hn .snil [] _ (Bytes.nil _) (by simp)) ?_
  rintro v s2 ⟨hx, d, rfl, hb, hd⟩
  have hx0 : Ext s s2 := Ext.trans (by simp (maxDischargeDepth := 30)) hx
  have fb := hb.flat
  have hg := hx.get
  simp only [S.ctr_new] at hd
  rw [List.append_nil] at hb
  simp (maxDischargeDepth := 30) [Nat.add_assoc, hg, fb, hx0, Req, hb.set hd]
  exact since_le (by omega) hd

theorem deleteReq_ok (p o r k : Int) (n : List UInt8) (hn : n.length < 9223372036854775807) (s : S) : Ev tab 42 [.agg [.int .u64 p, .int .u32 o, .int .u8 r, .int .u64 k], .str n] s fun v s' => Ext s s' ∧ Req s.ctr s' v p o r k 104 0 (encM n) := by
  refine Ev.intro rfl rfl rfl ?_
  simp [pf42, pf42_1, pf42_0, Nat.add_assoc]
  refine Ev.mono (named_ok p o r k 104 0 n hn .snil [] _ (Bytes.nil _) (by simp)) ?_
  rintro v s2 ⟨hx, d, rfl, hb, hd⟩
  have hx0 : Ext s s2 := Ext.trans (by simp (maxDischargeDepth := 30)) hx
  have fb := hb.flat
  have hg := hx.get
  simp only [S.ctr_new] at hd
  rw [List.append_nil] at hb
  simp (maxDischargeDepth := 30) [Nat.add_assoc, hg, fb, hx0, Req, hb.set hd]
  exact since_le (by omega) hd

theorem capBytes_length (p o r k : Int) : (capBytes p o r k).length ≤ 16 := by
  unfold capBytes; split <;> simp

theorem enter_ok (p o r k : Int) (n : List UInt8) (hn : n.length < 9223372036854775807) (p2 o2 r2 k2 : Nat) (hp : p2 < 18446744073709551616) (ho : o2 < 4294967296) (hr : r2 < 256) (m : Int) (hm : 0 ≤ m ∧ m < 256) (s : S) :
    Ev tab 40 [.agg [.int .u64 p, .int .u32 o, .int .u8 r, .int .u64 k], .str n, .agg [.int .u64 p2, .int .u32 o2, .int .u8 r2, .int .u64 k2], .int .u8 m] s fun v s' => Ext s s' ∧ Req s.ctr s' v p o r k 102 m (encM n ++ capBytes p2 o2 r2 k2) := by
  refine Ev.intro rfl rfl rfl ?_
  have hw : IntKind.u64.wrap m = m := wrap_u64 (by omega) (by omega)
  simp [pf40, pf40_1, pf40_0, Nat.add_assoc, hw]
  refine Ev.mono (encode_ok p2 o2 r2 k2 hp ho hr _) ?_
  rintro v s1 ⟨hx1, hw1⟩
  have hg1 := hx1.get
  have := capBytes_length p2 o2 r2 k2
  simp (maxDischargeDepth := 30) [Nat.add_assoc, hg1]
  refine Ev.mono (named_ok p o r k 102 m n hn v _ _ hw1.bytes (by omega)) ?_
  rintro v s2 ⟨hx2, d, rfl, hb, hd⟩
  have hx := hx1.trans hx2
  have hx0 : Ext s s2 := Ext.trans (by simp (maxDischargeDepth := 30)) hx
  have fb := hb.flat
  have hc := hx1.ctr
  simp only [ctr_new_s] at hc
  have hg := hx.get
  have hd3 := since_le hc hd
  simp (maxDischargeDepth := 30) [Nat.add_assoc, hg, fb, hx0, Req, hb.set hd3]
  exact since_le (by omega) hd3

theorem replace_ok (p o r k : Int) (n : List UInt8) (hn : n.length < 9223372036854775807) (p2 o2 r2 k2 : Nat) (hp : p2 < 18446744073709551616) (ho : o2 < 4294967296) (hr : r2 < 256) (m : Int) (hm : 0 ≤ m ∧ m < 256) (s : S) :
    Ev tab 41 [.agg [.int .u64 p, .int .u32 o, .int .u8 r, .int .u64 k], .str n, .agg [.int .u64 p2, .int .u32 o2, .int .u8 r2, .int .u64 k2], .int .u8 m] s fun v s' => Ext s s' ∧ Req s.ctr s' v p o r k 103 m (encM n ++ capBytes p2 o2 r2 k2) := by
  refine Ev.intro rfl rfl rfl ?_
  have hw : IntKind.u64.wrap m = m := wrap_u64 (by omega) (by omega)
  simp [pf41, pf41_1, pf41_0, Nat.add_assoc, hw]
  refine Ev.mono (encode_ok p2 o2 r2 k2 hp ho hr _) ?_
  rintro v s1 ⟨hx1, hw1⟩
  have hg1 := hx1.get
  have := capBytes_length p2 o2 r2 k2
  simp (maxDischargeDepth := 30) [Nat.add_assoc, hg1]
  refine Ev.mono (named_ok p o r k 103 m n hn v _ _ hw1.bytes (by omega)) ?_
  rintro v s2 ⟨hx2, d, rfl, hb, hd⟩
  have hx := hx1.trans hx2
  have hx0 : Ext s s2 := Ext.trans (by simp (maxDischargeDepth := 30)) hx
  have fb := hb.flat
  have hc := hx1.ctr
  simp only [ctr_new_s] at hc
  have hg := hx.get
  have hd3 := since_le hc hd
  simp (maxDischargeDepth := 30) [Nat.add_assoc, hg, fb, hx0, Req, hb.set hd3]
  exact since_le (by omega) hd3
end Go.Ab
