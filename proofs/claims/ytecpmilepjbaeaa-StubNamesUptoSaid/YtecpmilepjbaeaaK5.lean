/- 'StubNames' over the abstract machine. -/
import Derived.Test.YtecpmilepjbaeaaK4
namespace Go.Ab
attribute [local simp] S.read S.write

/-- Strings, as they are read. -/
def StrsAt (s : S) (v : AV) (ns : List (List UInt8)) : Prop := lenV v = some ns.length ∧ (v = .snil ∨ (∃ a, v = .zsl a) ∨ ∃ A cap, v = .slice A 0 ns.length cap false ∧ A < s.ctr ∧ ∀ i n, ns[i]? = some n → s.read A (0 + i * 1) 1 = some [.str n])

theorem StrsAt.wlen {s : S} {v : AV} {ns : List (List UInt8)} (hb : StrsAt s v ns) : ∀ (T : Tab) (r : Regs) (s' : S) (x : Opd) (Q : AV → S → Prop), x.ev r = v → WpI T (.len false x) r s' Q = Q (.int .i64 ns.length) s' := by
  intro T r s' x Q hx
  have h := hb.1
  rcases hb.2 with rfl | ⟨za, rfl⟩ | ⟨b, c, rfl, _⟩ <;> simp only [lenV, Option.some.injEq] at h <;> first | (simp [hx, ← h]; done) | (simp [hx]; done)
theorem StrsAt.elem {s s' : S} {v : AV} {ns : List (List UInt8)} (hb : StrsAt s v ns) (hx : Ext s s') {i : Nat} {n : List UInt8} (hi : ns[i]? = some n) : ∃ A cap, v = .slice A 0 ns.length cap false ∧ s'.read A i 1 = some [.str n] := by
  have hil := (List.getElem?_eq_some_iff.1 hi).1
  have h := hb.1
  rcases hb.2 with rfl | ⟨za, rfl⟩ | ⟨A, c, rfl, hA, hr⟩
  · simp [lenV] at h; omega
  · simp [lenV] at h; omega
  · refine ⟨A, c, rfl, ?_⟩
    have := hr i n hi
    rw [read_ext hx hA]
    simpa using this

set_option maxRecDepth 20000 in
/-- The requests to the server of names. -/
theorem namesReqs_ok (p o r k : Int) (n : List UInt8) (hn : n.length ≤ 1048576) (p2 o2 r2 k2 : Nat) (hp : p2 < 18446744073709551616) (ho : o2 < 4294967296) (hr : r2 < 256) (m : Int) (hm : 0 ≤ m ∧ m < 256) (t : S) (c5 c7 : Nat) (h5 : t.get c5 = some (.cells [.int .u64 p, .int .u32 o, .int .u8 r, .int .u64 k] 0 false)) (h7 : t.get c7 = some (.cells [.int .u64 p2, .int .u32 o2, .int .u8 r2, .int .u64 k2] 0 false)) (hc : c5 < t.ctr ∧ c7 < t.ctr)
    (R : Regs) (e1 : R 1 = .str n) (e3 : R 3 = .int .u8 m) (e5 : R 5 = .ptr c5 0) (e7 : R 7 = .ptr c7 0) (e13 : R 13 = .str (encM n)) (e14 : R 14 = .str (encM n ++ capBytes p2 o2 r2 k2)) (K : KP)
    (hK : ∀ R' t', Ext t t' → R' 4 = R 4 → R' 93 = .bool false → K .normal R' t') : WpC tab pf9_26 R t K := by
  have hwm : IntKind.u64.wrap m = m := wrap_u64 (by omega) (by omega)
  have hn1 : n.length < 9223372036854775807 := by omega
  have hn2 : (encM n).length < 9223372036854775807 := by have := encM_length n; omega
  have hn3 : (encM n ++ capBytes p2 o2 r2 k2).length < 9223372036854775807 := by have := encM_length n; have := capBytes_length p2 o2 r2 k2; simp; omega
  have rd : ∀ t', Ext t t' → t'.get c5 = some (.cells [.int .u64 p, .int .u32 o, .int .u8 r, .int .u64 k] 0 false) ∧ t'.get c7 = some (.cells [.int .u64 p2, .int .u32 o2, .int .u8 r2, .int .u64 k2] 0 false) :=
    fun t' hx => ⟨by rw [hx.get _ hc.1, h5], by rw [hx.get _ hc.2, h7]⟩
  simp [pf9_26, e5, h5]
  refine Ev.mono (makeDirectory_ok p o r k _) ?_
  rintro v1 t1 ⟨x1, hq⟩
  obtain ⟨g5, g7⟩ := rd _ x1
  simp [g5, e5]
  refine Ev.mono (asks_ok p o r k 100 0 100 0 [] [] (by simp) _ hq) ?_
  clear hq
  rintro v t2 ⟨x, rfl⟩
  have x2 := x1.trans x
  obtain ⟨g5, g7⟩ := rd _ x2
  simp [g5, e5, e1]
  refine Ev.mono (lookupReq_ok p o r k n hn1 _) ?_
  rintro v3 t3 ⟨x, hq⟩
  have x3 := x2.trans x
  obtain ⟨g5, g7⟩ := rd _ x3
  simp [g5, e5, e13]
  refine Ev.mono (asks_ok p o r k 101 0 101 0 _ _ hn2 _ hq) ?_
  clear hq
  rintro v t4 ⟨x, rfl⟩
  have x4 := x3.trans x
  obtain ⟨g5, g7⟩ := rd _ x4
  simp [g5, g7, e5, e7, e1, e3, hwm, e14]
  refine Ev.mono (enter_ok p o r k n hn1 p2 o2 r2 k2 hp ho hr m hm _) ?_
  rintro v5 t5 ⟨x, hq⟩
  have x5 := x4.trans x
  obtain ⟨g5, g7⟩ := rd _ x5
  simp [g5, e5, -List.length_append]
  refine Ev.mono (asks_ok p o r k 102 m 102 m _ _ hn3 _ hq) ?_
  clear hq
  rintro v t6 ⟨x, rfl⟩
  have x6 := x5.trans x
  obtain ⟨g5, g7⟩ := rd _ x6
  simp [g5, g7, e5, e7, e1, e3, hwm, e14]
  refine Ev.mono (replace_ok p o r k n hn1 p2 o2 r2 k2 hp ho hr m hm _) ?_
  rintro v7 t7 ⟨x, hq⟩
  have x7 := x6.trans x
  obtain ⟨g5, g7⟩ := rd _ x7
  simp [g5, e5, -List.length_append]
  refine Ev.mono (asks_ok p o r k 103 m 103 m _ _ hn3 _ hq) ?_
  clear hq
  rintro v t8 ⟨x, rfl⟩
  have x8 := x7.trans x
  obtain ⟨g5, g7⟩ := rd _ x8
  simp [g5, e5, e1, e13]
  refine Ev.mono (deleteReq_ok p o r k n hn1 _) ?_
  rintro v9 t9 ⟨x, hq⟩
  have x9 := x8.trans x
  obtain ⟨g5, g7⟩ := rd _ x9
  simp [g5, e5]
  refine Ev.mono (asks_ok p o r k 104 0 104 0 _ _ hn2 _ hq) ?_
  clear hq
  rintro v t10 ⟨x, rfl⟩
  have x10 := x9.trans x
  obtain ⟨g5, g7⟩ := rd _ x10
  simp [g5, e5]
  refine Ev.mono (listReq_ok p o r k _) ?_
  rintro v11 t11 ⟨x, hq⟩
  have x11 := x10.trans x
  obtain ⟨g5, g7⟩ := rd _ x11
  simp [g5, e5]
  refine Ev.mono (asks_ok p o r k 105 0 105 0 [] [] (by simp) _ hq) ?_
  clear hq
  rintro v t12 ⟨x, rfl⟩
  have x12 := x11.trans x
  simp
  refine hK _ _ x12 ?_ ?_ <;> simp

theorem flat_take_le (ns : List (List UInt8)) (i : Nat) : (flat (ns.take i)).length ≤ (flat ns).length := by
  conv => rhs; rw [← List.take_append_drop i ns, flat_append]
  simp

set_option maxRecDepth 20000 in
theorem stubNames_ok (p o r k : Int) (n : List UInt8) (hn : n.length ≤ 1048576) (p2 o2 r2 k2 : Nat) (hp : p2 < 18446744073709551616) (ho : o2 < 4294967296) (hr : r2 < 256) (m : Int) (hm : 0 ≤ m ∧ m < 256) (s : S) (nv : AV) (ns : List (List UInt8)) (hns : StrsAt s nv ns) (hfl : (flat ns).length ≤ 4194304) (hl : ∀ x ∈ ns, x.length ≤ 1048576) :
    Ev tab 9 [.agg [.int .u64 p, .int .u32 o, .int .u8 r, .int .u64 k], .str n, .agg [.int .u64 p2, .int .u32 o2, .int .u8 r2, .int .u64 k2], .int .u8 m, nv] s fun v s' => v = .bool true := by
  refine Ev.intro rfl rfl rfl ?_
  have hn1 : n.length < 9223372036854775807 := by omega
  have hcnt := flat_count ns
  obtain ⟨s1, hs1⟩ : ∃ s1, s1 = (s.new (.cells [.int .u64 p, .int .u32 o, .int .u8 r, .int .u64 k] 0 false)).new (.cells [.int .u64 p2, .int .u32 o2, .int .u8 r2, .int .u64 k2] 0 false) := ⟨_, rfl⟩
  have y1 : Ext s s1 := by rw [hs1]; simp (maxDischargeDepth := 30)
  have c1 : s1.ctr = s.ctr + 2 := by rw [hs1]; simp [Nat.add_assoc]
  have h5 : s1.get s.ctr = some (.cells [.int .u64 p, .int .u32 o, .int .u8 r, .int .u64 k] 0 false) := by rw [hs1]; simp
  have h7 : s1.get (s.ctr + 1) = some (.cells [.int .u64 p2, .int .u32 o2, .int .u8 r2, .int .u64 k2] 0 false) := by rw [hs1]; simp
  simp [pf9, pf9_35, pf9_34, pf9_33, ← hs1]
  refine ev_awake28 ?_
  simp [pf9_31, hn1]
  have hd : Bytes (s1.new (.cells (n.map fun b => .int .u8 b.toNat) 1 false)) (.slice s1.ctr 0 n.length 0 true) n := Bytes.made (n := 1) (by simp [u8s]) (by simp) 0 true
  refine Ev.mono (putName_ok n _ hd) ?_
  rintro v s2 ⟨x2, w, ok, rfl, hok, hw⟩
  have y2 : Ext s1 s2 := Ext.trans (by simp) x2
  have kw := hw.bytes.cvbs_at.1
  have g7 : s2.get (s.ctr + 1) = some (.cells [.int .u64 p2, .int .u32 o2, .int .u8 r2, .int .u64 k2] 0 false) := by rw [y2.get _ (by omega), h7]
  simp [pf9_30, kw, pf9_29, g7, -evI_cvbs, -wpI_cvbs]
  refine Ev.mono (encode_ok p2 o2 r2 k2 hp ho hr _) ?_
  rintro v s3 ⟨x3, hw3⟩
  have k3 := hw3.bytes.cvbs_at.1
  have hcl : (encM n).length + (capBytes p2 o2 r2 k2).length ≤ 140737488355328 := by have := encM_length n; have := capBytes_length p2 o2 r2 k2; omega
  have y3 := y2.trans x3
  simp [k3, hcl, pf9_28, -evI_cvbs, -wpI_cvbs]
  refine namesReqs_ok p o r k n hn p2 o2 r2 k2 hp ho hr m hm s3 s.ctr (s.ctr + 1) (by rw [y3.get _ (by omega), h5]) (by rw [y3.get _ (by omega), h7]) (by have := y3.ctr; omega) _ ?_ ?_ ?_ ?_ ?_ ?_ _ ?_
  · simp
  · simp
  · simp
  · simp
  · simp
  · simp
  intro R t xt f4 f93
  simp at f4
  have yt := y1.trans (y3.trans xt)
  have wl := hns.wlen
  simp [f93, pf9_27, pf9_24, pf9_23, f4, wl]
  refine WpC.loop (fun j r' s' => ∃ (i : Nat) (w : AV), i ≤ ns.length ∧ j = ns.length - i ∧ r' 4 = nv ∧ r' 94 = nv ∧ r' 95 = .int .i64 ns.length ∧ r' 96 = .int .i64 i ∧ r' 15 = w ∧ Own t.ctr s' w (flat (ns.take i)) ∧ Keep t.ctr t s' ∧ Short (ns.take i)) (m := ns.length) ?_ ?_
  · exact ⟨0, .snil, by omega, rfl, by simp [f4], by simp [f4], by simp, by simp, by simp, Own.nil _ _, Keep.refl _ _, by simp [Short]⟩
  rintro j r' s' ⟨i, w, hi, rfl, e4, e94, e95, e96, e15, hw, hk, hsh⟩
  have ys' := yt.trans hk.ext
  have hfi := flat_take_le ns i
  by_cases hlt : i < ns.length
  · have hget := List.getElem?_eq_getElem hlt
    obtain ⟨x, hx⟩ : ∃ x, x = ns[i] := ⟨_, rfl⟩
    rw [← hx] at hget
    obtain ⟨A, cap, hnv, hrd⟩ := hns.elem ys' hget
    subst hnv
    have hrd' := hrd
    simp only [S.read] at hrd'
    have w1 : IntKind.i64.wrap ((i : Int) + 1) = ((i + 1 : Nat) : Int) := by rw [wrap_i64] <;> omega
    have hxl : x.length ≤ 1048576 := hl x (List.mem_of_getElem? hget)
    have hx1 : x.length < 9223372036854775807 := by omega
    by_cases hbig : x.length ≤ 65535
    · have hb2 : ¬ (65535 : Int) < x.length := by omega
      simp [pf9_22, pf9_21, e95, e96, hlt, pf9_19, e94, hrd, pf9_18, pf9_17, hb2, pf9_15, hx1, -S.read]
      have hd2 : Bytes (s'.new (.cells (x.map fun b => .int .u8 b.toNat) 1 false)) (.slice s'.ctr 0 x.length 0 true) x := Bytes.made (n := 1) (by simp [u8s]) (by simp) 0 true
      refine Ev.mono (putName_ok x _ hd2) ?_
      rintro v s5 ⟨x5, w5, ok5, rfl, hok5, hw5⟩
      have z5 : Ext s' s5 := Ext.trans (by simp) x5
      have he : encM x = enc x := by simp [encM, hbig]
      rw [he] at hw5
      have hft : flat (ns.take (i + 1)) = flat (ns.take i) ++ enc x := by
        rw [List.take_add_one, hget, flat_append]; simp [flat]
      have hfi1 := flat_take_le ns (i + 1)
      rw [hft, List.length_append] at hfi1
      simp [pf9_14, e15, -S.read]
      have hkc := hk.ctr
      refine cont_app_own (hw.ext z5) hw5.bytes (by have := z5.ctr; omega) (by omega) ?_
      intro w6 s6 hw6 hk6
      simp [pf9_20, e96, w1, -S.read]
      refine ⟨ns.length - (i + 1), by omega, i + 1, by omega, rfl, by simp [e4], by simp [e94], by simp [e95], by simp, by rw [hft]; exact hw6, (hk.trans (z5.keep hkc)).trans hk6, ?_⟩
      intro q hq
      rw [List.take_add_one, hget] at hq
      rcases List.mem_append.1 hq with hq | hq
      · exact hsh q hq
      · have : q = x := by simpa using hq
        subst this; exact hbig
    · have hb2 : (65535 : Int) < x.length := by omega
      simp [pf9_22, pf9_21, e95, e96, hlt, pf9_19, e94, hrd, pf9_18, pf9_17, hb2, pf9_16, -S.read]
  obtain rfl : i = ns.length := by omega
  rw [List.take_length] at hw hsh
  simp [pf9_22, pf9_21, e95, e96, pf9_13, e15]
  refine Ev.mono (names_ok s' hw.bytes (by omega)) ?_
  rintro v s7 ⟨x7, hcase⟩
  have ys7 := ys'.trans x7
  rcases hcase with ⟨ms, w7, hfm, hms, rfl, hw7⟩ | ⟨hno, _⟩
  · obtain rfl := flat_inj hsh hms hfm
    have wl7 := hw7.wlen
    simp [pf9_12, pf9_10, e4, wl7, wl, pf9_11, pf9_8]
    refine WpC.loop (fun j r' s' => ∃ i : Nat, i ≤ ns.length ∧ j = ns.length - i ∧ r' 4 = nv ∧ r' 20 = w7 ∧ r' 128 = .int .i64 ns.length ∧ r' 129 = .int .i64 i ∧ s' = s7) (m := ns.length) ?_ ?_
    · exact ⟨0, by omega, rfl, by simp [e4], by simp, by simp, by simp, rfl⟩
    rintro j r3 s8 ⟨i, hi, rfl, e4, e20, e128, e129, rfl⟩
    by_cases hlt : i < ns.length
    · have hget := List.getElem?_eq_getElem hlt
      obtain ⟨x, hx⟩ : ∃ x, x = ns[i] := ⟨_, rfl⟩
      rw [← hx] at hget
      obtain ⟨A, cap, hnv, hrd⟩ := hns.elem ys7 hget
      subst hnv
      have w1 : IntKind.i64.wrap ((i : Int) + 1) = ((i + 1 : Nat) : Int) := by rw [wrap_i64] <;> omega
      obtain ⟨B, hB, hrB⟩ := hw7.elem hlt
      have e2 : ((ns.map AV.str).drop (i * 1)).take 1 = [.str x] := by
        rw [Nat.mul_one, List.drop_eq_getElem_cons (by simpa using hlt)]
        simp [hx]
      rw [e2, Nat.mul_one, Nat.zero_add] at hrB
      subst hB
      simp [pf9_7, pf9_6, e128, e129, hlt, pf9_4, pf9_3, pf9_2, e20, e4, hrd, hrB, pf9_5, w1, -S.read]
      exact ⟨ns.length - (i + 1), by omega, i + 1, by omega, rfl, by simp⟩
    obtain rfl : i = ns.length := by omega
    simp [pf9_7, pf9_6, e128, e129, pf9_0]
  · exact (hno ns hsh rfl).elim
end Go.Ab
