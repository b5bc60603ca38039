/- A message of its bytes (layer 4), a capability of its (layer 3), over the abstract machine. -/
import Derived.Test.YtecpmilepjbaeabHD
namespace Go.Ab
attribute [local simp] S.read S.write
section
variable {s : S} {b : AV} {l : List UInt8}

theorem num_one {l : List UInt8} {i : Nat} {x : UInt8} (h : l[i]? = some x) : num ((l.drop i).take 1) = x.toNat := by
  obtain ⟨hi, he⟩ := List.getElem?_eq_some_iff.1 h
  rw [List.drop_eq_getElem_cons hi, he]
  simp [num]

set_option maxRecDepth 10000 in
theorem decodeCap_ok (hb : Bytes s b l) (hl : l.length = 16) : Ev tab 18 [b] s fun v s' => Ext s s' ∧
    v = .tuple [.agg [.int .u64 (num (l.take 6)), .int .u32 (num ((l.drop 6).take 3)), .int .u8 (num ((l.drop 9).take 1)), .int .u64 (num ((l.drop 10).take 6))], .bool true] := by
  refine Ev.intro rfl rfl rfl ?_
  obtain ⟨s0, hs0⟩ : ∃ s0, s0 = s.new (.cells [.int .u64 0, .int .u32 0, .int .u8 0, .int .u64 0] 0 false) := ⟨_, rfl⟩
  have x0 : Ext s s0 := by rw [hs0]; simp
  have hb0 := hb.ext x0
  have wl := hb0.wlen
  rw [hl] at wl
  have hg0 : s0.get s.ctr = some (.cells [.int .u64 0, .int .u32 0, .int .u8 0, .int .u64 0] 0 false) := by rw [hs0]; simp
  simp [pf18, pf18_8, ← hs0, pf18_7, pf18_5, wl, pf18_6, pf18_3]
  refine Ev.mono (get_ok hb0 (by omega) (a := 0) (n := 6) (by omega) (by omega)) ?_
  rintro v s1 ⟨rfl, rfl⟩
  simp [pf18_2]
  refine Ev.mono (get_ok hb0 (by omega) (a := 6) (n := 3) (by omega) (by omega)) ?_
  rintro v s2 ⟨rfl, rfl⟩
  simp [pf18_1]
  refine Ev.mono (get_ok hb0 (by omega) (a := 10) (n := 6) (by omega) (by omega)) ?_
  rintro v s3 ⟨rfl, rfl⟩
  obtain ⟨x, hx⟩ : ∃ x, l[9]? = some x := ⟨_, List.getElem?_eq_getElem (by omega)⟩
  obtain ⟨bb, o, c, opn, hbe, hrd⟩ := hb0.elem hx
  have h1 := num_one hx
  have h3 : num ((l.drop 6).take 3) < 16777216 := num_take_lt _ 3
  have w : IntKind.u32.wrap (num ((l.drop 6).take 3) : Int) = num ((l.drop 6).take 3) := by simp only [IntKind.wrap, IntKind.signed, IntKind.bits]; simp; omega
  simp only [S.read] at hrd
  subst hbe
  rw [h1]
  simp [pf18_0, w, hl, hrd, hg0, x0]

theorem zero_msg : (⟨0, 0, 0, 0, 0, 0, 0, 0, 0, 0, []⟩ : Ms).cells .snil = [.int .u64 0, .int .u64 0, .int .u32 0, .int .u16 0, .int .u16 0, .int .u64 0, .int .u32 0, .int .u8 0, .int .u64 0, .int .u64 0, .snil] := rfl

/-- Bytes that are a message's. -/
def MsgBytes (l : List UInt8) : Prop := 46 ≤ l.length ∧ l.length = 46 + num ((l.drop 44).take 2) ∧ num ((l.drop 44).take 2) ≤ 4096
instance (l : List UInt8) : Decidable (MsgBytes l) := by unfold MsgBytes; infer_instance

set_option maxRecDepth 10000 in
theorem decode_no (hb : Bytes s b l) (hl : l.length ≤ 140737488355328) (hg : ¬ MsgBytes l) : Ev tab 9 [b] s fun v s' => Ext s s' ∧ v = .tuple [.agg ((⟨0, 0, 0, 0, 0, 0, 0, 0, 0, 0, []⟩ : Ms).cells .snil), .iface 39 (.int .i64 8)] := by
  refine Ev.intro rfl rfl rfl ?_
  obtain ⟨s0, hs0⟩ : ∃ s0, s0 = s.new (.cells [.int .u64 0, .int .u64 0, .int .u32 0, .int .u16 0, .int .u16 0, .int .u64 0, .int .u32 0, .int .u8 0, .int .u64 0, .int .u64 0, .snil] 0 false) := ⟨_, rfl⟩
  have x0 : Ext s s0 := by rw [hs0]; simp
  have c0 : s0.ctr = s.ctr + 1 := by rw [hs0]; rfl
  have hb0 := hb.ext x0
  have wl := hb0.wlen
  have hg0 : s0.get s.ctr = some (.cells [.int .u64 0, .int .u64 0, .int .u32 0, .int .u16 0, .int .u16 0, .int .u64 0, .int .u32 0, .int .u8 0, .int .u64 0, .int .u64 0, .snil] 0 false) := by rw [hs0]; simp
  simp [pf9, pf9_16, ← hs0, pf9_15, pf9_14, wl, zero_msg]
  by_cases h46 : l.length < 46
  · have h46' : (l.length : Int) < 46 := by omega
    simp [h46', pf9_13, hg0, x0]
  have h46' : ¬ (l.length : Int) < 46 := by omega
  simp [h46', pf9_12]
  obtain ⟨q, hq⟩ : ∃ q, q = num ((l.drop 44).take 2) := ⟨_, rfl⟩
  by_cases hok : 46 + q ≤ l.length
  · refine Ev.mono (getBytes_ok hb0 (by omega) (a := 44) (q := q) (B := 46 + q) hq.symm (by omega) hok) ?_
    rintro v s1 ⟨x1, d, rfl, hd⟩
    have wl1 := (hb0.ext x1).wlen
    have wd := hd.bytes.wlen
    have hdl : ((l.drop (44 + 2)).take q).length = q := by simp; omega
    rw [hdl] at wd
    have hg1 : s1.get s.ctr = some (.cells [.int .u64 0, .int .u64 0, .int .u32 0, .int .u16 0, .int .u16 0, .int .u64 0, .int .u32 0, .int .u8 0, .int .u64 0, .int .u64 0, .snil] 0 false) := by rw [x1.get _ (by omega), hg0]
    have y1 := x0.trans x1
    by_cases he : 46 + q = l.length
    · have h4 : (4096 : Int) < q := by
        have : ¬ q ≤ 4096 := fun h => hg ⟨by omega, by omega, by omega⟩
        omega
      have he' : (46 + (q : Int)) = l.length := by omega
      simp [pf9_11, pf9_10, wl1, wd, he', h4, pf9_9, hg1, y1]
    · have he' : ¬ (46 + (q : Int)) = l.length := by omega
      simp [pf9_11, pf9_10, wl1, he', pf9_9, hg1, y1]
  · refine Ev.mono (getBytes_no hb0 (by omega) (a := 44) (by omega) (by omega)) ?_
    rintro v s1 ⟨rfl, rfl⟩
    simp [pf9_11, pf9_10, pf9_9, hg0, x0]

set_option maxRecDepth 20000 in
theorem decode_ok (hb : Bytes s b l) (hl : l.length ≤ 140737488355328) (hg : MsgBytes l) : Ev tab 9 [b] s fun v s' => Ext s s' ∧ ∃ d, v = .tuple [.agg ((Ms.of l).cells d), .nilIface] ∧ Bytes s' d (Ms.of l).data ∧ d.since s.ctr := by
  refine Ev.intro rfl rfl rfl ?_
  obtain ⟨h46, hlq, h4096⟩ := hg
  obtain ⟨q, hq⟩ : ∃ q, q = num ((l.drop 44).take 2) := ⟨_, rfl⟩
  rw [← hq] at hlq h4096
  obtain ⟨s0, hs0⟩ : ∃ s0, s0 = s.new (.cells [.int .u64 0, .int .u64 0, .int .u32 0, .int .u16 0, .int .u16 0, .int .u64 0, .int .u32 0, .int .u8 0, .int .u64 0, .int .u64 0, .snil] 0 false) := ⟨_, rfl⟩
  have x0 : Ext s s0 := by rw [hs0]; simp
  have c0 : s0.ctr = s.ctr + 1 := by rw [hs0]; rfl
  have hb0 := hb.ext x0
  have wl := hb0.wlen
  have hg0 : s0.get s.ctr = some (.cells [.int .u64 0, .int .u64 0, .int .u32 0, .int .u16 0, .int .u16 0, .int .u64 0, .int .u32 0, .int .u8 0, .int .u64 0, .int .u64 0, .snil] 0 false) := by rw [hs0]; simp
  have h46' : ¬ (l.length : Int) < 46 := by omega
  simp [pf9, pf9_16, ← hs0, pf9_15, pf9_14, wl, h46', pf9_12]
  refine Ev.mono (getBytes_ok hb0 (by omega) (a := 44) (q := q) (B := 46 + q) hq.symm (by omega) (by omega)) ?_
  rintro v s1 ⟨x1, d, rfl, hd⟩
  have hdl : (l.drop (44 + 2)).take q = l.drop 46 := by rw [List.take_of_length_le]; simp; omega
  rw [hdl] at hd
  have hb1 := hb0.ext x1
  have wl1 := hb1.wlen
  have wd := hd.bytes.wlen
  have hdl2 : (l.drop 46).length = q := by simp; omega
  rw [hdl2] at wd
  have hg1 : s1.get s.ctr = some (.cells [.int .u64 0, .int .u64 0, .int .u32 0, .int .u16 0, .int .u16 0, .int .u64 0, .int .u32 0, .int .u8 0, .int .u64 0, .int .u64 0, .snil] 0 false) := by rw [x1.get _ (by omega), hg0]
  have y1 := x0.trans x1
  have he' : (46 + (q : Int)) = l.length := by omega
  have h4' : ¬ (4096 : Int) < q := by omega
  simp [pf9_11, pf9_10, wl1, wd, he', h4', pf9_8]
  refine Ev.mono (get_ok hb1 (by omega) (a := 0) (n := 6) (by omega) (by omega)) ?_
  rintro v t ⟨rfl, rfl⟩
  simp [pf9_7]
  refine Ev.mono (get_ok hb1 (by omega) (a := 6) (n := 6) (by omega) (by omega)) ?_
  rintro v t ⟨rfl, rfl⟩
  simp [pf9_6]
  refine Ev.mono (get_ok hb1 (by omega) (a := 12) (n := 4) (by omega) (by omega)) ?_
  rintro v t ⟨rfl, rfl⟩
  simp [pf9_5, pf9_4]
  refine Ev.mono (get_ok hb1 (by omega) (a := 16) (n := 2) (by omega) (by omega)) ?_
  rintro v t ⟨rfl, rfl⟩
  simp [pf9_3]
  refine Ev.mono (get_ok hb1 (by omega) (a := 18) (n := 2) (by omega) (by omega)) ?_
  rintro v t ⟨rfl, rfl⟩
  obtain ⟨u, hu, hbu, _, _⟩ := hb1.part (lo := 20) (hi := 36) (k := .i64) (k2 := .i64) (by omega) (by omega)
  have hu' : S.slice 1 b (some (.int .i64 20)) (some (.int .i64 36)) none = some u := hu
  simp [pf9_2, hu']
  refine Ev.mono (decodeCap_ok hbu (by simp; omega)) ?_
  rintro v t2 ⟨x2, rfl⟩
  have cut : ∀ a k, a + k ≤ 16 → (((l.drop 20).take (36 - 20)).drop a).take k = (l.drop (20 + a)).take k := by
    intro a k h
    rw [List.drop_take, List.take_take, List.drop_drop, Nat.min_eq_left (by omega)]
  have e1 : ((l.drop 20).take (36 - 20)).take 6 = (l.drop 20).take 6 := by rw [List.take_take]; rfl
  rw [e1, cut 6 3 (by omega), cut 9 1 (by omega), cut 10 6 (by omega)]
  have hb2 := hb1.ext x2
  simp [pf9_1]
  refine Ev.mono (get_ok (hb2.ext (by simp)) (by omega) (a := 36) (n := 8) (by omega) (by omega)) ?_
  rintro v t3 ⟨rfl, rfl⟩
  have y2 := y1.trans x2
  have x12 := x1.trans x2
  have hg2 : t2.get s.ctr = some (.cells [.int .u64 0, .int .u64 0, .int .u32 0, .int .u16 0, .int .u16 0, .int .u64 0, .int .u32 0, .int .u8 0, .int .u64 0, .int .u64 0, .snil] 0 false) := by rw [x12.get _ (by omega), hg0]
  have hlt : s.ctr < t2.ctr := by have := x12.ctr; omega
  have wid : IntKind.u32.wrap (num ((l.drop 12).take 4) : Int) = num ((l.drop 12).take 4) := by
    have : num ((l.drop 12).take 4) < 4294967296 := num_take_lt _ 4
    simp only [IntKind.wrap, IntKind.signed, IntKind.bits]; simp; omega
  have w16 : ∀ x : List UInt8, IntKind.u16.wrap (num (x.take 2) : Int) = num (x.take 2) := by
    intro x
    have : num (x.take 2) < 65536 := num_take_lt _ 2
    simp only [IntKind.wrap, IntKind.signed, IntKind.bits]; simp; omega
  have fd := hd.flat
  have cd := hd.bytes.cells1
  have hne : ¬ s.ctr = t2.ctr := by omega
  simp [pf9_0, hg2, hne, wid, w16, fd, cd, Ms.cells, Ms.of, y2]
  have hdb := (hd.ext x2).bytes
  have hsi : d.since (s.ctr + 1) := since_le (by omega) hd.since
  refine ⟨Ext.set (Nat.le_refl _) (Ext.set (Nat.le_of_lt hlt) (Ext.new y2)), ?_, since_le (by omega) hsi⟩
  exact (hdb.ext (Ext.set (Nat.le_refl _) (Ext.new (Ext.refl t2)))).set hsi (by omega)
end
end Go.Ab
