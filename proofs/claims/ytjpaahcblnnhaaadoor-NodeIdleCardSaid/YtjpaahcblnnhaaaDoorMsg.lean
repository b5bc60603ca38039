/- Numbers and texts as bytes (layer 2) over the abstract machine: Put. -/
import Derived.Test.YtjpaahcblnnhaaaDoorTab
import Derived.Test.YtjpaahcblnnhaaaDoorAbBe
namespace Go.Ab

set_option maxRecDepth 10000 in
theorem put_ok {b : AV} {l : List UInt8} (s : S) (hb : Bytes s b l) (v n : Nat) (hn : 1 ≤ n ∧ n ≤ 8) (hl : l.length ≤ 140737488355320) : Ev tab 67 [b, .int .u64 v, .int .i64 n] s fun w s' => Ext s s' ∧ Own s.ctr s' w (l ++ be n v) := by
  refine Ev.intro rfl rfl rfl ?_
  simp [pf67, pf67_10]
  refine cont_app_nil hb (Nat.le_refl _) (by omega) ?_
  intro w s1 hw hk
  have n1 : ¬ (n : Int) < 1 := by omega
  have n2 : ¬ (8 : Int) < n := by omega
  have w0 : IntKind.i64.wrap ((n : Int) - 1) = (n : Int) - 1 := by rw [wrap_i64] <;> omega
  simp [pf67_9, pf67_7, n1, n2, pf67_8, pf67_5, w0]
  refine WpC.loop (fun m r' s' => ∃ (w : AV) (x : List UInt8), m ≤ n ∧ r' 8 = .int .i64 ((m : Int) - 1) ∧ r' 7 = w ∧ r' 1 = .int .u64 v ∧ Own s.ctr s' w (l ++ x) ∧ x ++ be m v = be n v ∧ Keep s.ctr s s') (m := n) ?_ ?_
  · exact ⟨w, [], Nat.le_refl _, by simp, by simp, by simp, by simpa using hw, rfl, hk⟩
  clear hw hk
  rintro m r' s' ⟨w, x, hm, e8, e7, e1, hw, hx, hk⟩
  cases m with
  | zero =>
    simp only [be, List.append_nil] at hx
    subst hx
    simp [pf67_4, pf67_3, e8, pf67_0, e7]
    exact ⟨hk.ext, hw⟩
  | succ i =>
    have h0 : (0 : Int) ≤ ((i + 1 : Nat) : Int) - 1 := by omega
    have h1 : ((i + 1 : Nat) : Int) - 1 = (i : Int) := by omega
    rw [h1] at e8
    have w1 : IntKind.i64.wrap (8 * (i : Int)) = 8 * i := by rw [wrap_i64] <;> omega
    have w2 : IntKind.i64.wrap ((i : Int) - 1) = (i : Int) - 1 := by rw [wrap_i64] <;> omega
    have h2 : ¬ 8 * (i : Int) < 0 := by omega
    have h3 := shr_byte v i (by omega)
    have fw := hw.flat
    obtain ⟨y, hy⟩ : ∃ y, y = UInt8.ofNat (v / 256 ^ i) := ⟨_, rfl⟩
    rw [← hy] at h3
    simp [pf67_4, pf67_3, e8, pf67_1, e7, e1, w1, h2, h3]
    have hc := hk.ctr
    refine cont_app_own (m := [y]) (hw.ext (by simp)) ?_ ?_ ?_ ?_
    · exact Bytes.made (l := [y]) (n := 0) (by simp [u8s]) (by simp) 1 false (by simp [AV.roomy])
    · simp; omega
    · have := congrArg List.length hx
      simp at this
      simp
      omega
    intro w3 s3 hw3 hk3
    simp [pf67_2, e8, w2]
    refine ⟨i, by omega, by omega, rfl, e1, x ++ [y], by simpa using hw3, ?_, ?_⟩
    · rw [← hx, be, ← hy]; simp
    · exact (hk.trans (Ext.keep (by simp) hc)).trans hk3
end Go.Ab
/-! Numbers and texts as bytes (layer 2) over the abstract machine: Get, GetBytes, PutBytes. -/
namespace Go.Ab

theorem or_byte {q c : Nat} (hq : q < 72057594037927936) (hc : c < 256) :
    IntKind.u64.wrap (((BitVec.ofInt IntKind.u64.bits (IntKind.u64.wrap ((q : Int) * 2 ^ min 8 IntKind.u64.bits)) ||| BitVec.ofInt IntKind.u64.bits (IntKind.u64.wrap (c : Int))).toNat : Nat) : Int) = ((q * 256 + c : Nat) : Int) := by
  have w1 : IntKind.u64.wrap ((q : Int) * 2 ^ min 8 IntKind.u64.bits) = ((q * 256 : Nat) : Int) := by
    rw [show min 8 IntKind.u64.bits = 8 from rfl]
    simp [IntKind.wrap, IntKind.signed, IntKind.bits]; omega
  have w2 : IntKind.u64.wrap (c : Int) = c := by simp [IntKind.wrap, IntKind.signed, IntKind.bits]; omega
  rw [w1, w2]
  have e1 : (BitVec.ofInt IntKind.u64.bits ((q * 256 : Nat) : Int)).toNat = q <<< 8 := by
    rw [Nat.shiftLeft_eq]
    simp only [IntKind.bits, BitVec.toNat_ofInt]
    omega
  have e2 : (BitVec.ofInt IntKind.u64.bits (c : Int)).toNat = c := by
    simp only [IntKind.bits, BitVec.toNat_ofInt]
    omega
  rw [BitVec.toNat_or, e1, e2, ← Nat.shiftLeft_add_eq_or_of_lt (show c < 2 ^ 8 by omega), Nat.shiftLeft_eq]
  simp [IntKind.wrap, IntKind.signed, IntKind.bits]; omega

section
variable {b : AV} {l : List UInt8} {s : S}

theorem putBytes_no (hb : Bytes s b l) {d : AV} {m : List UInt8} (hd : Bytes s d m) (hm : 65535 < m.length) : Ev tab 69 [b, d] s fun v s' => s' = s ∧ v = .tuple [.snil, .bool false] := by
  refine Ev.intro rfl rfl rfl ?_
  have wl := hd.wlen
  have h1 : (65535 : Int) < m.length := by omega
  simp [pf69, pf69_4, pf69_3, pf69_2, pf69_1, wl, h1]

theorem putBytes_ok (hb : Bytes s b l) {d : AV} {m : List UInt8} (hd : Bytes s d m) (hm : m.length ≤ 65535) (hl : l.length ≤ 140737488200000) : Ev tab 69 [b, d] s fun v s' => Ext s s' ∧ ∃ w, v = .tuple [w, .bool true] ∧ Own s.ctr s' w (l ++ be 2 m.length ++ m) := by
  refine Ev.intro rfl rfl rfl ?_
  have wl := hd.wlen
  have h1 : ¬ (65535 : Int) < m.length := by omega
  have w1 : IntKind.u64.wrap (m.length : Int) = m.length := by simp [IntKind.wrap, IntKind.signed, IntKind.bits]; omega
  simp [pf69, pf69_4, pf69_3, pf69_2, pf69_0, wl, h1, w1]
  refine Ev.mono (put_ok s hb m.length 2 (by omega) (by omega)) ?_
  rintro v s1 ⟨hx, hw⟩
  simp
  refine cont_app_own hw (hd.ext hx) hx.ctr (by simp; omega) ?_
  intro w s2 hw2 hk
  simp
  exact ⟨hx.then hk, by simpa using hw2⟩
end
end Go.Ab
/-! Capabilities as bytes (layer 3) over the abstract machine. -/
namespace Go.Ab
attribute [local simp] S.read S.write

/-- A capability's parts fit into their bits. -/
def capMay (p o k : Int) : Bool := decide (p ≤ 281474976710655) && decide (o < 16777216) && decide (k ≤ 281474976710655)
/-- A capability's bytes. -/
def capBytes (p o r k : Int) : List UInt8 := if capMay p o k then be 6 p.toNat ++ be 3 o.toNat ++ be 1 r.toNat ++ be 6 k.toNat else []

theorem capBytes_length (p o r k : Int) : (capBytes p o r k).length ≤ 16 := by
  unfold capBytes; split <;> simp

theorem may_ok (p o r k : Int) (s : S) : Ev tab 54 [.agg [.int .u64 p, .int .u32 o, .int .u8 r, .int .u64 k]] s fun v s' => Ext s s' ∧ v = .bool (capMay p o k) := by
  refine Ev.intro rfl rfl rfl ?_
  by_cases h1 : p ≤ 281474976710655
  · by_cases h2 : o < 16777216
    · simp [pf54, pf54_1, pf54_0, h1, h2, capMay]
    · simp [pf54, pf54_1, pf54_0, h1, h2, capMay]
  · simp [pf54, pf54_1, pf54_0, h1, capMay]

theorem encode_ok (p o r k : Nat) (hp : p < 18446744073709551616) (ho : o < 4294967296) (hr : r < 256) (s : S) : Ev tab 68 [.agg [.int .u64 p, .int .u32 o, .int .u8 r, .int .u64 k]] s fun v s' => Ext s s' ∧ Own s.ctr s' v (capBytes p o r k) := by
  refine Ev.intro rfl rfl rfl ?_
  have w1 : IntKind.u64.wrap (o : Int) = o := wrap_u64 (by omega) (by omega)
  have w2 : IntKind.u64.wrap (r : Int) = r := wrap_u64 (by omega) (by omega)
  simp [pf68, pf68_7, pf68_5]
  refine Ev.mono (may_ok p o r k _) ?_
  rintro v s1 ⟨hx1, rfl⟩
  have hg := hx1.get
  have hx0 : Ext s (s.new (.cells [.int .u64 p, .int .u32 o, .int .u8 r, .int .u64 k] 0 false)) := by simp
  have y1 := hx0.trans hx1
  unfold capBytes
  cases hc : capMay p o k with
  | false =>
    simp [pf68_4]
    exact ⟨y1, Own.nil _ _⟩
  | true =>
    simp [pf68_6, pf68_3, hg]
    refine Ev.mono (put_ok s1 (Bytes.nil s1) p 6 (by omega) (by simp)) ?_
    rintro v s2 ⟨hx2, ho2⟩
    have g2 := (hx1.trans hx2).get
    have f2 := ho2.flat
    simp [pf68_2, g2, w1]
    refine Ev.mono (put_ok s2 ho2.bytes o 3 (by omega) (by simp)) ?_
    rintro v s3 ⟨hx3, ho3⟩
    have g3 := ((hx1.trans hx2).trans hx3).get
    simp [pf68_1, g3, w2]
    refine Ev.mono (put_ok s3 ho3.bytes r 1 (by omega) (by simp)) ?_
    rintro v s4 ⟨hx4, ho4⟩
    have g4 := (((hx1.trans hx2).trans hx3).trans hx4).get
    simp [pf68_0, g4]
    refine Ev.mono (put_ok s4 ho4.bytes k 6 (by omega) (by simp)) ?_
    rintro v s5 ⟨hx5, ho5⟩
    simp
    refine ⟨(((y1.trans hx2).trans hx3).trans hx4).trans hx5, ?_⟩
    have := (((y1.trans hx2).trans hx3).trans hx4).ctr
    simpa using ho5.le this

end Go.Ab
/-! Messages (layer 4) over the abstract machine. -/
namespace Go.Ab
attribute [local simp] S.read S.write

/-- A message's parts. -/
structure Ms where
  to : Nat
  reply : Nat
  id : Nat
  op : Nat
  st : Nat
  p : Nat
  o : Nat
  r : Nat
  k : Nat
  arg : Nat
  data : List UInt8
  deriving DecidableEq

def Ms.cells (m : Ms) (d : AV) : List AV := [.int .u64 m.to, .int .u64 m.reply, .int .u32 m.id, .int .u16 m.op, .int .u16 m.st, .int .u64 m.p, .int .u32 m.o, .int .u8 m.r, .int .u64 m.k, .int .u64 m.arg, d]
def Ms.fit (m : Ms) : Prop := m.to < 18446744073709551616 ∧ m.reply < 18446744073709551616 ∧ m.id < 4294967296 ∧ m.op < 65536 ∧ m.st < 65536 ∧ m.p < 18446744073709551616 ∧ m.o < 4294967296 ∧ m.r < 256 ∧ m.k < 18446744073709551616 ∧ m.arg < 18446744073709551616 ∧ m.data.length ≤ 140737488355328
/-- A message that may be, of any. -/
def Ms.cut (m : Ms) : Ms := { m with to := m.to % 281474976710656, reply := m.reply % 281474976710656, p := m.p % 281474976710656, o := m.o % 16777216, k := m.k % 281474976710656, data := m.data.take 4096 }
def Ms.may (m : Ms) : Bool := decide (m.to < 281474976710656) && decide (m.reply < 281474976710656) && capMay m.p m.o m.k && decide (m.data.length ≤ 4096)
/-- A message's bytes. -/
def Ms.bytes (m : Ms) : List UInt8 := be 6 m.to ++ be 6 m.reply ++ be 4 m.id ++ be 2 m.op ++ be 2 m.st ++ (be 6 m.p ++ be 3 m.o ++ be 1 m.r ++ be 6 m.k) ++ be 8 m.arg ++ be 2 m.data.length ++ m.data

theorem Ms.cut_fit {m : Ms} (h : m.fit) : m.cut.fit := by
  obtain ⟨h1, h2, h3, h4, h5, h6, h7, h8, h9, h10, h11⟩ := h
  refine ⟨?_, ?_, h3, h4, h5, ?_, ?_, h8, ?_, h10, ?_⟩ <;> simp only [Ms.cut, List.length_take] <;> omega
theorem capMay_iff (p o k : Nat) : capMay p o k = (decide (p < 281474976710656) && decide (o < 16777216) && decide (k < 281474976710656)) := by
  unfold capMay
  rw [show decide ((p : Int) ≤ 281474976710655) = decide (p < 281474976710656) from decide_eq_decide.2 (by omega),
    show decide ((o : Int) < 16777216) = decide (o < 16777216) from decide_eq_decide.2 (by omega),
    show decide ((k : Int) ≤ 281474976710655) = decide (k < 281474976710656) from decide_eq_decide.2 (by omega)]
theorem Ms.cut_may (m : Ms) : m.cut.may = true := by
  simp only [Ms.may, Ms.cut, capMay_iff, List.length_take, Bool.and_eq_true, decide_eq_true_eq]
  refine ⟨⟨⟨?_, ?_⟩, ⟨?_, ?_⟩, ?_⟩, ?_⟩
  · exact decide_eq_true (Nat.mod_lt m.to (show 0 < 281474976710656 by decide))
  · exact decide_eq_true (Nat.mod_lt m.reply (show 0 < 281474976710656 by decide))
  · exact Nat.mod_lt m.p (by decide)
  · exact Nat.mod_lt m.o (by decide)
  · exact Nat.mod_lt m.k (by decide)
  · exact Nat.min_le_left _ _
theorem Ms.may_cut {m : Ms} (h : m.may = true) : m.cut = m := by
  simp only [Ms.may, capMay_iff, Bool.and_eq_true, decide_eq_true_eq] at h
  cases m
  simp only [Ms.cut, Ms.mk.injEq] at h ⊢
  simp only [true_and]
  refine ⟨by omega, by omega, by omega, by omega, by omega, ?_⟩
  rw [List.take_of_length_le h.2]
theorem Ms.may_iff (m : Ms) : m.may = true ↔ m.cut = m := ⟨Ms.may_cut, fun h => by rw [← h]; exact m.cut_may⟩
theorem Ms.capBytes {m : Ms} (h : m.may = true) : Ab.capBytes m.p m.o m.r m.k = be 6 m.p ++ be 3 m.o ++ be 1 m.r ++ be 6 m.k := by
  simp only [Ms.may, Bool.and_eq_true] at h
  simp [Ab.capBytes, h.1.2]
theorem Ms.bytes_length (m : Ms) : m.bytes.length = 46 + m.data.length := by simp [Ms.bytes]; omega

theorem and48 (x : Nat) : IntKind.u64.wrap (((BitVec.ofInt IntKind.u64.bits (x : Int) &&& BitVec.ofInt IntKind.u64.bits 281474976710655).toNat : Nat) : Int) = ((x % 281474976710656 : Nat) : Int) := by
  have e1 : (BitVec.ofInt IntKind.u64.bits (x : Int)).toNat = x % 18446744073709551616 := by
    simp only [IntKind.bits, BitVec.toNat_ofInt]; omega
  have e2 : (BitVec.ofInt IntKind.u64.bits 281474976710655).toNat = 2 ^ 48 - 1 := by
    simp only [IntKind.bits, BitVec.toNat_ofInt]; omega
  rw [BitVec.toNat_and, e1, e2, Nat.and_two_pow_sub_one_eq_mod]
  simp [IntKind.wrap, IntKind.signed, IntKind.bits]
  omega
theorem and24 (x : Nat) : IntKind.u32.wrap (((BitVec.ofInt IntKind.u32.bits (x : Int) &&& BitVec.ofInt IntKind.u32.bits 16777215).toNat : Nat) : Int) = ((x % 16777216 : Nat) : Int) := by
  have e1 : (BitVec.ofInt IntKind.u32.bits (x : Int)).toNat = x % 4294967296 := by
    simp only [IntKind.bits, BitVec.toNat_ofInt]; omega
  have e2 : (BitVec.ofInt IntKind.u32.bits 16777215).toNat = 2 ^ 24 - 1 := by
    simp only [IntKind.bits, BitVec.toNat_ofInt]; omega
  rw [BitVec.toNat_and, e1, e2, Nat.and_two_pow_sub_one_eq_mod]
  simp [IntKind.wrap, IntKind.signed, IntKind.bits]
  omega

theorem b48 (x : Nat) : binV .and (.int .u64 (x : Int)) (.int .u64 281474976710655) = some (.int .u64 ((x % 281474976710656 : Nat) : Int)) := by rw [binV_and, and48]
theorem b24 (x : Nat) : binV .and (.int .u32 (x : Int)) (.int .u32 16777215) = some (.int .u32 ((x % 16777216 : Nat) : Int)) := by rw [binV_and, and24]

theorem Bytes.head {s : S} {v : AV} {l : List UInt8} (h : Bytes s v l) {hi : Nat} {k2 : IntKind} (h2 : hi ≤ l.length) : ∃ u, S.slice 1 v none (some (.int k2 (hi : Int))) none = some u ∧ Bytes s u (l.take hi) ∧ (∀ n, v.inS n → u.inS n) ∧ (∀ n, v.since n → u.since n) := by
  obtain ⟨u, h1, h3⟩ := h.part (lo := 0) (hi := hi) (k := .i64) (k2 := k2) (by omega) h2
  refine ⟨u, ?_, by simpa using h3⟩
  rw [← h1]
  rcases h.sort with rfl | ⟨za, rfl⟩ | ⟨b, o, n, c, opn, rfl⟩ | ⟨eb, eo1, eo2, est, rfl⟩
  · simp only [S.slice, S.slice2]
    cases hq : asBound 0 (some (.int k2 (hi : Int))) <;> simp [asBound]
  · simp only [S.slice, S.slice2]
    cases hq : asBound 0 (some (.int k2 (hi : Int))) <;> simp [asBound]
  · cases opn with
    | true =>
      simp only [S.slice, S.slice2]
      cases hq : asBound n (some (.int k2 (hi : Int))) <;> simp [asBound]
    | false =>
      simp only [S.slice, S.slice2]
      cases hq : asBound c (some (.int k2 (hi : Int))) <;> simp [asBound]
  · simp only [S.slice, S.slice2]
    cases hq : asBound 0 (some (.int k2 (hi : Int))) <;> simp [asBound]

end Go.Ab
/-! Messages as bytes (layer 4) over the abstract machine. -/
namespace Go.Ab
attribute [local simp] S.read S.write

section
variable {s : S} {d : AV}

theorem Ms.eta {m : Ms} : m.cells d = [.int .u64 m.to, .int .u64 m.reply, .int .u32 m.id, .int .u16 m.op, .int .u16 m.st, .int .u64 m.p, .int .u32 m.o, .int .u8 m.r, .int .u64 m.k, .int .u64 m.arg, d] := rfl

theorem headerMay_ok (m : Ms) (hl : m.data.length ≤ 140737488355328) (s : S) (hd : Bytes s d m.data) : Ev tab 39 [.agg (m.cells d)] s fun v s' => Ext s s' ∧ v = .bool m.may := by
  refine Ev.intro rfl rfl rfl ?_
  have fd := hd.flat
  have e1 : decide ((m.to : Int) ≤ 281474976710655) = decide (m.to < 281474976710656) := decide_eq_decide.2 (by omega)
  have e2 : decide ((m.reply : Int) ≤ 281474976710655) = decide (m.reply < 281474976710656) := decide_eq_decide.2 (by omega)
  have e3 : decide ((m.data.length : Int) ≤ 4096) = decide (m.data.length ≤ 4096) := decide_eq_decide.2 (by omega)
  unfold Ms.may
  by_cases h1 : m.to < 281474976710656
  case neg => simp [pf39, pf39_1, pf39_0, Ms.cells, fd, e1, h1]
  by_cases h2 : m.reply < 281474976710656
  case neg => simp [pf39, pf39_1, pf39_0, Ms.cells, fd, e1, e2, h1, h2]
  simp [pf39, pf39_1, pf39_0, Ms.cells, fd, e1, e2, h1, h2]
  refine Ev.mono (may_ok m.p m.o m.r m.k _) ?_
  rintro v s1 ⟨x1, rfl⟩
  have hg := x1.get
  have hx0 : Ext s s1 := Ext.trans (by simp) x1
  cases capMay m.p m.o m.k with
  | false => simp [hx0]
  | true =>
    have wl := (hd.ext hx0).wlen
    simp [hg, wl, e3, hx0]

set_option maxRecDepth 10000 in
theorem headerEncode_no (m : Ms) (hl : m.data.length ≤ 140737488355328) (hm : m.may = false) (s : S) (hd : Bytes s d m.data) : Ev tab 63 [.agg (m.cells d)] s fun v s' => Ext s s' ∧ v = .tuple [.snil, .iface 49 (.int .i64 8)] := by
  refine Ev.intro rfl rfl rfl ?_
  have fd := hd.flat
  simp [pf63, pf63_14, pf63_13, pf63_12, Ms.cells, fd]
  refine Ev.mono (headerMay_ok m hl _ (hd.ext (by simp))) ?_
  rintro v s1 ⟨x1, rfl⟩
  have hx0 : Ext s s1 := Ext.trans (by simp) x1
  simp [hm, pf63_11, hx0]

set_option maxRecDepth 20000 in
theorem headerEncode_ok (m : Ms) (hf : m.fit) (hm : m.may = true) (s : S) (hd : Bytes s d m.data) : Ev tab 63 [.agg (m.cells d)] s fun v s' => Ext s s' ∧ ∃ w, v = .tuple [w, .nilIface] ∧ Own s.ctr s' w m.bytes := by
  refine Ev.intro rfl rfl rfl ?_
  have fd := hd.flat
  obtain ⟨f1, f2, f3, f4, f5, f6, f7, f8, f9, f10, f11⟩ := hf
  have hlen : m.data.length ≤ 4096 := by
    simp only [Ms.may, Bool.and_eq_true, decide_eq_true_eq] at hm
    exact hm.2
  have w1 : IntKind.u64.wrap (m.id : Int) = m.id := wrap_u64 (by omega) (by omega)
  have w2 : IntKind.u64.wrap (m.op : Int) = m.op := wrap_u64 (by omega) (by omega)
  have w3 : IntKind.u64.wrap (m.st : Int) = m.st := wrap_u64 (by omega) (by omega)
  obtain ⟨s0, hs0⟩ : ∃ s0, s0 = s.new (.cells (m.cells d) 0 false) := ⟨_, rfl⟩
  have x0 : Ext s s0 := by rw [hs0]; simp
  have c0 : s0.ctr = s.ctr + 1 := by rw [hs0]; simp
  have g0 : s0.get s.ctr = some (.cells [.int .u64 m.to, .int .u64 m.reply, .int .u32 m.id, .int .u16 m.op, .int .u16 m.st, .int .u64 m.p, .int .u32 m.o, .int .u8 m.r, .int .u64 m.k, .int .u64 m.arg, d] 0 false) := by rw [hs0]; simp [Ms.cells]
  have rd : ∀ t, Keep s0.ctr s0 t → t.get s.ctr = some (.cells [.int .u64 m.to, .int .u64 m.reply, .int .u32 m.id, .int .u16 m.op, .int .u16 m.st, .int .u64 m.p, .int .u32 m.o, .int .u8 m.r, .int .u64 m.k, .int .u64 m.arg, d] 0 false) := fun t h => by rw [h.get _ (by omega), g0]
  have hfl : ((m.cells d).all isFlat) = true := by simp [Ms.cells, fd]
  simp [pf63, pf63_14, hfl, ← hs0]
  simp [pf63_13, pf63_12, g0]
  refine Ev.mono (headerMay_ok m f11 _ (hd.ext x0)) ?_
  rintro v t ⟨x, rfl⟩
  have k := x.keep (n := s0.ctr) (Nat.le_refl _)
  have g := rd _ k
  simp [hm, pf63_10, g]
  refine Ev.mono (put_ok t (Bytes.nil t) m.to 6 (by omega) (by simp)) ?_
  rintro v t1 ⟨x, ho1⟩
  have k1 := k.trans (x.keep k.ctr)
  have g := rd _ k1
  simp [pf63_9, pf63_8, g]
  refine Ev.mono (put_ok t1 ho1.bytes m.reply 6 (by omega) (by simp)) ?_
  rintro v t2 ⟨x, ho2⟩
  have k2 := k1.trans (x.keep k1.ctr)
  have g := rd _ k2
  simp [pf63_7, g, w1]
  refine Ev.mono (put_ok t2 ho2.bytes m.id 4 (by omega) (by simp)) ?_
  rintro v t3 ⟨x, ho3⟩
  have k3 := k2.trans (x.keep k2.ctr)
  have g := rd _ k3
  simp [pf63_6, g, w2]
  refine Ev.mono (put_ok t3 ho3.bytes m.op 2 (by omega) (by simp)) ?_
  rintro v t4 ⟨x, ho4⟩
  have k4 := k3.trans (x.keep k3.ctr)
  have g := rd _ k4
  simp [pf63_5, g, w3]
  refine Ev.mono (put_ok t4 ho4.bytes m.st 2 (by omega) (by simp)) ?_
  rintro v t5 ⟨x, ho5⟩
  have k5 := k4.trans (x.keep k4.ctr)
  have g := rd _ k5
  simp [pf63_4, pf63_3, g]
  refine Ev.mono (encode_ok m.p m.o m.r m.k f6 f7 f8 _) ?_
  rintro v t6 ⟨x, ho6⟩
  have k6 := k5.trans (x.keep k5.ctr)
  have := capBytes_length m.p m.o m.r m.k
  simp
  have c5 := k5.ctr
  refine cont_app_own ((ho5.ext x).le k4.ctr) ho6.bytes (by have := k6.ctr; omega) (by simp; omega) ?_
  intro v7 t7 ho7 kk
  have k7 := k6.trans kk
  have g := rd _ k7
  simp [pf63_2, g]
  refine Ev.mono (put_ok t7 ho7.bytes m.arg 8 (by omega) (by simp; omega)) ?_
  rintro v t8 ⟨x, ho8⟩
  have k8 := k7.trans (x.keep k7.ctr)
  have g := rd _ k8
  have hd8 := hd.keep ((x0.keep (n := s.ctr) (Nat.le_refl _)).trans (k8.le (by omega))) hd.below
  simp [pf63_1, g]
  refine Ev.mono (putBytes_ok ho8.bytes hd8 (by omega) (by simp; omega)) ?_
  rintro v t9 ⟨x, w, rfl, ho9⟩
  have k9 := k8.trans (x.keep k8.ctr)
  simp [pf63_0]
  refine ⟨x0.then (k9.le (by omega)), ?_⟩
  have := ho9.le (m := s.ctr) (by have := k8.ctr; omega)
  rw [Ms.capBytes hm] at this
  simpa [Ms.bytes] using this
end
end Go.Ab
