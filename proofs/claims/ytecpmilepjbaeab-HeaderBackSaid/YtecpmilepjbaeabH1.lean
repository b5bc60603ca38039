/- Messages (layer 4) over the abstract machine. -/
import Derived.Test.YtecpmilepjbaeabK3
import Derived.Test.YtecpmilepjbaeabC0
namespace Go.Ab
attribute [local simp] S.read S.write

/-- A message's parts. -/
structure Ms where
  to : Nat
  reply : Nat
  id : Nat
  op : Nat
  st : Nat
  p : Nat
  o : Nat
  r : Nat
  k : Nat
  arg : Nat
  data : List UInt8
  deriving DecidableEq

def Ms.cells (m : Ms) (d : AV) : List AV := [.int .u64 m.to, .int .u64 m.reply, .int .u32 m.id, .int .u16 m.op, .int .u16 m.st, .int .u64 m.p, .int .u32 m.o, .int .u8 m.r, .int .u64 m.k, .int .u64 m.arg, d]
def Ms.fit (m : Ms) : Prop := m.to < 18446744073709551616 ∧ m.reply < 18446744073709551616 ∧ m.id < 4294967296 ∧ m.op < 65536 ∧ m.st < 65536 ∧ m.p < 18446744073709551616 ∧ m.o < 4294967296 ∧ m.r < 256 ∧ m.k < 18446744073709551616 ∧ m.arg < 18446744073709551616 ∧ m.data.length ≤ 140737488355328
/-- A message that may be, of any. -/
def Ms.cut (m : Ms) : Ms := { m with to := m.to % 281474976710656, reply := m.reply % 281474976710656, p := m.p % 281474976710656, o := m.o % 16777216, k := m.k % 281474976710656, data := m.data.take 4096 }
def Ms.may (m : Ms) : Bool := decide (m.to < 281474976710656) && decide (m.reply < 281474976710656) && capMay m.p m.o m.k && decide (m.data.length ≤ 4096)
/-- A message's bytes. -/
def Ms.bytes (m : Ms) : List UInt8 := be 6 m.to ++ be 6 m.reply ++ be 4 m.id ++ be 2 m.op ++ be 2 m.st ++ (be 6 m.p ++ be 3 m.o ++ be 1 m.r ++ be 6 m.k) ++ be 8 m.arg ++ be 2 m.data.length ++ m.data

theorem Ms.cut_fit {m : Ms} (h : m.fit) : m.cut.fit := by
  obtain ⟨h1, h2, h3, h4, h5, h6, h7, h8, h9, h10, h11⟩ := h
  refine ⟨?_, ?_, h3, h4, h5, ?_, ?_, h8, ?_, h10, ?_⟩ <;> simp only [Ms.cut, List.length_take] <;> omega
theorem capMay_iff (p o k : Nat) : capMay p o k = (decide (p < 281474976710656) && decide (o < 16777216) && decide (k < 281474976710656)) := by
  unfold capMay
  rw [show decide ((p : Int) ≤ 281474976710655) = decide (p < 281474976710656) from decide_eq_decide.2 (by omega),
    show decide ((o : Int) < 16777216) = decide (o < 16777216) from decide_eq_decide.2 (by omega),
    show decide ((k : Int) ≤ 281474976710655) = decide (k < 281474976710656) from decide_eq_decide.2 (by omega)]
theorem Ms.cut_may (m : Ms) : m.cut.may = true := by
  simp only [Ms.may, Ms.cut, capMay_iff, List.length_take, Bool.and_eq_true, decide_eq_true_eq]
  refine ⟨⟨⟨?_, ?_⟩, ⟨?_, ?_⟩, ?_⟩, ?_⟩
  · exact decide_eq_true (Nat.mod_lt m.to (show 0 < 281474976710656 by decide))
  · exact decide_eq_true (Nat.mod_lt m.reply (show 0 < 281474976710656 by decide))
  · exact Nat.mod_lt m.p (by decide)
  · exact Nat.mod_lt m.o (by decide)
  · exact Nat.mod_lt m.k (by decide)
  · exact Nat.min_le_left _ _
theorem Ms.may_cut {m : Ms} (h : m.may = true) : m.cut = m := by
  simp only [Ms.may, capMay_iff, Bool.and_eq_true, decide_eq_true_eq] at h
  cases m
  simp only [Ms.cut, Ms.mk.injEq] at h ⊢
  simp only [true_and]
  refine ⟨by omega, by omega, by omega, by omega, by omega, ?_⟩
  rw [List.take_of_length_le h.2]
theorem Ms.may_iff (m : Ms) : m.may = true ↔ m.cut = m := ⟨Ms.may_cut, fun h => by rw [← h]; exact m.cut_may⟩
theorem Ms.capBytes {m : Ms} (h : m.may = true) : Ab.capBytes m.p m.o m.r m.k = be 6 m.p ++ be 3 m.o ++ be 1 m.r ++ be 6 m.k := by
  simp only [Ms.may, Bool.and_eq_true] at h
  simp [Ab.capBytes, h.1.2]
theorem Ms.bytes_length (m : Ms) : m.bytes.length = 46 + m.data.length := by simp [Ms.bytes]; omega

theorem and48 (x : Nat) : IntKind.u64.wrap (((BitVec.ofInt IntKind.u64.bits (x : Int) &&& BitVec.ofInt IntKind.u64.bits 281474976710655).toNat : Nat) : Int) = ((x % 281474976710656 : Nat) : Int) := by
  have e1 : (BitVec.ofInt IntKind.u64.bits (x : Int)).toNat = x % 18446744073709551616 := by
    simp only [IntKind.bits, BitVec.toNat_ofInt]; omega
  have e2 : (BitVec.ofInt IntKind.u64.bits 281474976710655).toNat = 2 ^ 48 - 1 := by
    simp only [IntKind.bits, BitVec.toNat_ofInt]; omega
  rw [BitVec.toNat_and, e1, e2, Nat.and_two_pow_sub_one_eq_mod]
  simp [IntKind.wrap, IntKind.signed, IntKind.bits]
  omega
theorem and24 (x : Nat) : IntKind.u32.wrap (((BitVec.ofInt IntKind.u32.bits (x : Int) &&& BitVec.ofInt IntKind.u32.bits 16777215).toNat : Nat) : Int) = ((x % 16777216 : Nat) : Int) := by
  have e1 : (BitVec.ofInt IntKind.u32.bits (x : Int)).toNat = x % 4294967296 := by
    simp only [IntKind.bits, BitVec.toNat_ofInt]; omega
  have e2 : (BitVec.ofInt IntKind.u32.bits 16777215).toNat = 2 ^ 24 - 1 := by
    simp only [IntKind.bits, BitVec.toNat_ofInt]; omega
  rw [BitVec.toNat_and, e1, e2, Nat.and_two_pow_sub_one_eq_mod]
  simp [IntKind.wrap, IntKind.signed, IntKind.bits]
  omega

theorem b48 (x : Nat) : binV .and (.int .u64 (x : Int)) (.int .u64 281474976710655) = some (.int .u64 ((x % 281474976710656 : Nat) : Int)) := by rw [binV_and, and48]
theorem b24 (x : Nat) : binV .and (.int .u32 (x : Int)) (.int .u32 16777215) = some (.int .u32 ((x % 16777216 : Nat) : Int)) := by rw [binV_and, and24]

/-- A capability that may be, of any. -/
theorem capMake_ok (p o r k : Nat) (s : S) : Ev tab 30 [.agg [.int .u64 p, .int .u32 o, .int .u8 r, .int .u64 k]] s fun v s' => Ext s s' ∧
    v = .agg [.int .u64 (p % 281474976710656 : Nat), .int .u32 (o % 16777216 : Nat), .int .u8 r, .int .u64 (k % 281474976710656 : Nat)] := by
  refine Ev.intro rfl rfl rfl ?_
  have h1 := b48 p
  have h2 := b24 o
  have h3 := b48 k
  obtain ⟨p', hp⟩ : ∃ q, q = p % 281474976710656 := ⟨_, rfl⟩
  obtain ⟨o', ho⟩ : ∃ q, q = o % 16777216 := ⟨_, rfl⟩
  obtain ⟨k', hk⟩ : ∃ q, q = k % 281474976710656 := ⟨_, rfl⟩
  rw [← hp] at h1 ⊢
  rw [← ho] at h2 ⊢
  rw [← hk] at h3 ⊢
  simp (maxDischargeDepth := 30) [pf30, pf30_1, pf30_0, h1, h2, h3, -binV_and]

theorem Bytes.head {s : S} {v : AV} {l : List UInt8} (h : Bytes s v l) {hi : Nat} {k2 : IntKind} (h2 : hi ≤ l.length) : ∃ u, S.slice 1 v none (some (.int k2 (hi : Int))) none = some u ∧ Bytes s u (l.take hi) ∧ (∀ n, v.inS n → u.inS n) ∧ (∀ n, v.since n → u.since n) := by
  obtain ⟨u, h1, h3⟩ := h.part (lo := 0) (hi := hi) (k := .i64) (k2 := k2) (by omega) h2
  refine ⟨u, ?_, by simpa using h3⟩
  rw [← h1]
  rcases h.sort with rfl | ⟨za, rfl⟩ | ⟨b, o, n, c, opn, rfl⟩ | ⟨eb, eo1, eo2, est, rfl⟩
  · simp only [S.slice, S.slice2]
    cases hq : asBound 0 (some (.int k2 (hi : Int))) <;> simp [asBound]
  · simp only [S.slice, S.slice2]
    cases hq : asBound 0 (some (.int k2 (hi : Int))) <;> simp [asBound]
  · cases opn with
    | true =>
      simp only [S.slice, S.slice2]
      cases hq : asBound n (some (.int k2 (hi : Int))) <;> simp [asBound]
    | false =>
      simp only [S.slice, S.slice2]
      cases hq : asBound c (some (.int k2 (hi : Int))) <;> simp [asBound]
  · simp only [S.slice, S.slice2]
    cases hq : asBound 0 (some (.int k2 (hi : Int))) <;> simp [asBound]

set_option maxRecDepth 10000 in
theorem make_ok (m : Ms) (hf : m.data.length ≤ 140737488355328) {d : AV} (s : S) (hd : Bytes s d m.data) : Ev tab 11 [.agg (m.cells d)] s fun v s' => Ext s s' ∧ ∃ d', v = .agg (m.cut.cells d') ∧ Bytes s' d' m.cut.data ∧ d'.since s.ctr := by
  refine Ev.intro rfl rfl rfl ?_
  have fd := hd.flat
  have cd := hd.cells1
  have h1 := b48 m.to
  have h2 := b48 m.reply
  obtain ⟨t', ht⟩ : ∃ q, q = m.to % 281474976710656 := ⟨_, rfl⟩
  obtain ⟨r', hr⟩ : ∃ q, q = m.reply % 281474976710656 := ⟨_, rfl⟩
  rw [← ht] at h1
  rw [← hr] at h2
  simp [pf11, pf11_3, pf11_2, Ms.cells, fd, cd, h1, h2, -binV_and]
  refine Ev.mono (capMake_ok m.p m.o m.r m.k _) ?_
  rintro v s1 ⟨x1, rfl⟩
  obtain ⟨p', hp⟩ : ∃ q, q = m.p % 281474976710656 := ⟨_, rfl⟩
  obtain ⟨o', ho⟩ : ∃ q, q = m.o % 16777216 := ⟨_, rfl⟩
  obtain ⟨k', hk'⟩ : ∃ q, q = m.k % 281474976710656 := ⟨_, rfl⟩
  rw [← hp, ← ho, ← hk']
  have hg := x1.get
  have hx0 : Ext s s1 := Ext.trans (by simp (maxDischargeDepth := 30)) x1
  simp (maxDischargeDepth := 30) [Nat.add_assoc, hg, fd, h1, h2, -binV_and]
  generalize hs2 : S.set (S.set (S.set s1 s.ctr _) s.ctr _) s.ctr _ = s2
  have g1 : s2.get s.ctr = some (.cells [.int .u64 t', .int .u64 r', .int .u32 m.id, .int .u16 m.op, .int .u16 m.st, .int .u64 p', .int .u32 o', .int .u8 m.r, .int .u64 k', .int .u64 m.arg, d] 0 false) := by rw [← hs2]; simp
  have g2 : s2.get (s.ctr + 1) = some (.cells [.int .u64 0, .int .u64 0, .int .u32 0, .int .u16 0, .int .u16 0, .int .u64 0, .int .u32 0, .int .u8 0, .int .u64 0, .int .u64 0, .snil] 0 false) := by
    rw [← hs2]; simp [hg]
  have x2 : Ext s s2 := by rw [← hs2]; simp (maxDischargeDepth := 30) [hx0]
  have c2 : s.ctr + 2 ≤ s2.ctr := by
    rw [← hs2]
    have := x1.ctr
    simp [Nat.add_assoc] at this ⊢
    omega
  clear hs2
  have hd2 := hd.ext x2
  have wl := hd2.wlen
  obtain ⟨q, hq⟩ : ∃ q, q = min m.data.length 4096 := ⟨_, rfl⟩
  have hmn : (if (4096 : Int) < m.data.length then (4096 : Int) else m.data.length) = (q : Int) := by omega
  obtain ⟨u, hu, hbu, _, _⟩ := hd2.head (hi := q) (k2 := .i64) (by omega)
  have htk : m.data.take q = m.data.take 4096 := by
    rw [hq]
    by_cases h : m.data.length ≤ 4096
    · rw [List.take_of_length_le (by omega), List.take_of_length_le (by omega)]
    · rw [show min m.data.length 4096 = 4096 by omega]
  rw [htk] at hbu
  simp [pf11_1, g1, wl, foldO, minV, hmn, hu]
  refine cont_app_nil hbu (Nat.le_refl _) (by simp; omega) ?_
  intro w s3 hw hk
  have fw := hw.flat
  have cw := hw.bytes.cells1
  have g3 : s3.get s.ctr = some (.cells [.int .u64 t', .int .u64 r', .int .u32 m.id, .int .u16 m.op, .int .u16 m.st, .int .u64 p', .int .u32 o', .int .u8 m.r, .int .u64 k', .int .u64 m.arg, d] 0 false) := by rw [hk.get _ (by omega), g1]
  have g4 : s3.get (s.ctr + 1) = some (.cells [.int .u64 0, .int .u64 0, .int .u32 0, .int .u16 0, .int .u16 0, .int .u64 0, .int .u32 0, .int .u8 0, .int .u64 0, .int .u64 0, .snil] 0 false) := by rw [hk.get _ (by omega), g2]
  have hwb := hw.bytes
  have hws := since_le (n := s.ctr + 2) (by omega) hw.since
  have x3 : Ext s s3 := x2.then (hk.le x2.ctr)
  simp (maxDischargeDepth := 30) [cw, fw, fd, g3, g4, pf11_0, x3, Ms.cut]
  refine ⟨w, ⟨by omega, by omega, by omega, by omega, by omega, rfl⟩, ?_, since_le (by omega) hws⟩
  exact (hwb.set hws (by omega)).set hws (by omega)
end Go.Ab
