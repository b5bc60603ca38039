/- Numbers and texts as bytes (layer 2) over the abstract machine: Get, GetBytes, PutBytes. -/
import Derived.Test.YtecpmilepjbaeaaDoorK1
namespace Go.Ab

theorem or_byte {q c : Nat} (hq : q < 72057594037927936) (hc : c < 256) :
    IntKind.u64.wrap (((BitVec.ofInt IntKind.u64.bits (IntKind.u64.wrap ((q : Int) * 2 ^ min 8 IntKind.u64.bits)) ||| BitVec.ofInt IntKind.u64.bits (IntKind.u64.wrap (c : Int))).toNat : Nat) : Int) = ((q * 256 + c : Nat) : Int) := by
  have w1 : IntKind.u64.wrap ((q : Int) * 2 ^ min 8 IntKind.u64.bits) = ((q * 256 : Nat) : Int) := by
    rw [show min 8 IntKind.u64.bits = 8 from rfl]
    simp [IntKind.wrap, IntKind.signed, IntKind.bits]; omega
  have w2 : IntKind.u64.wrap (c : Int) = c := by simp [IntKind.wrap, IntKind.signed, IntKind.bits]; omega
  rw [w1, w2]
  have e1 : (BitVec.ofInt IntKind.u64.bits ((q * 256 : Nat) : Int)).toNat = q <<< 8 := by
    rw [Nat.shiftLeft_eq]
    simp only [IntKind.bits, BitVec.toNat_ofInt]
    omega
  have e2 : (BitVec.ofInt IntKind.u64.bits (c : Int)).toNat = c := by
    simp only [IntKind.bits, BitVec.toNat_ofInt]
    omega
  rw [BitVec.toNat_or, e1, e2, ← Nat.shiftLeft_add_eq_or_of_lt (show c < 2 ^ 8 by omega), Nat.shiftLeft_eq]
  simp [IntKind.wrap, IntKind.signed, IntKind.bits]; omega

section
variable {b : AV} {l : List UInt8} {s : S}

theorem get_no (hb : Bytes s b l) (hl : l.length ≤ 140737488355328) {a n : Int} (hn : n < 1 ∨ 8 < n ∨ a < 0 ∨ l.length < a + n) : Ev tab 28 [b, .int .i64 a, .int .i64 n] s fun v s' => s' = s ∧ v = .tuple [.int .u64 0, .bool false] := by
  refine Ev.intro rfl rfl rfl ?_
  have wl := hb.wlen
  by_cases h1 : n < 1
  · simp [pf28, pf28_12, pf28_11, pf28_10, h1, pf28_9]
  by_cases h2 : 8 < n
  · simp [pf28, pf28_12, pf28_11, pf28_10, h1, h2, pf28_9]
  by_cases h3 : a < 0
  · simp [pf28, pf28_12, pf28_11, pf28_10, h1, h2, h3, pf28_9]
  have w : IntKind.i64.wrap ((l.length : Int) - n) = l.length - n := by rw [wrap_i64] <;> omega
  have h4 : (l.length : Int) - n < a := by omega
  simp [pf28, pf28_12, pf28_11, pf28_10, h1, h2, h3, wl, w, h4, pf28_9]

set_option maxRecDepth 10000 in
theorem get_ok (hb : Bytes s b l) (hl : l.length ≤ 140737488355328) {a n : Nat} (hn : 1 ≤ n ∧ n ≤ 8) (ha : a + n ≤ l.length) : Ev tab 28 [b, .int .i64 a, .int .i64 n] s fun v s' => s' = s ∧ v = .tuple [.int .u64 (num ((l.drop a).take n)), .bool true] := by
  refine Ev.intro rfl rfl rfl ?_
  have wl := hb.wlen
  have h1 : ¬ (n : Int) < 1 := by omega
  have h2 : ¬ (8 : Int) < n := by omega
  have h3 : ¬ (a : Int) < 0 := by omega
  have w : IntKind.i64.wrap ((l.length : Int) - n) = l.length - n := by rw [wrap_i64] <;> omega
  have h4 : ¬ (l.length : Int) - n < a := by omega
  obtain ⟨z, hz⟩ : ∃ z, z = a + n := ⟨_, rfl⟩
  have w2 : IntKind.i64.wrap ((a : Int) + n) = (z : Int) := by rw [wrap_i64] <;> omega
  obtain ⟨u, hu, hbu, _, _⟩ := hb.part (lo := a) (hi := z) (k := .i64) (k2 := .i64) (by omega) (by omega)
  rw [show z - a = n by omega] at hbu
  obtain ⟨m, hm⟩ : ∃ m, m = (l.drop a).take n := ⟨_, rfl⟩
  have hml : m.length = n := by rw [hm]; simp; omega
  rw [← hm] at hbu ⊢
  have wu := hbu.wlen
  simp [pf28, pf28_12, pf28_11, pf28_10, h1, h2, h3, wl, w, h4, pf28_8, pf28_7, pf28_6, w2, hu, wu]
  refine WpC.loop (fun c r' s' => ∃ i : Nat, i ≤ n ∧ c = n - i ∧ r' 34 = u ∧ r' 35 = .int .i64 n ∧ r' 36 = .int .i64 i ∧ r' 8 = .int .u64 (num (m.take i)) ∧ s' = s) (m := n) ?_ ?_
  · exact ⟨0, by omega, rfl, by simp, by simp [hml], by simp, by simp [num], rfl⟩
  rintro c r' s' ⟨i, hi, rfl, e34, e35, e36, e8, rfl⟩
  by_cases hlt : i < n
  · have hlt' : (i : Int) < n := by omega
    have w1 : IntKind.i64.wrap ((i : Int) + 1) = ((i + 1 : Nat) : Int) := by rw [wrap_i64] <;> omega
    have hget := List.getElem?_eq_getElem (l := m) (i := i) (by omega)
    obtain ⟨bb, o, cc, opn, hue, hrd⟩ := hbu.elem hget
    subst hue
    have hq := num_lt (m.take i)
    have hq2 : num (m.take i) < 72057594037927936 := by
      refine Nat.lt_of_lt_of_le hq ?_
      have : (m.take i).length ≤ 7 := by simp; omega
      exact Nat.le_trans (Nat.pow_le_pow_right (by decide) this) (by decide)
    have hor := or_byte hq2 (m[i].toNat_lt)
    have hn2 : num (m.take (i + 1)) = num (m.take i) * 256 + m[i].toNat := by
      rw [List.take_add_one, hget]
      exact num_snoc _ _
    rw [Nat.mul_one] at hrd
    rw [← hn2] at hor
    have hil : i < m.length := by omega
    simp [pf28_5, pf28_4, e35, e36, hlt, pf28_2, e34, hil, hrd, pf28_1, e8, pf28_3, w1, hor, -BitVec.toNat_or, -BitVec.toNat_ofInt]
    exact ⟨n - (i + 1), by omega, i + 1, by omega, rfl, by simp, rfl⟩
  obtain rfl : i = n := by omega
  rw [List.take_of_length_le (by omega)] at e8
  simp [pf28_5, pf28_4, e35, e36, pf28_0, e8]

theorem getBytes_no (hb : Bytes s b l) (hl : l.length ≤ 140737488355328) {a : Nat} (ha : a ≤ l.length) (h : l.length < a + 2 ∨ l.length < a + 2 + num ((l.drop a).take 2)) : Ev tab 20 [b, .int .i64 a] s fun v s' => s' = s ∧ v = .tuple [.snil, .int .i64 0, .bool false] := by
  refine Ev.intro rfl rfl rfl ?_
  simp [pf20, pf20_6, pf20_5]
  by_cases h1 : l.length < a + 2
  · refine Ev.mono (get_no hb hl (a := a) (n := 2) (by omega)) ?_
    rintro v s1 ⟨rfl, rfl⟩
    simp [pf20_4, pf20_3, pf20_2]
  · have hq := num_lt ((l.drop a).take 2)
    obtain ⟨q, hqq⟩ : ∃ q, q = num ((l.drop a).take 2) := ⟨_, rfl⟩
    have hq2 : q < 65536 := by
      rw [hqq]
      refine Nat.lt_of_lt_of_le hq ?_
      exact Nat.le_trans (Nat.pow_le_pow_right (by decide) (show ((l.drop a).take 2).length ≤ 2 by simp; omega)) (by decide)
    refine Ev.mono (get_ok hb hl (a := a) (n := 2) (by omega) (by omega)) ?_
    rintro v s1 ⟨rfl, rfl⟩
    rw [← hqq] at h ⊢
    have wl := hb.wlen
    have w1 : IntKind.i64.wrap (q : Int) = q := wrap_i64 (by omega) (by omega)
    have w2 : IntKind.i64.wrap ((l.length : Int) - a) = l.length - a := by rw [wrap_i64] <;> omega
    have w3 : IntKind.i64.wrap ((l.length : Int) - a - 2) = l.length - a - 2 := by rw [wrap_i64] <;> omega
    have h4 : (l.length : Int) - a - 2 < q := by omega
    simp [pf20_4, pf20_3, pf20_2, wl, w1, w2, w3, h4]

theorem getBytes_ok (hb : Bytes s b l) (hl : l.length ≤ 140737488355328) {a q B : Nat} (hq : num ((l.drop a).take 2) = q) (hB : B = a + 2 + q) (h : B ≤ l.length) : Ev tab 20 [b, .int .i64 a] s fun v s' => Ext s s' ∧ ∃ d, v = .tuple [d, .int .i64 B, .bool true] ∧ Own s.ctr s' d ((l.drop (a + 2)).take q) := by
  refine Ev.intro rfl rfl rfl ?_
  simp [pf20, pf20_6, pf20_5]
  have hq1 := num_lt ((l.drop a).take 2)
  have hq2 : q < 65536 := by
    rw [← hq]
    refine Nat.lt_of_lt_of_le hq1 ?_
    exact Nat.le_trans (Nat.pow_le_pow_right (by decide) (show ((l.drop a).take 2).length ≤ 2 by simp; omega)) (by decide)
  refine Ev.mono (get_ok hb hl (a := a) (n := 2) (by omega) (by omega)) ?_
  rintro v s1 ⟨rfl, rfl⟩
  rw [hq]
  have wl := hb.wlen
  obtain ⟨A, hA⟩ : ∃ A, A = a + 2 := ⟨_, rfl⟩
  have w1 : IntKind.i64.wrap (q : Int) = q := wrap_i64 (by omega) (by omega)
  have w2 : IntKind.i64.wrap ((l.length : Int) - a) = l.length - a := by rw [wrap_i64] <;> omega
  have w3 : IntKind.i64.wrap ((l.length : Int) - a - 2) = l.length - a - 2 := by rw [wrap_i64] <;> omega
  have h4 : ¬ (l.length : Int) - a - 2 < q := by omega
  have w5 : IntKind.i64.wrap ((a : Int) + 2) = (A : Int) := by rw [wrap_i64] <;> omega
  have w6 : IntKind.i64.wrap ((A : Int) + q) = (B : Int) := by rw [wrap_i64] <;> omega
  obtain ⟨u, hu, hbu, _, _⟩ := hb.part (lo := A) (hi := B) (k := .i64) (k2 := .i64) (by omega) (by omega)
  rw [show B - A = q by omega, hA] at hbu
  simp [pf20_4, pf20_3, wl, w1, w2, w3, h4, pf20_1, w5, w6, pf20_0, hu]
  refine cont_app_nil hbu (Nat.le_refl _) (by simp; omega) ?_
  intro w s2 hw hk
  have hc := hw.bytes.cells1
  simp
  exact ⟨hk.ext, hw⟩

theorem putBytes_no (hb : Bytes s b l) {d : AV} {m : List UInt8} (hd : Bytes s d m) (hm : 65535 < m.length) : Ev tab 14 [b, d] s fun v s' => s' = s ∧ v = .tuple [.snil, .bool false] := by
  refine Ev.intro rfl rfl rfl ?_
  have wl := hd.wlen
  have h1 : (65535 : Int) < m.length := by omega
  simp [pf14, pf14_4, pf14_3, pf14_2, pf14_1, wl, h1]

theorem putBytes_ok (hb : Bytes s b l) {d : AV} {m : List UInt8} (hd : Bytes s d m) (hm : m.length ≤ 65535) (hl : l.length ≤ 140737488200000) : Ev tab 14 [b, d] s fun v s' => Ext s s' ∧ ∃ w, v = .tuple [w, .bool true] ∧ Own s.ctr s' w (l ++ be 2 m.length ++ m) := by
  refine Ev.intro rfl rfl rfl ?_
  have wl := hd.wlen
  have h1 : ¬ (65535 : Int) < m.length := by omega
  have w1 : IntKind.u64.wrap (m.length : Int) = m.length := by simp [IntKind.wrap, IntKind.signed, IntKind.bits]; omega
  simp [pf14, pf14_4, pf14_3, pf14_2, pf14_0, wl, h1, w1]
  refine Ev.mono (put_ok s hb m.length 2 (by omega) (by omega)) ?_
  rintro v s1 ⟨hx, hw⟩
  simp
  refine cont_app_own hw (hd.ext hx) hx.ctr (by simp; omega) ?_
  intro w s2 hw2 hk
  simp
  exact ⟨hx.then hk, by simpa using hw2⟩
end
end Go.Ab
