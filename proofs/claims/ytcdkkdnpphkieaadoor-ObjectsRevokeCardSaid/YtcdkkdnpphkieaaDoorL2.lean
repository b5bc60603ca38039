/- Objects' laws (layer 23): a capability that is changed in some way; rows of capabilities. -/
import Derived.Test.YtcdkkdnpphkieaaDoorL1
namespace Go.Ab

theorem wrapU8 (x : Int) : ∃ n : Nat, IntKind.u8.wrap x = (n : Int) ∧ n < 256 := by
  refine ⟨(x % 256).toNat, ?_, by omega⟩
  simp [IntKind.wrap, IntKind.signed, IntKind.bits]
  omega
theorem wrapU32 (x : Int) : ∃ n : Nat, IntKind.u32.wrap x = (n : Int) ∧ n < 4294967296 := by
  refine ⟨(x % 4294967296).toNat, ?_, by omega⟩
  simp [IntKind.wrap, IntKind.signed, IntKind.bits]
  omega
theorem wrapU64 (x : Int) : ∃ n : Nat, IntKind.u64.wrap x = (n : Int) ∧ n < 18446744073709551616 := by
  refine ⟨(x % 18446744073709551616).toNat, ?_, by omega⟩
  simp [IntKind.wrap, IntKind.signed, IntKind.bits]
  omega

set_option maxRecDepth 10000 in
theorem change_ok {c : Cp} (hc : c.Fit) (how : Nat) (hh : how < 256) (s : S) : Ev tab 20 [capA c, .int .u8 how] s fun v s' => Ext s s' ∧ ∃ c' : Cp, c'.Fit ∧ v = capA c' := by
  refine Ev.intro rfl rfl rfl ?_
  have t12 : (how : Int).tmod 12 = ((how % 12 : Nat) : Int) := rfl
  have q12 : IntKind.u8.wrap ((how : Int) / 12) = ((how / 12 : Nat) : Int) := by
    simp [IntKind.wrap, IntKind.signed, IntKind.bits]
    omega
  obtain ⟨m, hm⟩ : ∃ m, m = how % 12 := ⟨_, rfl⟩
  obtain ⟨d, hd⟩ : ∃ d, d = how / 12 := ⟨_, rfl⟩
  rw [← hm] at t12
  rw [← hd] at q12
  have hm12 : m < 12 := by omega
  have r8 : (d : Int).tmod 8 = ((d % 8 : Nat) : Int) := rfl
  have r48 : (d : Int).tmod 48 = ((d % 48 : Nat) : Int) := rfl
  have r3 : (d : Int).tmod 3 = ((d % 3 : Nat) : Int) := rfl
  have r2 : (d : Int).tmod 2 = ((d % 2 : Nat) : Int) := rfl
  obtain ⟨d8, hd8⟩ : ∃ x, x = d % 8 := ⟨_, rfl⟩
  obtain ⟨d48, hd48⟩ : ∃ x, x = d % 48 := ⟨_, rfl⟩
  obtain ⟨d3, hd3⟩ : ∃ x, x = d % 3 := ⟨_, rfl⟩
  obtain ⟨d2, hd2⟩ : ∃ x, x = d % 2 := ⟨_, rfl⟩
  rw [← hd8] at r8
  rw [← hd48] at r48
  rw [← hd3] at r3
  rw [← hd2] at r2
  have n8 : ¬ (d8 : Int) < 0 := by omega
  have n48 : ¬ (d48 : Int) < 0 := by omega
  simp (maxDischargeDepth := 30) [pf20, pf20_13, capA, Cp.cells, pf20_12, pf20_11, t12]
  by_cases h0 : m = 0
  · subst h0
    simp (maxDischargeDepth := 30) [pf20_10, pf20_9, pf20_8, S.read, S.write, q12, r8, n8, pf20_0, -binV_xor]
    rw [binV_xor]
    obtain ⟨n, hn, hn2⟩ := wrapU8 (BitVec.ofInt IntKind.u8.bits (c.r : Int) ^^^ BitVec.ofInt IntKind.u8.bits (IntKind.u8.wrap (2 ^ min d8 IntKind.u8.bits))).toNat
    rw [hn]
    simp (maxDischargeDepth := 30) [S.read, S.write]
    exact ⟨⟨c.p, c.o, n, c.k⟩, ⟨hc.p, hc.o, hn2, hc.k⟩, rfl, rfl, rfl, rfl⟩
  have h0i : ¬ (m : Int) = 0 := by omega
  by_cases h1 : m = 1
  · subst h1
    simp (maxDischargeDepth := 30) [pf20_10, pf20_9, pf20_7, pf20_6, S.read, S.write, q12, r48, n48, pf20_0, -binV_xor]
    rw [binV_xor]
    obtain ⟨n, hn, hn2⟩ := wrapU64 (BitVec.ofInt IntKind.u64.bits (c.k : Int) ^^^ BitVec.ofInt IntKind.u64.bits (IntKind.u64.wrap (2 ^ min d48 IntKind.u64.bits))).toNat
    rw [hn]
    simp (maxDischargeDepth := 30) [S.read, S.write]
    exact ⟨⟨c.p, c.o, c.r, n⟩, ⟨hc.p, hc.o, hc.r, hn2⟩, rfl, rfl, rfl, rfl⟩
  have h1i : ¬ (m : Int) = 1 := by omega
  by_cases h2 : m = 2
  · subst h2
    simp (maxDischargeDepth := 30) [pf20_10, pf20_9, pf20_7, pf20_5, pf20_4, pf20_3, S.read, S.write, q12, r3, pf20_0]
    obtain ⟨n, hn, hn2⟩ := wrapU32 ((c.o : Int) + IntKind.u32.wrap (d3 : Int))
    rw [hn]
    exact ⟨⟨c.p, n, c.r, c.k⟩, ⟨hc.p, hn2, hc.r, hc.k⟩, rfl, rfl, rfl, rfl⟩
  have h2i : ¬ (m : Int) = 2 := by omega
  by_cases h3 : m = 3
  · subst h3
    simp (maxDischargeDepth := 30) [pf20_10, pf20_9, pf20_7, pf20_5, pf20_4, pf20_2, pf20_1, S.read, S.write, q12, r2, pf20_0, -binV_xor]
    rw [binV_xor]
    obtain ⟨n, hn, hn2⟩ := wrapU64 (BitVec.ofInt IntKind.u64.bits (c.p : Int) ^^^ BitVec.ofInt IntKind.u64.bits (IntKind.u64.wrap (d2 : Int))).toNat
    rw [hn]
    simp (maxDischargeDepth := 30) [S.read, S.write]
    exact ⟨⟨n, c.o, c.r, c.k⟩, ⟨hn2, hc.o, hc.r, hc.k⟩, rfl, rfl, rfl, rfl⟩
  have h3i : ¬ (m : Int) = 3 := by omega
  simp (maxDischargeDepth := 30) [h0, h0i, h1, h1i, h2, h2i, h3, h3i, pf20_10, pf20_9, pf20_7, pf20_5, pf20_4, pf20_2, S.read, S.write, pf20_0]
  exact ⟨c, hc, rfl, rfl, rfl, rfl⟩
end Go.Ab
