/- 'PagesScript' over the abstract machine: the whole. -/
import Derived.Test.YtecpmilepjbaeaaP13
namespace Go.Ab

theorem inS_out {n : Nat} {l : List Nat} {v : AV} (h : v.inS n) (hl : ∀ x ∈ l, n ≤ x) : v.out l := by
  cases v <;> first | trivial | exact fun hx => by have := hl _ hx; simp only [AV.inS] at h; omega

/-- A deed of a script, as it is read. -/
def ActAt (s : S) (A i : Nat) : Prop := ∃ (op pg at' : Int) (data : AV) (l : List UInt8), s.read A (0 + i * 4) 4 = some [.int .u8 op, .int .i8 pg, .int .i8 at', data] ∧ (0 ≤ op ∧ op < 256) ∧ (-128 ≤ pg ∧ pg < 128) ∧ (-128 ≤ at' ∧ at' < 128) ∧ Bytes s data l ∧ l.length ≤ 140737488355328

section
variable {s0 s s' : S} {p bb tb xb xt xs : Nat} {tk : List Bool} {bs : List UInt8} {sl : List AV}

set_option maxRecDepth 10000 in
theorem round_ok (h : Scene s0 s p bb tb xb xt xs tk bs sl) (r : Regs) {A i len cap : Nat} (hA : A < s0.ctr) (hi : i < len) (hact : ActAt s0 A i)
    (e5 : r 5 = .int .i64 tk.length) (e6 : r 6 = .ptr p 0) (e7 : r 7 = .ptr xb 0) (e36 : r 36 = .slice A 0 len cap false) (e38 : r 38 = .int .i64 i) (K : KP)
    (hK : ∀ r' s' tk' bs' sl', Scene s0 s' p bb tb xb xt xs tk' bs' sl' → tk'.length = tk.length → r' 1 = r 1 → r' 5 = r 5 → r' 6 = r 6 → r' 7 = r 7 → r' 36 = r 36 → r' 37 = r 37 → r' 38 = r 38 → K .normal r' s') : WpC tab pf4_44 r s K := by
  obtain ⟨op, k, a, data, l, hrd, hop, hk, ha, hd, hl⟩ := hact
  have hrd' : s.read A (0 + i * 4) 4 = some [.int .u8 op, .int .i8 k, .int .i8 a, data] := by rw [read_ext h.ext hA, hrd]
  have fd := hd.flat
  have hdb := hd.below
  simp only [Nat.zero_add] at hrd'
  have wk : IntKind.i64.wrap k = k := wrap_i64 (by omega) (by omega)
  have wa : IntKind.i64.wrap a = a := wrap_i64 (by omega) (by omega)
  obtain ⟨s1, hs1⟩ : ∃ s1, s1 = (s.new (.cells [.int .u8 0, .int .i8 0, .int .i8 0, .snil] 0 false)).set s.ctr (some (.cells [.int .u8 op, .int .i8 k, .int .i8 a, data] 0 false)) := ⟨_, rfl⟩
  have hx1 : Ext s s1 := by rw [hs1]; simp
  have hS := h.grow hx1
  have hab : s1.get s.ctr = some (.cells [.int .u8 op, .int .i8 k, .int .i8 a, data] 0 false) := by rw [hs1]; simp
  have hc1 : s1.ctr = s.ctr + 1 := by rw [hs1]; rfl
  have hwr : (s.new (.cells [.int .u8 0, .int .i8 0, .int .i8 0, .snil] 0 false)).write s.ctr 0 [.int .u8 op, .int .i8 k, .int .i8 a, data] = some s1 := by
    rw [hs1]; simp [S.write, fd]
  have q0 : s1.read s.ctr 0 1 = some [.int .u8 op] := read_one hab rfl
  have q1 : s1.read s.ctr 1 1 = some [.int .i8 k] := read_one hab rfl
  have q2 : s1.read s.ctr 2 1 = some [.int .i8 a] := read_one hab rfl
  have t0 := hS.D.rd0
  have hlo := h.lo
  have hM := h.M.lt
  have hout : data.out [bb] := inS_out hdb (by simp; omega)
  have hd1 : Bytes s1 data l := hd.ext (h.ext.trans hx1)
  have htm : Int.tmod op 4 = op % 4 := Int.tmod_eq_emod_of_nonneg (by omega)
  obtain ⟨o4, ho4⟩ : ∃ o4, o4 = op % 4 := ⟨_, rfl⟩
  rw [← ho4] at htm
  have key : ∀ r2 : Regs, r2 12 = .bool (decide (0 ≤ k) && tk.getD k.toNat false) → r2 1 = r 1 → r2 5 = r 5 → r2 6 = r 6 → r2 7 = r 7 → r2 36 = r 36 → r2 37 = r 37 → r2 38 = r 38 → r2 9 = .ptr s.ctr 0 → r2 10 = .int .i64 k → r2 11 = .int .i64 a → r2 64 = .int .u8 o4 → WpC tab pf4_39 r2 s1 K := by
    intro r2 f12 f1 f5 f6 f7 f36 f37 f38 f9 f10 f11 f64
    have hK2 : ∀ r' s' tk' bs' sl', Scene s0 s' p bb tb xb xt xs tk' bs' sl' → tk'.length = tk.length → r' 1 = r2 1 → r' 5 = r2 5 → r' 6 = r2 6 → r' 7 = r2 7 → r' 36 = r2 36 → r' 37 = r2 37 → r' 38 = r2 38 → K .normal r' s' := by
      intro r' s' tk' bs' sl' a1 a2 a3 a4 a5 a6 a7 a8 a9
      exact hK r' s' tk' bs' sl' a1 a2 (by rw [a3, f1]) (by rw [a4, f5]) (by rw [a5, f6]) (by rw [a6, f7]) (by rw [a7, f36]) (by rw [a8, f37]) (by rw [a9, f38])
    by_cases c0 : o4 = 0
    · subst c0; exact deed0 hS r2 (by rw [f6, e6]) (by rw [f7, e7]) f64 K hK2
    by_cases c1 : o4 = 1
    · subst c1; exact deed1 hS r2 k (by rw [f6, e6]) (by rw [f7, e7]) f10 f12 f64 K hK2
    by_cases c2 : o4 = 2
    · subst c2
      exact deed2 hS r2 k a ha hab (by omega) (by simp; omega) hd1 hl (.inr (by cases data <;> first | trivial | exact hdb)) (by rw [f6, e6]) (by rw [f7, e7]) f9 f10 f11 f12 f64 hout K hK2
    · exact deed3 hS r2 k a ha hab (by omega) hd1 hl (by rw [f6, e6]) (by rw [f7, e7]) f9 f10 f11 f12 o4 (by omega) f64 K hK2
  by_cases hk0 : 0 ≤ k
  · obtain ⟨j, rfl⟩ := Int.eq_ofNat_of_zero_le hk0
    by_cases hj : j < tk.length
    · have t1 := hS.D.rdt (List.getElem?_eq_getElem hj)
      simp [pf4_44, pf4_43, e36, e38, hi, hrd', fd, hwr, pf4_42, q1, q2, wk, wa, pf4_41, hj, e5, e7, t0, t1, pf4_40, q0, htm]
      refine key _ ?_ ?_ ?_ ?_ ?_ ?_ ?_ ?_ ?_ ?_ ?_ ?_ <;> simp [e5, e7, hj]
    · simp [pf4_44, pf4_43, e36, e38, hi, hrd', fd, hwr, pf4_42, q1, q2, wk, wa, pf4_41, hj, e5, e7, t0, pf4_40, q0, htm]
      refine key _ ?_ ?_ ?_ ?_ ?_ ?_ ?_ ?_ ?_ ?_ ?_ ?_ <;> simp [e5, e7, hj]
  · simp [pf4_44, pf4_43, e36, e38, hi, hrd', fd, hwr, pf4_42, q1, q2, wk, wa, pf4_41, hk0, e5, e7, pf4_40, q0, htm]
    refine key _ ?_ ?_ ?_ ?_ ?_ ?_ ?_ ?_ ?_ ?_ ?_ ?_ <;> simp [e5, e7, hk0]

end
end Go.Ab
