/- The pages of memory (layer 8) over the abstract machine: pages that are given out and taken back. -/
import Derived.Test.YtecpmilepjbaeaaDoorP1
namespace Go.Ab
attribute [local simp] lenV

section
variable {s : S} {p bb tb : Nat} {tk : List Bool} {bs : List UInt8}

/-- The lowest page that is free. -/
theorem alloc_yes (h : Mem s p bb tb tk bs) {i : Nat} (hi : tk[i]? = some false) (hall : ∀ j, j < i → tk[j]? = some true) : Ev tab 7 [.ptr p 0] s fun v s' => Chg [bb, tb] s s' ∧ s'.ctr = s.ctr ∧
    v = .tuple [.int .i64 i, .nilIface] ∧ Mem s' p bb tb (tk.set i true) (lay bs (64 * i) pg0) := by
  refine Ev.intro rfl rfl rfl ?_
  have h1 := h.rd1
  have hil : i < tk.length := (List.getElem?_eq_some_iff.1 hi).1
  have hle := h.le
  simp [pf7, pf7_12, pf7_11, pf7_10, h1]
  refine WpC.loop (fun m r' s' => s' = s ∧ r' 0 = .ptr p 0 ∧ r' 9 = .slice tb 0 tk.length tk.length false ∧ r' 10 = .int .i64 tk.length ∧ ∃ j : Nat, r' 11 = .int .i64 j ∧ j ≤ i ∧ m = i - j) (m := i) ?_ ?_
  · simp
    exact ⟨0, by simp⟩
  rintro m r' s' ⟨rfl, e0, e9, e10, j, e11, hj, rfl⟩
  have w1 : IntKind.i64.wrap ((j : Int) + 1) = ((j + 1 : Nat) : Int) := by rw [wrap_i64] <;> omega
  by_cases hji : j < i
  · have h2 := h.rdt (hall j hji)
    simp [pf7_9, pf7_8, pf7_7, pf7_6, pf7_5, pf7_4, e0, e9, e10, e11, show j < tk.length by omega, h2, w1]
    exact ⟨i - (j + 1), by omega, j + 1, by simp, by omega, rfl⟩
  obtain rfl : j = i := by omega
  have h2 := h.rdt hi
  obtain ⟨h3, h4⟩ := h.setT hil true
  have hl := h.len
  obtain ⟨L0, hL0⟩ : ∃ L, L = 64 * j := ⟨_, rfl⟩
  obtain ⟨L1, hL1⟩ : ∃ L, L = 64 * (j + 1) := ⟨_, rfl⟩
  have w2 : IntKind.i64.wrap ((j : Int) * 64) = (L0 : Int) := by rw [wrap_i64] <;> omega
  have w3 : IntKind.i64.wrap (((j : Int) + 1) * 64) = (L1 : Int) := by rw [wrap_i64] <;> omega
  have hs := slice_lh (sz := 1) (b := bb) (o := 0) (len := bs.length) (cap := bs.length) (lo := L0) (hi := L1) (k := .i64) (k2 := .i64) (by omega) (by omega)
  rw [if_neg (by omega)] at hs
  obtain ⟨h5, h6⟩ := h4.setB (o := 0 + L0 * 1) (v := pg0) (by rw [pg0_length]; omega)
  have h7 := h4.rd0
  have e64 : ¬ L1 - L0 = 0 := by omega
  have z64 := pg0_cells (n := L1 - L0) (by omega)
  simp only [Nat.zero_add, Nat.mul_one] at h5 h6 hs
  simp [pf7_9, pf7_8, pf7_7, pf7_6, pf7_5, pf7_4, pf7_3, pf7_2, pf7_1, e0, e9, e10, e11, hil, h2, h3, w1, w2, w3, h1, h7, hs, e64, z64, h5]
  rw [← hL0]
  exact h6

/-- None is free. -/
theorem alloc_no (h : Mem s p bb tb tk bs) (hall : ∀ j, j < tk.length → tk[j]? = some true) : Ev tab 7 [.ptr p 0] s fun v s' => s' = s ∧ v = .tuple [.int .i64 0, .iface 31 (.int .i64 6)] := by
  refine Ev.intro rfl rfl rfl ?_
  have h1 := h.rd1
  have hle := h.le
  simp [pf7, pf7_12, pf7_11, pf7_10, h1]
  refine WpC.loop (fun m r' s' => s' = s ∧ r' 0 = .ptr p 0 ∧ r' 9 = .slice tb 0 tk.length tk.length false ∧ r' 10 = .int .i64 tk.length ∧ ∃ j : Nat, r' 11 = .int .i64 j ∧ j ≤ tk.length ∧ m = tk.length - j) (m := tk.length) ?_ ?_
  · simp
    exact ⟨0, by simp⟩
  rintro m r' s' ⟨rfl, e0, e9, e10, j, e11, hj, rfl⟩
  have w1 : IntKind.i64.wrap ((j : Int) + 1) = ((j + 1 : Nat) : Int) := by rw [wrap_i64] <;> omega
  by_cases hji : j < tk.length
  · have h2 := h.rdt (hall j hji)
    simp [pf7_9, pf7_8, pf7_7, pf7_6, pf7_5, pf7_4, e0, e9, e10, e11, hji, h2, w1]
    exact ⟨tk.length - (j + 1), by omega, j + 1, by simp, by omega, rfl⟩
  simp [pf7_9, pf7_8, pf7_0, e0, e9, e10, e11, hji]

/-- A page is taken back. -/
theorem free_yes (h : Mem s p bb tb tk bs) {i : Nat} (hi : tk[i]? = some true) : Ev tab 8 [.ptr p 0, .int .i64 i] s fun v s' => Chg [bb, tb] s s' ∧ s'.ctr = s.ctr ∧ v = .nilIface ∧ Mem s' p bb tb (tk.set i false) bs := by
  refine Ev.intro rfl rfl rfl ?_
  simp [pf8, pf8_4, pf8_3]
  refine Ev.mono (has_ok h i) ?_
  rintro v s' ⟨rfl, rfl⟩
  have h1 := h.rd1
  have hil : i < tk.length := (List.getElem?_eq_some_iff.1 hi).1
  obtain ⟨h3, h4⟩ := h.setT hil false
  have hd : (decide (0 ≤ (i : Int)) && tk.getD (i : Int).toNat false) = true := by simp [hi]
  rw [hd]
  simp [pf8_1, pf8_0, h1, h3, hil, h4]

theorem free_no (h : Mem s p bb tb tk bs) {k : Int} (hk : (decide (0 ≤ k) && tk.getD k.toNat false) = false) : Ev tab 8 [.ptr p 0, .int .i64 k] s fun v s' => s' = s ∧ v = .iface 31 (.int .i64 4) := by
  refine Ev.intro rfl rfl rfl ?_
  simp [pf8, pf8_4, pf8_3]
  refine Ev.mono (has_ok h k) ?_
  rintro v s' ⟨rfl, rfl⟩
  rw [hk]
  simp [pf8_2]

end
end Go.Ab
