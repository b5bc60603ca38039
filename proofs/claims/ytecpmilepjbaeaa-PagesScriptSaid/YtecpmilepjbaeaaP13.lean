/- 'PagesScript' over the abstract machine: bytes are read; a round. -/
import Derived.Test.YtecpmilepjbaeaaP12
namespace Go.Ab
section
variable {s0 s s' : S} {p bb tb xb xt xs : Nat} {tk : List Bool} {bs : List UInt8} {sl : List AV}

/-- A part of a page of the law's model. -/
theorem page_part {s : S} {id : Nat} {x : List UInt8} (h : s.get id = some (.cells (u8s x) 0 false)) (hl : x.length = 64) (hlt : id < s.ctr) {a n : Nat} (hn : a + n ≤ 64) : ∃ o, (if 64 = a then 0 else 0 + a * 1) = o ∧ Bytes s (.slice id o n (64 - a) false) ((x.drop a).take n) := by
  have key : ∀ o, o + n ≤ x.length → ((x.drop o).take n).length = n → Bytes s (.slice id o n (64 - a) false) ((x.drop o).take n) := by
    intro o h1 h2
    refine ⟨by simp [lenV, h2], ?_, hlt, .inr (.inr ⟨_, _, _, _, _, rfl⟩)⟩
    simp only [S.cellsOf, Nat.mul_one]
    exact read_u8 h h1
  by_cases hq : 64 = a
  · have hn0 : n = 0 := by omega
    subst hn0
    have := key 0 (by omega) (by simp)
    exact ⟨0, by rw [if_pos hq], by simpa using this⟩
  · exact ⟨a, by rw [if_neg hq]; omega, key a (by omega) (by simp; omega)⟩

set_option maxRecDepth 10000 in
/-- Bytes are read. -/
theorem deed3 (h : Scene s0 s p bb tb xb xt xs tk bs sl) (r : Regs) (k a : Int) (ha : -128 ≤ a ∧ a < 128) {ab : Nat} {c0 c1 c2 data : AV} {l : List UInt8} (hab : s.get ab = some (.cells [c0, c1, c2, data] 0 false)) (hlt : ab < s.ctr) (hd : Bytes s data l) (hl : l.length ≤ 140737488355328)
    (e6 : r 6 = .ptr p 0) (e7 : r 7 = .ptr xb 0) (e9 : r 9 = .ptr ab 0) (e10 : r 10 = .int .i64 k) (e11 : r 11 = .int .i64 a) (e12 : r 12 = .bool (decide (0 ≤ k) && tk.getD k.toNat false)) (op : Int) (hop : 3 = op) (e64 : r 64 = .int .u8 op) (K : KP)
    (hK : ∀ r' s' tk' bs' sl', Scene s0 s' p bb tb xb xt xs tk' bs' sl' → tk'.length = tk.length → r' 1 = r 1 → r' 5 = r 5 → r' 6 = r 6 → r' 7 = r 7 → r' 36 = r 36 → r' 37 = r 37 → r' 38 = r 38 → K .normal r' s') : WpC tab pf4_39 r s K := by
  subst hop
  have hrd : s.read ab 3 1 = some [data] := read_one hab rfl
  have wlen := hd.wlen
  have w64 : IntKind.i64.wrap (64 - (l.length : Int)) = 64 - l.length := by rw [wrap_i64] <;> omega
  simp [pf4_39, pf4_38, e64, pf4_32, pf4_31, pf4_24, pf4_23, pf4_15, e6, e9, e10, e11, hrd, wlen]
  rcases has_cases tk k with ⟨i, rfl, hi⟩ | hk
  · rw [has_true hi] at e12
    have hil : i < tk.length := (List.getElem?_eq_some_iff.1 hi).1
    by_cases hf : 0 ≤ a ∧ a + l.length ≤ 64
    · obtain ⟨q, rfl⟩ := Int.eq_ofNat_of_zero_le hf.1
      refine Ev.mono (read_in h.M hi (a := q) (n := l.length) (by omega)) ?_
      rintro v s1 ⟨hx1, d, rfl, hd1, _⟩
      have hS := h.grow hx1
      have hrd1 : s1.read ab 3 1 = some [data] := read_one (by rw [hx1.get ab hlt, hab]) rfl
      have h1 : (l.length : Int) ≤ 64 := by omega
      have h2 : (q : Int) ≤ 64 - l.length := by omega
      obtain ⟨id, g1, g2, g3, g4, g5, g6⟩ := hS.D.pg i hi
      have r1 := hS.D.rd1
      have r2 := hS.D.rds g1
      obtain ⟨m, hm⟩ : ∃ m, m = q + l.length := ⟨_, rfl⟩
      have wq : IntKind.i64.wrap ((q : Int) + l.length) = (m : Int) := by rw [wrap_i64] <;> omega
      have hs := slice_lh (sz := 1) (b := id) (o := 0) (len := 64) (cap := 64) (lo := q) (hi := m) (k := .i64) (k2 := .i64) (by omega) (by omega)
      obtain ⟨o, ho, hpart⟩ := page_part g2 g3 g4 (a := q) (n := l.length) (by omega)
      rw [ho, show m - q = l.length by omega] at hs
      have hsame : ((page bs i).drop q).take l.length = (bs.drop (64 * i + q)).take l.length := by
        simp only [page, List.drop_take, List.take_take, List.drop_drop]
        congr 1
        omega
      rw [hsame] at hpart
      have k1 := hpart.cvbs_at.1
      have k2 := hd1.cvbs_at.1
      have hl2 := hS.D.len
      simp [pf4_14, pf4_13, e11, e9, hrd1, wlen, h1, w64, h2, pf4_12, e12, e7, r1, e10, hil, hl2, r2, wq, hs, k1, k2, -evI_cvbs, -wpI_cvbs]
      refine hK _ _ _ _ _ hS ?_ ?_ ?_ ?_ ?_ ?_ ?_ ?_
      · rfl
      all_goals simp
    · refine Ev.mono (read_out h.M hi (a := a) (n := l.length) (by omega)) ?_
      rintro v s1 ⟨rfl, rfl⟩
      have key : ∀ r2 : Regs, r2 1 = r 1 ∧ r2 5 = r 5 ∧ r2 6 = r 6 ∧ r2 7 = r 7 ∧ r2 36 = r 36 ∧ r2 37 = r 37 ∧ r2 38 = r 38 → K .normal r2 s1 :=
        fun r2 ⟨f1, f2, f3, f4, f5, f6, f7⟩ => hK r2 s1 tk bs sl h rfl f1 f2 f3 f4 f5 f6 f7
      by_cases h0 : 0 ≤ a
      · by_cases h1 : (l.length : Int) ≤ 64
        · have h2 : ¬ a ≤ 64 - l.length := by omega
          simp [pf4_14, pf4_13, e11, e9, hrd, wlen, h0, h1, w64, h2, pf4_12, e12]
          refine ev_is ?_
          simp [e12]
          apply key; simp
        · simp [pf4_14, pf4_13, e11, e9, hrd, wlen, h0, h1, w64, pf4_12, e12]
          refine ev_is ?_
          simp [e12]
          apply key; simp
      · simp [pf4_14, pf4_13, e11, e9, hrd, wlen, h0, w64, pf4_12, e12]
        refine ev_is ?_
        simp [e12]
        apply key; simp
  · rw [hk] at e12
    refine Ev.mono (read_no h.M hk a l.length) ?_
    rintro v s1 ⟨rfl, rfl⟩
    have key : ∀ r2 : Regs, r2 1 = r 1 ∧ r2 5 = r 5 ∧ r2 6 = r 6 ∧ r2 7 = r 7 ∧ r2 36 = r 36 ∧ r2 37 = r 37 ∧ r2 38 = r 38 → K .normal r2 s1 :=
      fun r2 ⟨f1, f2, f3, f4, f5, f6, f7⟩ => hK r2 s1 tk bs sl h rfl f1 f2 f3 f4 f5 f6 f7
    by_cases h0 : 0 ≤ a
    · by_cases h1 : (l.length : Int) ≤ 64
      · simp [pf4_14, pf4_13, e11, e9, hrd, wlen, h0, h1, w64, pf4_12, e12]
        refine ev_is ?_
        simp [e12]
        apply key; simp
      · simp [pf4_14, pf4_13, e11, e9, hrd, wlen, h0, h1, w64, pf4_12, e12]
        refine ev_is ?_
        simp [e12]
        apply key; simp
    · simp [pf4_14, pf4_13, e11, e9, hrd, wlen, h0, w64, pf4_12, e12]
      refine ev_is ?_
      simp [e12]
      apply key; simp
end
end Go.Ab
