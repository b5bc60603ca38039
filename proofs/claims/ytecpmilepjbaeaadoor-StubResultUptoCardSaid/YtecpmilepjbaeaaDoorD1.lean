/- 'PagesLowest' over the abstract machine. -/
import Derived.Test.YtecpmilepjbaeaaDoorP2
import Derived.Test.YtecpmilepjbaeaaDoorAbOwn
namespace Go.Ab

theorem ev_num {s : S} {n : Int} {Q : AV → S → Prop} (h : Q (.int .i64 n) s) : Ev tab 9 [.iface 31 (.int .i64 n)] s Q := Ev.prim (p := numPrim) rfl (by simp [numPrim]) h
theorem ev_num0 {s : S} {Q : AV → S → Prop} (h : Q (.int .i64 0) s) : Ev tab 9 [.nilIface] s Q := Ev.prim (p := numPrim) rfl (by simp [numPrim]) h
theorem ev_awake08 {s : S} {Q : AV → S → Prop} (h : Q (.bool true) s) : Ev tab 5 [] s Q := Ev.prim (p := closedPrim [] (.bool true)) rfl rfl h

theorem lay_zeros (L o : Nat) (h : o + 64 ≤ L) : lay (List.replicate L 0) o pg0 = List.replicate L 0 := by
  unfold lay pg0
  rw [List.take_replicate, List.drop_replicate]
  simp only [List.length_replicate, List.replicate_append_replicate]
  congr 1
  omega

theorem set_next (i n : Nat) (h : i < n) : (List.replicate i true ++ List.replicate (n - i) false).set i true = List.replicate (i + 1) true ++ List.replicate (n - (i + 1)) false := by
  rw [show n - i = (n - (i + 1)) + 1 by omega, List.replicate_succ, List.set_append_right _ _ (by simp)]
  simp only [List.length_replicate, Nat.sub_self, List.set_cons_zero]
  rw [List.replicate_succ', List.append_assoc]
  rfl

/-- The lowest page that is free is this one, or none is. -/
def Low (m : Nat) (tk : List Bool) (low : Nat) : Prop := tk.length = m ∧ low ≤ m ∧ (∀ j, j < low → tk[j]? = some true) ∧ (low < m → tk[low]? = some false)

theorem Low.free {m : Nat} {tk : List Bool} {low k : Nat} (h : Low m tk low) (hk : k < m) : Low m (tk.set k false) (min low k) := by
  obtain ⟨h1, h2, h3, h4⟩ := h
  refine ⟨by simp [h1], by omega, fun j hj => ?_, fun hlt => ?_⟩
  · rw [List.getElem?_set_ne (by omega)]
    exact h3 j (by omega)
  · by_cases he : k ≤ low
    · rw [show min low k = k by omega, List.getElem?_set_self (by omega)]
    · rw [show min low k = low by omega, List.getElem?_set_ne (by omega)]
      exact h4 (by omega)

theorem pagesLowest_ok (b : AV) (l : List UInt8) (a : Int) (ha : 0 ≤ a ∧ a < 256) (s : S) (hb : Bytes s b l) (hl : l.length ≤ 140737488355328) : Ev tab 3 [.int .u8 a, b] s fun v s' => v = .bool true := by
  refine Ev.intro rfl rfl rfl ?_
  obtain ⟨n, rfl⟩ := Int.eq_ofNat_of_zero_le ha.1
  obtain ⟨q, hq⟩ : ∃ q, q = n % 20 := ⟨_, rfl⟩
  obtain ⟨m, hm⟩ : ∃ m, m = 1 + q := ⟨_, rfl⟩
  have hmp : 0 < m := by omega
  have hm20 : m ≤ 20 := by omega
  have hw2 : IntKind.i64.wrap (q : Int) = (q : Int) := wrap_i64 (by omega) (by omega)
  have hw3 : IntKind.i64.wrap (1 + (q : Int)) = (m : Int) := by rw [wrap_i64] <;> omega
  have ht : (n : Int).tmod 20 = (q : Int) := by
    rw [Int.tmod_eq_emod_of_nonneg (by omega)]; omega
  simp [pf3, pf3_26, pf3_25, pf3_24]
  refine ev_awake08 ?_
  simp [pf3_22, pf3_21, pf3_20, ht, hw2, hw3]
  refine Ev.mono (of_ok m _) ?_
  rintro v s1 ⟨x1, p, bb, tb, c1, c2, c3, rfl, hM⟩
  rw [show (max 0 (min (m : Int) 4096)).toNat = m by omega] at hM
  obtain ⟨Z, hZ⟩ : ∃ Z : List UInt8, Z = List.replicate (64 * m) 0 := ⟨_, rfl⟩
  rw [← hZ] at hM
  simp [pf3_19]
  have hb1 := hb.ext x1
  have hout : b.out [bb, tb] := inS_out hb.below (by simp; omega)
  have hM0 := hM
  clear hM
  refine WpC.loop (fun j r' s' => ∃ i : Nat, i ≤ m ∧ j = m - i ∧ r' 21 = .int .i64 i ∧ r' 20 = .int .i64 m ∧ r' 6 = .ptr p 0 ∧ r' 5 = .int .i64 m ∧ r' 1 = b ∧ Mem s' p bb tb (List.replicate i true ++ List.replicate (m - i) false) Z ∧ Bytes s' b l) (m := m) ?_ ?_
  · exact ⟨0, by omega, rfl, by simp, by simp, by simp, by simp, by simp, by simpa using hM0, hb1⟩
  rintro j r' s' ⟨i, hi, rfl, e21, e20, e6, e5, e1, hM, hb2⟩
  by_cases hlt : i < m
  · have hlt' : (i : Int) < m := by omega
    have w1 : IntKind.i64.wrap ((i : Int) + 1) = ((i + 1 : Nat) : Int) := by rw [wrap_i64] <;> omega
    simp [pf3_18, e21, e20, hlt', pf3_17, pf3_15, e6]
    refine Ev.mono (alloc_yes hM (i := i) ?_ ?_) ?_
    · simp [List.getElem?_append, List.getElem?_replicate, show 0 < m - i by omega]
    · intro x hx
      simp [List.getElem?_append, List.getElem?_replicate, hx]
    rintro v s3 ⟨hc, _, rfl, hM3⟩
    rw [hZ, lay_zeros _ _ (by omega), ← hZ, set_next _ _ (by omega)] at hM3
    simp [pf3_16, e21, w1]
    exact ⟨m - (i + 1), by omega, i + 1, by omega, rfl, by simp, by simp [e20], by simp [e6], by simp [e5], by simp [e1], hM3, hb2.chg hc hout⟩
  obtain rfl : i = m := by omega
  simp only [Nat.sub_self, List.replicate_zero, List.append_nil] at hM
  have hlen := hb2.wlen
  simp [pf3_18, e21, e20, pf3_17, pf3_14, e5, pf3_13, pf3_12, e1, hlen]
  have hL0 : Low i (List.replicate i true) i := ⟨by simp, Nat.le_refl _, fun j hj => by simp [List.getElem?_replicate, hj], fun h => absurd h (Nat.lt_irrefl _)⟩
  have hM1 := hM
  clear hM e21 e20
  refine WpC.loop (fun j r2 s2 => ∃ (k low : Nat) (tk : List Bool), k ≤ l.length ∧ j = l.length - k ∧ r2 32 = .int .i64 k ∧ r2 31 = .int .i64 l.length ∧ r2 30 = b ∧ r2 6 = .ptr p 0 ∧ r2 5 = .int .i64 i ∧ r2 7 = .int .i64 low ∧ Mem s2 p bb tb tk Z ∧ Bytes s2 b l ∧ Low i tk low) (m := l.length) ?_ ?_
  · exact ⟨0, i, _, by omega, rfl, by simp, by simp, by simp, by simp [e6], by simp [e5], by simp, hM1, hb2, hL0⟩
  clear hM1 hL0 hb2 hlen e6 e5 e1 hM0
  rintro j r2 s2 ⟨k, low, tk, hk, rfl, e32, e31, e30, e6, e5, e7, hM, hb2, hL⟩
  by_cases hkl : k < l.length
  · have hkl' : (k : Int) < l.length := by omega
    have w1 : IntKind.i64.wrap ((k : Int) + 1) = ((k + 1 : Nat) : Int) := by rw [wrap_i64] <;> omega
    obtain ⟨B, o, c, opn, rfl, hrd⟩ := hb2.elem (List.getElem?_eq_getElem hkl)
    rw [Nat.mul_one] at hrd
    obtain ⟨x, hx⟩ : ∃ x : Nat, x = (l[k]).toNat := ⟨_, rfl⟩
    have hx2 : x < 256 := by rw [hx]; exact UInt8.toNat_lt _
    rw [← hx] at hrd
    obtain ⟨y, hy⟩ : ∃ y, y = x % i := ⟨_, rfl⟩
    have hyi : y < i := by rw [hy]; exact Nat.mod_lt _ hmp
    have wx : IntKind.i64.wrap (x : Int) = x := wrap_i64 (by omega) (by omega)
    have hmod : (x : Int).tmod (i : Int) = (y : Int) := by
      rw [Int.tmod_eq_emod_of_nonneg (by omega), hy]; rfl
    have hi0 : ¬ (i : Int) = 0 := by omega
    have hi1 : ¬ i = 0 := by omega
    simp [pf3_11, pf3_10, e32, e31, hkl, pf3_9, pf3_7, e30, hrd, pf3_6, e6, e5, wx, hmod, hi0, hi1]
    have hyl : y < tk.length := by rw [hL.1]; exact hyi
    have hmn : (if (y : Int) < low then (y : Int) else low) = ((min low y : Nat) : Int) := by omega
    cases hty : tk[y] with
    | true =>
      refine Ev.mono (free_yes hM (i := y) (by rw [List.getElem?_eq_getElem hyl, hty])) ?_
      rintro v s3 ⟨hc, _, rfl, hM3⟩
      simp [pf3_5, e7, e5, wx, hmod, hi0, hi1, foldO, minV, hmn, pf3_8, e32, w1]
      exact ⟨l.length - (k + 1), by omega, k + 1, by omega, rfl, by omega, e31, e30, e6, min low y, by split <;> omega, _, hM3, hb2.chg hc hout, hL.free hyi⟩
    | false =>
      refine Ev.mono (free_no hM (k := y) (by simp [List.getElem?_eq_getElem hyl, hty])) ?_
      rintro v s3 ⟨rfl, rfl⟩
      simp [pf3_8, e32, w1]
      exact ⟨l.length - (k + 1), by omega, k + 1, by omega, rfl, by omega, e31, e30, e6, e5, low, e7, tk, hM, hb2, hL⟩
  have hkl' : ¬ (k : Int) < l.length := by omega
  simp [pf3_11, pf3_10, e32, e31, hkl, pf3_4, e6]
  obtain ⟨g1, g2, g3, g4⟩ := hL
  by_cases hlow : low = i
  · refine Ev.mono (alloc_no hM (fun j hj => g3 j (by omega))) ?_
    rintro v s3 ⟨rfl, rfl⟩
    simp [pf3_3, pf3_2, e7, e5, hlow, pf3_1]
    refine ev_num ?_
    simp
  · refine Ev.mono (alloc_yes hM (i := low) (g4 (by omega)) g3) ?_
    rintro v s3 ⟨_, _, rfl, _⟩
    have hd : decide ((low : Int) = i) = false := by simp; omega
    simp [pf3_3, pf3_2, e7, e5, hd, pf3_0]
end Go.Ab
