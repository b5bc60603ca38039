/- 'PagesCount' over the abstract machine. -/
import Derived.Test.YtecpmilepjbaeaaP4
namespace Go.Ab

theorem set_next (i n : Nat) (h : i < n) : (List.replicate i true ++ List.replicate (n - i) false).set i true = List.replicate (i + 1) true ++ List.replicate (n - (i + 1)) false := by
  rw [show n - i = (n - (i + 1)) + 1 by omega, List.replicate_succ, List.set_append_right _ _ (by simp)]
  simp only [List.length_replicate, Nat.sub_self, List.set_cons_zero]
  rw [List.replicate_succ', List.append_assoc]
  rfl

theorem pagesCount_ok (n : Int) (hn : -9223372036854775808 ≤ n ∧ n < 9223372036854775808) (s : S) : Ev tab 6 [.int .i64 n] s fun v s' => v = .bool true := by
  refine Ev.intro rfl rfl rfl ?_
  obtain ⟨m, hm, hm2⟩ : ∃ m : Nat, max 0 (min n 4096) = (m : Int) ∧ m ≤ 4096 := ⟨(max 0 (min n 4096)).toNat, by omega, by omega⟩
  have e1 : (if (if 4096 < n then (4096 : Int) else n) > 0 then (if 4096 < n then (4096 : Int) else n) else 0) = (m : Int) := by omega
  simp [pf6, pf6_18, pf6_17, pf6_16]
  refine ev_awake08 ?_
  simp [pf6_14, foldO, minV, maxV, e1, pf6_13]
  refine Ev.mono (of_ok n _) ?_
  rintro v s1 ⟨x1, p, bb, tb, c1, c2, c3, rfl, hM⟩
  rw [hm, Int.toNat_natCast] at hM
  obtain ⟨Z, hZ⟩ : ∃ Z : List UInt8, Z = List.replicate (64 * m) 0 := ⟨_, rfl⟩
  rw [← hZ] at hM
  simp [pf6_12, pf6_10]
  refine Ev.mono (left_ok hM) ?_
  rintro v s2 ⟨rfl, rfl⟩
  simp [pf6_11, pf6_8]
  have hM0 := hM
  clear hM
  refine WpC.loop (fun j r' s' => ∃ i : Nat, i ≤ m ∧ i ≤ 20 ∧ j = 20 - i ∧ r' 5 = .int .i64 i ∧ r' 4 = .ptr p 0 ∧ r' 3 = .int .i64 m ∧ Mem s' p bb tb (List.replicate i true ++ List.replicate (m - i) false) Z) (m := 20) ?_ ?_
  · exact ⟨0, by omega, by omega, rfl, by simp, by simp, by simp, by simpa using hM0⟩
  rintro j r' s' ⟨i, hi, hi2, rfl, e5, e4, e3, hM⟩
  have hmin : (if (20 : Int) < m then (20 : Int) else m) = ((min m 20 : Nat) : Int) := by omega
  obtain ⟨c, hc⟩ : ∃ c, c = min m 20 := ⟨_, rfl⟩
  rw [← hc] at hmin
  by_cases hlt : i < c
  · have hlt' : (i : Int) < c := by omega
    have w1 : IntKind.i64.wrap ((i : Int) + 1) = ((i + 1 : Nat) : Int) := by rw [wrap_i64] <;> omega
    obtain ⟨q, hq⟩ : ∃ q, q = m - i := ⟨_, rfl⟩
    have w2 : IntKind.i64.wrap ((m : Int) - i) = (q : Int) := by rw [wrap_i64] <;> omega
    have w3 : IntKind.i64.wrap ((q : Int) - 1) = ((m - (i + 1) : Nat) : Int) := by rw [wrap_i64] <;> omega
    simp [pf6_7, pf6_6, e5, e3, foldO, minV, hmin, hlt', pf6_4, pf6_3, e4]
    refine Ev.mono (alloc_yes hM (i := i) ?_ ?_) ?_
    · simp [List.getElem?_append, List.getElem?_replicate, show 0 < m - i by omega]
    · intro x hx
      simp [List.getElem?_append, List.getElem?_replicate, hx]
    rintro v s3 ⟨_, _, rfl, hM3⟩
    rw [hZ, lay_zeros _ _ (by omega), ← hZ, set_next _ _ (by omega)] at hM3
    simp [pf6_2, e5, e4]
    refine Ev.mono (left_ok hM3) ?_
    rintro v s4 ⟨rfl, rfl⟩
    have hcount : (List.replicate (i + 1) true ++ List.replicate (m - (i + 1)) false).count false = m - (i + 1) := by
      simp [List.count_append, List.count_replicate]
    rw [hcount]
    simp [e3, e5, w2, w3, pf6_5, w1]
    exact ⟨20 - (i + 1), by omega, i + 1, by omega, by omega, rfl, by simp, by simp [e4], hM3⟩
  have hlt' : ¬ (i : Int) < c := by omega
  simp [pf6_7, pf6_6, e5, e3, foldO, minV, hmin, hlt', pf6_0]
end Go.Ab
