/- Numbers and texts as bytes (layer 2) over the abstract machine: Put. -/
import Derived.Test.YtecpmilepjbaeaaDoorTab
import Derived.Test.YtecpmilepjbaeaaDoorAbBe
namespace Go.Ab

set_option maxRecDepth 10000 in
theorem put_ok {b : AV} {l : List UInt8} (s : S) (hb : Bytes s b l) (v n : Nat) (hn : 1 ≤ n ∧ n ≤ 8) (hl : l.length ≤ 140737488355320) : Ev tab 21 [b, .int .u64 v, .int .i64 n] s fun w s' => Ext s s' ∧ Own s.ctr s' w (l ++ be n v) := by
  refine Ev.intro rfl rfl rfl ?_
  simp [pf21, pf21_10]
  refine cont_app_nil hb (Nat.le_refl _) (by omega) ?_
  intro w s1 hw hk
  have n1 : ¬ (n : Int) < 1 := by omega
  have n2 : ¬ (8 : Int) < n := by omega
  have w0 : IntKind.i64.wrap ((n : Int) - 1) = (n : Int) - 1 := by rw [wrap_i64] <;> omega
  simp [pf21_9, pf21_7, n1, n2, pf21_8, pf21_5, w0]
  refine WpC.loop (fun m r' s' => ∃ (w : AV) (x : List UInt8), m ≤ n ∧ r' 8 = .int .i64 ((m : Int) - 1) ∧ r' 7 = w ∧ r' 1 = .int .u64 v ∧ Own s.ctr s' w (l ++ x) ∧ x ++ be m v = be n v ∧ Keep s.ctr s s') (m := n) ?_ ?_
  · exact ⟨w, [], Nat.le_refl _, by simp, by simp, by simp, by simpa using hw, rfl, hk⟩
  clear hw hk
  rintro m r' s' ⟨w, x, hm, e8, e7, e1, hw, hx, hk⟩
  cases m with
  | zero =>
    simp only [be, List.append_nil] at hx
    subst hx
    simp [pf21_4, pf21_3, e8, pf21_0, e7]
    exact ⟨hk.ext, hw⟩
  | succ i =>
    have h0 : (0 : Int) ≤ ((i + 1 : Nat) : Int) - 1 := by omega
    have h1 : ((i + 1 : Nat) : Int) - 1 = (i : Int) := by omega
    rw [h1] at e8
    have w1 : IntKind.i64.wrap (8 * (i : Int)) = 8 * i := by rw [wrap_i64] <;> omega
    have w2 : IntKind.i64.wrap ((i : Int) - 1) = (i : Int) - 1 := by rw [wrap_i64] <;> omega
    have h2 : ¬ 8 * (i : Int) < 0 := by omega
    have h3 := shr_byte v i (by omega)
    have fw := hw.flat
    obtain ⟨y, hy⟩ : ∃ y, y = UInt8.ofNat (v / 256 ^ i) := ⟨_, rfl⟩
    rw [← hy] at h3
    simp [pf21_4, pf21_3, e8, pf21_1, e7, e1, w1, h2, h3]
    have hc := hk.ctr
    refine cont_app_own (m := [y]) (hw.ext (by simp)) ?_ ?_ ?_ ?_
    · exact Bytes.made (l := [y]) (n := 0) (by simp [u8s]) (by simp) 1 false (by simp [AV.roomy])
    · simp; omega
    · have := congrArg List.length hx
      simp at this
      simp
      omega
    intro w3 s3 hw3 hk3
    simp [pf21_2, e8, w2]
    refine ⟨i, by omega, by omega, rfl, e1, x ++ [y], by simpa using hw3, ?_, ?_⟩
    · rw [← hx, be, ← hy]; simp
    · exact (hk.trans (Ext.keep (by simp) hc)).trans hk3
end Go.Ab
