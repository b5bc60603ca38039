/- 'PagesScript' over the abstract machine: the whole. -/
import Derived.Test.YtecpmilepjbaeaaP14
namespace Go.Ab

/-- A script, as it is read. -/
inductive Acts (s : S) : AV → Prop where
  | nil : Acts s .snil
  | zsl (a : Addr) : Acts s (.zsl a)
  | some {A len cap : Nat} (hA : A < s.ctr) (hl : len < 9223372036854775807) (h : ∀ i, i < len → ActAt s A i) : Acts s (.slice A 0 len cap false)

theorem acts_cases {s : S} {v : AV} (h : Acts s v) : ∃ len : Nat, lenV v = some len ∧ (0 < len → ∃ A cap, v = .slice A 0 len cap false ∧ A < s.ctr ∧ ∀ i, i < len → ActAt s A i) ∧ len < 9223372036854775807 ∧ (∀ (T : Tab) (r : Regs) (s' : S) (x : Opd) (Q : AV → S → Prop), x.ev r = v → WpI T (.len false x) r s' Q = Q (.int .i64 len) s') := by
  cases h with
  | nil => exact ⟨0, rfl, fun h => (by omega), by omega, fun T r s' x Q hx => by simp [hx]⟩
  | zsl a => exact ⟨0, rfl, fun h => (by omega), by omega, fun T r s' x Q hx => by simp [hx]⟩
  | some hA hl h => exact ⟨_, rfl, fun _ => ⟨_, _, rfl, hA, h⟩, hl, fun T r s' x Q hx => by simp [hx]⟩

set_option maxRecDepth 10000 in
theorem pagesScript_ok (n : Int) (hn : 0 ≤ n ∧ n < 256) (acts : AV) (s : S) (ha : Acts s acts) : Ev tab 4 [.int .u8 n, acts] s fun v s' => v = .bool true := by
  refine Ev.intro rfl rfl rfl ?_
  obtain ⟨m, hm⟩ : ∃ m : Nat, (m : Int) = n % 13 := ⟨(n % 13).toNat, by omega⟩
  have hr : Int.tmod n 13 = (m : Int) := by rw [Int.tmod_eq_emod_of_nonneg (by omega), hm]
  have hw : IntKind.i64.wrap (m : Int) = m := wrap_i64 (by omega) (by omega)
  have hm13 : m < 13 := by omega
  obtain ⟨len, hlv, hsome, hlen, wlen⟩ := acts_cases ha
  simp [pf4, pf4_56, pf4_55, pf4_54]
  refine ev_awake08 ?_
  simp [pf4_52, hr, hw, pf4_51]
  refine Ev.mono (of_ok m _) ?_
  rintro v s1 ⟨x1, p, bb, tb, c1, c2, c3, rfl, hM⟩
  rw [show (max 0 (min (m : Int) 4096)).toNat = m by omega] at hM
  have b2 : (m : Int) ≤ 281474976710656 := by omega
  have b3 : 24 * (m : Int) ≤ 281474976710656 := by omega
  obtain ⟨Z, hZ⟩ : ∃ Z : List UInt8, Z = List.replicate (64 * m) 0 := ⟨_, rfl⟩
  rw [← hZ] at hM
  obtain ⟨s3, hs3⟩ : ∃ s3, s3 = ((s1.new (.cells (List.replicate m (AV.bool false)) 0 false)).new (.cells (List.replicate m AV.snil) 0 false)).new (.cells [.snil, .snil] 0 false) := ⟨_, rfl⟩
  have hwr : s3.write (s1.ctr + 1 + 1) 0 [.slice s1.ctr 0 m m false, .slice (s1.ctr + 1) 0 m m false] = some (s3.set (s1.ctr + 1 + 1) (some (.cells [.slice s1.ctr 0 m m false, .slice (s1.ctr + 1) 0 m m false] 0 false))) := by
    rw [hs3]; simp [S.write, Nat.add_assoc]
  have hS0 : ∀ s2, s2 = ((((s1.new (.cells (List.replicate m (AV.bool false)) 0 false)).new (.cells (List.replicate m AV.snil) 0 false)).new (.cells [.snil, .snil] 0 false)).set (s1.ctr + 1 + 1) (some (.cells [.slice s1.ctr 0 m m false, .slice (s1.ctr + 1) 0 m m false] 0 false))) →
      Scene s s2 p bb tb (s1.ctr + 1 + 1) s1.ctr (s1.ctr + 1) (List.replicate m false) Z (List.replicate m .snil) := by
    rintro s2 rfl
    have hx2 : Ext s1 ((((s1.new (.cells (List.replicate m (AV.bool false)) 0 false)).new (.cells (List.replicate m AV.snil) 0 false)).new (.cells [.snil, .snil] 0 false)).set (s1.ctr + 1 + 1) (some (.cells [.slice s1.ctr 0 m m false, .slice (s1.ctr + 1) 0 m m false] 0 false))) := by
      simp (maxDischargeDepth := 30) [Nat.add_assoc]
    have hlt := hM.lt
    have hc := x1.ctr
    refine ⟨x1.trans hx2, hM.ext hx2, ?_, c1, c2, c3⟩
    refine ⟨by simp [Nat.add_assoc], by simp [Nat.add_assoc], by simp [Nat.add_assoc], by simp, by simp; omega, by omega, ?_, ?_, ?_, ?_⟩
    · simp only [ctr_new_s, ctr_set_s]
      refine ⟨by omega, by omega, by omega, fun x hx => ?_⟩
      simp only [List.mem_cons, List.mem_range] at hx
      omega
    · simp only [List.mem_cons, List.mem_range]
      omega
    · intro k hk
      simp [List.getElem?_replicate] at hk
    · intro j k id hj
      simp [List.getElem?_replicate] at hj
  have hS := hS0 _ rfl
  rw [← hs3] at hS
  clear hS0
  simp [pf4_50, b2, b3, flat_replicate, ← hs3, hwr, pf4_49, pf4_48, wlen]
  refine WpC.loop (fun j r' s' => ∃ (i : Nat) (tk : List Bool) (bs : List UInt8) (sl : List AV), i ≤ len ∧ j = len - i ∧ Scene s s' p bb tb (s1.ctr + 1 + 1) s1.ctr (s1.ctr + 1) tk bs sl ∧ tk.length = m ∧
    r' 5 = .int .i64 m ∧ r' 6 = .ptr p 0 ∧ r' 7 = .ptr (s1.ctr + 1 + 1) 0 ∧ r' 36 = acts ∧ r' 37 = .int .i64 len ∧ r' 38 = .int .i64 i) (m := len) ?_ ?_
  · exact ⟨0, _, _, _, by omega, rfl, hS, by simp, by simp, by simp, by simp, by simp, by simp, by simp⟩
  clear hS hwr hs3
  rintro j r' s' ⟨i, tk, bs, sl, hi, rfl, hS, htk, e5, e6, e7, e36, e37, e38⟩
  by_cases hlt : i < len
  · have hlt' : (i : Int) < len := by omega
    have w1 : IntKind.i64.wrap ((i : Int) + 1) = ((i + 1 : Nat) : Int) := by rw [wrap_i64] <;> omega
    obtain ⟨A, cap, rfl, hA, hact⟩ := hsome (by omega)
    simp [pf4_47, pf4_46, e37, e38, hlt']
    refine round_ok (cap := cap) hS _ hA hlt (hact i hlt) (by simp [e5, htk]) (by simp [e6]) (by simp [e7]) (by simp [e36]) (by simp [e38]) _ ?_
    intro r2 s2 tk2 bs2 sl2 hS2 hl2 f1 f5 f6 f7 f36 f37 f38
    simp only [upd_apply] at f5 f6 f7 f36 f37 f38
    simp at f5 f6 f7 f36 f37 f38
    simp [pf4_45, f38, e38, w1]
    exact ⟨len - (i + 1), by omega, i + 1, by omega, rfl, tk2, ⟨bs2, sl2, hS2⟩, by omega, by simp [f5, e5], by simp [f6, e6], by simp [f7, e7], by simp [f36, e36], by simp [f37, e37], by simp⟩
  have hlt' : ¬ (i : Int) < len := by omega
  have t0 := hS.D.rd0
  simp [pf4_47, pf4_46, e37, e38, hlt', pf4_10, pf4_9, pf4_8, e7, t0]
  have hle := hS.M.le
  refine WpC.loop (fun m r2 s2 => s2 = s' ∧ r2 6 = .ptr p 0 ∧ r2 7 = .ptr (s1.ctr + 1 + 1) 0 ∧ r2 269 = .int .i64 tk.length ∧ ∃ j : Nat, r2 270 = .int .i64 j ∧ j ≤ tk.length ∧ m = tk.length - j ∧ r2 22 = .int .i64 ((tk.take j).count false)) (m := tk.length) ?_ ?_
  · simp [e6, e7]
    exact ⟨0, by simp⟩
  rintro m' r2 s2 ⟨rfl, e6, e7, e269, j, e270, hj, rfl, e22⟩
  have w1 : IntKind.i64.wrap ((j : Int) + 1) = ((j + 1 : Nat) : Int) := by rw [wrap_i64] <;> omega
  have hc : (tk.take j).count false ≤ j := Nat.le_trans List.count_le_length (by simp; omega)
  obtain ⟨c, hc0⟩ : ∃ c, c = (tk.take j).count false := ⟨_, rfl⟩
  rw [← hc0] at e22 hc
  have w2 : IntKind.i64.wrap ((c : Int) + 1) = ((c + 1 : Nat) : Int) := by rw [wrap_i64] <;> omega
  by_cases hji : j < tk.length
  · have h2 := hS.D.rdt (List.getElem?_eq_getElem hji)
    have hn : tk.take (j + 1) = tk.take j ++ [tk[j]] := by rw [List.take_add_one, List.getElem?_eq_getElem hji]; rfl
    cases hb : tk[j] with
    | true =>
      rw [hb] at h2 hn
      simp [pf4_7, pf4_6, pf4_5, pf4_4, pf4_3, pf4_2, e6, e7, e269, e270, e22, hji, t0, h2, w1]
      exact ⟨tk.length - (j + 1), by omega, j + 1, by simp, by omega, rfl, by rw [hn]; simp [hc0]⟩
    | false =>
      rw [hb] at h2 hn
      simp [pf4_7, pf4_6, pf4_5, pf4_4, pf4_3, pf4_2, pf4_1, e6, e7, e269, e270, e22, hji, t0, h2, w1, w2]
      exact ⟨tk.length - (j + 1), by omega, j + 1, by simp, by omega, rfl, by rw [hn]; simp [hc0]⟩
  obtain rfl : j = tk.length := by omega
  rw [List.take_length] at hc0
  simp [pf4_7, pf4_6, e269, e270, pf4_0, e6]
  refine Ev.mono (left_ok hS.M) ?_
  rintro v s3 ⟨rfl, rfl⟩
  simp [e22, hc0]
end Go.Ab
