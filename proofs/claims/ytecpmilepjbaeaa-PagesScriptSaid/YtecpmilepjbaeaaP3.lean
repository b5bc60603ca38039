/- The pages of memory (layer 8) over the abstract machine: what is read and written. -/
import Derived.Test.YtecpmilepjbaeaaP2
namespace Go.Ab

section
variable {s : S} {p bb tb : Nat} {tk : List Bool} {bs : List UInt8}

theorem Mem.part (h : Mem s p bb tb tk bs) {o n c : Nat} (hn : o + n ≤ bs.length) : Bytes s (.slice bb o n c false) ((bs.drop o).take n) := by
  have hl : ((bs.drop o).take n).length = n := by simp; omega
  refine ⟨by simp [hl, lenV], ?_, h.lt.2.1, .inr (.inr ⟨_, _, _, _, _, rfl⟩)⟩
  simp only [S.cellsOf, Nat.mul_one]
  exact read_u8 h.hb hn

theorem read_no (h : Mem s p bb tb tk bs) {k : Int} (hk : (decide (0 ≤ k) && tk.getD k.toNat false) = false) (a n : Int) : Ev tab 15 [.ptr p 0, .int .i64 k, .int .i64 a, .int .i64 n] s fun v s' => s' = s ∧ v = .tuple [.snil, .iface 44 (.int .i64 4)] := by
  refine Ev.intro rfl rfl rfl ?_
  simp [pf15, pf15_6, pf15_5]
  refine Ev.mono (has_ok h k) ?_
  rintro v s' ⟨rfl, rfl⟩
  rw [hk]
  simp [pf15_4, pf15_3]

theorem read_out (h : Mem s p bb tb tk bs) {i : Nat} (hi : tk[i]? = some true) {a n : Int} (hn : ¬ (0 ≤ a ∧ 0 ≤ n ∧ a + n ≤ 64)) : Ev tab 15 [.ptr p 0, .int .i64 i, .int .i64 a, .int .i64 n] s fun v s' => s' = s ∧ v = .tuple [.snil, .iface 44 (.int .i64 13)] := by
  refine Ev.intro rfl rfl rfl ?_
  simp [pf15, pf15_6, pf15_5]
  refine Ev.mono (has_ok h i) ?_
  rintro v s' ⟨rfl, rfl⟩
  have hd : (decide (0 ≤ (i : Int)) && tk.getD (i : Int).toNat false) = true := by simp [hi]
  rw [hd]
  by_cases h1 : a < 0
  · simp [pf15_4, pf15_3, pf15_2, pf15_1, h1]
  by_cases h2 : n < 0
  · simp [pf15_4, pf15_3, pf15_2, pf15_1, h1, h2]
  by_cases h3 : 64 < a
  · simp [pf15_4, pf15_3, pf15_2, pf15_1, h1, h2, h3]
  have w : IntKind.i64.wrap (64 - a) = 64 - a := by rw [wrap_i64] <;> omega
  have h4 : 64 - a < n := by omega
  simp [pf15_4, pf15_3, pf15_2, pf15_1, h1, h2, h3, w, h4]

theorem read_in (h : Mem s p bb tb tk bs) {i : Nat} (hi : tk[i]? = some true) {a n : Nat} (hn : a + n ≤ 64) : Ev tab 15 [.ptr p 0, .int .i64 i, .int .i64 a, .int .i64 n] s fun v s' => Ext s s' ∧ ∃ d, v = .tuple [d, .nilIface] ∧
    Bytes s' d ((bs.drop (64 * i + a)).take n) ∧ d.since s.ctr := by
  refine Ev.intro rfl rfl rfl ?_
  simp [pf15, pf15_6, pf15_5]
  refine Ev.mono (has_ok h i) ?_
  rintro v s' ⟨rfl, rfl⟩
  have hd : (decide (0 ≤ (i : Int)) && tk.getD (i : Int).toNat false) = true := by simp [hi]
  rw [hd]
  have hil : i < tk.length := (List.getElem?_eq_some_iff.1 hi).1
  have hl := h.len
  have hle := h.le
  obtain ⟨P, hP⟩ : ∃ P, P = 64 * i := ⟨_, rfl⟩
  obtain ⟨Q, hQ⟩ : ∃ Q, Q = P + a := ⟨_, rfl⟩
  obtain ⟨R, hR⟩ : ∃ R, R = Q + n := ⟨_, rfl⟩
  have h2 : ¬ (64 : Int) < a := by omega
  have w : IntKind.i64.wrap (64 - (a : Int)) = 64 - a := by rw [wrap_i64] <;> omega
  have w1 : IntKind.i64.wrap ((i : Int) * 64) = (P : Int) := by rw [wrap_i64] <;> omega
  have w2 : IntKind.i64.wrap ((P : Int) + a) = (Q : Int) := by rw [wrap_i64] <;> omega
  have w3 : IntKind.i64.wrap ((Q : Int) + n) = (R : Int) := by rw [wrap_i64] <;> omega
  have h4 : ¬ 64 - (a : Int) < n := by omega
  have a0 : ¬ (a : Int) < 0 := by omega
  have n0 : ¬ (n : Int) < 0 := by omega
  have h5 := h.rd0
  have hs := slice_lh (sz := 1) (b := bb) (o := 0) (len := bs.length) (cap := bs.length) (lo := Q) (hi := R) (k := .i64) (k2 := .i64) (by omega) (by omega)
  obtain ⟨o, ho, hb⟩ : ∃ o, (if bs.length = Q then 0 else 0 + Q * 1) = o ∧ Bytes s' (.slice bb o n (bs.length - Q) false) ((bs.drop Q).take n) := by
    by_cases hq : bs.length = Q
    · have hn0 : n = 0 := by omega
      subst hn0
      exact ⟨0, by rw [if_pos hq], by have := h.part (o := 0) (n := 0) (c := bs.length - Q) (by omega); simpa using this⟩
    · exact ⟨Q, by rw [if_neg hq]; omega, h.part (by omega)⟩
  rw [ho, show R - Q = n by omega] at hs
  have hlen : ((bs.drop Q).take n).length = n := by simp; omega
  have happ := app_copy hb (by omega)
  rw [← hP, ← hQ]
  by_cases he : (bs.drop Q).take n = []
  · rw [if_pos he] at happ
    rw [he]
    simp [pf15_4, pf15_2, pf15_0, a0, n0, h2, h4, w, w1, w2, w3, h5, hs, happ, Bytes.nil]
  · rw [if_neg he] at happ
    obtain ⟨x, hx⟩ : ∃ x, x = (bs.drop Q).take n := ⟨_, rfl⟩
    rw [← hx] at happ ⊢
    simp (maxDischargeDepth := 30) [pf15_4, pf15_2, pf15_0, a0, n0, h2, h4, w, w1, w2, w3, h5, hs, happ]
    exact Bytes.made (n := 1) (by simp) (by simp) _ _

theorem write_no (h : Mem s p bb tb tk bs) {k : Int} (hk : (decide (0 ≤ k) && tk.getD k.toNat false) = false) (a : Int) {b : AV} {l : List UInt8} (hb : Bytes s b l) : Ev tab 14 [.ptr p 0, .int .i64 k, .int .i64 a, b] s fun v s' => s' = s ∧ v = .iface 44 (.int .i64 4) := by
  refine Ev.intro rfl rfl rfl ?_
  have hlen := hb.wlen
  simp [pf14, pf14_5, pf14_4, hlen]
  refine Ev.mono (read_no h hk a l.length) ?_
  rintro v s' ⟨rfl, rfl⟩
  simp [pf14_3, pf14_2]

theorem write_out (h : Mem s p bb tb tk bs) {i : Nat} (hi : tk[i]? = some true) {a : Int} {b : AV} {l : List UInt8} (hb : Bytes s b l) (hn : ¬ (0 ≤ a ∧ a + l.length ≤ 64)) : Ev tab 14 [.ptr p 0, .int .i64 i, .int .i64 a, b] s fun v s' => s' = s ∧ v = .iface 44 (.int .i64 13) := by
  refine Ev.intro rfl rfl rfl ?_
  have hlen := hb.wlen
  simp [pf14, pf14_5, pf14_4, hlen]
  refine Ev.mono (read_out h hi (a := a) (n := l.length) (by omega)) ?_
  rintro v s' ⟨rfl, rfl⟩
  simp [pf14_3, pf14_2]

theorem write_in (h : Mem s p bb tb tk bs) {i : Nat} (hi : tk[i]? = some true) {a : Nat} {b : AV} {l : List UInt8} (hb : Bytes s b l) (hn : a + l.length ≤ 64) : Ev tab 14 [.ptr p 0, .int .i64 i, .int .i64 a, b] s fun v s' => Chg [bb] s s' ∧ v = .nilIface ∧
    Mem s' p bb tb tk (lay bs (64 * i + a) l) := by
  refine Ev.intro rfl rfl rfl ?_
  have hlen := hb.wlen
  simp [pf14, pf14_5, pf14_4, hlen]
  refine Ev.mono (read_in h hi (a := a) (n := l.length) hn) ?_
  rintro v s' ⟨hx, d, rfl, _, _⟩
  have hil : i < tk.length := (List.getElem?_eq_some_iff.1 hi).1
  have hl := h.len
  have hle := h.le
  have hm := h.ext hx
  have hb' := hb.ext hx
  obtain ⟨P, hP⟩ : ∃ P, P = 64 * i := ⟨_, rfl⟩
  obtain ⟨Q, hQ⟩ : ∃ Q, Q = P + a := ⟨_, rfl⟩
  have w1 : IntKind.i64.wrap ((i : Int) * 64) = (P : Int) := by rw [wrap_i64] <;> omega
  have w2 : IntKind.i64.wrap ((P : Int) + a) = (Q : Int) := by rw [wrap_i64] <;> omega
  have h5 := hm.rd0
  have hs := slice_l (sz := 1) (b := bb) (o := 0) (len := bs.length) (cap := bs.length) (lo := Q) (k := .i64) (by omega) (by omega)
  obtain ⟨o, ho, hw, hm2⟩ : ∃ o, (if bs.length = Q then 0 else 0 + Q * 1) = o ∧ s'.write bb o (u8s l) = some (s'.set bb (some (.cells (u8s (lay bs Q l)) 0 false))) ∧ Mem (s'.set bb (some (.cells (u8s (lay bs Q l)) 0 false))) p bb tb tk (lay bs Q l) := by
    by_cases hq : bs.length = Q
    · have hn0 : l = [] := List.length_eq_zero_iff.1 (by omega)
      subst hn0
      have := hm.setB (o := 0) (v := []) (by simp)
      rw [lay_nil] at this ⊢
      exact ⟨0, by rw [if_pos hq], this⟩
    · have := hm.setB (o := Q) (v := l) (by omega)
      exact ⟨Q, by rw [if_neg hq]; omega, this⟩
  rw [ho] at hs
  have hc := hb'.cells
  have hln := hb'.len
  have htk : (u8s l).take (min l.length (bs.length - Q)) = u8s l := by rw [List.take_of_length_le]; simp; omega
  rw [← hP, ← hQ]
  have hx' := hx.chg [bb]
  simp (maxDischargeDepth := 30) [pf14_3, pf14_1, pf14_0, w1, w2, h5, hs, hc, hln, htk, hw, hm2, hx']

theorem write_any (h : Mem s p bb tb tk bs) {i : Nat} (hi : tk[i]? = some true) {a : Nat} {b : AV} {l : List UInt8} (hb : Bytes s b l) : Ev tab 14 [.ptr p 0, .int .i64 i, .int .i64 a, b] s fun _ s' => Chg [bb] s s' ∧ ∃ bs', Mem s' p bb tb tk bs' := by
  by_cases hn : a + l.length ≤ 64
  · exact Ev.mono (write_in h hi hb hn) fun v s' ⟨h1, _, h3⟩ => ⟨h1, _, h3⟩
  · exact Ev.mono (write_out h hi hb (a := a) (by omega)) fun v s' ⟨h1, _⟩ => by subst h1; exact ⟨Chg.refl _ _, _, h⟩
end
end Go.Ab
