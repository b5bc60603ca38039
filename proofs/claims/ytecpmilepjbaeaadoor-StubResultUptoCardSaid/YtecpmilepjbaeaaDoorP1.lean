/- The pages of memory (layer 8) over the abstract machine. -/
import Derived.Test.YtecpmilepjbaeaaDoorTab
import Derived.Test.YtecpmilepjbaeaaDoorAbChg
namespace Go.Ab
attribute [local simp] lenV

/-- A page that nothing was written to. -/
def pg0 : List UInt8 := List.replicate 64 0
theorem pg0_length : pg0.length = 64 := by simp [pg0]
theorem pg0_cells {n : Nat} (h : n = 64) : (List.replicate n [AV.int .u8 0]).flatten = u8s pg0 := by rw [h]; exact zeros 64

/-- A memory: which pages are given out, and their bytes. -/
structure Mem (s : S) (p bb tb : Nat) (tk : List Bool) (bs : List UInt8) : Prop where
  hp : s.get p = some (.cells [.slice bb 0 bs.length bs.length false, .slice tb 0 tk.length tk.length false] 0 false)
  hb : s.get bb = some (.cells (u8s bs) 0 false)
  ht : s.get tb = some (.cells (tk.map AV.bool) 0 false)
  len : bs.length = 64 * tk.length
  le : tk.length ≤ 4096
  ne : p ≠ bb ∧ p ≠ tb ∧ bb ≠ tb
  lt : p < s.ctr ∧ bb < s.ctr ∧ tb < s.ctr

section
variable {s : S} {p bb tb : Nat} {tk : List Bool} {bs : List UInt8}

theorem Mem.chg {l : List Nat} {s' : S} (h : Mem s p bb tb tk bs) (hc : Chg l s s') (h1 : p ∉ l) (h2 : bb ∉ l) (h3 : tb ∉ l) : Mem s' p bb tb tk bs :=
  ⟨by rw [hc.get p h.lt.1 h1, h.hp], by rw [hc.get bb h.lt.2.1 h2, h.hb], by rw [hc.get tb h.lt.2.2 h3, h.ht], h.len, h.le, h.ne,
    by have := hc.ctr; have := h.lt; omega⟩
theorem Mem.ext {s' : S} (h : Mem s p bb tb tk bs) (hc : Ext s s') : Mem s' p bb tb tk bs := h.chg (hc.chg []) (by simp) (by simp) (by simp)

theorem Mem.rd0 (h : Mem s p bb tb tk bs) : s.read p 0 1 = some [.slice bb 0 bs.length bs.length false] := read_one h.hp rfl
theorem Mem.rd1 (h : Mem s p bb tb tk bs) : s.read p 1 1 = some [.slice tb 0 tk.length tk.length false] := read_one h.hp rfl
theorem Mem.rdt (h : Mem s p bb tb tk bs) {i : Nat} {b : Bool} (hi : tk[i]? = some b) : s.read tb i 1 = some [.bool b] := read_one h.ht (by simp [hi])
theorem Mem.setT (h : Mem s p bb tb tk bs) {i : Nat} (hi : i < tk.length) (b : Bool) : s.write tb i [.bool b] = some (s.set tb (some (.cells ((tk.map AV.bool).set i (.bool b)) 0 false))) ∧
    Mem (s.set tb (some (.cells ((tk.map AV.bool).set i (.bool b)) 0 false))) p bb tb (tk.set i b) bs := by
  obtain ⟨n1, n2, n3⟩ := h.ne
  refine ⟨?_, ?_, ?_, ?_, ?_, ?_, h.ne, h.lt⟩
  · rw [write_one h.ht (by simpa using hi) rfl]
  · rw [S.get_set, if_neg n2, h.hp]; simp
  · rw [S.get_set, if_neg n3, h.hb]
  · rw [S.get_set, if_pos rfl]; simp
  · simp [h.len]
  · simp [h.le]
theorem Mem.setB (h : Mem s p bb tb tk bs) {o : Nat} {v : List UInt8} (ho : o + v.length ≤ bs.length) : s.write bb o (u8s v) = some (s.set bb (some (.cells (u8s (lay bs o v)) 0 false))) ∧
    Mem (s.set bb (some (.cells (u8s (lay bs o v)) 0 false))) p bb tb tk (lay bs o v) := by
  obtain ⟨n1, n2, n3⟩ := h.ne
  refine ⟨write_u8 h.hb ho, ?_, ?_, ?_, ?_, h.le, h.ne, h.lt⟩
  · rw [S.get_set, if_neg n1, h.hp, lay_length ho]
  · rw [S.get_set, if_pos rfl]
  · rw [S.get_set, if_neg (fun e => n3 e.symm), h.ht]
  · rw [lay_length ho, h.len]

theorem of_ok (n : Int) (s : S) : Ev tab 6 [.int .i64 n] s fun v s' => Ext s s' ∧ ∃ p bb tb, s.ctr ≤ p ∧ s.ctr ≤ bb ∧ s.ctr ≤ tb ∧ v = .ptr p 0 ∧
    Mem s' p bb tb (List.replicate (max 0 (min n 4096)).toNat false) (List.replicate (64 * (max 0 (min n 4096)).toNat) 0) := by
  refine Ev.intro rfl rfl rfl ?_
  obtain ⟨m, hm, hm2⟩ : ∃ m : Nat, max 0 (min n 4096) = (m : Int) ∧ m ≤ 4096 := ⟨(max 0 (min n 4096)).toNat, by omega, by omega⟩
  have e1 : (if (if 4096 < n then (4096 : Int) else n) > 0 then (if 4096 < n then (4096 : Int) else n) else 0) = (m : Int) := by omega
  obtain ⟨L, hL⟩ : ∃ L, L = 64 * m := ⟨_, rfl⟩
  have w1 : IntKind.i64.wrap ((m : Int) * 64) = (L : Int) := by rw [wrap_i64] <;> omega
  have b1 : (L : Int) ≤ 281474976710656 := by omega
  have b2 : (m : Int) ≤ 281474976710656 := by omega
  rw [hm, Int.toNat_natCast, ← hL]
  simp (maxDischargeDepth := 30) [pf6, pf6_1, pf6_0, foldO, minV, maxV, e1, w1, flat_replicate, b1, b2]
  refine ⟨s.ctr + 1 + 1, by omega, s.ctr, Nat.le_refl _, s.ctr + 1, by omega, rfl, ?_, ?_, ?_, ?_, ?_, ?_, ?_⟩
  · simp [Nat.add_assoc]
  · simp [u8s_replicate]; intro h; omega
  · simp
  · simp [hL]
  · simp [hm2]
  · omega
  · simp; omega

theorem has_ok (h : Mem s p bb tb tk bs) (k : Int) : Ev tab 18 [.ptr p 0, .int .i64 k] s fun v s' => s' = s ∧ v = .bool (decide (0 ≤ k) && tk.getD k.toNat false) := by
  refine Ev.intro rfl rfl rfl ?_
  have h1 := h.rd1
  by_cases h0 : 0 ≤ k
  case neg => simp [pf18, pf18_1, pf18_0, h0]
  by_cases hk : k < tk.length
  case neg =>
    have hd : tk[k.toNat]? = none := List.getElem?_eq_none (by omega)
    simp [pf18, pf18_1, pf18_0, h0, hk, h1, hd]
  obtain ⟨b, hb⟩ : ∃ b, tk[k.toNat]? = some b := ⟨_, List.getElem?_eq_getElem (by omega)⟩
  have h2 := h.rdt hb
  have h3 : tk.getD k.toNat false = b := by simp [hb]
  rw [h3]
  simp [pf18, pf18_1, pf18_0, h0, hk, h1, h2]

end
end Go.Ab
