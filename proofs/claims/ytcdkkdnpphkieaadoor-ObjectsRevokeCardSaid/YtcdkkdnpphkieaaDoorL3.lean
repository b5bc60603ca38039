/- 'ObjectsForged' over the abstract machine. -/
import Derived.Test.YtcdkkdnpphkieaaDoorL2
namespace Go.Ab

theorem spoilt_ok (c : Cp) (s : S) : Ev tab 23 [capA c] s fun v s' => Ext s s' ∧ v = .bool (decide (c.k ∈ spreadL 40)) := by
  refine Ev.intro rfl rfl rfl ?_
  obtain ⟨s0, hs0⟩ : ∃ s0, s0 = s.new (.cells c.cells 0 false) := ⟨_, rfl⟩
  have x0 : Ext s s0 := by rw [hs0]; simp
  have g0 : Bx s0 s.ctr c [] := ⟨by rw [hs0]; simp, by rw [hs0]; simp, by simp⟩
  simp [pf23, pf23_10, Cp.cells_flat, ← hs0, pf23_9, pf23_8]
  refine Ev.mono (spread_ok 40 (by omega) s0) ?_
  rintro v s1 ⟨hx1, hN⟩
  have b1 := g0.ext hx1
  have wl := hN.wlen
  rw [spread_len] at wl
  simp [wl]
  refine WpC.loop (fun m r' s' => ∃ i, i ≤ 40 ∧ m = 40 - i ∧ r' 1 = .ptr s.ctr 0 ∧ r' 5 = v ∧ r' 6 = .int .i64 40 ∧ r' 7 = .int .i64 (i : Nat) ∧ c.k ∉ (spreadL 40).take i ∧ s' = s1) (m := 40) ?_ ?_
  · exact ⟨0, by omega, rfl, by simp, by simp, by simp, by simp, by simp, rfl⟩
  rintro m r' s' ⟨i, hi, rfl, e1, e5, e6, e7, hno, rfl⟩
  have hxx := x0.trans hx1
  by_cases hlt : i < 40
  · obtain ⟨y, hy⟩ : ∃ y, (spreadL 40)[i]? = some y := ⟨_, List.getElem?_eq_getElem (by rw [spread_len]; exact hlt)⟩
    obtain ⟨A, cap, opn, rfl, hrd⟩ := hN.elem (Ext.refl s') hy
    have hl : i < (spreadL 40).length := by rw [spread_len]; exact hlt
    have w1 : IntKind.i64.wrap ((i : Int) + 1) = ((i + 1 : Nat) : Int) := by rw [wrap_i64] <;> omega
    have hlt' : (i : Int) < 40 := by omega
    by_cases hk : c.k = y
    · have hmem : c.k ∈ spreadL 40 := by rw [hk]; exact List.mem_of_getElem? hy
      simp [pf23_7, pf23_6, e7, e6, hlt', pf23_4, pf23_3, e5, hl, hrd, pf23_2, e1, b1.rd3, hk, pf23_1]
      refine ⟨hxx, ?_⟩
      rw [← hk]; exact hmem
    · have hki : ¬ (c.k : Int) = y := by omega
      simp [pf23_7, pf23_6, e7, e6, hlt', pf23_4, pf23_3, e5, hl, hrd, pf23_2, e1, b1.rd3, hk, hki, pf23_5, w1, -Int.natCast_add]
      refine ⟨40 - (i + 1), by omega, i + 1, by omega, rfl, rfl, ?_⟩
      rw [List.take_add_one, hy]
      simp [hno, hk]
  · obtain rfl : i = 40 := by omega
    rw [List.take_of_length_le (by simp [spread_len])] at hno
    simp [pf23_7, pf23_6, e7, e6, pf23_0]
    exact ⟨hxx, hno⟩

theorem eqV_cp (a b : Cp) : eqV .st (.agg a.cells) (.agg b.cells) = some (decide (a = b)) := by
  simp only [Cp.cells, eqV_st]
  congr 1
  apply decide_eq_decide.2
  cases a; cases b
  simp only [Cp.mk.injEq, Int.natCast_inj]

theorem rows_read {s : S} {b sz : Nat} {l : List Cp} {ro : Bool} (hg : s.get b = some (.cells (rowsOf Cp.cells l) sz ro)) {i : Nat} {c : Cp} (hi : l[i]? = some c) : s.read b (i * 4) 4 = some c.cells := by
  have hil := (List.getElem?_eq_some_iff.1 hi).1
  have hlen := rowsOf_length (f := Cp.cells) (sz := 4) Cp.cells_length l
  rw [rd hg (by omega), rowsOf_part Cp.cells_length hi]
end Go.Ab
