/- 'PagesScript' over the abstract machine: one deed. -/
import Derived.Test.YtecpmilepjbaeaaP10
namespace Go.Ab

theorem ev_is {n m : Int} {s : S} {Q : AV → S → Prop} (h : Q (.bool (decide (n = m))) s) : Ev tab 17 [.iface 44 (.int .i64 n), .iface 44 (.int .i64 m)] s Q := Ev.prim (p := isPrim) rfl rfl h
theorem ev_is_nil {m : Int} {s : S} {Q : AV → S → Prop} (h : Q (.bool false) s) : Ev tab 17 [.nilIface, .iface 44 (.int .i64 m)] s Q := Ev.prim (p := isPrim) rfl rfl h

def page (bs : List UInt8) (k : Nat) : List UInt8 := (bs.drop (64 * k)).take 64

theorem page_other {bs v : List UInt8} {i a k : Nat} (hv : a + v.length ≤ 64) (hi : 64 * i + 64 ≤ bs.length) (hk : 64 * k + 64 ≤ bs.length) (h : k ≠ i) : page (lay bs (64 * i + a) v) k = page bs k := by
  unfold page
  exact page_lay _ _ _ _ (by omega) (by omega) (by omega)
theorem page_same {bs v : List UInt8} {i a : Nat} (hv : a + v.length ≤ 64) (hi : 64 * i + 64 ≤ bs.length) : page (lay bs (64 * i + a) v) i = lay (page bs i) a v := by
  apply List.ext_getElem?
  intro j
  simp only [page, lay]
  by_cases hj : j < 64
  · by_cases h1 : j < a
    · simp only [List.getElem?_take, hj, if_true, List.getElem?_drop]
      rw [List.append_assoc, List.getElem?_append_left (by simp; omega), List.append_assoc, List.getElem?_append_left (by simp; omega)]
      simp only [List.getElem?_take, List.getElem?_drop]
      rw [if_pos (by omega), if_pos (by omega), if_pos (by omega)]
    · by_cases h2 : j < a + v.length
      · simp only [List.getElem?_take, hj, if_true, List.getElem?_drop]
        rw [List.getElem?_append_left (by simp; omega), List.getElem?_append_right (by simp; omega), List.getElem?_append_left (by simp; omega), List.getElem?_append_right (by simp; omega)]
        simp
        congr 1
        omega
      · simp only [List.getElem?_take, hj, if_true, List.getElem?_drop]
        rw [List.getElem?_append_right (by simp; omega), List.getElem?_append_right (by simp; omega)]
        simp only [List.getElem?_drop, List.getElem?_take, List.length_append, List.length_take, List.length_drop]
        rw [if_pos (by omega)]
        congr 1
        omega
  · rw [List.getElem?_take_eq_none (by omega), List.getElem?_eq_none]
    simp
    omega

/-- Where a script stands. -/
structure Scene (s0 s : S) (p bb tb xb xt xs : Nat) (tk : List Bool) (bs : List UInt8) (sl : List AV) : Prop where
  ext : Ext s0 s
  M : Mem s p bb tb tk bs
  D : Mdl s (p :: bb :: tb :: List.range s0.ctr) xb xt xs tk sl (page bs)
  lo : s0.ctr ≤ p ∧ s0.ctr ≤ bb ∧ s0.ctr ≤ tb

section
variable {s0 s s' : S} {p bb tb xb xt xs : Nat} {tk : List Bool} {bs : List UInt8} {sl : List AV}

theorem Scene.grow (h : Scene s0 s p bb tb xb xt xs tk bs sl) (hx : Ext s s') : Scene s0 s' p bb tb xb xt xs tk bs sl :=
  ⟨h.ext.trans hx, h.M.ext hx, h.D.ext hx, h.lo⟩

theorem Scene.apart (h : Scene s0 s p bb tb xb xt xs tk bs sl) : p ∉ [xt, xs] ∧ bb ∉ [xt, xs] ∧ tb ∉ [xt, xs] := by
  obtain ⟨h1, h2, h3⟩ := h.D.out
  simp only [List.mem_cons, not_or] at h1 h2 h3
  simp only [List.mem_cons, List.not_mem_nil, or_false, not_or]
  refine ⟨⟨?_, ?_⟩, ⟨?_, ?_⟩, ⟨?_, ?_⟩⟩ <;> intro e <;> subst e <;> simp_all

theorem Scene.xlo (h : Scene s0 s p bb tb xb xt xs tk bs sl) : s0.ctr ≤ xb ∧ s0.ctr ≤ xt ∧ s0.ctr ≤ xs := by
  obtain ⟨h1, h2, h3⟩ := h.D.out
  simp only [List.mem_cons, List.mem_range, not_or, Nat.not_lt] at h1 h2 h3
  exact ⟨h1.2.2.2, h2.2.2.2, h3.2.2.2⟩

theorem free_cases : ∀ tk : List Bool, (∃ i, tk[i]? = some false ∧ ∀ j : Nat, j < i → tk[j]? = some true) ∨ ∀ j : Nat, j < tk.length → tk[j]? = some true
  | [] => .inr (by simp)
  | false :: tk => .inl ⟨0, rfl, by simp⟩
  | true :: tk => by
    rcases free_cases tk with ⟨i, h1, h2⟩ | h
    · refine .inl ⟨i + 1, by simpa using h1, fun j hj => ?_⟩
      cases j with
      | zero => rfl
      | succ j => simpa using h2 j (by omega)
    · refine .inr fun j hj => ?_
      cases j with
      | zero => rfl
      | succ j => simpa using h j (by simpa using hj)

/-- The memory and the law's model change alike. -/
theorem Scene.step {s1 : S} {l m : List Nat} {tk' : List Bool} {bs' : List UInt8} {sl' : List AV} {pgs : Nat → List UInt8} (h : Scene s0 s p bb tb xb xt xs tk bs sl) (hc1 : Chg l s s1) (hc2 : Chg m s1 s') (hl : ∀ x ∈ l, s0.ctr ≤ x) (hm : ∀ x ∈ m, s0.ctr ≤ x)
    (hM : Mem s' p bb tb tk' bs') (hD : Mdl s' (p :: bb :: tb :: List.range s0.ctr) xb xt xs tk' sl' pgs) (hp : ∀ k : Nat, tk'[k]? = some true → page bs' k = pgs k) : Scene s0 s' p bb tb xb xt xs tk' bs' sl' :=
  ⟨(h.ext.chg_trans hc1 hl).chg_trans hc2 hm, hM, hD.congr hp, h.lo⟩

set_option maxRecDepth 10000 in
/-- A page is asked for. -/
theorem deed0 (h : Scene s0 s p bb tb xb xt xs tk bs sl) (r : Regs) (e6 : r 6 = .ptr p 0) (e7 : r 7 = .ptr xb 0) (e64 : r 64 = .int .u8 0) (K : KP)
    (hK : ∀ r' s' tk' bs' sl', Scene s0 s' p bb tb xb xt xs tk' bs' sl' → tk'.length = tk.length → r' 1 = r 1 → r' 5 = r 5 → r' 6 = r 6 → r' 7 = r 7 → r' 36 = r 36 → r' 37 = r 37 → r' 38 = r 38 → K .normal r' s') : WpC tab pf4_39 r s K := by
  simp [pf4_39, pf4_38, e64, pf4_37, e7]
  rcases free_cases tk with ⟨i, hi, hall⟩ | hall
  · refine Ev.mono (malloc_yes h.D hi hall) ?_
    rintro v s1 ⟨rfl, hc1, sl1, hD1⟩
    have hap := h.apart
    have hM1 := h.M.chg hc1 hap.1 hap.2.1 hap.2.2
    simp [pf4_36, pf4_35, e6]
    have hil : i < tk.length := (List.getElem?_eq_some_iff.1 hi).1
    refine Ev.mono (alloc_yes hM1 hi hall) ?_
    rintro v s2 ⟨hc2, hct, rfl, hM2⟩
    have hD2 := hD1.chg hc2 (by simp)
    have g1 : ¬ (i : Int) < 0 := by omega
    have g2 : (0 : Int) ≤ i := by omega
    simp [pf4_34, g1, g2]
    have hl := h.M.len
    have hx := h.xlo
    have hlo := h.lo
    refine hK _ _ _ _ _ (h.step hc1 hc2 ?_ ?_ hM2 hD2 ?_) ?_ ?_ ?_ ?_ ?_ ?_ ?_ ?_
    · simp; omega
    · simp; omega
    · intro k hk
      by_cases hki : k = i
      · subst hki
        rw [if_pos rfl]
        have := page_same (bs := bs) (v := pg0) (i := k) (a := 0) (by rw [pg0_length]; omega) (by omega)
        rw [Nat.add_zero] at this
        rw [this]
        simp only [lay, List.take_zero, List.nil_append, Nat.zero_add, pg0_length]
        rw [List.drop_of_length_le (by simp [page]; omega), List.append_nil]
      · rw [if_neg hki]
        have hkl : k < tk.length := by simpa using (List.getElem?_eq_some_iff.1 hk).1
        exact page_other (a := 0) (by rw [pg0_length]; omega) (by omega) (by omega) hki
    · simp
    all_goals simp
  · refine Ev.mono (malloc_no h.D hall) ?_
    rintro v s1 ⟨rfl, rfl⟩
    simp [pf4_36, pf4_35, e6]
    refine Ev.mono (alloc_no h.M hall) ?_
    rintro v s2 ⟨rfl, rfl⟩
    simp [pf4_34]
    refine ev_is ?_
    simp
    refine hK _ _ _ _ _ h ?_ ?_ ?_ ?_ ?_ ?_ ?_ ?_ <;> simp
end
end Go.Ab
