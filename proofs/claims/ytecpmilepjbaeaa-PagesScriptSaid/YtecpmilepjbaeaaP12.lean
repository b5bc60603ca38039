/- 'PagesScript' over the abstract machine: the other deeds. -/
import Derived.Test.YtecpmilepjbaeaaP11
namespace Go.Ab
section
variable {s0 s s' : S} {p bb tb xb xt xs : Nat} {tk : List Bool} {bs : List UInt8} {sl : List AV}

theorem has_cases (tk : List Bool) (k : Int) : (∃ i : Nat, k = i ∧ tk[i]? = some true) ∨ (decide (0 ≤ k) && tk.getD k.toNat false) = false := by
  by_cases h0 : 0 ≤ k
  · obtain ⟨i, rfl⟩ := Int.eq_ofNat_of_zero_le h0
    by_cases hi : tk[i]? = some true
    · exact .inl ⟨i, rfl, hi⟩
    · right
      simp
      cases hg : tk[i]? with
      | none => rfl
      | some b =>
        cases b with
        | false => rfl
        | true => exact (hi hg).elim
  · right; simp [h0]

theorem has_true {tk : List Bool} {i : Nat} (hi : tk[i]? = some true) : (decide (0 ≤ (i : Int)) && tk.getD (i : Int).toNat false) = true := by simp [hi]

set_option maxRecDepth 10000 in
/-- A page is taken back. -/
theorem deed1 (h : Scene s0 s p bb tb xb xt xs tk bs sl) (r : Regs) (k : Int) (e6 : r 6 = .ptr p 0) (e7 : r 7 = .ptr xb 0) (e10 : r 10 = .int .i64 k) (e12 : r 12 = .bool (decide (0 ≤ k) && tk.getD k.toNat false)) (e64 : r 64 = .int .u8 1) (K : KP)
    (hK : ∀ r' s' tk' bs' sl', Scene s0 s' p bb tb xb xt xs tk' bs' sl' → tk'.length = tk.length → r' 1 = r 1 → r' 5 = r 5 → r' 6 = r 6 → r' 7 = r 7 → r' 36 = r 36 → r' 37 = r 37 → r' 38 = r 38 → K .normal r' s') : WpC tab pf4_39 r s K := by
  simp [pf4_39, pf4_38, e64, pf4_32, pf4_31, pf4_30, e6, e10]
  rcases has_cases tk k with ⟨i, rfl, hi⟩ | hk
  · rw [has_true hi] at e12
    refine Ev.mono (free_yes h.M hi) ?_
    rintro v s1 ⟨hc1, hct, rfl, hM1⟩
    have hil : i < tk.length := (List.getElem?_eq_some_iff.1 hi).1
    have hD1 := h.D.chg hc1 (by simp)
    have h0 := hD1.rd0
    obtain ⟨hw, hD2⟩ := hD1.free hil
    have hap := h.apart
    have hc2 : Chg [xt] s1 (s1.set xt (some (.cells ((tk.map AV.bool).set i (.bool false)) 0 false))) := by simp
    have hM2 := hM1.chg hc2 (fun e => hap.1 (by simp at e; simp [e])) (fun e => hap.2.1 (by simp at e; simp [e])) (fun e => hap.2.2 (by simp at e; simp [e]))
    simp [pf4_29, pf4_27, pf4_28, e12, pf4_25, e7, h0, e10, hil, hw]
    have hx := h.xlo
    have hlo := h.lo
    refine hK _ _ _ _ _ (h.step hc1 hc2 ?_ ?_ hM2 hD2 (fun k _ => rfl)) ?_ ?_ ?_ ?_ ?_ ?_ ?_ ?_
    · simp; omega
    · simp; omega
    · simp
    all_goals simp
  · rw [hk] at e12
    refine Ev.mono (free_no h.M hk) ?_
    rintro v s1 ⟨rfl, rfl⟩
    simp [pf4_29, pf4_27, pf4_28, e12]
    refine ev_is ?_
    simp [e12]
    refine hK _ _ _ _ _ h ?_ ?_ ?_ ?_ ?_ ?_ ?_ ?_ <;> simp

set_option maxRecDepth 10000 in
/-- Bytes are written. -/
theorem deed2 (h : Scene s0 s p bb tb xb xt xs tk bs sl) (r : Regs) (k a : Int) (ha : -128 ≤ a ∧ a < 128) {ab : Nat} {c0 c1 c2 data : AV} {l : List UInt8} (hab : s.get ab = some (.cells [c0, c1, c2, data] 0 false)) (hlt : ab < s.ctr) (hn : ab ∉ [bb]) (hd : Bytes s data l) (hl : l.length ≤ 140737488355328) (hdo : data.since s0.ctr ∨ data.inS s0.ctr)
    (e6 : r 6 = .ptr p 0) (e7 : r 7 = .ptr xb 0) (e9 : r 9 = .ptr ab 0) (e10 : r 10 = .int .i64 k) (e11 : r 11 = .int .i64 a) (e12 : r 12 = .bool (decide (0 ≤ k) && tk.getD k.toNat false)) (e64 : r 64 = .int .u8 2) (hdata : data.out [bb]) (K : KP)
    (hK : ∀ r' s' tk' bs' sl', Scene s0 s' p bb tb xb xt xs tk' bs' sl' → tk'.length = tk.length → r' 1 = r 1 → r' 5 = r 5 → r' 6 = r 6 → r' 7 = r 7 → r' 36 = r 36 → r' 37 = r 37 → r' 38 = r 38 → K .normal r' s') : WpC tab pf4_39 r s K := by
  have hrd : s.read ab 3 1 = some [data] := read_one hab rfl
  simp [pf4_39, pf4_38, e64, pf4_32, pf4_31, pf4_24, pf4_23, pf4_22, e6, e9, e10, e11, hrd]
  have wlen := hd.wlen
  have w64 : IntKind.i64.wrap (64 - (l.length : Int)) = 64 - l.length := by rw [wrap_i64] <;> omega
  rcases has_cases tk k with ⟨i, rfl, hi⟩ | hk
  · rw [has_true hi] at e12
    have hil : i < tk.length := (List.getElem?_eq_some_iff.1 hi).1
    by_cases hf : 0 ≤ a ∧ a + l.length ≤ 64
    · obtain ⟨q, rfl⟩ := Int.eq_ofNat_of_zero_le hf.1
      refine Ev.mono (write_in h.M hi (a := q) hd (by omega)) ?_
      rintro v s1 ⟨hc1, rfl, hM1⟩
      have hD1 := h.D.chg hc1 (by simp)
      have hrd1 : s1.read ab 3 1 = some [data] := read_one (by rw [hc1.get ab hlt hn, hab]) rfl
      have hd1 := hd.chg hc1 hdata
      have h1 : (l.length : Int) ≤ 64 := by omega
      have h2 : (q : Int) ≤ 64 - l.length := by omega
      simp [pf4_21, e11, e9, hrd1, wlen, h1, w64, h2, pf4_20, pf4_19, e12, pf4_17, pf4_16]
      obtain ⟨id, g1, g2, g3, g4, g5, g6⟩ := hD1.pg i hi
      have r1 := hD1.rd1
      have r2 := hD1.rds g1
      have hs := slice_l (sz := 1) (b := id) (o := 0) (len := 64) (cap := 64) (lo := q) (k := .i64) (by omega) (by omega)
      obtain ⟨o, ho, hw, hD2⟩ : ∃ o, (if 64 = q then 0 else 0 + q * 1) = o ∧ s1.write id o (u8s l) = some (s1.set id (some (.cells (u8s (lay (page bs i) q l)) 0 false))) ∧
          Mdl (s1.set id (some (.cells (u8s (lay (page bs i) q l)) 0 false))) (p :: bb :: tb :: List.range s0.ctr) xb xt xs tk sl (fun k => if k = i then lay (page bs i) q l else page bs k) := by
        by_cases hq : 64 = q
        · have hn0 : l = [] := List.length_eq_zero_iff.1 (by omega)
          subst hn0
          have := hD1.lay hi g1 (o := 0) (v := []) (by simp)
          rw [lay_nil] at this ⊢
          exact ⟨0, by rw [if_pos hq], this⟩
        · have := hD1.lay hi g1 (o := q) (v := l) (by omega)
          exact ⟨q, by rw [if_neg hq]; omega, this⟩
      rw [ho] at hs
      have hcl := hd1.cells
      have hln := hd1.len
      have htk : (u8s l).take (min l.length (64 - q)) = u8s l := by rw [List.take_of_length_le]; simp; omega
      simp [e7, r1, e10, hil, r2, e11, e9, hrd1, hs, hcl, hln, htk, hw, h.D.len]
      have hc2 : Chg [id] s1 (s1.set id (some (.cells (u8s (lay (page bs i) q l)) 0 false))) := by simp
      simp only [List.mem_cons, List.mem_range, not_or, Nat.not_lt] at g5
      have hM2 := hM1.chg hc2 (by simp; exact fun e => g5.1 e.symm) (by simp; exact fun e => g5.2.1 e.symm) (by simp; exact fun e => g5.2.2.1 e.symm)
      have hlen := h.M.len
      have hlo := h.lo
      refine hK _ _ _ _ _ (h.step hc1 hc2 ?_ ?_ hM2 hD2 ?_) ?_ ?_ ?_ ?_ ?_ ?_ ?_ ?_
      · simp; omega
      · simp; omega
      · intro k hk
        have hkl : k < tk.length := (List.getElem?_eq_some_iff.1 hk).1
        by_cases hki : k = i
        · subst hki
          rw [if_pos rfl]
          exact page_same (by omega) (by omega)
        · rw [if_neg hki]
          exact page_other (by omega) (by omega) (by omega) hki
      · rfl
      all_goals simp
    · refine Ev.mono (write_out h.M hi hd hf) ?_
      rintro v s1 ⟨rfl, rfl⟩
      have key : ∀ r2 : Regs, r2 1 = r 1 ∧ r2 5 = r 5 ∧ r2 6 = r 6 ∧ r2 7 = r 7 ∧ r2 36 = r 36 ∧ r2 37 = r 37 ∧ r2 38 = r 38 → K .normal r2 s1 :=
        fun r2 ⟨f1, f2, f3, f4, f5, f6, f7⟩ => hK r2 s1 tk bs sl h rfl f1 f2 f3 f4 f5 f6 f7
      by_cases h0 : 0 ≤ a
      · by_cases h1 : (l.length : Int) ≤ 64
        · have h2 : ¬ a ≤ 64 - l.length := by omega
          simp [pf4_21, e11, e9, hrd, wlen, h0, h1, w64, h2, pf4_20, pf4_19, e12, pf4_17]
          refine ev_is ?_
          simp [e12]
          apply key; simp
        · simp [pf4_21, e11, e9, hrd, wlen, h0, h1, w64, pf4_20, pf4_19, e12, pf4_17]
          refine ev_is ?_
          simp [e12]
          apply key; simp
      · simp [pf4_21, e11, e9, hrd, wlen, h0, w64, pf4_20, pf4_19, e12, pf4_17]
        refine ev_is ?_
        simp [e12]
        apply key; simp
  · rw [hk] at e12
    refine Ev.mono (write_no h.M hk a hd) ?_
    rintro v s1 ⟨rfl, rfl⟩
    have key : ∀ r2 : Regs, r2 1 = r 1 ∧ r2 5 = r 5 ∧ r2 6 = r 6 ∧ r2 7 = r 7 ∧ r2 36 = r 36 ∧ r2 37 = r 37 ∧ r2 38 = r 38 → K .normal r2 s1 :=
      fun r2 ⟨f1, f2, f3, f4, f5, f6, f7⟩ => hK r2 s1 tk bs sl h rfl f1 f2 f3 f4 f5 f6 f7
    by_cases h0 : 0 ≤ a
    · by_cases h1 : (l.length : Int) ≤ 64
      · simp [pf4_21, e11, e9, hrd, wlen, h0, h1, w64, pf4_20, pf4_19, e12, pf4_17]
        refine ev_is ?_
        simp [e12]
        apply key; simp
      · simp [pf4_21, e11, e9, hrd, wlen, h0, h1, w64, pf4_20, pf4_19, e12, pf4_17]
        refine ev_is ?_
        simp [e12]
        apply key; simp
    · simp [pf4_21, e11, e9, hrd, wlen, h0, w64, pf4_20, pf4_19, e12, pf4_17]
      refine ev_is ?_
      simp [e12]
      apply key; simp
end
end Go.Ab
