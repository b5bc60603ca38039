/- The law's own model of pages (layer 8) over the abstract machine. -/
import Derived.Test.YtecpmilepjbaeaaP8
namespace Go.Ab
attribute [local simp] lenV

/-- The law's model: which pages are given out; what stands in them. -/
structure Mdl (s : S) (av : List Nat) (xb xt xs : Nat) (tk : List Bool) (sl : List AV) (pgs : Nat → List UInt8) : Prop where
  hx : s.get xb = some (.cells [.slice xt 0 tk.length tk.length false, .slice xs 0 tk.length tk.length false] 0 false)
  ht : s.get xt = some (.cells (tk.map AV.bool) 0 false)
  hs : s.get xs = some (.cells sl 0 false)
  len : sl.length = tk.length
  le : tk.length ≤ 4096
  ne : xb ≠ xt ∧ xb ≠ xs ∧ xt ≠ xs
  lt : xb < s.ctr ∧ xt < s.ctr ∧ xs < s.ctr ∧ ∀ x ∈ av, x < s.ctr
  out : xb ∉ av ∧ xt ∉ av ∧ xs ∉ av
  pg : ∀ (k : Nat), tk[k]? = some true → ∃ id, sl[k]? = some (AV.slice id 0 64 64 false) ∧ s.get id = some (.cells (u8s (pgs k)) 0 false) ∧ (pgs k).length = 64 ∧ id < s.ctr ∧ id ∉ av ∧ id ≠ xb ∧ id ≠ xt ∧ id ≠ xs
  inj : ∀ (j k id : Nat), tk[j]? = some true → tk[k]? = some true → sl[j]? = some (AV.slice id 0 64 64 false) → sl[k]? = some (AV.slice id 0 64 64 false) → j = k

section
variable {s : S} {av : List Nat} {xb xt xs : Nat} {tk : List Bool} {sl : List AV} {pgs : Nat → List UInt8}

theorem Mdl.chg {s' : S} (h : Mdl s av xb xt xs tk sl pgs) {l : List Nat} (hc : Chg l s s') (hl : ∀ x ∈ l, x ∈ av) : Mdl s' av xb xt xs tk sl pgs := by
  have hn : ∀ {x}, x ∉ av → x ∉ l := fun h hx => h (hl _ hx)
  refine ⟨by rw [hc.get _ h.lt.1 (hn h.out.1), h.hx], by rw [hc.get _ h.lt.2.1 (hn h.out.2.1), h.ht], by rw [hc.get _ h.lt.2.2.1 (hn h.out.2.2), h.hs], h.len, h.le, h.ne, ?_, h.out, ?_, h.inj⟩
  · have := hc.ctr
    refine ⟨by have := h.lt.1; omega, by have := h.lt.2.1; omega, by have := h.lt.2.2.1; omega, fun x hx => by have := h.lt.2.2.2 x hx; omega⟩
  · intro k hk
    obtain ⟨id, h1, h2, h3, h4, h5, h6⟩ := h.pg k hk
    exact ⟨id, h1, by rw [hc.get _ h4 (hn h5), h2], h3, by have := hc.ctr; omega, h5, h6⟩
theorem Mdl.ext {s' : S} (h : Mdl s av xb xt xs tk sl pgs) (hc : Ext s s') : Mdl s' av xb xt xs tk sl pgs := h.chg (hc.chg []) (by simp)

theorem Mdl.congr {pgs' : Nat → List UInt8} (h : Mdl s av xb xt xs tk sl pgs) (he : ∀ (k : Nat), tk[k]? = some true → pgs' k = pgs k) : Mdl s av xb xt xs tk sl pgs' :=
  ⟨h.hx, h.ht, h.hs, h.len, h.le, h.ne, h.lt, h.out, fun k hk => by rw [he k hk]; exact h.pg k hk, h.inj⟩

theorem Mdl.rd0 (h : Mdl s av xb xt xs tk sl pgs) : s.read xb 0 1 = some [.slice xt 0 tk.length tk.length false] := read_one h.hx rfl
theorem Mdl.rd1 (h : Mdl s av xb xt xs tk sl pgs) : s.read xb 1 1 = some [.slice xs 0 tk.length tk.length false] := read_one h.hx rfl
theorem Mdl.rdt (h : Mdl s av xb xt xs tk sl pgs) {i : Nat} {b : Bool} (hi : tk[i]? = some b) : s.read xt i 1 = some [.bool b] := read_one h.ht (by simp [hi])
theorem Mdl.rds (h : Mdl s av xb xt xs tk sl pgs) {i : Nat} {v : AV} (hi : sl[i]? = some v) : s.read xs i 1 = some [v] := read_one h.hs hi

/-- A page is taken back. -/
theorem Mdl.free (h : Mdl s av xb xt xs tk sl pgs) {i : Nat} (hi : i < tk.length) : s.write xt i [.bool false] = some (s.set xt (some (.cells ((tk.map AV.bool).set i (.bool false)) 0 false))) ∧
    Mdl (s.set xt (some (.cells ((tk.map AV.bool).set i (.bool false)) 0 false))) av xb xt xs (tk.set i false) sl pgs := by
  obtain ⟨n1, n2, n3⟩ := h.ne
  have hk : ∀ (k : Nat), (tk.set i false)[k]? = some true → tk[k]? = some true := by
    intro k hk
    rw [List.getElem?_set] at hk
    split at hk
    · simp at hk
    · exact hk
  refine ⟨write_one h.ht (by simpa using hi) rfl, ?_, ?_, ?_, ?_, ?_, h.ne, h.lt, h.out, ?_, ?_⟩
  · rw [S.get_set, if_neg n1, h.hx]; simp
  · rw [S.get_set, if_pos rfl]; simp
  · rw [S.get_set, if_neg (fun e => n3 e.symm), h.hs]
  · simp [h.len]
  · simp [h.le]
  · intro k hk'
    obtain ⟨id, h1, h2, h3, h4, h5, h6, h7, h8⟩ := h.pg k (hk k hk')
    exact ⟨id, h1, by rw [S.get_set, if_neg h7, h2], h3, h4, h5, h6, h7, h8⟩
  · intro j k id hj hk' a b
    exact h.inj j k id (hk j hj) (hk k hk') a b

/-- Bytes are laid into a page. -/
theorem Mdl.lay (h : Mdl s av xb xt xs tk sl pgs) {i id : Nat} (hi : tk[i]? = some true) (hid : sl[i]? = some (AV.slice id 0 64 64 false)) {o : Nat} {v : List UInt8} (ho : o + v.length ≤ 64) :
    s.write id o (u8s v) = some (s.set id (some (.cells (u8s (Ab.lay (pgs i) o v)) 0 false))) ∧
    Mdl (s.set id (some (.cells (u8s (Ab.lay (pgs i) o v)) 0 false))) av xb xt xs tk sl (fun k => if k = i then Ab.lay (pgs i) o v else pgs k) := by
  obtain ⟨id', h1, h2, h3, h4, h5, h6, h7, h8⟩ := h.pg i hi
  obtain rfl : id' = id := by rw [h1] at hid; simpa using hid
  refine ⟨write_u8 h2 (by omega), ?_, ?_, ?_, h.len, h.le, h.ne, h.lt, h.out, ?_, h.inj⟩
  · rw [S.get_set, if_neg (fun e => h6 e.symm), h.hx]
  · rw [S.get_set, if_neg (fun e => h7 e.symm), h.ht]
  · rw [S.get_set, if_neg (fun e => h8 e.symm), h.hs]
  · intro k hk
    by_cases hki : k = i
    · subst hki
      exact ⟨id', h1, by rw [S.get_set, if_pos rfl, if_pos rfl], by rw [if_pos rfl, lay_length (by omega), h3], h4, h5, h6, h7, h8⟩
    · obtain ⟨id2, g1, g2, g3, g4, g5, g6⟩ := h.pg k hk
      refine ⟨id2, g1, ?_, by rw [if_neg hki, g3], g4, g5, g6⟩
      rw [S.get_set, if_neg, if_neg hki, g2]
      rintro rfl
      exact hki (h.inj k i id2 hk hi g1 h1)

/-- A page is given out. -/
theorem malloc_yes (h : Mdl s av xb xt xs tk sl pgs) {i : Nat} (hi : tk[i]? = some false) (hall : ∀ j, j < i → tk[j]? = some true) : Ev tab 16 [.ptr xb 0] s fun v s' => v = .int .i64 i ∧ Chg [xt, xs] s s' ∧
    ∃ sl', Mdl s' av xb xt xs (tk.set i true) sl' (fun k => if k = i then pg0 else pgs k) := by
  refine Ev.intro rfl rfl rfl ?_
  have h0 := h.rd0
  have hil : i < tk.length := (List.getElem?_eq_some_iff.1 hi).1
  have hle := h.le
  simp [pf16, pf16_12, pf16_11, pf16_10, h0]
  refine WpC.loop (fun m r' s' => s' = s ∧ r' 0 = .ptr xb 0 ∧ r' 8 = .int .i64 tk.length ∧ ∃ j : Nat, r' 9 = .int .i64 j ∧ j ≤ i ∧ m = i - j) (m := i) ?_ ?_
  · simp
    exact ⟨0, by simp⟩
  rintro m r' s' ⟨rfl, e0, e8, j, e9, hj, rfl⟩
  have w1 : IntKind.i64.wrap ((j : Int) + 1) = ((j + 1 : Nat) : Int) := by rw [wrap_i64] <;> omega
  by_cases hji : j < i
  · have h2 := h.rdt (hall j hji)
    simp [pf16_9, pf16_8, pf16_7, pf16_6, pf16_5, pf16_4, e0, e8, e9, show j < tk.length by omega, h0, h2, w1]
    exact ⟨i - (j + 1), by omega, j + 1, by simp, by omega, rfl⟩
  obtain rfl : j = i := by omega
  have h2 := h.rdt hi
  obtain ⟨n1, n2, n3⟩ := h.ne
  obtain ⟨l1, l2, l3, l4⟩ := h.lt
  have hw1 := write_one (x := .bool true) h.ht (by simpa using hil) rfl
  obtain ⟨s2, hs2⟩ : ∃ s2, s2 = s'.set xt (some (.cells ((tk.map AV.bool).set j (.bool true)) 0 false)) := ⟨_, rfl⟩
  rw [← hs2] at hw1
  have g1 : s2.read xb 1 1 = some [.slice xs 0 tk.length tk.length false] := read_one (by rw [hs2, S.get_set, if_neg n1, h.hx]) rfl
  obtain ⟨s3, hs3⟩ : ∃ s3, s3 = s2.new (.cells (u8s pg0) 0 false) := ⟨_, rfl⟩
  have hc2 : s2.ctr = s'.ctr := by rw [hs2]; rfl
  have g2 : s3.get xs = some (.cells sl 0 false) := by rw [hs3, S.get_new, if_neg (by omega), hs2, S.get_set, if_neg (fun e => n3 e.symm), h.hs]
  have hw2 := write_one (x := .slice s2.ctr 0 64 64 false) g2 (by rw [h.len]; exact hil) rfl
  have z64 : (List.replicate 64 [AV.int .u8 0]).flatten = u8s pg0 := pg0_cells rfl
  simp [pf16_9, pf16_8, pf16_7, pf16_6, pf16_5, pf16_4, pf16_3, pf16_2, pf16_1, e0, e8, e9, hil, h0, h2, hw1, g1, z64, ← hs3, hw2, -List.reduceReplicate]
  refine ⟨?_, sl.set j (.slice s2.ctr 0 64 64 false), ?_⟩
  · rw [hs3, hs2]
    simp (maxDischargeDepth := 30)
  have hne : ∀ {x}, x < s'.ctr → x ≠ xs → x ≠ xt → (s3.set xs (some (.cells (sl.set j (.slice s2.ctr 0 64 64 false)) 0 false))).get x = s'.get x := by
    intro x hx hxs hxt
    rw [S.get_set, if_neg hxs, hs3, S.get_new, if_neg (by omega), hs2, S.get_set, if_neg hxt]
  have hc3 : (s3.set xs (some (.cells (sl.set j (.slice s2.ctr 0 64 64 false)) 0 false))).ctr = s'.ctr + 1 := by rw [hs3]; simp [hc2]
  refine ⟨?_, ?_, ?_, ?_, ?_, h.ne, ?_, h.out, ?_, ?_⟩
  · rw [hne l1 n2 n1, h.hx]; simp
  · rw [S.get_set, if_neg n3, hs3, S.get_new, if_neg (by omega), hs2, S.get_set, if_pos rfl]; simp
  · rw [S.get_set, if_pos rfl]
  · simp [h.len]
  · simp [h.le]
  · rw [hc3]
    exact ⟨by omega, by omega, by omega, fun x hx => by have := l4 x hx; omega⟩
  · intro k hk
    by_cases hkj : k = j
    · subst hkj
      refine ⟨s2.ctr, by rw [List.getElem?_set_self (by rw [h.len]; exact hil)], ?_, by rw [if_pos rfl, pg0_length], by rw [hc3]; omega, ?_, by omega, by omega, by omega⟩
      · rw [if_pos rfl, S.get_set, if_neg (by omega), hs3, S.get_new, if_pos rfl]
      · intro hx; have := l4 _ hx; omega
    · have hk' : tk[k]? = some true := by rwa [List.getElem?_set_ne (fun e => hkj e.symm)] at hk
      obtain ⟨id, q1, q2, q3, q4, q5, q6, q7, q8⟩ := h.pg k hk'
      refine ⟨id, by rw [List.getElem?_set_ne (fun e => hkj e.symm), q1], by rw [hne q4 q8 q7, if_neg hkj, q2], by rw [if_neg hkj, q3], by rw [hc3]; omega, q5, q6, q7, q8⟩
  · have hlt : ∀ (k id : Nat), tk[k]? = some true → sl[k]? = some (AV.slice id 0 64 64 false) → id < s'.ctr := by
      intro k id hk hs
      obtain ⟨id', q1, _, _, q4, _⟩ := h.pg k hk
      rw [q1] at hs
      simp only [Option.some.injEq, AV.slice.injEq] at hs
      omega
    intro a b id ha hb h3 h4
    by_cases haj : a = j
    · by_cases hbj : b = j
      · omega
      · subst haj
        rw [List.getElem?_set_self (by rw [h.len]; exact hil)] at h3
        rw [List.getElem?_set_ne (fun e => hbj e.symm)] at hb h4
        have := hlt b id hb h4
        simp at h3
        omega
    · rw [List.getElem?_set_ne (fun e => haj e.symm)] at ha h3
      by_cases hbj : b = j
      · subst hbj
        rw [List.getElem?_set_self (by rw [h.len]; exact hil)] at h4
        have := hlt a id ha h3
        simp at h4
        omega
      · rw [List.getElem?_set_ne (fun e => hbj e.symm)] at hb h4
        exact h.inj a b id ha hb h3 h4

theorem malloc_no (h : Mdl s av xb xt xs tk sl pgs) (hall : ∀ j, j < tk.length → tk[j]? = some true) : Ev tab 16 [.ptr xb 0] s fun v s' => v = .int .i64 (-1) ∧ s' = s := by
  refine Ev.intro rfl rfl rfl ?_
  have h0 := h.rd0
  have hle := h.le
  simp [pf16, pf16_12, pf16_11, pf16_10, h0]
  refine WpC.loop (fun m r' s' => s' = s ∧ r' 0 = .ptr xb 0 ∧ r' 8 = .int .i64 tk.length ∧ ∃ j : Nat, r' 9 = .int .i64 j ∧ j ≤ tk.length ∧ m = tk.length - j) (m := tk.length) ?_ ?_
  · simp
    exact ⟨0, by simp⟩
  rintro m r' s' ⟨rfl, e0, e8, j, e9, hj, rfl⟩
  have w1 : IntKind.i64.wrap ((j : Int) + 1) = ((j + 1 : Nat) : Int) := by rw [wrap_i64] <;> omega
  by_cases hji : j < tk.length
  · have h2 := h.rdt (hall j hji)
    simp [pf16_9, pf16_8, pf16_7, pf16_6, pf16_5, pf16_4, e0, e8, e9, hji, h0, h2, w1]
    exact ⟨tk.length - (j + 1), by omega, j + 1, by simp, by omega, rfl⟩
  simp [pf16_9, pf16_8, pf16_0, e0, e8, e9, hji]
end
end Go.Ab
