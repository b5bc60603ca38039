/- Objects (layer 23) over the abstract machine: capabilities, tables, draws, checks. -/
import Derived.Test.YtekkglhoeaipbaaDoorObj
namespace Go.Ab

theorem rd {s : S} {b : Nat} {c : List AV} {sz : Nat} {ro : Bool} (h : s.get b = some (.cells c sz ro)) {o n : Nat} (hn : o + n ≤ c.length) : s.read b o n = some ((c.drop o).take n) := by
  simp only [S.read, h]
  rw [if_pos hn]
theorem wrc {s : S} {b : Nat} {c : List AV} {sz : Nat} (h : s.get b = some (.cells c sz false)) {o : Nat} {v : List AV} (hn : o + v.length ≤ c.length) (hv : v.all isFlat = true) : s.write b o v = some (s.set b (some (.cells (over c o v) sz false))) := by
  simp only [S.write, h]
  rw [if_pos ⟨hn, hv⟩]

@[simp] theorem read_set_self (s : S) (i : Nat) (c : List AV) (sz : Nat) (ro : Bool) (o n : Nat) : (s.set i (some (.cells c sz ro))).read i o n = if o + n ≤ c.length then some ((c.drop o).take n) else none := by
  simp only [S.read, S.get_set, if_true]
theorem read_set_ne {i j : Nat} (h : ¬ j = i) (s : S) (x : Option AO) (o n : Nat) : (s.set i x).read j o n = s.read j o n := by
  simp only [S.read, S.get_set, if_neg h]

def Cp.cells (c : Cp) : List AV := [.int .u64 (c.p : Int), .int .u32 (c.o : Int), .int .u8 (c.r : Int), .int .u64 (c.k : Int)]
def capA (c : Cp) : AV := .agg c.cells
/-- Parts of a capability fit. -/
structure Cp.Fit (c : Cp) : Prop where
  p : c.p < 18446744073709551616
  o : c.o < 4294967296
  r : c.r < 256
  k : c.k < 18446744073709551616

section
variable {s s' : S} {tp op : Nat} {T : Tbl} {q : Orc} {F : List Nat}

theorem oracleDraw_ok (h : Oc s op q F) : Ev tab 49 [.ptr op 0] s fun v s' => Chg F s s' ∧ s'.ctr = s.ctr ∧ v = ansV q.draw.1 ∧ Oc s' op q.draw.2 F := by
  refine Ev.intro rfl rfl rfl ?_
  obtain ⟨av, fa, tp, ft, h1, h2, h3, rfl, h5, h6, h7, h8, h9⟩ := h
  simp [pf49, pf49_1, pf49_0, rd h1]
  cases he : q.es[q.at_]? with
  | none =>
    have hat : q.at_ = q.es.length := by
      obtain ⟨_, _, _, _, _, _, a1, a2⟩ := h3
      rw [List.getElem?_eq_none_iff] at he
      omega
    have h3' : Tp s tp q.es q.es.length ft := by rw [← hat]; exact h3
    refine Ev.mono (draw_no h3') ?_
    rintro v s1 ⟨rfl, rfl⟩
    have e1 : q.draw = (none, q) := by simp [Orc.draw, he]
    rw [e1]
    simp [ansV]
    exact ⟨av, fa, tp, ft, h1, h2, h3, rfl, h5, h6, h7, h8, h9⟩
  | some x =>
    refine Ev.mono (draw_ok h3 he) ?_
    rintro v s1 ⟨hc, hctr, rfl, h3'⟩
    have e1 : q.draw = (some x, { q with at_ := q.at_ + 1 }) := by simp [Orc.draw, he]
    rw [e1]
    simp [ansV, hctr]
    refine ⟨hc.sub (fun y hy => by simp [hy]), av, fa, tp, ft, by rw [hc.get op h5 h9, h1], h2.chg hc h7, h3', rfl, by omega, by simp only; omega, h7, h8, h9⟩

theorem objectsOf_ok (h : Oc s op q F) (port : Nat) : Ev tab 15 [.int .u64 port, .ptr op 0] s fun v s' => Ext s s' ∧ ∃ tp, v = .ptr tp 0 ∧ s.ctr ≤ tp ∧ Tb s' tp ⟨port, q, []⟩ (tp :: F) := by
  refine Ev.intro rfl rfl rfl ?_
  simp [pf15, pf15_3, pf15_2, pf15_0]
  refine ⟨op, .snil, F, [], by simp, h.ext (by simp), OwnF.nil _ _, by simp, by simp, fun _ _ => by simp, ?_, by simp⟩
  intro hx
  have := h.lt _ hx
  omega

theorem cap_ok (h : Tb s tp T F) (k r x : Nat) (hk : k < 4294967296) : Ev tab 50 [.ptr tp 0, .int .i64 k, .int .u8 r, .int .u64 x] s fun v s' => Ext s s' ∧ v = capA ⟨T.port, k, r, x⟩ := by
  refine Ev.intro rfl rfl rfl ?_
  obtain ⟨op, av, fo, fa, h1, h2, h3, rfl, h5, h6, h7, h8⟩ := h
  have w : IntKind.u32.wrap (k : Int) = k := by simp [IntKind.wrap, IntKind.signed, IntKind.bits]; omega
  have hne : ¬ tp = s.ctr := by omega
  simp [pf50, pf50_1, pf50_0, h1, hne, w, capA, Cp.cells, S.write, S.read]

theorem value_ok (h : Tb s tp T F) (k : Int) : Ev tab 61 [.ptr tp 0, .int .i64 k] s fun v s' => s' = s ∧ v = .tuple [.int .i64 (if 0 ≤ k then ((T.get k.toNat).map (·.value)).getD 0 else 0), .bool (decide (0 ≤ k) && (T.get k.toNat).isSome)] := by
  refine Ev.intro rfl rfl rfl ?_
  obtain ⟨op, av, fo, fa, h1, h2, h3, rfl, h5, h6, h7, h8⟩ := h
  have wl := h3.wlen
  by_cases hk : k < 0
  · have : ¬ 0 ≤ k := by omega
    simp [pf61, pf61_4, pf61_3, pf61_2, hk, pf61_1, this]
  · obtain ⟨n, rfl⟩ := Int.eq_ofNat_of_zero_le (show 0 ≤ k by omega)
    have hk0 : ¬ (n : Int) < 0 := by omega
    by_cases hl : n < T.all.length
    · obtain ⟨x, hx⟩ : ∃ x, T.all[n]? = some x := ⟨_, List.getElem?_eq_getElem hl⟩
      obtain ⟨b, rfl, rfl, hr5, hr1⟩ := OwnR.load h3 Ob.cells_length hx
      have r0 : s.read b (n * 5) 1 = some [.bool x.there] := hr1 0 (.bool x.there) rfl
      have r3 := hr1 3 (.int .i64 x.value) rfl
      have hl' : ¬ T.all.length ≤ n := by omega
      have e1 : T.get n = if x.there then some x else none := by simp [Tbl.get, hx]
      cases ht : x.there with
      | true =>
        rw [ht] at r0 e1
        simp [pf61, pf61_4, pf61_3, pf61_2, hk0, rd h1, hl, hl', r0, r3, pf61_0, e1]
      | false =>
        rw [ht] at r0 e1
        simp [pf61, pf61_4, pf61_3, pf61_2, hk0, rd h1, hl, hl', r0, r3, pf61_1, e1]
    · have hl' : T.all.length ≤ n := by omega
      have e1 : T.get n = none := by simp [Tbl.get, List.getElem?_eq_none hl']
      simp [pf61, pf61_4, pf61_3, pf61_2, hk0, rd h1, wl, hl', pf61_1, e1]

theorem Cp.Fit.i {c : Cp} (h : c.Fit) : IntKind.i64.wrap (c.o : Int) = c.o := by have := h.o; rw [wrap_i64] <;> omega

def idxE (k : Nat) (e : Option Int) : AV := .tuple [.int .i64 (k : Int), errV e]

theorem band8 (x y : Nat) (hx : x < 256) (hy : y < 256) : binV .and (.int .u8 (x : Int)) (.int .u8 (y : Int)) = some (.int .u8 ((x &&& y : Nat) : Int)) := by
  rw [binV_and]
  have e1 : (BitVec.ofInt IntKind.u8.bits (x : Int)).toNat = x := by
    simp only [IntKind.bits, BitVec.toNat_ofInt]; omega
  have e2 : (BitVec.ofInt IntKind.u8.bits (y : Int)).toNat = y := by
    simp only [IntKind.bits, BitVec.toNat_ofInt]; omega
  rw [BitVec.toNat_and, e1, e2]
  have h : x &&& y < 2 ^ 8 := Nat.and_lt_two_pow x (show y < 2 ^ 8 by omega)
  simp [IntKind.wrap, IntKind.signed, IntKind.bits]
  omega

theorem Grow.le {f f' : List Nat} {c d : Nat} (h : Grow f f' c) (hd : d ≤ c) : Grow f f' d := fun x hx => by
  rcases h x hx with h | h
  · exact .inl h
  · exact .inr (by omega)

/-- Another oracle's state. -/
theorem Tb.orc {s1 : S} {av : AV} {fo fa F1 : List Nat} {q' : Orc} (h1 : s.get tp = some (.cells [.int .u64 (T.port : Int), .ptr op 0, av] 0 false)) (h3 : OwnR Ob.cells 5 s av T.all fa) (h5 : tp < s.ctr) (h6 : Apart fo fa) (h7 : tp ∉ fo) (h8 : tp ∉ fa)
    (hc : Chg fo s s1) (hg : Grow fo F1 s.ctr) (hO : Oc s1 op q' F1) : Tb s1 tp { T with orc := q' } (tp :: (F1 ++ fa)) ∧ Grow (tp :: (fo ++ fa)) (tp :: (F1 ++ fa)) s.ctr ∧ Chg (tp :: (fo ++ fa)) s s1 := by
  refine ⟨⟨op, av, F1, fa, by rw [hc.get tp h5 h7, h1], hO, OwnF.chg h3 hc h6.symm, rfl, by have := hc.ctr; omega, h6.grow hg (OwnF.lt h3), ?_, h8⟩, ?_, hc.sub (fun x hx => by simp [hx])⟩
  · intro hx
    rcases hg tp hx with h | h
    · exact h7 h
    · omega
  · intro x hx
    simp only [List.mem_cons, List.mem_append] at hx ⊢
    rcases hx with rfl | hx | hx
    · exact .inl (.inl rfl)
    · rcases hg x hx with h | h
      · exact .inl (.inr (.inl h))
      · exact .inr h
    · exact .inl (.inr (.inr hx))

theorem check_ok (h : Tb s tp T F) (hq : T.orc.rs.length ≤ 5000000000000) {c : Cp} (hc : c.Fit) (need : Nat) (hn' : need < 256) : Ev tab 53 [.ptr tp 0, capA c, .int .u8 need] s fun v s' => Chg F s s' ∧ ∃ F', Grow F F' s.ctr ∧ Tb s' tp (T.check c need).2 F' ∧ v = idxE (T.check c need).1.1 (T.check c need).1.2 := by
  refine Ev.intro rfl rfl rfl ?_
  obtain ⟨s0, hs0⟩ : ∃ s0, s0 = s.new (.cells c.cells 0 false) := ⟨_, rfl⟩
  have x0 : Ext s s0 := by rw [hs0]; simp
  have g0 : s0.get s.ctr = some (.cells c.cells 0 false) := by rw [hs0]; simp
  have c0 : s0.ctr = s.ctr + 1 := by rw [hs0]; rfl
  have hlt := h.lt
  have hT := h.ext x0
  obtain ⟨op, av, fo, fa, h1, h2, h3, rfl, h5, h6, h7, h8⟩ := hT
  have wl := h3.wlen
  have hi := hc.i
  unfold Cp.cells at hs0 g0
  simp [pf53, pf53_14, capA, Cp.cells, ← hs0, pf53_13, rd g0, hi, pf53_12, pf53_11, rd h1]
  unfold Tbl.check
  by_cases hp : c.p = T.port
  · rw [if_neg (by simpa using hp)]
    by_cases hl : c.o < T.all.length
    · obtain ⟨x, hx⟩ : ∃ x, T.all[c.o]? = some x := ⟨_, List.getElem?_eq_getElem hl⟩
      obtain ⟨b, rfl, rfl, hr5, hr1⟩ := OwnR.load h3 Ob.cells_length hx
      have r0 : s0.read b (c.o * 5) 1 = some [.bool x.there] := hr1 0 (.bool x.there) rfl
      have r1 := hr1 1 (.int .u64 x.secret) rfl
      have hl' : ¬ T.all.length ≤ c.o := by omega
      have e1 : T.get c.o = if x.there then some x else none := by simp [Tbl.get, hx]
      cases ht : x.there with
      | false =>
        rw [ht] at r0 e1
        simp at e1
        simp [hp, rd h1, hl, hl', r0, pf53_10, e1, idxE, errV]
        exact ⟨x0.chg _, _, Grow.refl _ _, h.ext x0⟩
      | true =>
        rw [ht] at r0 e1
        simp at e1
        simp [hp, hl, hl', r0, pf53_9, e1, rd h1, r1, rd g0]
        refine Ev.mono (good_ok h2 hq x.secret T.port c.o c.r c.k hc.r) ?_
        rintro v s1 ⟨hcg, F1, hg1, hO1, rfl⟩
        obtain ⟨q1, q2, q3⟩ := Tb.orc h1 h3 h5 h6 h7 h8 hcg hg1 hO1
        have hg : Chg (tp :: (fo ++ [b])) s s1 := (x0.chg _).trans q3
        have hctr := hcg.ctr
        have hn : s.ctr ∉ fo := fun hx => by have := hlt s.ctr (by simp [hx]); omega
        have g1 : s1.get s.ctr = some (.cells [.int .u64 (c.p : Int), .int .u32 (c.o : Int), .int .u8 (c.r : Int), .int .u64 (c.k : Int)] 0 false) := by rw [hcg.get _ (by omega) hn, g0]
        obtain ⟨a, q', hq'⟩ : ∃ a q', T.orc.tok x.secret c.r = (a, q') := ⟨_, _, rfl⟩
        rw [hq'] at q1 ⊢
        cases a with
        | none =>
          simp [goodV, pf53_8, pf53_7, pf53_6, idxE, errV]
          exact ⟨hg, _, q2.le (by omega), q1⟩
        | some y =>
          by_cases hy : y = c.k
          · have hb := band8 c.r need hc.r hn'
            obtain ⟨m, hm⟩ : ∃ m, m = c.r &&& need := ⟨_, rfl⟩
            rw [← hm] at hb ⊢
            by_cases hnd : m = need
            · simp [goodV, pf53_8, pf53_7, pf53_5, pf53_4, pf53_2, hy, rd g1, hb, hnd, pf53_0, idxE, errV, -binV_and]
              exact ⟨hg, _, q2.le (by omega), q1⟩
            · have hni : ¬ (m : Int) = need := by omega
              simp [goodV, pf53_8, pf53_7, pf53_5, pf53_4, pf53_2, hy, rd g1, hb, hnd, hni, pf53_1, idxE, errV, -binV_and]
              exact ⟨hg, _, q2.le (by omega), q1⟩
          · simp [goodV, pf53_8, pf53_7, pf53_5, pf53_4, pf53_3, hy, idxE, errV]
            exact ⟨hg, _, q2.le (by omega), q1⟩
    · have hl' : T.all.length ≤ c.o := by omega
      have e1 : T.get c.o = none := by simp [Tbl.get, List.getElem?_eq_none hl']
      simp [hp, rd h1, hl', wl, pf53_10, e1, idxE, errV]
      exact ⟨x0.chg _, _, Grow.refl _ _, h.ext x0⟩
  · rw [if_pos hp]
    have hpi : ¬ (c.p : Int) = T.port := by omega
    simp [hpi, rd h1, pf53_10, idxE, errV]
    exact ⟨x0.chg _, _, Grow.refl _ _, h.ext x0⟩
end
end Go.Ab
/-! Objects (layer 23) over the abstract machine: what is done to objects. -/
namespace Go.Ab

theorem Tbl.check_facts {T T1 : Tbl} {c : Cp} {need k : Nat} (h : T.check c need = ((k, none), T1)) : ∃ x, T1.get k = some x ∧ T1.all[k]? = some x ∧ x.there = true ∧ k = c.o ∧ T1.all = T.all ∧ T1.port = T.port := by
  obtain ⟨_, h2, h3⟩ := check_pad T c need
  have h4 := (Tbl.check_step T c need).port
  rw [h] at h2 h3 h4
  obtain ⟨x, hx, hk⟩ := h3 rfl
  simp only at hk h2 h4
  subst hk
  have hg : T1.get c.o = some x := by
    unfold Tbl.get at hx ⊢
    rw [h2]; exact hx
  obtain ⟨_, m2, m3⟩ := Tbl.get_mem hg
  exact ⟨x, hg, m3, m2, rfl, h2, h4⟩

section
variable {s s' : S} {tp op : Nat} {T : Tbl} {q : Orc} {F : List Nat}

/-- Cells of an object are changed. -/
theorem Tb.put (h : Tb s tp T F) {k j : Nat} {x y : Ob} {w : List AV} (hx : T.all[k]? = some x) (hj : j + w.length ≤ 5) (hw : w.all isFlat = true) (hy : Ob.cells y = over (Ob.cells x) j w) :
    ∃ op b s', s.get tp = some (.cells [.int .u64 (T.port : Int), .ptr op 0, .slice b 0 T.all.length 0 true] 0 false) ∧ s.write b (k * 5 + j) w = some s' ∧ Tb s' tp { T with all := T.all.set k y } F ∧ Chg F s s' ∧ s'.ctr = s.ctr ∧ s'.get tp = s.get tp ∧ b ∈ F := by
  obtain ⟨op, av, fo, fa, h1, h2, h3, rfl, h5, h6, h7, h8⟩ := h
  obtain ⟨b, s', rfl, rfl, hwr, h3', hc, hctr⟩ := OwnR.store h3 Ob.cells_length hx hj hw hy
  have e1 : s'.get tp = s.get tp := hc.get tp h5 h8
  refine ⟨op, b, s', h1, hwr, ⟨op, _, fo, [b], by rw [e1, h1], h2.chg hc h6, ?_, rfl, by omega, h6, h7, h8⟩, hc.sub (fun z hz => by simp at hz; simp [hz]), hctr, e1, by simp⟩
  have e2 : (T.all.set k y).length = T.all.length := List.length_set
  have h9 := h3'
  unfold OwnR at h9 ⊢
  simpa [e2] using h9

def capE (c : Cp) (e : Option Int) : AV := .tuple [capA c, errV e]
theorem Cp.zero_cells : Cp.zero.cells = [.int .u64 0, .int .u32 0, .int .u8 0, .int .u64 0] := rfl

/-- What stands still while blocks of the table change. -/
theorem keepBox {s s0 s1 : S} {F : List Nat} {i : Nat} (hlt : ∀ x ∈ F, x < s.ctr) (hi : s.ctr ≤ i) (hi0 : i < s0.ctr) (hc : Chg F s0 s1) : s1.get i = s0.get i :=
  hc.get i hi0 (fun hx => by have := hlt i hx; omega)

/-- Blocks that are no one's. -/
theorem Tb.setOut {i : Nat} {o : Option AO} (h : Tb s tp T F) (hi : i ∉ F) : Tb (s.set i o) tp T F := h.chg (l := [i]) (by simp) (fun x hx => by simp; rintro rfl; exact hi hx)

theorem and_lt8 (x y : Nat) (h : x < 256) : x &&& y < 256 := Nat.lt_of_le_of_lt Nat.and_le_left h

theorem tblRestrict_ok (h : Tb s tp T F) (hq : T.orc.rs.length + 1 ≤ 5000000000000) {c : Cp} (hc : c.Fit) (mask : Nat) (hn' : mask < 256) : Ev tab 22 [.ptr tp 0, capA c, .int .u8 mask] s fun v s' => Chg F s s' ∧ ∃ F', Grow F F' s.ctr ∧ Tb s' tp (T.restrict c mask).2 F' ∧ v = capE (T.restrict c mask).1.1 (T.restrict c mask).1.2 := by
  refine Ev.intro rfl rfl rfl ?_
  obtain ⟨s0, hs0⟩ : ∃ s0, s0 = (s.new (.cells c.cells 0 false)).new (.cells [.int .u64 0, .int .u32 0, .int .u8 0, .int .u64 0] 0 false) := ⟨_, rfl⟩
  have x0 : Ext s s0 := by rw [hs0]; simp (maxDischargeDepth := 30)
  have g0 : s0.get s.ctr = some (.cells c.cells 0 false) := by rw [hs0]; simp
  have g0' : s0.get (s.ctr + 1) = some (.cells [.int .u64 0, .int .u32 0, .int .u8 0, .int .u64 0] 0 false) := by rw [hs0]; simp
  have c0 : s0.ctr = s.ctr + 2 := by rw [hs0]; rfl
  have hlt := h.lt
  have hT := h.ext x0
  unfold Cp.cells at hs0 g0
  simp [pf22, pf22_9, capA, Cp.cells, ← hs0, pf22_8, rd g0]
  refine Ev.mono (check_ok hT (by omega) hc 0 (by omega)) ?_
  rintro v s1 ⟨hc1, F1, hg1, hT1, rfl⟩
  have b1 : s1.get s.ctr = _ := keepBox hlt (Nat.le_refl _) (by omega) hc1
  have b1' : s1.get (s.ctr + 1) = _ := keepBox hlt (by omega) (by omega) hc1
  rw [g0] at b1
  rw [g0'] at b1'
  have hctr1 := hc1.ctr
  have hrs := (Tbl.check_step T c 0).rs
  unfold Tbl.restrict
  have hc01 : Chg F s s1 := (x0.chg _).trans hc1
  have hF1 : s.ctr ∉ F1 ∧ s.ctr + 1 ∉ F1 := by
    constructor
    · intro hx; rcases hg1 _ hx with h | h
      · have := hlt _ h; omega
      · omega
    · intro hx; rcases hg1 _ hx with h | h
      · have := hlt _ h; omega
      · omega
  cases hchk : T.check c 0 with
  | mk a T1 =>
    obtain ⟨k, e⟩ := a
    rw [hchk] at hT1 hrs
    cases e with
    | some e =>
      simp [idxE, errV, pf22_7, pf22_6, pf22_5, wrc b1', b1']
      refine ⟨Chg.set (.inl (by omega)) hc01, F1, hg1.le (by omega), hT1.setOut hF1.2, rfl⟩
    | none =>
      obtain ⟨x, hgx, hax, hth, rfl, hall, hport⟩ := Tbl.check_facts hchk
      simp only [hgx]
      simp [idxE, errV, pf22_7, pf22_6, pf22_4]
      obtain ⟨op, av, fo, fa, h1, h2, h3, rfl, h5, h6, h7, h8⟩ := hT1
      obtain ⟨b, rfl, rfl, hr5, hr1⟩ := OwnR.load h3 Ob.cells_length hax
      have hl := (List.getElem?_eq_some_iff.1 hax).1
      have r1 := hr1 1 (.int .u64 x.secret) rfl
      have hb := band8 c.r mask hc.r hn'
      obtain ⟨m, hm⟩ : ∃ m, m = c.r &&& mask := ⟨_, rfl⟩
      have hml : m < 256 := by rw [hm]; exact and_lt8 _ _ hc.r
      rw [← hm] at hb ⊢
      simp [rd h1, hl, r1, rd b1, hb, -binV_and]
      refine Ev.mono (tokenOf_ok h2 (by have : T1.orc.rs.length ≤ T.orc.rs.length + 1 := hrs; omega) x.secret m hml) ?_
      rintro v s2 ⟨hcg, F2, hg2, hO2, rfl⟩
      obtain ⟨q1, q2, q3⟩ := Tb.orc h1 h3 h5 h6 h7 h8 hcg hg2 hO2
      have hlt1 : ∀ z ∈ fo, z < s1.ctr := h2.lt
      have n1 : s.ctr ∉ fo := fun hx => hF1.1 (by simp [hx])
      have n2 : s.ctr + 1 ∉ fo := fun hx => hF1.2 (by simp [hx])
      have b2 : s2.get s.ctr = _ := hcg.get _ (by omega) n1
      have b2' : s2.get (s.ctr + 1) = _ := hcg.get _ (by omega) n2
      rw [b1] at b2
      rw [b1'] at b2'
      have hctr2 := hcg.ctr
      have hcc : Chg F s s2 := hc01.comp q3 (fun z hz => by
        rcases hg1 z hz with h | h
        · exact .inl h
        · exact .inr (by omega))
      have hgg : Grow F (tp :: (F2 ++ [b])) s.ctr := (hg1.le (show s.ctr ≤ s0.ctr by omega)).trans q2 (by omega)
      have hF2 : s.ctr ∉ tp :: (F2 ++ [b]) ∧ s.ctr + 1 ∉ tp :: (F2 ++ [b]) := by
        constructor
        · intro hx; rcases q2 _ hx with h | h
          · exact hF1.1 h
          · omega
        · intro hx; rcases q2 _ hx with h | h
          · exact hF1.2 h
          · omega
      obtain ⟨a, q', hq'⟩ : ∃ a q', T1.orc.tok x.secret m = (a, q') := ⟨_, _, rfl⟩
      rw [hq'] at q1 ⊢
      cases a with
      | none =>
        simp [ansV, pf22_3, pf22_2, pf22_1, wrc b2', capE, errV, Cp.zero_cells, capA]
        exact ⟨Chg.set (.inl (by omega)) hcc, _, hgg, q1.setOut hF2.2⟩
      | some y =>
        simp [ansV, pf22_3, pf22_2, pf22_0, rd b2, hb, -binV_and]
        refine Ev.mono (cap_ok q1 c.o m y hc.o) ?_
        rintro v s3 ⟨hx3, rfl⟩
        have b3' : s3.get (s.ctr + 1) = _ := hx3.get _ (by omega)
        rw [b2'] at b3'
        simp [capA, Cp.cells, wrc b3', capE, errV]
        exact ⟨Chg.set (.inl (by omega)) (hcc.trans (hx3.chg _)), _, hgg, (q1.ext hx3).setOut hF2.2⟩
end
end Go.Ab
/-! Objects (layer 23) over the abstract machine: revoke, destroy, touch, info. -/
namespace Go.Ab

section
variable {s s' : S} {tp op : Nat} {T : Tbl} {q : Orc} {F : List Nat}

theorem Tb.small (h : Tb s tp T F) : T.orc.es.length ≤ 17592186044416 ∧ T.orc.at_ ≤ T.orc.es.length ∧ T.orc.rs.length ≤ T.orc.at_ := by
  obtain ⟨op, av, fo, fa, h1, h2, h3, rfl, h5, h6, h7, h8⟩ := h
  obtain ⟨_, _, _, _, _, _, h, _, _, h9, _⟩ := h2
  obtain ⟨_, _, _, _, _, _, a1, a2⟩ := h
  exact ⟨a2, a1, h9⟩

/-- The check ahead of a deed: the capability in a box of its own. -/
theorem deed_pre {i : Nat} (h : Tb s tp T F) {s0 s1 : S} {F1 : List Nat} (x0 : Ext s s0) (hi : s.ctr ≤ i) (hi0 : i < s0.ctr) (hc1 : Chg F s0 s1) (hg1 : Grow F F1 s0.ctr) : s1.get i = s0.get i ∧ i ∉ F1 ∧ Chg F s s1 ∧ Grow F F1 s.ctr := by
  refine ⟨keepBox h.lt hi hi0 hc1, fun hx => ?_, (x0.chg _).trans hc1, hg1.le x0.ctr⟩
  rcases hg1 _ hx with h' | h'
  · have := h.lt _ h'; omega
  · omega

theorem info_ok (h : Tb s tp T F) (hq : T.orc.rs.length ≤ 5000000000000) {c : Cp} (hc : c.Fit) : Ev tab 81 [.ptr tp 0, capA c] s fun v s' => Chg F s s' ∧ ∃ F', Grow F F' s.ctr ∧ Tb s' tp (T.info c).2 F' ∧ v = .tuple [.int .i64 (T.info c).1.1, .int .i64 (T.info c).1.2.1, errV (T.info c).1.2.2] := by
  refine Ev.intro rfl rfl rfl ?_
  obtain ⟨s0, hs0⟩ : ∃ s0, s0 = s.new (.cells c.cells 0 false) := ⟨_, rfl⟩
  have x0 : Ext s s0 := by rw [hs0]; simp
  have g0 : s0.get s.ctr = some (.cells c.cells 0 false) := by rw [hs0]; simp
  have c0 : s0.ctr = s.ctr + 1 := by rw [hs0]; rfl
  unfold Cp.cells at hs0 g0
  simp [pf81, pf81_5, capA, Cp.cells, ← hs0, pf81_4, rd g0]
  refine Ev.mono (check_ok (h.ext x0) hq hc 0 (by omega)) ?_
  rintro v s1 ⟨hc1, F1, hg1, hT1, rfl⟩
  obtain ⟨b1, hn1, hcs, hgs⟩ := deed_pre (i := s.ctr) h x0 (Nat.le_refl _) (by omega) hc1 hg1
  unfold Tbl.info
  cases hchk : T.check c 0 with
  | mk a T1 =>
    obtain ⟨k, e⟩ := a
    rw [hchk] at hT1
    cases e with
    | some e =>
      simp [idxE, errV, pf81_3, pf81_2, pf81_1]
      exact ⟨hcs, F1, hgs, hT1⟩
    | none =>
      obtain ⟨x, hgx, hax, hth, rfl, hall, hport⟩ := Tbl.check_facts hchk
      simp only [hgx]
      have hT1' := hT1
      obtain ⟨op, av, fo, fa, h1, h2, h3, rfl, h5, h6, h7, h8⟩ := hT1
      obtain ⟨b, rfl, rfl, hr5, hr1⟩ := OwnR.load h3 Ob.cells_length hax
      have hl := (List.getElem?_eq_some_iff.1 hax).1
      have r2 := hr1 2 (.int .i64 (x.epoch : Int)) rfl
      have r4 := hr1 4 (.int .i64 x.lives) rfl
      simp [idxE, errV, pf81_3, pf81_2, pf81_0, rd h1, hl, r2, r4]
      exact ⟨hcs, _, hgs, hT1'⟩

theorem touch_ok (h : Tb s tp T F) (hq : T.orc.rs.length ≤ 5000000000000) {c : Cp} (hc : c.Fit) : Ev tab 82 [.ptr tp 0, capA c] s fun v s' => Chg F s s' ∧ ∃ F', Grow F F' s.ctr ∧ Tb s' tp (T.touch c).2 F' ∧ v = errV (T.touch c).1 := by
  refine Ev.intro rfl rfl rfl ?_
  obtain ⟨s0, hs0⟩ : ∃ s0, s0 = s.new (.cells c.cells 0 false) := ⟨_, rfl⟩
  have x0 : Ext s s0 := by rw [hs0]; simp
  have g0 : s0.get s.ctr = some (.cells c.cells 0 false) := by rw [hs0]; simp
  have c0 : s0.ctr = s.ctr + 1 := by rw [hs0]; rfl
  unfold Cp.cells at hs0 g0
  simp [pf82, pf82_5, capA, Cp.cells, ← hs0, pf82_4, rd g0]
  refine Ev.mono (check_ok (h.ext x0) hq hc 0 (by omega)) ?_
  rintro v s1 ⟨hc1, F1, hg1, hT1, rfl⟩
  obtain ⟨b1, hn1, hcs, hgs⟩ := deed_pre (i := s.ctr) h x0 (Nat.le_refl _) (by omega) hc1 hg1
  unfold Tbl.touch
  cases hchk : T.check c 0 with
  | mk a T1 =>
    obtain ⟨k, e⟩ := a
    rw [hchk] at hT1
    cases e with
    | some e =>
      simp [idxE, errV, pf82_3, pf82_2, pf82_0]
      exact ⟨hcs, F1, hgs, hT1⟩
    | none =>
      obtain ⟨x, hgx, hax, hth, rfl, hall, hport⟩ := Tbl.check_facts hchk
      simp only [hgx]
      obtain ⟨op, b, s2, h1, hw, hT2, hc2, hctr2, e2, hbF⟩ := Tb.put hT1 hax (y := { x with lives := 24 }) (j := 4) (w := [.int .i64 24]) (by simp) (by simp) (by simp [Ob.cells, over])
      have hl := (List.getElem?_eq_some_iff.1 hax).1
      simp [idxE, errV, pf82_3, pf82_2, pf82_1, rd h1, hl, hw, pf82_0]
      exact ⟨hcs.comp hc2 hgs, F1, hgs, hT2⟩

theorem destroy_ok (h : Tb s tp T F) (hq : T.orc.rs.length ≤ 5000000000000) {c : Cp} (hc : c.Fit) : Ev tab 59 [.ptr tp 0, capA c] s fun v s' => Chg F s s' ∧ ∃ F', Grow F F' s.ctr ∧ Tb s' tp (T.destroy c).2 F' ∧ v = .tuple [.int .i64 ((T.destroy c).1.1 : Nat), .int .i64 (T.destroy c).1.2.1, errV (T.destroy c).1.2.2] := by
  refine Ev.intro rfl rfl rfl ?_
  obtain ⟨s0, hs0⟩ : ∃ s0, s0 = s.new (.cells c.cells 0 false) := ⟨_, rfl⟩
  have x0 : Ext s s0 := by rw [hs0]; simp
  have g0 : s0.get s.ctr = some (.cells c.cells 0 false) := by rw [hs0]; simp
  have c0 : s0.ctr = s.ctr + 1 := by rw [hs0]; rfl
  unfold Cp.cells at hs0 g0
  simp [pf59, pf59_7, capA, Cp.cells, ← hs0, pf59_6, rd g0]
  refine Ev.mono (check_ok (h.ext x0) hq hc 8 (by omega)) ?_
  rintro v s1 ⟨hc1, F1, hg1, hT1, rfl⟩
  obtain ⟨b1, hn1, hcs, hgs⟩ := deed_pre (i := s.ctr) h x0 (Nat.le_refl _) (by omega) hc1 hg1
  unfold Tbl.destroy
  cases hchk : T.check c 8 with
  | mk a T1 =>
    obtain ⟨k, e⟩ := a
    rw [hchk] at hT1
    cases e with
    | some e =>
      simp [idxE, errV, pf59_5, pf59_4, pf59_3]
      exact ⟨hcs, F1, hgs, hT1⟩
    | none =>
      obtain ⟨x, hgx, hax, hth, rfl, hall, hport⟩ := Tbl.check_facts hchk
      simp only [hgx]
      have r3 : ∀ b op, s1.get tp = some (.cells [.int .u64 (T1.port : Int), .ptr op 0, .slice b 0 T1.all.length 0 true] 0 false) → s1.read b (c.o * 5 + 3) 1 = some [.int .i64 x.value] := by
        intro b op hb
        obtain ⟨op', av, fo, fa, h1, h2, h3, rfl, h5, h6, h7, h8⟩ := hT1
        obtain ⟨b', rfl, rfl, hr5, hr1⟩ := OwnR.load h3 Ob.cells_length hax
        rw [h1] at hb
        simp only [Option.some.injEq, AO.cells.injEq, List.cons.injEq, AV.slice.injEq, AV.ptr.injEq] at hb
        have := hb.1.2.2.1.1
        subst this
        exact hr1 3 _ rfl
      obtain ⟨op, b, s2, h1, hw, hT2, hc2, hctr2, e2, hbF⟩ := Tb.put hT1 hax (y := Ob.none) (j := 0) (w := Ob.none.cells) (by simp [Ob.cells_length]) (Ob.cells_flat _) (by simp [Ob.cells, over])
      have hl := (List.getElem?_eq_some_iff.1 hax).1
      have r3' := r3 b op h1
      simp only [Ob.cells, Ob.none, Nat.add_zero] at hw
      simp at hw
      simp [idxE, errV, pf59_5, pf59_4, pf59_2, pf59_1, rd h1, hl, r3', hw, pf59_0]
      exact ⟨hcs.comp hc2 hgs, F1, hgs, hT2⟩
end
end Go.Ab
/-! Objects (layer 23) over the abstract machine: revoke, create. -/
namespace Go.Ab

section
variable {s s' : S} {tp op : Nat} {T : Tbl} {q : Orc} {F : List Nat}

/-- A draw of the table's oracle. -/
theorem tblDraw (h : Tb s tp T F) : ∃ op av, s.get tp = some (.cells [.int .u64 (T.port : Int), .ptr op 0, av] 0 false) ∧ Ev tab 49 [.ptr op 0] s fun v s' => Chg F s s' ∧ s'.ctr = s.ctr ∧ v = ansV T.orc.draw.1 ∧ Tb s' tp { T with orc := T.orc.draw.2 } F := by
  obtain ⟨op, av, fo, fa, h1, h2, h3, rfl, h5, h6, h7, h8⟩ := h
  refine ⟨op, av, h1, Ev.mono (oracleDraw_ok h2) ?_⟩
  rintro v s1 ⟨hc, hctr, rfl, hO⟩
  obtain ⟨q1, q2, q3⟩ := Tb.orc (F1 := fo) h1 h3 h5 h6 h7 h8 hc (Grow.refl _ _) hO
  exact ⟨q3, hctr, rfl, q1⟩

theorem revoke_ok (h : Tb s tp T F) (ok : T.Ok) (hq : T.orc.rs.length ≤ 5000000000000) {c : Cp} (hc : c.Fit) : Ev tab 83 [.ptr tp 0, capA c] s fun v s' => Chg F s s' ∧ ∃ F', Grow F F' s.ctr ∧ Tb s' tp (T.revoke c).2 F' ∧ v = capE (T.revoke c).1.1 (T.revoke c).1.2 := by
  refine Ev.intro rfl rfl rfl ?_
  obtain ⟨s0, hs0⟩ : ∃ s0, s0 = (s.new (.cells c.cells 0 false)).new (.cells [.int .u64 0, .int .u32 0, .int .u8 0, .int .u64 0] 0 false) := ⟨_, rfl⟩
  have x0 : Ext s s0 := by rw [hs0]; simp (maxDischargeDepth := 30)
  have g0 : s0.get s.ctr = some (.cells c.cells 0 false) := by rw [hs0]; simp
  have g0' : s0.get (s.ctr + 1) = some (.cells [.int .u64 0, .int .u32 0, .int .u8 0, .int .u64 0] 0 false) := by rw [hs0]; simp
  have c0 : s0.ctr = s.ctr + 2 := by rw [hs0]; rfl
  unfold Cp.cells at hs0 g0
  simp [pf83, pf83_11, capA, Cp.cells, ← hs0, pf83_10, rd g0]
  refine Ev.mono (check_ok (h.ext x0) hq hc 255 (by omega)) ?_
  rintro v s1 ⟨hc1, F1, hg1, hT1, rfl⟩
  obtain ⟨b1, hn1, hcs, hgs⟩ := deed_pre (i := s.ctr + 1) h x0 (by omega) (by omega) hc1 hg1
  rw [g0'] at b1
  have hctr1 := hc1.ctr
  have hst := Tbl.check_step T c 255
  unfold Tbl.revoke
  cases hchk : T.check c 255 with
  | mk a T1 =>
    obtain ⟨k, e⟩ := a
    rw [hchk] at hT1 hst
    replace hst : Tbl.Step 1 T T1 := hst
    replace hT1 : Tb s1 tp T1 F1 := hT1
    cases e with
    | some e =>
      simp [idxE, errV, pf83_9, pf83_8, pf83_7, wrc b1]
      exact ⟨Chg.set (.inl (by omega)) hcs, F1, hgs, hT1.setOut hn1, rfl⟩
    | none =>
      obtain ⟨x, hgx, hax, hth, rfl, hall, hport⟩ := Tbl.check_facts hchk
      simp only [hgx]
      obtain ⟨op, av, h1, hev⟩ := tblDraw hT1
      simp [idxE, errV, pf83_9, pf83_8, pf83_6, rd h1]
      refine Ev.mono hev ?_
      rintro v s2 ⟨hc2, hctr2, rfl, hT2⟩
      have b2 : s2.get (s.ctr + 1) = _ := hc2.get _ (by omega) hn1
      rw [b1] at b2
      have hcs2 := hcs.comp hc2 hgs
      have hd := Orc.draw_facts (q := T1.orc) (a := T1.orc.draw.1) (q' := T1.orc.draw.2) rfl
      obtain ⟨d, q', hq'⟩ : ∃ d q', T1.orc.draw = (d, q') := ⟨_, _, rfl⟩
      rw [hq'] at hT2 hd ⊢
      replace hT2 : Tb s2 tp { T1 with orc := q' } F1 := hT2
      cases d with
      | none =>
        simp [ansV, pf83_5, pf83_4, pf83_3, wrc b2, capE, errV, Cp.zero_cells, capA]
        exact ⟨Chg.set (.inl (by omega)) hcs2, _, hgs, hT2.setOut hn1⟩
      | some y =>
        obtain ⟨op1, b3, s3, h3, hw3, hT3, hc3, hctr3, e3, hbF3⟩ := Tb.put hT2 hax (y := { x with secret := y }) (j := 1) (w := [.int .u64 (y : Int)]) (by simp) (by simp) (by simp [Ob.cells, over])
        have hl := (List.getElem?_eq_some_iff.1 hax).1
        have hxok := ((hst.ok ok).all x (List.mem_of_getElem? hax)).epoch
        have hsm := hT1.small
        have hax3 : (T1.all.set c.o { x with secret := y })[c.o]? = some { x with secret := y } := by simp [hl]
        have hT3' := hT3
        obtain ⟨op3, av3, fo3, fa3, h31, h32, h33, hF3, h35, h36, h37, h38⟩ := hT3
        obtain ⟨bb, rfl, rfl, hr5, hr1⟩ := OwnR.load h33 Ob.cells_length hax3
        have r2 := hr1 2 (.int .i64 (x.epoch : Int)) rfl
        obtain ⟨op4, b4, s4, h4, hw4, hT4, hc4, hctr4, e4, hbF4⟩ := Tb.put hT3' hax3 (y := { x with secret := y, epoch := x.epoch + 1 }) (j := 2) (w := [.int .i64 ((x.epoch + 1 : Nat) : Int)]) (by simp) (by simp) (by simp [Ob.cells, over])
        have hbb : b4 = bb ∧ bb = b3 := by
          have h31' := h31
          rw [h4] at h31
          rw [e3, h3] at h31'
          simp only [Option.some.injEq, AO.cells.injEq, List.cons.injEq, AV.slice.injEq] at h31 h31'
          exact ⟨h31.1.2.2.1.1, h31'.1.2.2.1.1.symm⟩
        obtain ⟨rfl, rfl⟩ := hbb
        have w1 : IntKind.i64.wrap ((x.epoch : Int) + 1) = ((x.epoch + 1 : Nat) : Int) := by rw [wrap_i64] <;> omega
        simp only [List.length_set] at h4 h31
        simp only [List.set_set] at hT4
        simp [ansV, pf83_5, pf83_4, pf83_2, pf83_1, pf83_0, rd h3, hl, hw3, rd h4, r2, w1, -Int.natCast_add, hw4]
        refine Ev.mono (cap_ok hT4 c.o 255 y hc.o) ?_
        rintro v s5 ⟨hx5, rfl⟩
        have hctr5 := hx5.ctr
        have b5 : s5.get (s.ctr + 1) = some (.cells [.int .u64 0, .int .u32 0, .int .u8 0, .int .u64 0] 0 false) := by
          rw [hx5.get _ (by omega), hc4.get _ (by omega) hn1, hc3.get _ (by omega) hn1, b2]
        simp [capA, Cp.cells, wrc b5, capE, errV]
        refine ⟨Chg.set (.inl (by omega)) (((hcs2.comp hc3 hgs).comp hc4 hgs).trans (hx5.chg _)), _, hgs, (hT4.ext hx5).setOut hn1⟩
end
end Go.Ab
/-! Objects (layer 23) over the abstract machine: create. -/
namespace Go.Ab

section
variable {s s' : S} {tp op : Nat} {T : Tbl} {q : Orc} {F : List Nat}

theorem Tb.push (h : Tb s tp T F) (hl : T.all.length < 64) : ∃ op av, s.get tp = some (.cells [.int .u64 (T.port : Int), .ptr op 0, av] 0 false) ∧
    (∀ (T' : Tab) (r : Regs) (s' : S) (x : Opd) (Q : AV → S → Prop), x.ev r = av → WpI T' (.len false x) r s' Q = Q (.int .i64 T.all.length) s') ∧
    ∀ Q : AV → S → Prop, (∀ v' s2 F2, s2.get tp = s.get tp → Chg F s s2 → Grow F F2 s.ctr → tp ∈ F → isFlat v' = true → v'.cells = [v'] → Tb (s2.set tp (some (.cells [.int .u64 (T.port : Int), .ptr op 0, v'] 0 false))) tp { T with all := T.all ++ [Ob.none] } F2 → Q v' s2) →
      cont ((s.new (.cells [.bool false, .int .u64 0, .int .i64 0, .int .i64 0, .int .i64 0] 0 false)).app 5 40 av (.slice s.ctr 0 1 1 false)) Q := by
  obtain ⟨op, av, fo, fa, h1, h2, h3, rfl, h5, h6, h7, h8⟩ := h
  refine ⟨op, av, h1, h3.wlen, fun Q hQ => ?_⟩
  have x1 : Ext s (s.new (.cells [.bool false, .int .u64 0, .int .i64 0, .int .i64 0, .int .i64 0] 0 false)) := by simp
  refine cont_app_ownF (m := 1) (ds := Ob.none.cells) (OwnF.ext h3 x1) rfl ?_ rfl rfl (rowsOf_flat Ob.cells_flat _) (by omega) (by omega) (by omega) ?_
  · simp [S.cellsOf, S.read, Ob.cells, Ob.none]
  intro v' s2 fa' hO hc hg
  have g2 : s2.get tp = s.get tp := by rw [hc.get tp (by simp; omega) h8, x1.get tp h5]
  have c2 := hc.ctr
  simp at c2
  have hc' : Chg fa s s2 := (x1.chg _).trans hc
  have n8 : tp ∉ fa' := fun hx => by
    rcases hg tp hx with h | h
    · exact h8 h
    · simp at h; omega
  have hfo : Apart fo fa' := (h6.symm.grow (hg.le (show s.ctr ≤ _ by simp)) h2.lt).symm
  have hcs : Chg [tp] s2 (s2.set tp (some (.cells [.int .u64 (T.port : Int), .ptr op 0, v'] 0 false))) := by simp
  refine hQ v' s2 (tp :: (fo ++ fa')) g2 (hc'.sub (fun x hx => by simp [hx])) ?_ (by simp) hO.flat hO.cells1 ?_
  · intro x hx
    simp only [List.mem_cons, List.mem_append] at hx ⊢
    rcases hx with rfl | hx | hx
    · exact .inl (.inl rfl)
    · exact .inl (.inr (.inl hx))
    · rcases hg x hx with h | h
      · exact .inl (.inr (.inr h))
      · simp at h; exact .inr (by omega)
  · refine ⟨op, v', fo, fa', by simp, (h2.chg hc' h6).chg hcs (fun x hx => by simp; rintro rfl; exact h7 hx), ?_, rfl, by simp; omega, hfo, h7, n8⟩
    have hO' := hO.chg hcs (fun x hx => by simp; rintro rfl; exact n8 hx)
    unfold OwnR
    simpa [rowsOf_append, rowsOf_cons] using hO'

theorem Grow.mem {f f' : List Nat} {c x : Nat} (h : Grow f f' c) (hx : x < c) (hn : x ∉ f) : x ∉ f' := fun hx' => by
  rcases h x hx' with h | h
  · exact hn h
  · omega

set_option maxRecDepth 10000 in
theorem create_ok (h : Tb s tp T F) (ok : T.Ok) (val : Int) : Ev tab 19 [.ptr tp 0, .int .i64 val] s fun v s' => Chg F s s' ∧ ∃ F', Grow F F' s.ctr ∧ Tb s' tp (T.create val).2 F' ∧ v = capE (T.create val).1.1 (T.create val).1.2 := by
  refine Ev.intro rfl rfl rfl ?_
  obtain ⟨s0, hs0⟩ : ∃ s0, s0 = s.new (.cells [.int .u64 0, .int .u32 0, .int .u8 0, .int .u64 0] 0 false) := ⟨_, rfl⟩
  have x0 : Ext s s0 := by rw [hs0]; simp
  have g0 : s0.get s.ctr = some (.cells [.int .u64 0, .int .u32 0, .int .u8 0, .int .u64 0] 0 false) := by rw [hs0]; simp
  have c0 : s0.ctr = s.ctr + 1 := by rw [hs0]; rfl
  have hT := h.ext x0
  have hlt := h.lt
  have hn0 : s.ctr ∉ F := fun hx => by have := hlt _ hx; omega
  have hle := lowest_le T.all
  have hfew : T.all.length ≤ 64 := ok.few
  have rest : ∀ R : Regs, R 0 = .ptr tp 0 → R 1 = .int .i64 val → R 4 = .ptr s.ctr 0 → R 6 = .int .i64 (lowest T.all : Nat) → WpC tab pf19_14 R s0 (FinP pf19.results fun v s' => Chg F s s' ∧ ∃ F', Grow F F' s.ctr ∧ Tb s' tp (T.create val).2 F' ∧ v = capE (T.create val).1.1 (T.create val).1.2) := by
    intro R r0 r1 r4 r6
    unfold Tbl.create
    by_cases h64 : 64 ≤ lowest T.all
    · have h64' : (64 : Int) ≤ (lowest T.all : Nat) := by omega
      simp only [if_pos h64]
      simp [pf19, pf19_14, pf19_10, r6, h64', pf19_9, r4, wrc g0, capE, errV, Cp.zero_cells, capA]
      exact ⟨Chg.set (.inl (by omega)) (x0.chg _), F, Grow.refl _ _, hT.setOut hn0⟩
    · have h64' : ¬ (64 : Int) ≤ (lowest T.all : Nat) := by omega
      simp only [if_neg h64]
      obtain ⟨op, av, h1, hev⟩ := tblDraw hT
      simp [pf19, pf19_14, pf19_10, r6, h64', pf19_8, r0, rd h1]
      refine Ev.mono hev ?_
      rintro v s1 ⟨hc1, hctr1, rfl, hT1⟩
      have b1 : s1.get s.ctr = _ := hc1.get _ (by omega) hn0
      rw [g0] at b1
      have hcs1 : Chg F s s1 := (x0.chg _).trans hc1
      have hd := Orc.draw_facts (q := T.orc) (a := T.orc.draw.1) (q' := T.orc.draw.2) rfl
      obtain ⟨d, q', hq'⟩ : ∃ d q', T.orc.draw = (d, q') := ⟨_, _, rfl⟩
      rw [hq'] at hT1 hd ⊢
      replace hT1 : Tb s1 tp { T with orc := q' } F := hT1
      cases d with
      | none =>
        simp [ansV, pf19_7, pf19_5, pf19_4, r4, wrc b1, capE, errV, Cp.zero_cells, capA]
        exact ⟨Chg.set (.inl (by omega)) hcs1, F, Grow.refl _ _, hT1.setOut hn0⟩
      | some y =>
        -- what is done when there is a place
        have fin : ∀ (R' : Regs) (s2 : S) (F2 : List Nat) (l l' : List Ob) (x : Ob) (k : Nat), k < 64 → l.set k ⟨true, y, 0, val, 24⟩ = l' → R' 0 = .ptr tp 0 → R' 1 = .int .i64 val → R' 4 = .ptr s.ctr 0 → R' 6 = .int .i64 (k : Nat) → R' 7 = .int .u64 (y : Int) → Tb s2 tp { T with orc := q', all := l } F2 → l[k]? = some x → Chg F s s2 → Grow F F2 s.ctr → s.ctr ∉ F2 → s.ctr < s2.ctr → s2.get s.ctr = some (.cells [.int .u64 0, .int .u32 0, .int .u8 0, .int .u64 0] 0 false) →
            WpC tab pf19_1 R' s2 (seqK tab (pf19_0.seq PC.ret) (FinP [PR.cell 4 4 true, PR.tmp 5] fun v s' => Chg F s s' ∧ ∃ F', Grow F F' s.ctr ∧ Tb s' tp { port := T.port, orc := q', all := l' } F' ∧ v = capE { p := T.port, o := k, r := 255, k := y } none)) := by
          rintro R' s2 F2 l _ x k hk64 rfl q0 q1 q4 q6 q7 hT2 hx hc2 hg2 hn2 hctr2 b2
          obtain ⟨op2, b, s3, h2, hw, hT3, hc3, hctr3, e3, hbF⟩ := Tb.put hT2 hx (y := ⟨true, y, 0, val, 24⟩) (j := 0) (w := Ob.cells ⟨true, y, 0, val, 24⟩) (by simp [Ob.cells_length]) (Ob.cells_flat _) (by simp [Ob.cells, over])
          have hl := (List.getElem?_eq_some_iff.1 hx).1
          simp only [Ob.cells, Nat.add_zero] at hw
          simp at hw
          simp [pf19_1, pf19_0, q0, q1, q4, q6, q7, rd h2, hl, hw]
          refine Ev.mono (cap_ok hT3 k 255 y (by omega)) ?_
          rintro v s4 ⟨hx4, rfl⟩
          have hctr4 := hx4.ctr
          have b4 : s4.get s.ctr = some (.cells [.int .u64 0, .int .u32 0, .int .u8 0, .int .u64 0] 0 false) := by rw [hx4.get _ (by omega), hc3.get _ (by omega) hn2, b2]
          simp [q4, capA, Cp.cells, wrc b4, capE, errV]
          exact ⟨Chg.set (.inl (by omega)) ((hc2.comp hc3 hg2).trans (hx4.chg _)), F2, hg2, (hT3.ext hx4).setOut hn2⟩
        have hctr1' : s.ctr < s1.ctr := by omega
        have hT1' := hT1
        by_cases he : lowest T.all = T.all.length
        · obtain ⟨op1, av1, h11, wl1, hpush⟩ := Tb.push hT1 (by show T.all.length < 64; omega)
          simp only [if_pos he]
          simp [ansV, pf19_7, pf19_5, pf19_6, pf19_3, r0, r4, r6, rd h11, wl1, he, pf19_2]
          refine hpush _ ?_
          intro v' s2 F2 g2 hc2 hg2 htF hfl hcl hT2
          have g2' := g2.trans h11
          have hn2 : s.ctr ∉ F2 := hg2.mem hctr1' hn0
          have hctr2 := hc2.ctr
          have b2 : s2.get s.ctr = some (.cells [.int .u64 0, .int .u32 0, .int .u8 0, .int .u64 0] 0 false) := by rw [hc2.get _ hctr1' hn0, b1]
          have hne : ¬ s.ctr = tp := fun e => hn0 (by rw [e]; exact htF)
          have hcs2 : Chg F s (s2.set tp (some (.cells [.int .u64 (T.port : Int), .ptr op1 0, v'] 0 false))) := Chg.set (.inr htF) (hcs1.trans hc2)
          simp [wrc g2', hfl, hcl]
          have hset : ∀ x, (T.all ++ [Ob.none]).set (lowest T.all) x = T.all ++ [x] := by
            intro x; rw [he, List.set_append_right _ _ (Nat.le_refl _)]; simp
          exact fin _ _ _ _ _ Ob.none T.all.length (by omega) (by have := hset ⟨true, y, 0, val, 24⟩; rw [he] at this; exact this) (by simp [r0]) (by simp [r1]) (by simp [r4]) (by simp [r6, he]) (by simp) hT2 (by simp) hcs2 (hg2.le (by omega)) hn2 (by simp; omega) (by simp [hne, b2])
        · obtain ⟨o, ho, hth⟩ := lowest_at T.all (by omega)
          simp only [if_neg he]
          obtain ⟨op1, av1, fo1, fa1, z1, z2, z3, hF, z5, z6, z7, z8⟩ := hT1
          have wl1 := z3.wlen
          have hei : ¬ ((lowest T.all : Nat) : Int) = (T.all.length : Nat) := by omega
          simp only at z1 wl1
          simp [ansV, pf19_7, pf19_5, pf19_6, pf19_3, r0, r4, r6, rd z1, wl1, he, hei]
          exact fin _ _ _ _ _ o (lowest T.all) (by omega) rfl (by simp [r0]) (by simp [r1]) (by simp [r4]) (by simp [r6]) (by simp) hT1' ho hcs1 (Grow.refl _ _) hn0 hctr1' b1
  simp [pf19, pf19_16, ← hs0, pf19_15]
  refine WpC.loop (fun m r' t => ∃ i, i ≤ lowest T.all ∧ m = lowest T.all - i ∧ r' 0 = .ptr tp 0 ∧ r' 1 = .int .i64 val ∧ r' 4 = .ptr s.ctr 0 ∧ r' 6 = .int .i64 (i : Nat) ∧ t = s0) (m := lowest T.all) ?_ ?_
  · exact ⟨0, by omega, rfl, by simp, by simp, by simp, by simp, rfl⟩
  rintro m r' t ⟨i, hi, rfl, e0, e1, e4, e6, rfl⟩
  obtain ⟨op, av, fo, fa, h1, h2, h3, rfl, h5, h6, h7, h8⟩ := hT
  have wl := h3.wlen
  by_cases hil : i < T.all.length
  · obtain ⟨x, hx⟩ : ∃ x, T.all[i]? = some x := ⟨_, List.getElem?_eq_getElem hil⟩
    obtain ⟨b, rfl, rfl, hr5, hr1⟩ := OwnR.load h3 Ob.cells_length hx
    have rb : t.read b (i * 5) 1 = some [.bool x.there] := hr1 0 (.bool x.there) rfl
    by_cases hlo : i < lowest T.all
    · obtain ⟨o, ho, hth⟩ := lowest_below T.all i hlo
      rw [hx] at ho
      cases ho
      rw [hth] at rb
      have w1 : IntKind.i64.wrap ((i : Int) + 1) = ((i + 1 : Nat) : Int) := by rw [wrap_i64] <;> omega
      simp [pf19_13, pf19_12, e0, e6, rd h1, hil, rb, pf19_11, w1, -Int.natCast_add]
      exact ⟨lowest T.all - (i + 1), by omega, i + 1, by omega, rfl, e1, e4, rfl⟩
    · obtain rfl : i = lowest T.all := by omega
      obtain ⟨o, ho, hth⟩ := lowest_at T.all hil
      rw [hx] at ho
      cases ho
      rw [hth] at rb
      simp [pf19_13, pf19_12, e0, e6, rd h1, hil, rb]
      exact rest _ (by simp [e0]) (by simp [e1]) (by simp [e4]) (by simp [e6])
  · obtain rfl : i = lowest T.all := by omega
    simp [pf19_13, pf19_12, e0, e6, rd h1, wl, hil]
    exact rest _ (by simp [e0]) (by simp [e1]) (by simp [e4]) (by simp [e6])
end
end Go.Ab
/-! Objects (layer 23) over the abstract machine: capabilities in boxes; the tape of the laws. -/
namespace Go.Ab

@[simp] theorem capA_cells (c : Cp) : (capA c).cells = c.cells := rfl
@[simp] theorem Cp.cells_length (c : Cp) : c.cells.length = 4 := rfl
theorem Cp.cells_flat (c : Cp) : c.cells.all isFlat = true := rfl

theorem Cp.zero_fit : Cp.zero.Fit := ⟨by simp [Cp.zero], by simp [Cp.zero], by simp [Cp.zero], by simp [Cp.zero]⟩
theorem Tbl.create_fit {T : Tbl} (ok : T.Ok) (v : Int) : (T.create v).1.1.Fit := by
  unfold Tbl.create
  simp only
  split
  · exact Cp.zero_fit
  · have hp := ok.port
    have hle := lowest_le T.all
    have hf : T.all.length ≤ 64 := ok.few
    cases hd : T.orc.draw with
    | mk a q =>
      obtain ⟨d1, d2, d3, d4, d5, d6⟩ := Orc.draw_facts hd
      cases a with
      | none => exact Cp.zero_fit
      | some s =>
        have := ok.tape s (d6 s rfl).1
        exact ⟨hp, by simp only; omega, by simp, by unfold w48 at this; simp only; omega⟩
theorem Tbl.restrict_fit {T : Tbl} (ok : T.Ok) {c : Cp} (hc : c.Fit) (m : Nat) : (T.restrict c m).1.1.Fit := by
  have hs := (Tbl.check_step T c 0)
  unfold Tbl.restrict
  cases ht : T.check c 0 with
  | mk a T1 =>
    obtain ⟨k, e⟩ := a
    rw [ht] at hs
    replace hs : Tbl.Step 1 T T1 := hs
    cases e with
    | some e => exact Cp.zero_fit
    | none =>
      obtain ⟨x, hgx, hax, hth, rfl, hall, hport⟩ := Tbl.check_facts ht
      simp only [hgx]
      have ok1 := hs.ok ok
      cases hd : T1.orc.tok x.secret (c.r &&& m) with
      | mk a q =>
        cases a with
        | none => exact Cp.zero_fit
        | some y =>
          have := (Orc.tok_w ok1.tape ok1.rsw x.secret (c.r &&& m)).2 y (by rw [hd])
          exact ⟨ok1.port, hc.o, and_lt8 _ _ hc.r, by unfold w48 at this; simp only; omega⟩
theorem Tbl.revoke_fit {T : Tbl} (ok : T.Ok) {c : Cp} (hc : c.Fit) : (T.revoke c).1.1.Fit := by
  have hs := (Tbl.check_step T c 255)
  unfold Tbl.revoke
  cases ht : T.check c 255 with
  | mk a T1 =>
    obtain ⟨k, e⟩ := a
    rw [ht] at hs
    replace hs : Tbl.Step 1 T T1 := hs
    cases e with
    | some e => exact Cp.zero_fit
    | none =>
      obtain ⟨x, hgx, hax, hth, rfl, hall, hport⟩ := Tbl.check_facts ht
      simp only [hgx]
      have ok1 := hs.ok ok
      cases hd : T1.orc.draw with
      | mk a q =>
        obtain ⟨d1, d2, d3, d4, d5, d6⟩ := Orc.draw_facts hd
        cases a with
        | none => exact Cp.zero_fit
        | some y =>
          have := ok1.tape y (d6 y rfl).1
          exact ⟨ok1.port, hc.o, by simp, by unfold w48 at this; simp only; omega⟩

/-- A capability in a box of its own. -/
structure Bx (s : S) (i : Nat) (c : Cp) (F : List Nat) : Prop where
  get : s.get i = some (.cells c.cells 0 false)
  lt : i < s.ctr
  out : i ∉ F
section
variable {s s' : S} {i tp : Nat} {c : Cp} {T : Tbl} {F F' : List Nat}
theorem Bx.step (h : Bx s i c F) (hc : Chg F s s') (hg : Grow F F' s.ctr) : Bx s' i c F' :=
  ⟨by rw [hc.get i h.lt h.out, h.get], by have := hc.ctr; have := h.lt; omega, hg.mem h.lt h.out⟩
theorem Bx.ext (h : Bx s i c F) (hx : Ext s s') : Bx s' i c F := ⟨by rw [hx.get i h.lt, h.get], by have := hx.ctr; have := h.lt; omega, h.out⟩
theorem Bx.rd4 (h : Bx s i c F) : s.read i 0 4 = some c.cells := by rw [rd h.get (by simp)]; rfl
theorem Bx.rd0 (h : Bx s i c F) : s.read i 0 1 = some [.int .u64 (c.p : Int)] := by rw [rd h.get (by simp)]; rfl
theorem Bx.rd1 (h : Bx s i c F) : s.read i 1 1 = some [.int .u32 (c.o : Int)] := by rw [rd h.get (by simp)]; rfl
theorem Bx.rd2 (h : Bx s i c F) : s.read i 2 1 = some [.int .u8 (c.r : Int)] := by rw [rd h.get (by simp)]; rfl
theorem Bx.rd3 (h : Bx s i c F) : s.read i 3 1 = some [.int .u64 (c.k : Int)] := by rw [rd h.get (by simp)]; rfl
/-- A new box. -/
theorem box_new (z : List AV) (c : Cp) (hF : ∀ x ∈ F, x < s.ctr) : Ext s ((s.new (.cells z 0 false)).set s.ctr (some (.cells c.cells 0 false))) ∧ Bx ((s.new (.cells z 0 false)).set s.ctr (some (.cells c.cells 0 false))) s.ctr c F ∧ ((s.new (.cells z 0 false)).set s.ctr (some (.cells c.cells 0 false))).ctr = s.ctr + 1 :=
  ⟨by simp, ⟨by simp, by simp, fun hx => by have := hF _ hx; omega⟩, by simp⟩
end
theorem over4 (z : List AV) (c : Cp) (hz : z.length = 4) : over z 0 c.cells = c.cells := by
  unfold over
  simp [hz]
theorem write_new (s : S) (c : Cp) (a b d e : AV) : (s.new (.cells [a, b, d, e] 0 false)).write s.ctr 0 c.cells = some ((s.new (.cells [a, b, d, e] 0 false)).set s.ctr (some (.cells c.cells 0 false))) := by
  rw [wrc (sz := 0) (c := [a, b, d, e]) (by simp) (by simp) (Cp.cells_flat c), over4 _ _ rfl]

section
variable {s : S} {tp : Nat} {T T' : Tbl} {F : List Nat} {c c' : Cp} {e : Option Int}
theorem create_eq (h : Tb s tp T F) (ok : T.Ok) {val : Int} (he : T.create val = ((c', e), T')) : Ev tab 19 [.ptr tp 0, .int .i64 val] s fun v s' => Chg F s s' ∧ ∃ F', Grow F F' s.ctr ∧ Tb s' tp T' F' ∧ v = capE c' e := by
  have := create_ok h ok val
  rw [he] at this
  exact this
theorem restrict_eq (h : Tb s tp T F) (hq : T.orc.rs.length + 1 ≤ 5000000000000) (hc : c.Fit) {m : Nat} (hm : m < 256) (he : T.restrict c m = ((c', e), T')) : Ev tab 22 [.ptr tp 0, capA c, .int .u8 m] s fun v s' => Chg F s s' ∧ ∃ F', Grow F F' s.ctr ∧ Tb s' tp T' F' ∧ v = capE c' e := by
  have := tblRestrict_ok h hq hc m hm
  rw [he] at this
  exact this
theorem check_eq (h : Tb s tp T F) (hq : T.orc.rs.length ≤ 5000000000000) (hc : c.Fit) {m k : Nat} (hm : m < 256) (he : T.check c m = ((k, e), T')) : Ev tab 53 [.ptr tp 0, capA c, .int .u8 m] s fun v s' => Chg F s s' ∧ ∃ F', Grow F F' s.ctr ∧ Tb s' tp T' F' ∧ v = idxE k e := by
  have := check_ok h hq hc m hm
  rw [he] at this
  exact this
theorem revoke_eq (h : Tb s tp T F) (ok : T.Ok) (hq : T.orc.rs.length ≤ 5000000000000) (hc : c.Fit) (he : T.revoke c = ((c', e), T')) : Ev tab 83 [.ptr tp 0, capA c] s fun v s' => Chg F s s' ∧ ∃ F', Grow F F' s.ctr ∧ Tb s' tp T' F' ∧ v = capE c' e := by
  have := revoke_ok h ok hq hc
  rw [he] at this
  exact this
theorem destroy_eq (h : Tb s tp T F) (hq : T.orc.rs.length ≤ 5000000000000) (hc : c.Fit) {k : Nat} {x : Int} (he : T.destroy c = ((k, x, e), T')) : Ev tab 59 [.ptr tp 0, capA c] s fun v s' => Chg F s s' ∧ ∃ F', Grow F F' s.ctr ∧ Tb s' tp T' F' ∧ v = .tuple [.int .i64 (k : Int), .int .i64 x, errV e] := by
  have := destroy_ok h hq hc
  rw [he] at this
  exact this
theorem info_eq (h : Tb s tp T F) (hq : T.orc.rs.length ≤ 5000000000000) (hc : c.Fit) {k x : Int} (he : T.info c = ((k, x, e), T')) : Ev tab 81 [.ptr tp 0, capA c] s fun v s' => Chg F s s' ∧ ∃ F', Grow F F' s.ctr ∧ Tb s' tp T' F' ∧ v = .tuple [.int .i64 k, .int .i64 x, errV e] := by
  have := info_ok h hq hc
  rw [he] at this
  exact this
end

theorem bor_spread (k : Nat) (hk : k < 1000) : binV .or (.int .u64 ((k * 65536 : Nat) : Int)) (.int .u64 23040) = some (.int .u64 ((k * 65536 + 23040 : Nat) : Int)) := by
  rw [binV_or]
  have e1 : (BitVec.ofInt IntKind.u64.bits ((k * 65536 : Nat) : Int)).toNat = k * 65536 := by
    simp only [IntKind.bits, BitVec.toNat_ofInt]; omega
  have e2 : (BitVec.ofInt IntKind.u64.bits 23040).toNat = 23040 := by decide
  rw [BitVec.toNat_or, e1, e2]
  have h := Nat.shiftLeft_add_eq_or_of_lt (b := 23040) (i := 16) (by decide) k
  rw [Nat.shiftLeft_eq] at h
  rw [show (2 : Nat) ^ 16 = 65536 from rfl] at h
  rw [← h, wrap_u64 (by omega) (by omega)]

/-- The tape, the oracle and the table of the laws. -/
theorem spread_cut {n : Nat} (hn : n ≤ 1000) : (spreadL n).map (· % w48) = spreadL n := by
  have h := (spread_clean hn).sort
  have : ∀ l : List Nat, (∀ y ∈ l, y % 256 = 0 ∧ y < w48) → l.map (· % w48) = l := by
    intro l hl
    induction l with
    | nil => rfl
    | cons a l ih => rw [List.map_cons, ih (fun y hy => hl y (by simp [hy])), Nat.mod_eq_of_lt (hl a (by simp)).2]
  exact this _ h
end Go.Ab
