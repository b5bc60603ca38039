/- Objects (layer 23) over the abstract machine: a round; how many there are. -/
import Derived.Test.YtcdkkdnpphkieaaDoorNoneR
namespace Go.Ab

theorem aged_cons (o : Ob) (l : List Ob) (k : Nat) : aged k (o :: l) = if !o.there || k == 0 then (o :: (aged (k + 1) l).1, (aged (k + 1) l).2) else if o.lives - 1 ≤ 0 then (Ob.none :: (aged (k + 1) l).1, o.value :: (aged (k + 1) l).2) else ({ o with lives := o.lives - 1 } :: (aged (k + 1) l).1, (aged (k + 1) l).2) := rfl
theorem aged_append : ∀ (a b : List Ob) (k : Nat), aged k (a ++ b) = ((aged k a).1 ++ (aged (k + a.length) b).1, (aged k a).2 ++ (aged (k + a.length) b).2)
  | [], b, k => by simp [aged]
  | o :: a, b, k => by
    have ih := aged_append a b (k + 1)
    have e : k + 1 + a.length = k + (o :: a).length := by simp; omega
    rw [e] at ih
    rw [List.cons_append, aged_cons, aged_cons, ih]
    by_cases h1 : (!o.there || k == 0) = true
    · rw [if_pos h1, if_pos h1]; rfl
    · rw [if_neg h1, if_neg h1]
      by_cases h2 : o.lives - 1 ≤ 0
      · rw [if_pos h2, if_pos h2]; rfl
      · rw [if_neg h2, if_neg h2]; rfl
theorem set_same {α : Type} {l : List α} {i : Nat} {a : α} (h : l[i]? = some a) : l.set i a = l := by
  apply List.ext_getElem?
  intro j
  rw [List.getElem?_set]
  split
  · rename_i hij
    subst hij
    obtain ⟨h1, _⟩ := List.getElem?_eq_some_iff.1 h
    rw [if_pos h1, h]
  · rfl

/-- Objects of which the first ones are older by a round. -/
def agedTo (l : List Ob) (i : Nat) : List Ob := (aged 0 (l.take i)).1 ++ l.drop i
theorem agedTo_get {l : List Ob} {i : Nat} {o : Ob} (h : l[i]? = some o) : (agedTo l i)[i]? = some o := by
  obtain ⟨h1, h2⟩ := List.getElem?_eq_some_iff.1 h
  unfold agedTo
  rw [List.getElem?_append_right (by rw [aged_length, List.length_take]; omega), aged_length, List.length_take, Nat.min_eq_left (by omega), Nat.sub_self, List.getElem?_drop]
  exact h
theorem agedTo_succ {l : List Ob} {i : Nat} {o : Ob} (h : l[i]? = some o) : agedTo l (i + 1) = (agedTo l i).set i ((aged i [o]).1.headD o) ∧ (aged 0 (l.take (i + 1))).2 = (aged 0 (l.take i)).2 ++ (aged i [o]).2 := by
  obtain ⟨h1, h2⟩ := List.getElem?_eq_some_iff.1 h
  have ht : l.take (i + 1) = l.take i ++ [o] := by rw [List.take_add_one, h]; rfl
  have hlen : (l.take i).length = i := by rw [List.length_take]; omega
  have hd : l.drop i = o :: l.drop (i + 1) := by rw [List.drop_eq_getElem_cons h1, h2]
  have ha := aged_append (l.take i) [o] 0
  rw [hlen, Nat.zero_add] at ha
  have hone : (aged i [o]).1.length = 1 := by rw [aged_length]; rfl
  obtain ⟨o', ho'⟩ : ∃ o', (aged i [o]).1 = [o'] := by
    match hq : (aged i [o]).1, hone with
    | [o'], _ => exact ⟨o', rfl⟩
  refine ⟨?_, by rw [ht, ha]⟩
  unfold agedTo
  rw [ht, ha, ho', hd]
  simp only [List.headD_cons]
  rw [List.set_append_right _ _ (by rw [aged_length, hlen]; exact Nat.le_refl _), aged_length, hlen, Nat.sub_self, List.set_cons_zero]
  simp

section
variable {s s' : S} {tp : Nat} {T : Tbl} {F : List Nat}
theorem Tb.len64 (h : Tb s tp T F) (ok : T.Ok) : T.all.length ≤ 64 := ok.few

set_option maxRecDepth 10000 in
set_option maxHeartbeats 1000000 in
theorem age_ok (h : Tb s tp T F) (ok : T.Ok) : Ev tab 48 [.ptr tp 0] s fun u s' => Chg F s s' ∧ Tb s' tp T.age.2 F ∧ ∃ Fo, OwnF 1 s' u T.age.1.length (i64s T.age.1) Fo ∧ ∀ x ∈ Fo, s.ctr ≤ x := by
  refine Ev.intro rfl rfl rfl ?_
  obtain ⟨l, hl⟩ : ∃ l, l = T.all := ⟨_, rfl⟩
  have hl64 : l.length ≤ 64 := by rw [hl]; exact ok.few
  have hlt := h.lt
  obtain ⟨op, av, fo, fa, h1, h2, h3, hF, h5, h6, h7, h8⟩ := h
  have wl := OwnF.wlen h3
  rw [← hl] at wl
  have hstart : Tb s tp { T with all := agedTo l 0 } F := by
    have : agedTo l 0 = T.all := by simp [agedTo, aged, hl]
    rw [this]
    exact ⟨op, av, fo, fa, h1, h2, h3, hF, h5, h6, h7, h8⟩
  simp [pf48, pf48_15, pf48_14, pf48_13, rd h1, wl]
  refine WpC.loop (fun m r' st => ∃ i Fo, i ≤ l.length ∧ m = l.length - i ∧ r' 0 = .ptr tp 0 ∧ r' 10 = .int .i64 l.length ∧ r' 11 = .int .i64 (i : Nat) ∧ Chg F s st ∧ Tb st tp { T with all := agedTo l i } F ∧ OwnF 1 st (r' 3) (aged 0 (l.take i)).2.length (i64s (aged 0 (l.take i)).2) Fo ∧ ∀ x ∈ Fo, s.ctr ≤ x) (m := l.length) ?_ ?_
  · exact ⟨0, [], by omega, rfl, by simp, by simp, by simp, Chg.refl _ _, hstart, by simpa [aged, i64s] using OwnF.nil 1 s, by simp⟩
  rintro m r st ⟨i, Fo, hi, rfl, e0, e10, e11, hc, hT, hO, hFo⟩
  by_cases hil : i < l.length
  · obtain ⟨o, ho⟩ : ∃ o, l[i]? = some o := ⟨_, List.getElem?_eq_getElem hil⟩
    have hag := agedTo_get ho
    obtain ⟨hs1, hs2⟩ := agedTo_succ ho
    have w1 : IntKind.i64.wrap ((i : Int) + 1) = ((i + 1 : Nat) : Int) := by rw [wrap_i64] <;> omega
    have hook := ok.all o (by rw [← hl]; exact List.mem_of_getElem? ho)
    have hTt := hT
    obtain ⟨op', av', fo', fa', z1, z2, z3, zF, z5, z6, z7, z8⟩ := hT
    obtain ⟨b, rfl, rfl, hr5, hr1⟩ := OwnR.load z3 Ob.cells_length hag
    have hla : (agedTo l i).length = l.length := by unfold agedTo; rw [List.length_append, aged_length, List.length_take, List.length_drop]; omega
    simp only [hla] at z1
    have r0 : st.read b (i * 5) 1 = some [.bool o.there] := hr1 0 (.bool o.there) rfl
    have r4 := hr1 4 (.int .i64 o.lives) rfl
    have skip : (o.there = false ∨ i = 0) → agedTo l (i + 1) = agedTo l i ∧ (aged 0 (l.take (i + 1))).2 = (aged 0 (l.take i)).2 := by
      intro hsk
      have : aged i [o] = ([o], []) := by
        rw [aged_cons, if_pos]
        · rfl
        · rcases hsk with h | h
          · simp [h]
          · simp [h]
      rw [this] at hs1 hs2
      refine ⟨?_, by simpa using hs2⟩
      rw [hs1]
      simp only [List.headD_cons]
      exact set_same hag
    by_cases hsk : o.there = false ∨ i = 0
    · obtain ⟨k1, k2⟩ := skip hsk
      have fin : ∃ m', m' < l.length - i ∧ ∃ i' Fo', i' ≤ l.length ∧ m' = l.length - i' ∧ ((i + 1 : Nat) : Int) = (i' : Int) ∧ Chg F s st ∧ Tb st tp { T with all := agedTo l i' } F ∧ OwnF 1 st (r 3) (aged 0 (l.take i')).2.length (i64s (aged 0 (l.take i')).2) Fo' ∧ ∀ x ∈ Fo', s.ctr ≤ x :=
        ⟨l.length - (i + 1), by omega, i + 1, Fo, by omega, rfl, rfl, hc, by rw [k1]; exact hTt, by rw [k2]; exact hO, hFo⟩
      cases hth : o.there with
      | false =>
        rw [hth] at r0
        simp [pf48_12, e11, e10, hil, pf48_11, pf48_9, pf48_8, pf48_7, e0, rd z1, pf48_5, r0, pf48_10, w1, -Int.natCast_add]
        simpa using fin
      | true =>
        have hi0 : i = 0 := by
          rcases hsk with h | h
          · rw [hth] at h; cases h
          · exact h
        rw [hth] at r0
        subst hi0
        simp at r0 w1
        simp [pf48_12, e11, e10, hil, pf48_11, pf48_9, pf48_8, pf48_7, e0, rd z1, pf48_5, r0, pf48_10, w1, -Int.natCast_add]
        simpa using fin
    · have hth : o.there = true := by
        cases h : o.there with
        | false => exact absurd (.inl h) hsk
        | true => rfl
      have hi0 : ¬ i = 0 := fun h => hsk (.inr h)
      have hi0i : ¬ (i : Int) = 0 := by omega
      rw [hth] at r0
      have hliv := hook.lives
      have wm : IntKind.i64.wrap (o.lives - 1) = o.lives - 1 := by rw [wrap_i64] <;> omega
      have hFF : Apart Fo F := fun x hx hxF => by have := hFo x hx; have := hlt x hxF; omega
      obtain ⟨L1, hL1⟩ : ∃ L1, L1 = o.lives - 1 := ⟨_, rfl⟩
      rw [← hL1] at wm
      obtain ⟨op1, b1, st1, q1, hw1, hT1, hc1, hctr1, eq1, hbF1⟩ := Tb.put hTt hag (y := { o with lives := L1 }) (j := 4) (w := [.int .i64 L1]) (by simp) (by simp) (by simp [Ob.cells, over])
      have hb1 : b1 = b := by
        rw [z1] at q1
        simp only [Option.some.injEq, AO.cells.injEq, List.cons.injEq, AV.slice.injEq] at q1
        exact q1.1.2.2.1.1.symm
      subst hb1
      have hc01 : Chg F s st1 := hc.trans hc1
      have hag1 : ((agedTo l i).set i { o with lives := L1 })[i]? = some { o with lives := L1 } := by simp [hla, hil]
      have hT1' := hT1
      obtain ⟨op2, av2, fo2, fa2, y1, y2, y3, yF, y5, y6, y7, y8⟩ := hT1
      obtain ⟨b2, rfl, rfl, gr5, gr1⟩ := OwnR.load y3 Ob.cells_length hag1
      have hb2 : b2 = b1 := by
        rw [eq1, z1] at y1
        simp only [Option.some.injEq, AO.cells.injEq, List.cons.injEq, AV.slice.injEq] at y1
        exact y1.1.2.2.1.1.symm
      subst hb2
      have g4 := gr1 4 (.int .i64 L1) rfl
      have g3 := gr1 3 (.int .i64 o.value) rfl
      have hO1 := hO.chg hc1 hFF
      have hage : aged i [o] = if L1 ≤ 0 then ([Ob.none], [o.value]) else ([{ o with lives := L1 }], []) := by
        rw [aged_cons, if_neg (by simp [hth, hi0]), ← hL1]
        rfl
      by_cases hle : L1 ≤ 0
      · rw [if_pos hle] at hage
        rw [hage] at hs1 hs2
        simp only [List.headD_cons] at hs1
        simp [pf48_12, e11, e10, hil, pf48_11, pf48_9, pf48_8, pf48_7, e0, rd z1, pf48_5, r0, hi0, hi0i, pf48_6, pf48_4, r4, ← hL1, wm, hw1, pf48_3, g4, hle, pf48_2, g3]
        have hctr := hc01.ctr
        refine cont_app_ownF (m := 1) (ds := [.int .i64 o.value]) (hO1.ext (by simp)) rfl ?_ rfl rfl (i64s_flat _) (by omega) (by omega) ?_ ?_
        · simp [S.cellsOf, S.read]
        · have : (aged 0 (l.take i)).2.length ≤ 64 := by
            have h1 : ∀ (l : List Ob) (k : Nat), (aged k l).2.length ≤ l.length := by
              intro l
              induction l with
              | nil => intro k; simp [aged]
              | cons a l ih =>
                intro k
                rw [aged_cons]
                have := ih (k + 1)
                split
                · simp; omega
                · split
                  · simp; omega
                  · simp; omega
            have := h1 (l.take i) 0
            simp at this
            omega
          omega
        intro v3 st3 Fo3 hO3 hc3 hg3
        have x1 : Ext st1 (st1.new (.cells [.int .i64 o.value] 0 false)) := by simp
        have hc13 : Chg Fo st1 st3 := (x1.chg _).trans hc3
        have hFo3 : ∀ x ∈ Fo3, s.ctr ≤ x := fun x hx => by
          rcases hg3 x hx with h | h
          · exact hFo x h
          · simp at h; omega
        have hT3 := hT1'.chg hc13 hFF.symm
        have hc03 : Chg F s st3 := hc01.comp hc13 (fun x hx => .inr (hFo x hx))
        obtain ⟨op4, b4, st4, u1, hw4, hT4, hc4, hctr4, eq4, hbF4⟩ := Tb.put hT3 hag1 (y := Ob.none) (j := 0) (w := Ob.none.cells) (by simp [Ob.cells_length]) (Ob.cells_flat _) (by simp [Ob.cells, over])
        have hb4 : b4 = b2 := by
          have hx : st3.get tp = st1.get tp := hc13.get tp (by have := hT1'.lt tp; exact this (by obtain ⟨_, _, _, _, _, _, _, hFF', _⟩ := hT1'; rw [hFF']; simp)) (fun hx => by have := hFo tp hx; have := hlt tp (by obtain ⟨_, _, _, _, _, _, _, hFF', _⟩ := hT1'; rw [hFF']; simp); omega)
          rw [hx, eq1, z1] at u1
          simp only [Option.some.injEq, AO.cells.injEq, List.cons.injEq, AV.slice.injEq] at u1
          exact u1.1.2.2.1.1.symm
        subst hb4
        simp only [Ob.cells, Ob.none, Nat.add_zero] at hw4
        simp at hw4
        simp only [List.set_set] at hT4
        simp [pf48_1, hw4, pf48_10, e11, w1, -Int.natCast_add]
        refine ⟨l.length - (i + 1), by omega, i + 1, by omega, rfl, e0, e10, rfl, hc03.trans hc4, by rw [hs1]; exact hT4, Fo3, ?_, hFo3⟩
        rw [hs2]
        have := hO3.chg hc4 (fun x hx hxF => by have := hFo3 x hx; have := hlt x hxF; omega)
        simpa [i64s] using this
      · rw [if_neg hle] at hage
        rw [hage] at hs1 hs2
        simp only [List.headD_cons, List.append_nil] at hs1 hs2
        simp [pf48_12, e11, e10, hil, pf48_11, pf48_9, pf48_8, pf48_7, e0, rd z1, pf48_5, r0, hi0, hi0i, pf48_6, pf48_4, r4, ← hL1, wm, hw1, pf48_3, g4, hle, pf48_10, w1, -Int.natCast_add]
        exact ⟨l.length - (i + 1), by omega, i + 1, by omega, rfl, rfl, hc01, by rw [hs1]; exact hT1', Fo, by rw [hs2]; exact hO1, hFo⟩
  · obtain rfl : i = l.length := by omega
    simp [pf48_12, e11, e10, pf48_11, pf48_0]
    rw [List.take_of_length_le (Nat.le_refl _)] at hO
    have hfin : agedTo l l.length = (aged 0 l).1 := by unfold agedTo; rw [List.take_of_length_le (Nat.le_refl _), List.drop_of_length_le (Nat.le_refl _), List.append_nil]
    rw [hfin] at hT
    rw [hl] at hT hO
    exact ⟨hc, hT, Fo, hO, hFo⟩
end
end Go.Ab
/-! Servers (layer 24) over the abstract machine: a round. -/
namespace Go.Ab

def there (l : List Ob) : Nat := (l.filter (·.there)).length

section
variable {s s' : S} {tp : Nat} {T : Tbl} {F : List Nat}
set_option maxRecDepth 10000 in
theorem len_ok (h : Tb s tp T F) (ok : T.Ok) : Ev tab 28 [.ptr tp 0] s fun u s' => Ext s s' ∧ u = .int .i64 (there T.all : Nat) := by
  refine Ev.intro rfl rfl rfl ?_
  have hl64 : T.all.length ≤ 64 := ok.few
  have hT := h
  obtain ⟨op, av, fo, fa, h1, h2, h3, hF, h5, h6, h7, h8⟩ := h
  have wl := OwnF.wlen h3
  simp [pf28, pf28_11, pf28_10, pf28_9, pf28_8, rd h1, wl]
  refine WpC.loop (fun m r' st => ∃ i, i ≤ T.all.length ∧ m = T.all.length - i ∧ r' 9 = av ∧ r' 10 = .int .i64 T.all.length ∧ r' 11 = .int .i64 (i : Nat) ∧ r' 3 = .int .i64 (there (T.all.take i) : Nat) ∧ Ext s st) (m := T.all.length) ?_ ?_
  · exact ⟨0, by omega, rfl, by simp, by simp, by simp, by simp [there], Ext.refl _⟩
  rintro m r st ⟨i, hi, rfl, e9, e10, e11, e3, hx⟩
  by_cases hil : i < T.all.length
  · obtain ⟨o, ho⟩ : ∃ o, T.all[i]? = some o := ⟨_, List.getElem?_eq_getElem hil⟩
    obtain ⟨b, rfl, rfl, hr5, hr1⟩ := OwnR.load (OwnF.ext h3 hx) Ob.cells_length ho
    have w1 : IntKind.i64.wrap ((i : Int) + 1) = ((i + 1 : Nat) : Int) := by rw [wrap_i64] <;> omega
    have hth : there (T.all.take (i + 1)) = there (T.all.take i) + (if o.there then 1 else 0) := by
      rw [List.take_add_one, ho]
      unfold there
      rw [List.filter_append, List.length_append]
      cases hoo : o.there <;> simp [hoo]
    have hle : there (T.all.take i) ≤ 64 := by
      unfold there
      have := List.length_filter_le (fun x : Ob => x.there) (T.all.take i)
      simp at this; omega
    obtain ⟨A, hA⟩ : ∃ A, A = there (T.all.take i) := ⟨_, rfl⟩
    rw [← hA] at e3 hth hle
    have w2 : IntKind.i64.wrap ((A : Int) + 1) = ((A + 1 : Nat) : Int) := by rw [wrap_i64] <;> omega
    have x2 : Ext st ((st.new (.cells [.bool false, .int .u64 0, .int .i64 0, .int .i64 0, .int .i64 0] 0 false)).set st.ctr (some (.cells o.cells 0 false))) := by simp
    have wn : (st.new (.cells [.bool false, .int .u64 0, .int .i64 0, .int .i64 0, .int .i64 0] 0 false)).write st.ctr 0 o.cells = some ((st.new (.cells [.bool false, .int .u64 0, .int .i64 0, .int .i64 0, .int .i64 0] 0 false)).set st.ctr (some (.cells o.cells 0 false))) := by
      rw [wrc (sz := 0) (c := [.bool false, .int .u64 0, .int .i64 0, .int .i64 0, .int .i64 0]) (by simp) (by simp [Ob.cells_length]) (Ob.cells_flat o)]
      simp [over, Ob.cells_length]
    obtain ⟨t, ht⟩ : ∃ t, t = (st.new (.cells [.bool false, .int .u64 0, .int .i64 0, .int .i64 0, .int .i64 0] 0 false)).set st.ctr (some (.cells o.cells 0 false)) := ⟨_, rfl⟩
    rw [← ht] at x2 wn
    have rt : t.read st.ctr 0 1 = some [.bool o.there] := by
      rw [ht, read_set_self, if_pos (by simp [Ob.cells_length])]; rfl
    simp [pf28_7, pf28_6, e11, e10, hil, pf28_5, pf28_3, e9, hr5, Ob.cells_length, wn, pf28_2, rt]
    cases hoth : o.there with
    | false =>
      rw [hoth] at hth
      simp [pf28_4, e11, w1, e9, e10, -Int.natCast_add]
      exact ⟨T.all.length - (i + 1), by omega, i + 1, by omega, rfl, rfl, by rw [e3, hth]; simp, hx.trans x2⟩
    | true =>
      rw [hoth] at hth
      simp [pf28_1, e3, w2, pf28_4, e11, w1, e9, e10, -Int.natCast_add]
      exact ⟨T.all.length - (i + 1), by omega, i + 1, by omega, rfl, rfl, by rw [hth]; simp, hx.trans x2⟩
  · obtain rfl : i = T.all.length := by omega
    rw [List.take_of_length_le (Nat.le_refl _)] at e3
    simp [pf28_7, pf28_6, e11, e10, pf28_0, e3]
    exact hx
end

theorem i64s_get {l : List Int} {i : Nat} {x : Int} (h : l[i]? = some x) : ((i64s l).drop (i * 1)).take 1 = [.int .i64 x] := by
  have h2 : (i64s l)[i]? = some (.int .i64 x) := by simp [i64s, h]
  obtain ⟨q1, q2⟩ := List.getElem?_eq_some_iff.1 h2
  rw [Nat.mul_one, List.drop_eq_getElem_cons q1, q2]; rfl

def goneAll (x : Sg) (l : List Int) : Sg := l.foldl svc.gone x
theorem goneAll_succ (x : Sg) {l : List Int} {i : Nat} {v : Int} (h : l[i]? = some v) : goneAll x (l.take (i + 1)) = svc.gone (goneAll x (l.take i)) v := by
  unfold goneAll
  rw [List.take_add_one, h]
  simp
theorem goneAll_eq (x : Sg) (l : List Int) : goneAll x l = { x with gone := x.gone ++ l } := by
  unfold goneAll
  induction l generalizing x with
  | nil => simp
  | cons a l ih => rw [List.foldl_cons, ih]; simp [svc]

theorem aged_gone_le : ∀ (l : List Ob) (k : Nat), (aged k l).2.length ≤ l.length
  | [], _ => by simp [aged]
  | a :: l, k => by
    have := aged_gone_le l (k + 1)
    rw [aged_cons]
    split
    · simp; omega
    · split
      · simp; omega
      · simp; omega

set_option maxRecDepth 10000 in
theorem svAge_ok {s : S} {sp tp xp : Nat} {T : Tbl} {x : Sg} {F1 F2 : List Nat} (h : Sy s sp tp xp T x F1 F2) (ok : T.Ok) (hf : x.fits 100) : Ev tab 36 [.ptr sp 0] s fun u s' => ∃ F1' F2', SyC s s' (F1 ++ F2) sp tp xp T.age.2 (goneAll x T.age.1) F1' F2' ∧ u = .int .i64 T.age.1.length := by
  refine Ev.intro rfl rfl rfl ?_
  have H := h.start
  have hflt := h.flt
  simp [pf36, pf36_12, pf36_11, pf36_10, rd H.sy.sv, pf36_8]
  refine Ev.mono (age_ok H.sy.tb ok) ?_
  rintro u s1 ⟨hc1, hT1, Fo, hO, hFo⟩
  replace H := H.t hc1 (Grow.refl _ _) hT1
  obtain ⟨l, hl⟩ : ∃ l, l = T.age.1 := ⟨_, rfl⟩
  have hlen : l.length ≤ 64 := by
    have := aged_gone_le T.all 0
    have h2 : T.all.length ≤ 64 := ok.few
    rw [hl]; show (aged 0 T.all).2.length ≤ 64; omega
  rw [← hl] at hO ⊢
  have wl := hO.wlen
  have hap : Apart Fo (F1 ++ F2) := fun y hy hyF => by have := hFo y hy; have := hflt y hyF; omega
  simp [pf36_7, pf36_6, wl]
  refine WpC.loop (fun m r' st => ∃ i G2, i ≤ l.length ∧ m = l.length - i ∧ r' 0 = .ptr sp 0 ∧ r' 3 = u ∧ r' 23 = u ∧ r' 24 = .int .i64 l.length ∧ r' 25 = .int .i64 (i : Nat) ∧ SyC s st (F1 ++ F2) sp tp xp T.age.2 (goneAll x (l.take i)) F1 G2 ∧ OwnF 1 st u l.length (i64s l) Fo ∧ Apart Fo G2) (m := l.length) ?_ ?_
  · exact ⟨0, F2, by omega, rfl, by simp, by simp, by simp, by simp, by simp, by simpa [goneAll] using H, hO, fun y hy hyF => hap y hy (by simp [hyF])⟩
  rintro m r st ⟨i, G2, hi, rfl, e0, e3, e23, e24, e25, HS, hOs, hapG⟩
  by_cases hil : i < l.length
  · obtain ⟨v, hv⟩ : ∃ v, l[i]? = some v := ⟨_, List.getElem?_eq_getElem hil⟩
    obtain ⟨b, rfl, hrd⟩ := hOs.elem hil
    rw [i64s_get hv, Nat.mul_one, Nat.zero_add] at hrd
    have w1 : IntKind.i64.wrap ((i : Int) + 1) = ((i + 1 : Nat) : Int) := by rw [wrap_i64] <;> omega
    have hgf : (goneAll x (l.take i)).fits 1 := by
      rw [goneAll_eq]
      obtain ⟨f1, f2⟩ := hf
      refine ⟨by simp only; omega, ?_⟩
      simp only [List.length_append, List.length_take]; omega
    simp [pf36_5, e25, e24, hil, pf36_4, pf36_2, e23, hrd, pf36_1, e0, rd HS.sy.sv, meth_Gone]
    refine Ev.mono (gone_ev HS.sy.sx hgf v) ?_
    rintro u2 s2 ⟨hc2, G', hg2, hX2⟩
    have H2 := HS.v hc2 hg2 hX2
    simp [pf36_3, e25, w1, e0, e3, e23, e24, -Int.natCast_add]
    refine ⟨l.length - (i + 1), by omega, i + 1, by omega, rfl, rfl, G', by rw [goneAll_succ x hv]; exact H2, hOs.chg hc2 hapG, (hapG.symm.grow hg2 hOs.lt).symm⟩
  · obtain rfl : i = l.length := by omega
    rw [List.take_of_length_le (Nat.le_refl _)] at HS
    have wl2 := hOs.wlen
    simp [pf36_5, e25, e24, pf36_4, pf36_0, e3, wl2]
    exact ⟨_, _, HS⟩
end Go.Ab
/-! 'SkeletonAge' in plain Lean. -/
namespace Go.Ab

/-- An object of the law: untouched ones grow old, touched ones are always young. -/
def obAt (tch : Nat → Bool) (j : Nat) (k : Nat) : Ob :=
  if k = 0 then ob 0 0
  else if tch k then ⟨true, 0, 0, k, if j = 0 then 24 else 23⟩
  else if j < 24 then ⟨true, 0, 0, k, 24 - (j : Int)⟩ else Ob.none
/-- Behind the touching of those below a number. -/
def obMid (tch : Nat → Bool) (j i : Nat) (k : Nat) : Ob :=
  if k ≠ 0 ∧ k < i ∧ tch k then ⟨true, 0, 0, k, 24⟩ else obAt tch j k
def obs (f : Nat → Ob) (n : Nat) : List Ob := (List.range n).map f
@[simp] theorem obs_length (f : Nat → Ob) (n : Nat) : (obs f n).length = n := by simp [obs]
theorem obs_get {f : Nat → Ob} {n k : Nat} (h : k < n) : (obs f n)[k]? = some (f k) := by simp [obs, h]
theorem obs_set {f g : Nat → Ob} {n k : Nat} {x : Ob} (h : k < n) (hx : g k = x) (he : ∀ i, i ≠ k → g i = f i) : (obs f n).set k x = obs g n := by
  apply List.ext_getElem?
  intro i
  rw [List.getElem?_set]
  by_cases hi : k = i
  · subst hi
    rw [if_pos rfl, if_pos (by simpa using h), obs_get h, hx]
  · rw [if_neg hi]
    by_cases hin : i < n
    · rw [obs_get hin, obs_get hin, he i (fun e => hi e.symm)]
    · rw [List.getElem?_eq_none (by simpa using hin), List.getElem?_eq_none (by simpa using hin)]
theorem obs_congr {f g : Nat → Ob} {n : Nat} (h : ∀ i, i < n → f i = g i) : obs f n = obs g n := by
  unfold obs
  exact List.map_congr_left (fun i hi => h i (by simpa using hi))

def agedOb (k : Nat) (o : Ob) : Ob := if !o.there || k == 0 then o else if o.lives - 1 ≤ 0 then Ob.none else { o with lives := o.lives - 1 }
def ends (k : Nat) (o : Ob) : Bool := o.there && k != 0 && decide (o.lives - 1 ≤ 0)
theorem aged_one (k : Nat) (o : Ob) : aged k [o] = ([agedOb k o], if ends k o then [o.value] else []) := by
  rw [aged_cons]
  unfold agedOb ends
  by_cases h1 : (!o.there || k == 0) = true
  · rw [if_pos h1, if_pos h1]
    have : (o.there && k != 0 && decide (o.lives - 1 ≤ 0)) = false := by
      simp at h1
      rcases h1 with h | h
      · simp [h]
      · simp [h]
    rw [this]
    rfl
  · rw [if_neg h1, if_neg h1]
    simp at h1
    by_cases h2 : o.lives - 1 ≤ 0
    · rw [if_pos h2, if_pos h2]
      simp [h1, h2, aged]
    · rw [if_neg h2, if_neg h2]
      simp [h2, aged]
theorem aged_obs (f : Nat → Ob) : ∀ n, aged 0 (obs f n) = (obs (fun k => agedOb k (f k)) n, ((List.range n).filter fun k => ends k (f k)).map fun k => (f k).value)
  | 0 => by simp [obs, aged]
  | n + 1 => by
    have ih := aged_obs f n
    have e : obs f (n + 1) = obs f n ++ [f n] := by simp [obs, List.range_succ]
    have e2 : obs (fun k => agedOb k (f k)) (n + 1) = obs (fun k => agedOb k (f k)) n ++ [agedOb n (f n)] := by simp [obs, List.range_succ]
    rw [e, aged_append, ih, obs_length, Nat.zero_add, aged_one, e2, List.range_succ, List.filter_append, List.map_append]
    congr 1
    congr 1
    cases h : ends n (f n) <;> simp [h]

section
variable {tch : Nat → Bool} {j n : Nat}
theorem obMid_aged (i k : Nat) (hk : k < i) : agedOb k (obMid tch j i k) = obAt tch (j + 1) k := by
  unfold obMid
  by_cases h0 : k = 0
  · subst h0
    simp [agedOb, obAt]
  · by_cases ht : tch k = true
    · rw [if_pos ⟨h0, hk, ht⟩]
      simp [agedOb, obAt, h0, ht]
    · rw [if_neg (fun h => ht h.2.2)]
      have ht' : tch k = false := by cases h : tch k <;> simp_all
      unfold obAt
      rw [if_neg h0, if_neg h0]
      simp only [ht', Bool.false_eq_true, if_false]
      by_cases h24 : j < 24
      · rw [if_pos h24]
        unfold agedOb
        rw [if_neg (by simp [h0])]
        by_cases h23 : j + 1 < 24
        · rw [if_pos h23, if_neg (by simp only; omega)]
          simp only [Ob.mk.injEq, true_and]
          omega
        · rw [if_neg h23, if_pos (by simp only; omega)]
      · rw [if_neg h24, if_neg (by omega)]
        simp [agedOb, Ob.none]
theorem obMid_ends (i k : Nat) (hk : k < i) : ends k (obMid tch j i k) = (decide (k ≠ 0) && !tch k && decide (j = 23)) := by
  unfold obMid
  by_cases h0 : k = 0
  · subst h0; simp [ends]
  · by_cases ht : tch k = true
    · rw [if_pos ⟨h0, hk, ht⟩]
      simp [ends, ht]
    · rw [if_neg (fun h => ht h.2.2)]
      have ht' : tch k = false := by cases h : tch k <;> simp_all
      unfold obAt
      rw [if_neg h0]
      simp only [ht', Bool.false_eq_true, if_false]
      by_cases h24 : j < 24
      · rw [if_pos h24]
        unfold ends
        by_cases h23 : j = 23
        · subst h23; simp [h0]
        · have : ¬ ((24 : Int) - (j : Int) - 1 ≤ 0) := by omega
          simp [h0, h23, this]
      · rw [if_neg h24]
        have : ¬ j = 23 := by omega
        simp [ends, Ob.none, this]

/-- How many are untouched. -/
def free (tch : Nat → Bool) (n : Nat) : Nat := ((List.range n).filter fun k => decide (k ≠ 0) && !tch k).length
/-- A round. -/
theorem age_round (port : Nat) (q : Orc) : Tbl.age ⟨port, q, obs (obMid tch j n) n⟩ = ((Tbl.age ⟨port, q, obs (obMid tch j n) n⟩).1, ⟨port, q, obs (obAt tch (j + 1)) n⟩) ∧ (Tbl.age ⟨port, q, obs (obMid tch j n) n⟩).1.length = if j = 23 then free tch n else 0 := by
  have h := aged_obs (obMid tch j n) n
  have h1 : obs (fun k => agedOb k (obMid tch j n k)) n = obs (obAt tch (j + 1)) n := obs_congr (fun i hi => obMid_aged n i hi)
  refine ⟨?_, ?_⟩
  · unfold Tbl.age
    simp only [h, h1]
  · show (aged 0 (obs (obMid tch j n) n)).2.length = _
    rw [h]
    simp only [List.length_map]
    have h2 : (List.range n).filter (fun k => ends k (obMid tch j n k)) = (List.range n).filter (fun k => (decide (k ≠ 0) && !tch k && decide (j = 23))) :=
      List.filter_congr (fun i hi => obMid_ends n i (by simpa using hi))
    rw [h2]
    by_cases h23 : j = 23
    · rw [if_pos h23]; simp [h23, free]
    · rw [if_neg h23]; simp [h23]

theorem obMid_start (k : Nat) : obMid tch j 1 k = obAt tch j k := by
  unfold obMid
  rw [if_neg (by omega)]
/-- One is touched, or not. -/
theorem obMid_step (i k : Nat) : obMid tch j (i + 1) k = if k = i ∧ i ≠ 0 ∧ tch i then ⟨true, 0, 0, i, 24⟩ else obMid tch j i k := by
  unfold obMid
  by_cases hk : k = i
  · subst hk
    by_cases h : k ≠ 0 ∧ tch k
    · rw [if_pos ⟨h.1, by omega, h.2⟩, if_pos ⟨rfl, h⟩]
    · rw [if_neg (fun h' => h ⟨h'.1, h'.2.2⟩), if_neg (fun h' => h h'.2), if_neg (by omega)]
  · have r : ¬ (k = i ∧ i ≠ 0 ∧ tch i = true) := fun h' => hk h'.1
    rw [if_neg r]
    by_cases h : k ≠ 0 ∧ k < i ∧ tch k
    · rw [if_pos h, if_pos ⟨h.1, by omega, h.2.2⟩]
    · rw [if_neg h, if_neg (fun h' => h ⟨h'.1, by omega, h'.2.2⟩)]

/-- Touching. -/
theorem touch_run (es : List Nat) (i : Nat) (hi0 : i ≠ 0) (hin : i < n) (ht : tch i = true) (a : Nat) : (⟨5, ⟨[], es, a⟩, obs (obMid tch j i) n⟩ : Tbl).touch ⟨5, i, 255, 0⟩ = (none, ⟨5, ⟨[], es, a⟩, obs (obMid tch j (i + 1)) n⟩) := by
  obtain ⟨x, hx⟩ : ∃ x, x = obMid tch j i i := ⟨_, rfl⟩
  have hxv : x = ⟨true, 0, 0, i, if j = 0 then 24 else 23⟩ := by
    rw [hx]; unfold obMid obAt
    rw [if_neg (by omega), if_neg hi0, if_pos ht]
  have hg : (⟨5, ⟨[], es, a⟩, obs (obMid tch j i) n⟩ : Tbl).get i = some x := by
    unfold Tbl.get
    simp only [obs_get hin]
    rw [← hx, hxv]
    simp
  have hc := Tbl.check_ok (T := ⟨5, ⟨[], es, a⟩, obs (obMid tch j i) n⟩) (c := ⟨5, i, 255, 0⟩) (x := x) (q := ⟨[], es, a⟩) rfl hg (by rw [hxv]; simp [Orc.tok]) 0
  unfold Tbl.touch
  rw [hc]
  simp only [Nat.and_zero, ne_eq, not_true_eq_false, if_false]
  rw [hg]
  simp only
  rw [obs_set (g := obMid tch j (i + 1)) hin]
  · rw [obMid_step, if_pos ⟨rfl, hi0, ht⟩, hxv]
  · intro k hk
    rw [obMid_step, if_neg (fun h => hk h.1)]

theorem there_obs (f : Nat → Ob) (n : Nat) : there (obs f n) = ((List.range n).filter fun k => (f k).there).length := by
  unfold there obs
  rw [List.filter_map, List.length_map]
  rfl
theorem filter_split (p : Nat → Bool) : ∀ n, ((List.range n).filter p).length + ((List.range n).filter fun k => !p k).length = n
  | 0 => rfl
  | n + 1 => by
    have := filter_split p n
    rw [List.range_succ, List.filter_append, List.filter_append, List.length_append, List.length_append]
    cases h : p n <;> simp [h] <;> omega
theorem age_len : there (obs (obAt tch j) n) = n - if 24 ≤ j then free tch n else 0 := by
  rw [there_obs]
  have hs := filter_split (fun k => decide (k ≠ 0) && !tch k) n
  by_cases h : 24 ≤ j
  · rw [if_pos h]
    have h2 : (List.range n).filter (fun k => (obAt tch j k).there) = (List.range n).filter (fun k => !(decide (k ≠ 0) && !tch k)) := by
      refine List.filter_congr (fun k _ => ?_)
      unfold obAt
      by_cases h0 : k = 0
      · simp [h0, ob]
      · cases ht : tch k
        · rw [if_neg h0]
          simp [h0, show ¬ j < 24 by omega, Ob.none]
        · simp [h0]
    rw [h2]
    unfold free
    omega
  · rw [if_neg h, Nat.sub_zero]
    have h2 : (List.range n).filter (fun k => (obAt tch j k).there) = (List.range n).filter (fun _ => true) := by
      refine List.filter_congr (fun k _ => ?_)
      unfold obAt
      by_cases h0 : k = 0
      · simp [h0, ob]
      · cases ht : tch k
        · rw [if_neg h0]
          simp [show j < 24 by omega]
        · simp [h0]
    rw [h2, List.filter_eq_self.2 (fun _ _ => rfl), List.length_range]
end
end Go.Ab
