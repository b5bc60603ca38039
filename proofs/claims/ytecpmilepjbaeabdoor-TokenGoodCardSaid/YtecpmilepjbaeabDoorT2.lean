/- Oracles (layer 6) over the abstract machine. -/
import Derived.Test.YtecpmilepjbaeabDoorT1
namespace Go.Ab
attribute [local simp] S.read S.write

/-- An oracle: the answers so far, the tape, how many draws were taken. -/
structure Orc where
  rs : List (Nat × Nat × Nat)
  es : List Nat
  at_ : Nat

def hit (f x : Nat) (a : Nat × Nat × Nat) : Bool := a.1 == f && a.2.1 == x % w48
def Orc.known (q : Orc) (f x : Nat) : Option Nat := (q.rs.find? (hit f x)).map (·.2.2)
/-- What an oracle answers, and what it is then. -/
def Orc.ask (q : Orc) (f x : Nat) : Option Nat × Orc :=
  match q.known f x with
  | some y => (some y, q)
  | none => match q.es[q.at_]? with
    | some y => (some y, { q with rs := q.rs ++ [(f, x % w48, y)], at_ := q.at_ + 1 })
    | none => (none, q)

/-- An oracle in memory. -/
def Oc (s : S) (op : Nat) (q : Orc) (F : List Nat) : Prop := ∃ av fa tp ft, s.get op = some (.cells [av, .ptr tp 0] 0 false) ∧ OwnF 3 s av q.rs.length (rows3 q.rs) fa ∧ Tp s tp q.es q.at_ ft ∧ F = op :: (fa ++ ft) ∧ op < s.ctr ∧ q.rs.length ≤ q.at_ ∧ Apart fa ft ∧ op ∉ fa ∧ op ∉ ft

section
variable {s s' : S} {op : Nat} {q : Orc} {F : List Nat}
theorem Oc.lt (h : Oc s op q F) : ∀ x ∈ F, x < s.ctr := by
  obtain ⟨av, fa, tp, ft, h1, h2, h3, rfl, h5, h6⟩ := h
  intro x hx
  simp only [List.mem_cons, List.mem_append] at hx
  rcases hx with rfl | hx | hx
  · exact h5
  · exact h2.lt x hx
  · exact h3.lt x hx
theorem Oc.chg {l : List Nat} (h : Oc s op q F) (hc : Chg l s s') (hd : Apart F l) : Oc s' op q F := by
  obtain ⟨av, fa, tp, ft, h1, h2, h3, rfl, h5, h6⟩ := h
  refine ⟨av, fa, tp, ft, by rw [hc.get op h5 (hd op (by simp)), h1], h2.chg hc (fun x hx => hd x (by simp [hx])), h3.chg hc (fun x hx => hd x (by simp [hx])), rfl, by have := hc.ctr; omega, h6⟩
theorem Oc.ext (h : Oc s op q F) (hx : Ext s s') : Oc s' op q F := h.chg (hx.chg []) (fun _ _ => by simp)

theorem oracleOf_ok {tp : Nat} {es : List Nat} {G : List Nat} (h : Tp s tp es 0 G) : Ev tab 13 [.ptr tp 0] s fun v s' => Ext s s' ∧ ∃ op F, v = .ptr op 0 ∧ Oc s' op ⟨[], es, 0⟩ F ∧ Grow G F s.ctr := by
  refine Ev.intro rfl rfl rfl ?_
  simp [pf13, pf13_3, pf13_2, pf13_0]
  refine ⟨s.ctr :: G, ⟨.snil, [], tp, G, by simp, OwnF.nil _ _, h.ext (by simp), rfl, by simp, by simp, fun _ h => (by cases h), by simp, ?_⟩, ?_⟩
  · intro hx
    have := h.lt _ hx
    omega
  · intro x hx
    rcases List.mem_cons.1 hx with rfl | hx
    · exact .inr (Nat.le_refl _)
    · exact .inl hx

theorem oracleLeft_ok (h : Oc s op q F) : Ev tab 16 [.ptr op 0] s fun v s' => s' = s ∧ v = .int .i64 (q.es.length - q.at_ : Nat) := by
  refine Ev.intro rfl rfl rfl ?_
  obtain ⟨av, fa, tp, ft, h1, h2, h3, rfl, h5, h6⟩ := h
  obtain ⟨A, hA⟩ : ∃ A, A = q.es.length - q.at_ := ⟨_, rfl⟩
  simp [pf16, pf16_1, pf16_0, h1]
  refine Ev.mono (tapeLeft_ok h3) ?_
  rintro v s1 ⟨rfl, rfl⟩
  rw [← hA]
  simp

set_option maxRecDepth 10000 in
theorem known_ok (h : Oc s op q F) (f x : Nat) : Ev tab 29 [.ptr op 0, .int .i64 f, .int .u64 x] s fun v s' => Ext s s' ∧ v = .tuple [.int .u64 ((q.known f x).getD 0 : Nat), .bool (q.known f x).isSome] := by
  refine Ev.intro rfl rfl rfl ?_
  obtain ⟨av, fa, tp, ft, h1, h2, h3, rfl, h5, h6, h7⟩ := h
  have wl := h2.wlen
  have hle : q.rs.length ≤ 17592186044416 := by
    obtain ⟨_, _, _, _, _, _, a1, a2⟩ := h3
    omega
  simp [pf29, pf29_10, pf29_9, pf29_8, h1, wl]
  refine WpC.loop (fun m r' s' => ∃ i, i ≤ q.rs.length ∧ m = q.rs.length - i ∧ r' 1 = .int .i64 f ∧ r' 2 = .int .u64 x ∧ r' 13 = av ∧ r' 14 = .int .i64 q.rs.length ∧ r' 15 = .int .i64 (i : Nat) ∧ Ext s s' ∧ q.known f x = ((q.rs.drop i).find? (hit f x)).map (·.2.2)) (m := q.rs.length) ?_ ?_
  · exact ⟨0, by omega, rfl, by simp, by simp, by simp, by simp, by simp, by simp, by simp [Orc.known]⟩
  rintro m r' s' ⟨i, hi, rfl, e1, e2, e13, e14, e15, hx, hkn⟩
  have h2' := h2.ext hx
  by_cases hlt : i < q.rs.length
  · have w1 : IntKind.i64.wrap ((i : Int) + 1) = ((i + 1 : Nat) : Int) := by rw [wrap_i64] <;> omega
    obtain ⟨a, ha⟩ : ∃ a, q.rs[i]? = some a := ⟨_, List.getElem?_eq_getElem hlt⟩
    obtain ⟨b, hb, hrd⟩ := h2'.elem hlt
    rw [rows3_part _ _ _ ha] at hrd
    have hdr : q.rs.drop i = a :: q.rs.drop (i + 1) := by
      obtain ⟨_, he⟩ := List.getElem?_eq_some_iff.1 ha
      rw [List.drop_eq_getElem_cons hlt, he]
    rw [hdr, List.find?_cons] at hkn
    subst hb
    rw [Nat.zero_add] at hrd
    have hbl : b < s'.ctr := by
      rcases h2'.2 with ⟨hh, _⟩ | ⟨b2, hb2, _, hlt2, _⟩
      · cases hh
      · simp only [AV.slice.injEq] at hb2
        obtain ⟨rfl, _⟩ := hb2
        exact hlt2
    simp [pf29_7, pf29_6, e14, e15, hlt, pf29_4, pf29_3, e13, hrd, -S.read]
    simp [pf29_2, e1]
    have hxs : ∀ o o', Ext s ((s'.new o).set s'.ctr o') := fun o o' => Ext.set hx.ctr (Ext.new hx)
    by_cases hf : a.1 = f
    · have hf' : (a.1 : Int) = f := by omega
      simp [hf', e2]
      refine Ev.mono (cut_ok x _) ?_
      rintro v s2 ⟨rfl, rfl⟩
      by_cases hxy : a.2.1 = x % w48
      · have hh : hit f x a = true := by simp [hit, hf, hxy]
        rw [hh] at hkn
        obtain ⟨y, hy⟩ : ∃ y, y = x % w48 := ⟨_, rfl⟩
        rw [← hy] at hxy ⊢
        have hxy' : (a.2.1 : Int) = y := by omega
        simp (maxDischargeDepth := 30) [hxy', pf29_1, hkn, hxs]
      · have hh : hit f x a = false := by simp [hit, hxy]
        rw [hh] at hkn
        obtain ⟨y, hy⟩ : ∃ y, y = x % w48 := ⟨_, rfl⟩
        rw [← hy] at hxy ⊢
        have hxy' : ¬ (a.2.1 : Int) = y := by omega
        simp (maxDischargeDepth := 30) [hxy', pf29_5, e15, w1]
        exact ⟨q.rs.length - (i + 1), by omega, i + 1, by omega, rfl, e1, e2, e13, e14, by simp, hxs _ _, hkn⟩
    · have hf' : ¬ (a.1 : Int) = f := by omega
      have hh : hit f x a = false := by simp [hit, hf]
      rw [hh] at hkn
      simp (maxDischargeDepth := 30) [hf', pf29_5, e15, w1]
      exact ⟨q.rs.length - (i + 1), by omega, i + 1, by omega, rfl, e1, e2, e13, e14, by simp, hxs _ _, hkn⟩
  obtain rfl : i = q.rs.length := by omega
  rw [List.drop_length] at hkn
  simp at hkn
  simp [pf29_7, pf29_6, e14, e15, pf29_0, hkn, hx]
end
end Go.Ab
