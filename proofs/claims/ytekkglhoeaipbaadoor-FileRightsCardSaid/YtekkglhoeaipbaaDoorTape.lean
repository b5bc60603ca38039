/- Words, tapes and oracles (layers 1, 5, 6) over the abstract machine. -/
import Derived.Test.YtekkglhoeaipbaaDoorTab
import Derived.Test.YtekkglhoeaipbaaDoorAbFoot
import Derived.Test.YtekkglhoeaipbaaDoorAbBe
namespace Go.Ab
attribute [local simp] S.read S.write

def w48 : Nat := 281474976710656
theorem and48' (x : Nat) : IntKind.u64.wrap (((BitVec.ofInt IntKind.u64.bits (x : Int) &&& BitVec.ofInt IntKind.u64.bits 281474976710655).toNat : Nat) : Int) = ((x % w48 : Nat) : Int) := by
  have e1 : (BitVec.ofInt IntKind.u64.bits (x : Int)).toNat = x % 18446744073709551616 := by
    simp only [IntKind.bits, BitVec.toNat_ofInt]; omega
  have e2 : (BitVec.ofInt IntKind.u64.bits 281474976710655).toNat = 2 ^ 48 - 1 := by
    simp only [IntKind.bits, BitVec.toNat_ofInt]; omega
  rw [BitVec.toNat_and, e1, e2, Nat.and_two_pow_sub_one_eq_mod]
  simp [IntKind.wrap, IntKind.signed, IntKind.bits, w48]
  omega
theorem b48' (x : Nat) : binV .and (.int .u64 (x : Int)) (.int .u64 281474976710655) = some (.int .u64 ((x % w48 : Nat) : Int)) := by rw [binV_and, and48']

theorem cut_ok (x : Nat) (s : S) : Ev tab 47 [.int .u64 x] s fun v s' => s' = s ∧ v = .int .u64 (x % w48 : Nat) := by
  refine Ev.intro rfl rfl rfl ?_
  have h1 := b48' x
  obtain ⟨y, hy⟩ : ∃ y, y = x % w48 := ⟨_, rfl⟩
  rw [← hy] at h1 ⊢
  simp [pf47, pf47_1, pf47_0, h1, -binV_and]

def u64s (es : List Nat) : List AV := es.map fun (x : Nat) => AV.int .u64 (x : Int)
@[simp] theorem u64s_length (es : List Nat) : (u64s es).length = es.length := by simp [u64s]
theorem u64s_flat (es : List Nat) : (u64s es).all isFlat = true := by simp [u64s, isFlat]
def rows3 (rs : List (Nat × Nat × Nat)) : List AV := (rs.map fun a => [AV.int .i64 (a.1 : Int), AV.int .u64 (a.2.1 : Int), AV.int .u64 (a.2.2 : Int)]).flatten
theorem rows3_length : ∀ rs : List (Nat × Nat × Nat), (rows3 rs).length = rs.length * 3
  | [] => rfl
  | a :: rs => by
    have := rows3_length rs
    simp only [rows3] at this ⊢
    simp only [List.map_cons, List.flatten_cons, List.length_append, this, List.length_cons]
    simp; omega
theorem rows3_flat : ∀ rs : List (Nat × Nat × Nat), (rows3 rs).all isFlat = true
  | [] => rfl
  | a :: rs => by
    have := rows3_flat rs
    simp only [rows3] at this ⊢
    simp [this, isFlat]
theorem rows3_part : ∀ (rs : List (Nat × Nat × Nat)) (i : Nat) (a : Nat × Nat × Nat), rs[i]? = some a → ((rows3 rs).drop (i * 3)).take 3 = [.int .i64 (a.1 : Int), .int .u64 (a.2.1 : Int), .int .u64 (a.2.2 : Int)]
  | [], i, a, h => by simp at h
  | b :: rs, 0, a, h => by
    simp at h; subst h
    simp [rows3]
  | b :: rs, i + 1, a, h => by
    have := rows3_part rs i a (by simpa using h)
    rw [show (i + 1) * 3 = 3 + i * 3 by omega, ← List.drop_drop]
    exact this

/-- A tape in memory. -/
def Tp (s : S) (tp : Nat) (es : List Nat) (a : Nat) (F : List Nat) : Prop := ∃ ev fe, s.get tp = some (.cells [ev, .int .i64 (a : Int)] 0 false) ∧ OwnF 1 s ev es.length (u64s es) fe ∧ F = tp :: fe ∧ tp < s.ctr ∧ a ≤ es.length ∧ es.length ≤ 17592186044416

section
variable {s s' : S} {tp a : Nat} {es : List Nat} {F : List Nat}
theorem Tp.lt (h : Tp s tp es a F) : ∀ x ∈ F, x < s.ctr := by
  obtain ⟨ev, fe, h1, h2, rfl, h4, h5⟩ := h
  intro x hx
  rcases List.mem_cons.1 hx with rfl | hx
  · exact h4
  · exact h2.lt x hx
theorem Tp.chg {l : List Nat} (h : Tp s tp es a F) (hc : Chg l s s') (hd : Apart F l) : Tp s' tp es a F := by
  obtain ⟨ev, fe, h1, h2, rfl, h4, h5⟩ := h
  exact ⟨ev, fe, by rw [hc.get tp h4 (hd tp (by simp)), h1], h2.chg hc (fun x hx => hd x (by simp [hx])), rfl, by have := hc.ctr; omega, h5⟩
theorem Tp.ext (h : Tp s tp es a F) (hx : Ext s s') : Tp s' tp es a F := h.chg (hx.chg []) (fun _ _ => by simp)

theorem draw_ok (h : Tp s tp es a F) {x : Nat} (hx : es[a]? = some x) : Ev tab 73 [.ptr tp 0] s fun v s' => Chg F s s' ∧ s'.ctr = s.ctr ∧ v = .tuple [.int .u64 x, .nilIface] ∧ Tp s' tp es (a + 1) F := by
  refine Ev.intro rfl rfl rfl ?_
  obtain ⟨ev, fe, h1, h2, rfl, h4, h5, h6⟩ := h
  have ha : a < es.length := (List.getElem?_eq_some_iff.1 hx).1
  have wl := h2.wlen
  have fev := h2.flat
  have hne : ¬ (a : Int) = es.length := by omega
  have w1 : IntKind.i64.wrap ((a : Int) + 1) = ((a + 1 : Nat) : Int) := by rw [wrap_i64] <;> omega
  obtain ⟨A, hA⟩ : ∃ A, A = a + 1 := ⟨_, rfl⟩
  rw [← hA] at w1
  have w2 : IntKind.i64.wrap ((A : Int) - 1) = (a : Int) := by rw [wrap_i64] <;> omega
  have hother := h2.other h1 (by decide)
  have hc : Chg [tp] s (s.set tp (some (.cells [ev, .int .i64 (A : Int)] 0 false))) := by simp
  have h2' := h2.chg hc (fun y hy => by simp; rintro rfl; exact hother hy)
  obtain ⟨b, hb, hrd⟩ := h2'.elem ha
  subst hb
  have e2 : ((u64s es).drop (a * 1)).take 1 = [.int .u64 (x : Int)] := by
    have : (u64s es)[a]? = some (.int .u64 (x : Int)) := by simp [u64s, hx]
    obtain ⟨q1, q2⟩ := List.getElem?_eq_some_iff.1 this
    rw [Nat.mul_one, List.drop_eq_getElem_cons q1, q2]; rfl
  rw [e2, Nat.mul_one, Nat.zero_add] at hrd
  have hbt : b ≠ tp := by
    rintro rfl
    rcases h2.2 with ⟨h, _⟩ | ⟨b2, hb2, hg, _⟩
    · cases h
    · simp only [AV.slice.injEq] at hb2
      obtain ⟨rfl, _⟩ := hb2
      rw [h1] at hg; simp at hg
  simp only [S.read, S.get_set, if_neg hbt] at hrd
  simp [pf73, pf73_5, pf73_4, pf73_3, h1, wl, hne, pf73_1, w1, pf73_0, w2, ha, hbt, hrd]
  exact ⟨_, fe, by simp; omega, h2', rfl, by simpa using h4, by omega, h6⟩

theorem draw_no (h : Tp s tp es es.length F) : Ev tab 73 [.ptr tp 0] s fun v s' => s' = s ∧ v = .tuple [.int .u64 0, .iface 43 (.int .i64 7)] := by
  refine Ev.intro rfl rfl rfl ?_
  obtain ⟨ev, fe, h1, h2, rfl, h4, h5, h6⟩ := h
  have wl := h2.wlen
  simp [pf73, pf73_5, pf73_4, pf73_3, h1, wl, pf73_2]

end

/-- Whole numbers, as they are read. -/
def NumsAt (s : S) (v : AV) (ns : List Nat) : Prop := lenV v = some ns.length ∧ (v = .snil ∨ (∃ a, v = .zsl a) ∨ ∃ A cap opn, v = .slice A 0 ns.length cap opn ∧ A < s.ctr ∧ ∀ (i n : Nat), ns[i]? = some n → s.read A (0 + i * 1) 1 = some [.int .u64 (n : Int)])

theorem NumsAt.wlen {s : S} {v : AV} {ns : List Nat} (hb : NumsAt s v ns) : ∀ (T : Tab) (r : Regs) (s' : S) (x : Opd) (Q : AV → S → Prop), x.ev r = v → WpI T (.len false x) r s' Q = Q (.int .i64 ns.length) s' := by
  intro T r s' x Q hx
  have h := hb.1
  rcases hb.2 with rfl | ⟨za, rfl⟩ | ⟨b, c, opn, rfl, _⟩ <;> simp only [lenV, Option.some.injEq] at h <;> first | (simp [hx, ← h]; done) | (simp [hx]; done)
theorem NumsAt.elem {s s' : S} {v : AV} {ns : List Nat} (hb : NumsAt s v ns) (hx : Ext s s') {i n : Nat} (hi : ns[i]? = some n) : ∃ A cap opn, v = .slice A 0 ns.length cap opn ∧ s'.read A i 1 = some [.int .u64 (n : Int)] := by
  have hil := (List.getElem?_eq_some_iff.1 hi).1
  have h := hb.1
  rcases hb.2 with rfl | ⟨za, rfl⟩ | ⟨A, c, opn, rfl, hA, hr⟩
  · simp [lenV] at h; omega
  · simp [lenV] at h; omega
  · refine ⟨A, c, opn, rfl, ?_⟩
    have := hr i n hi
    rw [read_ext hx hA]
    simpa using this

set_option maxRecDepth 10000 in
theorem tapeOf_ok {s : S} {v : AV} {ns : List Nat} (hv : NumsAt s v ns) (hl : ns.length ≤ 17592186044416) : Ev tab 17 [v] s fun u s' => Ext s s' ∧ ∃ tp F, u = .ptr tp 0 ∧ Tp s' tp (ns.map (· % w48)) 0 F ∧ ∀ x ∈ F, s.ctr ≤ x := by
  refine Ev.intro rfl rfl rfl ?_
  have wl := hv.wlen
  simp [pf17, pf17_8, pf17_7, pf17_6, wl]
  refine WpC.loop (fun m r' s' => ∃ i F, i ≤ ns.length ∧ m = ns.length - i ∧ r' 3 = .ptr s.ctr 0 ∧ r' 8 = v ∧ r' 9 = .int .i64 ns.length ∧ r' 10 = .int .i64 (i : Nat) ∧ Ext s s' ∧ Tp s' s.ctr ((ns.map (· % w48)).take i) 0 F ∧ ∀ x ∈ F, s.ctr ≤ x) (m := ns.length) ?_ ?_
  · refine ⟨0, [s.ctr], by omega, rfl, by simp, by simp, by simp, by simp, by simp, ⟨.snil, [], by simp, OwnF.nil _ _, rfl, by simp, by simp, by simp⟩, by simp⟩
  rintro m r' s' ⟨i, F, hi, rfl, e3, e8, e9, e10, hx, hT, hF⟩
  by_cases hlt : i < ns.length
  · obtain ⟨n, hn⟩ : ∃ n, ns[i]? = some n := ⟨_, List.getElem?_eq_getElem hlt⟩
    obtain ⟨A, cap, opn, rfl, hrd⟩ := hv.elem hx hn
    have w1 : IntKind.i64.wrap ((i : Int) + 1) = ((i + 1 : Nat) : Int) := by rw [wrap_i64] <;> omega
    obtain ⟨ev, fe, h1, h2, rfl, h4, h5, h6⟩ := hT
    simp [pf17_5, pf17_4, e9, e10, hlt, pf17_2, e8, hrd, pf17_1, e3, h1, -S.read]
    simp [h1]
    refine Ev.mono (cut_ok n s') ?_
    rintro u s2 ⟨rfl, rfl⟩
    obtain ⟨y, hy⟩ : ∃ y, y = n % w48 := ⟨_, rfl⟩
    rw [← hy]
    simp [h1]
    have htl : ((ns.map (· % w48)).take i).length = i := by simp; omega
    have hn1 : s2.get s.ctr = some (.cells [ev, .int .i64 0] 0 false) := h1
    refine cont_app_ownF (m := 1) (ds := [.int .u64 (y : Int)]) (h2.ext (by simp)) rfl ?_ rfl rfl (u64s_flat _) (by omega) (by omega) ?_ ?_
    · simp [S.cellsOf]
    · simp [htl]; omega
    intro v3 s3 f3 hO hc hg
    have hfe : ∀ x ∈ fe, x < s2.ctr := h2.lt
    have htp : s.ctr ∉ fe := h2.other h1 (by decide)
    have g3 : s3.get s.ctr = some (.cells [ev, .int .i64 0] 0 false) := by
      rw [hc.get s.ctr (by simp; omega) htp]
      simp [h1, show ¬ s.ctr = s2.ctr by omega]
    have f3f := hO.flat
    have c3 := hO.cells1
    simp [e3, g3, f3f, c3, pf17_3, e10, w1]
    have hctr := hc.ctr
    simp at hctr
    have htp3 : s.ctr ∉ f3 := hO.other g3 (by decide)
    have hcs : Chg [s.ctr] s3 (s3.set s.ctr (some (.cells [v3, .int .i64 0] 0 false))) := by simp
    refine ⟨ns.length - (i + 1), by omega, i + 1, by omega, rfl, e8, e9, by simp, ?_, s.ctr :: f3, ?_, ?_⟩
    · have q1 : Chg (s.ctr :: fe) s2 s3 := (Ext.chg (by simp) _ : Chg (s.ctr :: fe) s2 (s2.new (.cells [.int .u64 (y : Int)] 0 false))).trans (hc.sub (fun x hx => by simp [hx]))
      have q2 := hx.chg_trans q1 hF
      exact q2.chg_trans hcs (by simp)
    · refine ⟨v3, f3, by simp, ?_, rfl, by simp; omega, by simp, by simp; omega⟩
      have hO' := hO.chg hcs (fun z hz => by simp; rintro rfl; exact htp3 hz)
      have : u64s ((ns.map (· % w48)).take (i + 1)) = u64s ((ns.map (· % w48)).take i) ++ [.int .u64 (y : Int)] := by
        rw [List.take_add_one]
        simp [u64s, hy, hn]
      have hl2 : ((ns.map (· % w48)).take (i + 1)).length = ((ns.map (· % w48)).take i).length + 1 := by
        simp; omega
      rw [this, hl2]
      exact hO'
    · intro x hx'
      rcases List.mem_cons.1 hx' with rfl | hx'
      · omega
      · rcases hg x hx' with h | h
        · exact hF x (by simp [h])
        · simp at h; omega
  obtain rfl : i = ns.length := by omega
  rw [List.take_of_length_le (by simp)] at hT
  simp [pf17_5, pf17_4, e9, e10, pf17_0, e3]
  exact ⟨hx, F, hT, hF⟩
end Go.Ab
/-! Oracles (layer 6) over the abstract machine. -/
namespace Go.Ab
attribute [local simp] S.read S.write

/-- An oracle: the answers so far, the tape, how many draws were taken. -/
structure Orc where
  rs : List (Nat × Nat × Nat)
  es : List Nat
  at_ : Nat

def hit (f x : Nat) (a : Nat × Nat × Nat) : Bool := a.1 == f && a.2.1 == x % w48
def Orc.known (q : Orc) (f x : Nat) : Option Nat := (q.rs.find? (hit f x)).map (·.2.2)
/-- What an oracle answers, and what it is then. -/
def Orc.ask (q : Orc) (f x : Nat) : Option Nat × Orc :=
  match q.known f x with
  | some y => (some y, q)
  | none => match q.es[q.at_]? with
    | some y => (some y, { q with rs := q.rs ++ [(f, x % w48, y)], at_ := q.at_ + 1 })
    | none => (none, q)

/-- An oracle in memory. -/
def Oc (s : S) (op : Nat) (q : Orc) (F : List Nat) : Prop := ∃ av fa tp ft, s.get op = some (.cells [av, .ptr tp 0] 0 false) ∧ OwnF 3 s av q.rs.length (rows3 q.rs) fa ∧ Tp s tp q.es q.at_ ft ∧ F = op :: (fa ++ ft) ∧ op < s.ctr ∧ q.rs.length ≤ q.at_ ∧ Apart fa ft ∧ op ∉ fa ∧ op ∉ ft

section
variable {s s' : S} {op : Nat} {q : Orc} {F : List Nat}
theorem Oc.lt (h : Oc s op q F) : ∀ x ∈ F, x < s.ctr := by
  obtain ⟨av, fa, tp, ft, h1, h2, h3, rfl, h5, h6⟩ := h
  intro x hx
  simp only [List.mem_cons, List.mem_append] at hx
  rcases hx with rfl | hx | hx
  · exact h5
  · exact h2.lt x hx
  · exact h3.lt x hx
theorem Oc.chg {l : List Nat} (h : Oc s op q F) (hc : Chg l s s') (hd : Apart F l) : Oc s' op q F := by
  obtain ⟨av, fa, tp, ft, h1, h2, h3, rfl, h5, h6⟩ := h
  refine ⟨av, fa, tp, ft, by rw [hc.get op h5 (hd op (by simp)), h1], h2.chg hc (fun x hx => hd x (by simp [hx])), h3.chg hc (fun x hx => hd x (by simp [hx])), rfl, by have := hc.ctr; omega, h6⟩
theorem Oc.ext (h : Oc s op q F) (hx : Ext s s') : Oc s' op q F := h.chg (hx.chg []) (fun _ _ => by simp)

theorem oracleOf_ok {tp : Nat} {es : List Nat} {G : List Nat} (h : Tp s tp es 0 G) : Ev tab 16 [.ptr tp 0] s fun v s' => Ext s s' ∧ ∃ op F, v = .ptr op 0 ∧ Oc s' op ⟨[], es, 0⟩ F ∧ Grow G F s.ctr := by
  refine Ev.intro rfl rfl rfl ?_
  simp [pf16, pf16_3, pf16_2, pf16_0]
  refine ⟨s.ctr :: G, ⟨.snil, [], tp, G, by simp, OwnF.nil _ _, h.ext (by simp), rfl, by simp, by simp, fun _ h => (by cases h), by simp, ?_⟩, ?_⟩
  · intro hx
    have := h.lt _ hx
    omega
  · intro x hx
    rcases List.mem_cons.1 hx with rfl | hx
    · exact .inr (Nat.le_refl _)
    · exact .inl hx

set_option maxRecDepth 10000 in
theorem known_ok (h : Oc s op q F) (f x : Nat) : Ev tab 99 [.ptr op 0, .int .i64 f, .int .u64 x] s fun v s' => Ext s s' ∧ v = .tuple [.int .u64 ((q.known f x).getD 0 : Nat), .bool (q.known f x).isSome] := by
  refine Ev.intro rfl rfl rfl ?_
  obtain ⟨av, fa, tp, ft, h1, h2, h3, rfl, h5, h6, h7⟩ := h
  have wl := h2.wlen
  have hle : q.rs.length ≤ 17592186044416 := by
    obtain ⟨_, _, _, _, _, _, a1, a2⟩ := h3
    omega
  simp [pf99, pf99_10, pf99_9, pf99_8, h1, wl]
  refine WpC.loop (fun m r' s' => ∃ i, i ≤ q.rs.length ∧ m = q.rs.length - i ∧ r' 1 = .int .i64 f ∧ r' 2 = .int .u64 x ∧ r' 13 = av ∧ r' 14 = .int .i64 q.rs.length ∧ r' 15 = .int .i64 (i : Nat) ∧ Ext s s' ∧ q.known f x = ((q.rs.drop i).find? (hit f x)).map (·.2.2)) (m := q.rs.length) ?_ ?_
  · exact ⟨0, by omega, rfl, by simp, by simp, by simp, by simp, by simp, by simp, by simp [Orc.known]⟩
  rintro m r' s' ⟨i, hi, rfl, e1, e2, e13, e14, e15, hx, hkn⟩
  have h2' := h2.ext hx
  by_cases hlt : i < q.rs.length
  · have w1 : IntKind.i64.wrap ((i : Int) + 1) = ((i + 1 : Nat) : Int) := by rw [wrap_i64] <;> omega
    obtain ⟨a, ha⟩ : ∃ a, q.rs[i]? = some a := ⟨_, List.getElem?_eq_getElem hlt⟩
    obtain ⟨b, hb, hrd⟩ := h2'.elem hlt
    rw [rows3_part _ _ _ ha] at hrd
    have hdr : q.rs.drop i = a :: q.rs.drop (i + 1) := by
      obtain ⟨_, he⟩ := List.getElem?_eq_some_iff.1 ha
      rw [List.drop_eq_getElem_cons hlt, he]
    rw [hdr, List.find?_cons] at hkn
    subst hb
    rw [Nat.zero_add] at hrd
    have hbl : b < s'.ctr := by
      rcases h2'.2 with ⟨hh, _⟩ | ⟨b2, hb2, _, hlt2, _⟩
      · cases hh
      · simp only [AV.slice.injEq] at hb2
        obtain ⟨rfl, _⟩ := hb2
        exact hlt2
    simp [pf99_7, pf99_6, e14, e15, hlt, pf99_4, pf99_3, e13, hrd, -S.read]
    simp [pf99_2, e1]
    have hxs : ∀ o o', Ext s ((s'.new o).set s'.ctr o') := fun o o' => Ext.set hx.ctr (Ext.new hx)
    by_cases hf : a.1 = f
    · have hf' : (a.1 : Int) = f := by omega
      simp [hf', e2]
      refine Ev.mono (cut_ok x _) ?_
      rintro v s2 ⟨rfl, rfl⟩
      by_cases hxy : a.2.1 = x % w48
      · have hh : hit f x a = true := by simp [hit, hf, hxy]
        rw [hh] at hkn
        obtain ⟨y, hy⟩ : ∃ y, y = x % w48 := ⟨_, rfl⟩
        rw [← hy] at hxy ⊢
        have hxy' : (a.2.1 : Int) = y := by omega
        simp (maxDischargeDepth := 30) [hxy', pf99_1, hkn, hxs]
      · have hh : hit f x a = false := by simp [hit, hxy]
        rw [hh] at hkn
        obtain ⟨y, hy⟩ : ∃ y, y = x % w48 := ⟨_, rfl⟩
        rw [← hy] at hxy ⊢
        have hxy' : ¬ (a.2.1 : Int) = y := by omega
        simp (maxDischargeDepth := 30) [hxy', pf99_5, e15, w1]
        exact ⟨q.rs.length - (i + 1), by omega, i + 1, by omega, rfl, e1, e2, e13, e14, by simp, hxs _ _, hkn⟩
    · have hf' : ¬ (a.1 : Int) = f := by omega
      have hh : hit f x a = false := by simp [hit, hf]
      rw [hh] at hkn
      simp (maxDischargeDepth := 30) [hf', pf99_5, e15, w1]
      exact ⟨q.rs.length - (i + 1), by omega, i + 1, by omega, rfl, e1, e2, e13, e14, by simp, hxs _ _, hkn⟩
  obtain rfl : i = q.rs.length := by omega
  rw [List.drop_length] at hkn
  simp at hkn
  simp [pf99_7, pf99_6, e14, e15, pf99_0, hkn, hx]
end
end Go.Ab
/-! Oracles (layer 6) over the abstract machine: what they are asked. -/
namespace Go.Ab
attribute [local simp] S.read S.write

/-- An answer, or the tape's error. -/
def ansV : Option Nat → AV
  | some y => .tuple [.int .u64 (y : Int), .nilIface]
  | none => .tuple [.int .u64 0, .iface 43 (.int .i64 7)]

section
variable {s s' : S} {op : Nat} {q : Orc} {F : List Nat}

set_option maxRecDepth 10000 in
theorem ask_ok (h : Oc s op q F) (hq : q.rs.length ≤ 5000000000000) (f x : Nat) : Ev tab 79 [.ptr op 0, .int .i64 f, .int .u64 x] s fun v s' => Chg F s s' ∧ ∃ F', Grow F F' s.ctr ∧ Oc s' op (q.ask f x).2 F' ∧ v = ansV (q.ask f x).1 := by
  refine Ev.intro rfl rfl rfl ?_
  simp [pf79, pf79_9, pf79_8]
  refine Ev.mono (known_ok h f x) ?_
  rintro v s1 ⟨hx1, rfl⟩
  have h1 := h.ext hx1
  cases hk : q.known f x with
  | some y =>
    simp [pf79_7, pf79_6]
    have ha : q.ask f x = (some y, q) := by simp [Orc.ask, hk]
    rw [ha]
    exact ⟨hx1.chg F, F, Grow.refl _ _, h1, rfl⟩
  | none =>
    obtain ⟨av, fa, tp, ft, g1, g2, g3, rfl, g5, g6, g7, g8, g9⟩ := h1
    simp [pf79_7, pf79_5, g1]
    cases he : q.es[q.at_]? with
    | none =>
      have hat : q.at_ = q.es.length := by
        have := List.getElem?_eq_none_iff.1 he
        obtain ⟨_, _, _, _, _, _, a1, _⟩ := g3
        omega
      have g3' := g3
      rw [hat] at g3'
      refine Ev.mono (draw_no g3') ?_
      rintro v s2 ⟨rfl, rfl⟩
      have ha : q.ask f x = (none, q) := by simp [Orc.ask, hk, he]
      rw [ha]
      simp [pf79_4, pf79_3, pf79_2, ansV]
      exact ⟨hx1.chg _, _, Grow.refl _ _, ⟨av, fa, tp, ft, g1, g2, g3, rfl, g5, g6, g7, g8, g9⟩⟩
    | some y =>
      refine Ev.mono (draw_ok g3 he) ?_
      rintro v s2 ⟨hc2, hct2, rfl, hT2⟩
      have ha : q.ask f x = (some y, { q with rs := q.rs ++ [(f, x % w48, y)], at_ := q.at_ + 1 }) := by simp [Orc.ask, hk, he]
      rw [ha]
      have e1 : s2.get op = some (.cells [av, .ptr tp 0] 0 false) := by rw [hc2.get op g5 g9, g1]
      have o2 := g2.chg hc2 g7
      simp [pf79_4, pf79_3, pf79_1, e1]
      refine Ev.mono (cut_ok x s2) ?_
      rintro v s3 ⟨rfl, rfl⟩
      obtain ⟨z, hz⟩ : ∃ z, z = x % w48 := ⟨_, rfl⟩
      rw [← hz]
      simp [e1]
      refine cont_app_ownF (m := 1) (ds := [.int .i64 (f : Int), .int .u64 (z : Int), .int .u64 (y : Int)]) (o2.ext (by simp)) rfl ?_ rfl rfl (rows3_flat _) (by omega) (by omega) (by omega) ?_
      · simp [S.cellsOf]
      intro v4 s4 f4 hO hc hg
      have hopl : op < s3.ctr := by omega
      have hop3 : op ∉ fa := g8
      have e4 : s4.get op = some (.cells [av, .ptr tp 0] 0 false) := by
        rw [hc.get op (by simp; omega) hop3]
        simp [e1, show ¬ op = s3.ctr by omega]
      have f4f := hO.flat
      have c4 := hO.cells1
      have hop4 : op ∉ f4 := hO.other e4 (by decide)
      simp [e4, f4f, c4, pf79_0]
      have hctr := hc.ctr
      simp at hctr
      have hcs : Chg [op] s4 (s4.set op (some (.cells [v4, .ptr tp 0] 0 false))) := by simp
      have hO' := hO.chg hcs (fun w hw => by simp; rintro rfl; exact hop4 hw)
      have k3 : Chg fa s3 s4 := (Ext.chg (by simp) fa : Chg fa s3 (s3.new (.cells [.int .i64 (f : Int), .int .u64 (z : Int), .int .u64 (y : Int)] 0 false))).trans hc
      have hT4 := hT2.chg k3 g7.symm
      have hT5 := hT4.chg hcs (fun w hw => by simp; rintro rfl; exact g9 hw)
      have hftlt := hT2.lt
      refine ⟨?_, op :: (f4 ++ ft), ?_, ⟨v4, f4, tp, ft, by simp, ?_, hT5, rfl, by simp; omega, by simp; omega, ?_, hop4, g9⟩, rfl⟩
      · have q1 : Chg (op :: (fa ++ ft)) s s1 := hx1.chg _
        have q2 : Chg (op :: (fa ++ ft)) s1 s3 := hc2.sub (fun w hw => by simp [hw])
        have q3 : Chg (op :: (fa ++ ft)) s3 s4 := k3.sub (fun w hw => by simp [hw])
        have q4 : Chg (op :: (fa ++ ft)) s4 _ := hcs.sub (fun w hw => by simp at hw; simp [hw])
        exact ((q1.trans q2).trans q3).trans q4
      · intro w hw
        simp only [List.mem_cons, List.mem_append] at hw ⊢
        rcases hw with rfl | hw | hw
        · exact .inl (.inl rfl)
        · rcases hg w hw with hw | hw
          · exact .inl (.inr (.inl hw))
          · simp at hw
            have := hx1.ctr
            exact .inr (by omega)
        · exact .inl (.inr (.inr hw))
      · have : rows3 (q.rs ++ [(f, z, y)]) = rows3 q.rs ++ [.int .i64 (f : Int), .int .u64 (z : Int), .int .u64 (y : Int)] := by simp [rows3]
        show OwnF 3 _ v4 (q.rs ++ [(f, z, y)]).length (rows3 (q.rs ++ [(f, z, y)])) f4
        rw [this, List.length_append]
        exact hO'
      · refine g7.grow hg ?_
        intro w hw
        have := hftlt w hw
        simp; omega

/-- How many draws are left. -/
def Orc.left (q : Orc) : Nat := q.es.length - q.at_
end
end Go.Ab
/-! Tokens (layer 7) over the abstract machine. -/
namespace Go.Ab
attribute [local simp] S.read S.write

/-- A secret with rights laid into it. -/
def mix (secret r : Nat) : Nat := (secret % w48) ^^^ r
/-- The check of a secret for rights. -/
def Orc.tok (q : Orc) (secret r : Nat) : Option Nat × Orc := if r = 255 then (some (secret % w48), q) else q.ask 1 (mix secret r)

theorem bxor (x y : Nat) (hx : x < 18446744073709551616) (hy : y < 18446744073709551616) : binV .xor (.int .u64 (x : Int)) (.int .u64 (y : Int)) = some (.int .u64 ((x ^^^ y : Nat) : Int)) := by
  rw [binV_xor]
  have e1 : (BitVec.ofInt IntKind.u64.bits (x : Int)).toNat = x := by
    simp only [IntKind.bits, BitVec.toNat_ofInt]; omega
  have e2 : (BitVec.ofInt IntKind.u64.bits (y : Int)).toNat = y := by
    simp only [IntKind.bits, BitVec.toNat_ofInt]; omega
  rw [BitVec.toNat_xor, e1, e2]
  have : x ^^^ y < 2 ^ 64 := Nat.xor_lt_two_pow hx hy
  rw [wrap_u64 (by omega) (by omega)]

theorem mixed_ok (secret r : Nat) (hr : r < 256) (s : S) : Ev tab 80 [.int .u64 secret, .int .u8 r] s fun v s' => s' = s ∧ v = .int .u64 (mix secret r : Nat) := by
  refine Ev.intro rfl rfl rfl ?_
  simp [pf80, pf80_1, pf80_0]
  refine Ev.mono (cut_ok secret s) ?_
  rintro v s1 ⟨rfl, rfl⟩
  have hl : secret % w48 < w48 := Nat.mod_lt _ (by decide)
  have hx := bxor (secret % w48) r (by unfold w48 at *; omega) (by omega)
  obtain ⟨y, hy⟩ : ∃ y, y = secret % w48 := ⟨_, rfl⟩
  unfold mix
  rw [← hy] at hx ⊢
  have w : IntKind.u64.wrap (r : Int) = r := wrap_u64 (by omega) (by omega)
  simp [w, hx, -binV_xor]

section
variable {s s' : S} {op : Nat} {q : Orc} {F : List Nat}

theorem tokenOf_ok (h : Oc s op q F) (hq : q.rs.length ≤ 5000000000000) (secret r : Nat) (hr : r < 256) : Ev tab 54 [.ptr op 0, .int .u64 secret, .int .u8 r] s fun v s' => Chg F s s' ∧ ∃ F', Grow F F' s.ctr ∧ Oc s' op (q.tok secret r).2 F' ∧ v = ansV (q.tok secret r).1 := by
  refine Ev.intro rfl rfl rfl ?_
  unfold Orc.tok
  by_cases h255 : r = 255
  · subst h255
    simp [pf54, pf54_4, pf54_3, pf54_2, pf54_1]
    refine Ev.mono (cut_ok secret s) ?_
    rintro v s1 ⟨rfl, rfl⟩
    simp [ansV]
    exact ⟨F, Grow.refl _ _, h⟩
  · have h255' : ¬ (r : Int) = 255 := by omega
    simp [pf54, pf54_4, pf54_3, pf54_2, h255', pf54_0]
    refine Ev.mono (mixed_ok secret r hr s) ?_
    rintro v s1 ⟨rfl, rfl⟩
    simp
    refine Ev.mono (ask_ok h hq 1 (mix secret r)) ?_
    rintro v s2 ⟨hc, F', hg, hO, rfl⟩
    rw [if_neg h255]
    cases (q.ask 1 (mix secret r)).1 with
    | none => simp [ansV]; exact ⟨hc, F', hg, hO⟩
    | some y => simp [ansV]; exact ⟨hc, F', hg, hO⟩

/-- What a check is held against. -/
def goodV (k : Nat) : Option Nat → AV
  | some y => .tuple [.bool (decide (y = k)), .nilIface]
  | none => .tuple [.bool false, .iface 43 (.int .i64 7)]

theorem good_ok (h : Oc s op q F) (hq : q.rs.length ≤ 5000000000000) (secret p o r k : Nat) (hr : r < 256) : Ev tab 78 [.ptr op 0, .int .u64 secret, .agg [.int .u64 p, .int .u32 o, .int .u8 r, .int .u64 k]] s fun v s' => Chg F s s' ∧ ∃ F', Grow F F' s.ctr ∧ Oc s' op (q.tok secret r).2 F' ∧ v = goodV k (q.tok secret r).1 := by
  refine Ev.intro rfl rfl rfl ?_
  obtain ⟨s0, hs0⟩ : ∃ s0, s0 = s.new (.cells [.int .u64 p, .int .u32 o, .int .u8 r, .int .u64 k] 0 false) := ⟨_, rfl⟩
  have x0 : Ext s s0 := by rw [hs0]; simp
  have g0 : s0.get s.ctr = some (.cells [.int .u64 p, .int .u32 o, .int .u8 r, .int .u64 k] 0 false) := by rw [hs0]; simp
  have c0 : s0.ctr = s.ctr + 1 := by rw [hs0]; rfl
  simp [pf78, pf78_2, ← hs0, pf78_1, g0]
  refine Ev.mono (tokenOf_ok (h.ext x0) hq secret r hr) ?_
  rintro v s1 ⟨hc, F', hg, hO, rfl⟩
  have hn : s.ctr ∉ F := fun hx => by have := h.lt _ hx; omega
  have g1 : s1.get s.ctr = some (.cells [.int .u64 p, .int .u32 o, .int .u8 r, .int .u64 k] 0 false) := by rw [hc.get _ (by omega) hn, g0]
  have hcs : Chg F s s1 := (x0.chg F).trans hc
  have hg' : Grow F F' s.ctr := fun x hx => by
    rcases hg x hx with h | h
    · exact .inl h
    · exact .inr (by omega)
  cases (q.tok secret r).1 with
  | none => simp [pf78_0, ansV, goodV]; exact ⟨hcs, F', hg', hO⟩
  | some y =>
    have : decide ((y : Int) = k) = decide (y = k) := decide_eq_decide.2 (by omega)
    simp [pf78_0, ansV, goodV, g1, this]
    exact ⟨hcs, F', hg', hO⟩

end
end Go.Ab
/-! Tokens (layer 7) over the abstract machine: what is alike, what takes draws. -/
namespace Go.Ab
attribute [local simp] S.read S.write

theorem ev_num {s : S} {n : Int} {Q : AV → S → Prop} (h : Q (.int .i64 n) s) : Ev tab 20 [.iface 43 (.int .i64 n)] s Q := Ev.prim (p := numPrim) rfl (by simp [numPrim, numPrim]) h
theorem ev_num0 {s : S} {Q : AV → S → Prop} (h : Q (.int .i64 0) s) : Ev tab 20 [.nilIface] s Q := Ev.prim (p := numPrim) rfl (by simp [numPrim, numPrim]) h

/-- What was told is told again. -/
theorem Orc.ask_again {q q' : Orc} {f x y : Nat} (h : q.ask f x = (some y, q')) : q'.known f x = some y := by
  unfold Orc.ask at h
  split at h
  · rename_i z hz
    simp only [Prod.mk.injEq, Option.some.injEq] at h
    obtain ⟨rfl, rfl⟩ := h
    exact hz
  · rename_i hz
    split at h
    · rename_i z hz2
      simp only [Prod.mk.injEq, Option.some.injEq] at h
      obtain ⟨rfl, rfl⟩ := h
      simp only [Orc.known, Option.map_eq_none_iff] at hz ⊢
      rw [List.find?_append, hz]
      simp [hit]
    · simp at h
theorem Orc.ask_known {q : Orc} {f x y : Nat} (h : q.known f x = some y) : q.ask f x = (some y, q) := by
  unfold Orc.ask; rw [h]
theorem Orc.tok_again {q q' : Orc} {s r y : Nat} (h : q.tok s r = (some y, q')) : q'.tok s r = (some y, q') := by
  unfold Orc.tok at h ⊢
  split
  · rename_i h255
    rw [if_pos h255] at h
    simp only [Prod.mk.injEq] at h
    rw [h.1]
  · rename_i h255
    rw [if_neg h255] at h
    exact Orc.ask_known (Orc.ask_again h)

theorem xor_inj {s r o : Nat} (h : s ^^^ r = s ^^^ o) : r = o := by
  have : s ^^^ (s ^^^ r) = s ^^^ (s ^^^ o) := by rw [h]
  rwa [← Nat.xor_assoc, ← Nat.xor_assoc, Nat.xor_self, Nat.zero_xor, Nat.zero_xor] at this
theorem mix_lt {s r : Nat} (hr : r < 256) : mix s r < w48 := by
  unfold mix
  have h1 : s % w48 < 2 ^ 48 := Nat.mod_lt _ (by decide)
  exact Nat.xor_lt_two_pow h1 (show r < 2 ^ 48 by omega)
theorem mix_inj {s r o : Nat} (h : mix s r = mix s o) : r = o := xor_inj h


theorem Orc.tok_idem {q q' : Orc} {s r : Nat} {x : Option Nat} (h : q.tok s r = (x, q')) : q'.tok s r = (x, q') := by
  cases x with
  | some y => exact Orc.tok_again h
  | none =>
    have : q' = q := by
      unfold Orc.tok at h
      split at h
      · simp at h
      · unfold Orc.ask at h
        split at h
        · simp at h
        · split at h
          · simp at h
          · simp at h; exact h.symm
    rw [this]
    rw [this] at h
    exact h

/-- An error, or none. -/
def errV : Option Int → AV
  | none => .nilIface
  | some n => .iface 43 (.int .i64 n)

/-- The tape's error of an answer that there is none of. -/
def tapeE : Option Nat → Option Int
  | some _ => none
  | none => some 7
theorem ansV_eq (x : Option Nat) : ansV x = .tuple [.int .u64 ((x.getD 0 : Nat) : Int), errV (tapeE x)] := by cases x <;> rfl
theorem flat_errV (e : Option Int) : isFlat (errV e) = true := by cases e <;> rfl
theorem cells_errV (e : Option Int) : (errV e).cells = [errV e] := by cases e <;> rfl
end Go.Ab
