/- Words, tapes and oracles (layers 1, 5, 6) over the abstract machine. -/
import Derived.Test.YtecpmilepjbaeabDoorTab
import Derived.Test.YtecpmilepjbaeabDoorAbFoot
import Derived.Test.YtecpmilepjbaeabDoorAbBe
namespace Go.Ab
attribute [local simp] S.read S.write

def w48 : Nat := 281474976710656
theorem and48' (x : Nat) : IntKind.u64.wrap (((BitVec.ofInt IntKind.u64.bits (x : Int) &&& BitVec.ofInt IntKind.u64.bits 281474976710655).toNat : Nat) : Int) = ((x % w48 : Nat) : Int) := by
  have e1 : (BitVec.ofInt IntKind.u64.bits (x : Int)).toNat = x % 18446744073709551616 := by
    simp only [IntKind.bits, BitVec.toNat_ofInt]; omega
  have e2 : (BitVec.ofInt IntKind.u64.bits 281474976710655).toNat = 2 ^ 48 - 1 := by
    simp only [IntKind.bits, BitVec.toNat_ofInt]; omega
  rw [BitVec.toNat_and, e1, e2, Nat.and_two_pow_sub_one_eq_mod]
  simp [IntKind.wrap, IntKind.signed, IntKind.bits, w48]
  omega
theorem b48' (x : Nat) : binV .and (.int .u64 (x : Int)) (.int .u64 281474976710655) = some (.int .u64 ((x % w48 : Nat) : Int)) := by rw [binV_and, and48']

theorem cut_ok (x : Nat) (s : S) : Ev tab 26 [.int .u64 x] s fun v s' => s' = s ∧ v = .int .u64 (x % w48 : Nat) := by
  refine Ev.intro rfl rfl rfl ?_
  have h1 := b48' x
  obtain ⟨y, hy⟩ : ∃ y, y = x % w48 := ⟨_, rfl⟩
  rw [← hy] at h1 ⊢
  simp [pf26, pf26_1, pf26_0, h1, -binV_and]

def u64s (es : List Nat) : List AV := es.map fun (x : Nat) => AV.int .u64 (x : Int)
@[simp] theorem u64s_length (es : List Nat) : (u64s es).length = es.length := by simp [u64s]
theorem u64s_flat (es : List Nat) : (u64s es).all isFlat = true := by simp [u64s, isFlat]
def rows3 (rs : List (Nat × Nat × Nat)) : List AV := (rs.map fun a => [AV.int .i64 (a.1 : Int), AV.int .u64 (a.2.1 : Int), AV.int .u64 (a.2.2 : Int)]).flatten
theorem rows3_length : ∀ rs : List (Nat × Nat × Nat), (rows3 rs).length = rs.length * 3
  | [] => rfl
  | a :: rs => by
    have := rows3_length rs
    simp only [rows3] at this ⊢
    simp only [List.map_cons, List.flatten_cons, List.length_append, this, List.length_cons]
    simp; omega
theorem rows3_flat : ∀ rs : List (Nat × Nat × Nat), (rows3 rs).all isFlat = true
  | [] => rfl
  | a :: rs => by
    have := rows3_flat rs
    simp only [rows3] at this ⊢
    simp [this, isFlat]
theorem rows3_part : ∀ (rs : List (Nat × Nat × Nat)) (i : Nat) (a : Nat × Nat × Nat), rs[i]? = some a → ((rows3 rs).drop (i * 3)).take 3 = [.int .i64 (a.1 : Int), .int .u64 (a.2.1 : Int), .int .u64 (a.2.2 : Int)]
  | [], i, a, h => by simp at h
  | b :: rs, 0, a, h => by
    simp at h; subst h
    simp [rows3]
  | b :: rs, i + 1, a, h => by
    have := rows3_part rs i a (by simpa using h)
    rw [show (i + 1) * 3 = 3 + i * 3 by omega, ← List.drop_drop]
    exact this

/-- A tape in memory. -/
def Tp (s : S) (tp : Nat) (es : List Nat) (a : Nat) (F : List Nat) : Prop := ∃ ev fe, s.get tp = some (.cells [ev, .int .i64 (a : Int)] 0 false) ∧ OwnF 1 s ev es.length (u64s es) fe ∧ F = tp :: fe ∧ tp < s.ctr ∧ a ≤ es.length ∧ es.length ≤ 17592186044416

section
variable {s s' : S} {tp a : Nat} {es : List Nat} {F : List Nat}
theorem Tp.lt (h : Tp s tp es a F) : ∀ x ∈ F, x < s.ctr := by
  obtain ⟨ev, fe, h1, h2, rfl, h4, h5⟩ := h
  intro x hx
  rcases List.mem_cons.1 hx with rfl | hx
  · exact h4
  · exact h2.lt x hx
theorem Tp.chg {l : List Nat} (h : Tp s tp es a F) (hc : Chg l s s') (hd : Apart F l) : Tp s' tp es a F := by
  obtain ⟨ev, fe, h1, h2, rfl, h4, h5⟩ := h
  exact ⟨ev, fe, by rw [hc.get tp h4 (hd tp (by simp)), h1], h2.chg hc (fun x hx => hd x (by simp [hx])), rfl, by have := hc.ctr; omega, h5⟩
theorem Tp.ext (h : Tp s tp es a F) (hx : Ext s s') : Tp s' tp es a F := h.chg (hx.chg []) (fun _ _ => by simp)

theorem draw_ok (h : Tp s tp es a F) {x : Nat} (hx : es[a]? = some x) : Ev tab 30 [.ptr tp 0] s fun v s' => Chg F s s' ∧ s'.ctr = s.ctr ∧ v = .tuple [.int .u64 x, .nilIface] ∧ Tp s' tp es (a + 1) F := by
  refine Ev.intro rfl rfl rfl ?_
  obtain ⟨ev, fe, h1, h2, rfl, h4, h5, h6⟩ := h
  have ha : a < es.length := (List.getElem?_eq_some_iff.1 hx).1
  have wl := h2.wlen
  have fev := h2.flat
  have hne : ¬ (a : Int) = es.length := by omega
  have w1 : IntKind.i64.wrap ((a : Int) + 1) = ((a + 1 : Nat) : Int) := by rw [wrap_i64] <;> omega
  obtain ⟨A, hA⟩ : ∃ A, A = a + 1 := ⟨_, rfl⟩
  rw [← hA] at w1
  have w2 : IntKind.i64.wrap ((A : Int) - 1) = (a : Int) := by rw [wrap_i64] <;> omega
  have hother := h2.other h1 (by decide)
  have hc : Chg [tp] s (s.set tp (some (.cells [ev, .int .i64 (A : Int)] 0 false))) := by simp
  have h2' := h2.chg hc (fun y hy => by simp; rintro rfl; exact hother hy)
  obtain ⟨b, hb, hrd⟩ := h2'.elem ha
  subst hb
  have e2 : ((u64s es).drop (a * 1)).take 1 = [.int .u64 (x : Int)] := by
    have : (u64s es)[a]? = some (.int .u64 (x : Int)) := by simp [u64s, hx]
    obtain ⟨q1, q2⟩ := List.getElem?_eq_some_iff.1 this
    rw [Nat.mul_one, List.drop_eq_getElem_cons q1, q2]; rfl
  rw [e2, Nat.mul_one, Nat.zero_add] at hrd
  have hbt : b ≠ tp := by
    rintro rfl
    rcases h2.2 with ⟨h, _⟩ | ⟨b2, hb2, hg, _⟩
    · cases h
    · simp only [AV.slice.injEq] at hb2
      obtain ⟨rfl, _⟩ := hb2
      rw [h1] at hg; simp at hg
  simp only [S.read, S.get_set, if_neg hbt] at hrd
  simp [pf30, pf30_5, pf30_4, pf30_3, h1, wl, hne, pf30_1, w1, pf30_0, w2, ha, hbt, hrd]
  exact ⟨_, fe, by simp; omega, h2', rfl, by simpa using h4, by omega, h6⟩

theorem draw_no (h : Tp s tp es es.length F) : Ev tab 30 [.ptr tp 0] s fun v s' => s' = s ∧ v = .tuple [.int .u64 0, .iface 32 (.int .i64 7)] := by
  refine Ev.intro rfl rfl rfl ?_
  obtain ⟨ev, fe, h1, h2, rfl, h4, h5, h6⟩ := h
  have wl := h2.wlen
  simp [pf30, pf30_5, pf30_4, pf30_3, h1, wl, pf30_2]

theorem tapeLeft_ok (h : Tp s tp es a F) : Ev tab 28 [.ptr tp 0] s fun v s' => s' = s ∧ v = .int .i64 (es.length - a : Nat) := by
  refine Ev.intro rfl rfl rfl ?_
  obtain ⟨ev, fe, h1, h2, rfl, h4, h5, h6⟩ := h
  have wl := h2.wlen
  have w1 : IntKind.i64.wrap ((es.length : Int) - a) = ((es.length - a : Nat) : Int) := by rw [wrap_i64] <;> omega
  obtain ⟨A, hA⟩ : ∃ A, A = es.length - a := ⟨_, rfl⟩
  rw [← hA] at w1 ⊢
  simp [pf28, pf28_1, pf28_0, h1, wl, w1]
end

/-- Whole numbers, as they are read. -/
def NumsAt (s : S) (v : AV) (ns : List Nat) : Prop := lenV v = some ns.length ∧ (v = .snil ∨ (∃ a, v = .zsl a) ∨ ∃ A cap, v = .slice A 0 ns.length cap false ∧ A < s.ctr ∧ ∀ (i n : Nat), ns[i]? = some n → s.read A (0 + i * 1) 1 = some [.int .u64 (n : Int)])

theorem NumsAt.wlen {s : S} {v : AV} {ns : List Nat} (hb : NumsAt s v ns) : ∀ (T : Tab) (r : Regs) (s' : S) (x : Opd) (Q : AV → S → Prop), x.ev r = v → WpI T (.len false x) r s' Q = Q (.int .i64 ns.length) s' := by
  intro T r s' x Q hx
  have h := hb.1
  rcases hb.2 with rfl | ⟨za, rfl⟩ | ⟨b, c, rfl, _⟩ <;> simp only [lenV, Option.some.injEq] at h <;> first | (simp [hx, ← h]; done) | (simp [hx]; done)
theorem NumsAt.elem {s s' : S} {v : AV} {ns : List Nat} (hb : NumsAt s v ns) (hx : Ext s s') {i n : Nat} (hi : ns[i]? = some n) : ∃ A cap, v = .slice A 0 ns.length cap false ∧ s'.read A i 1 = some [.int .u64 (n : Int)] := by
  have hil := (List.getElem?_eq_some_iff.1 hi).1
  have h := hb.1
  rcases hb.2 with rfl | ⟨za, rfl⟩ | ⟨A, c, rfl, hA, hr⟩
  · simp [lenV] at h; omega
  · simp [lenV] at h; omega
  · refine ⟨A, c, rfl, ?_⟩
    have := hr i n hi
    rw [read_ext hx hA]
    simpa using this

set_option maxRecDepth 10000 in
theorem tapeOf_ok {s : S} {v : AV} {ns : List Nat} (hv : NumsAt s v ns) (hl : ns.length ≤ 17592186044416) : Ev tab 14 [v] s fun u s' => Ext s s' ∧ ∃ tp F, u = .ptr tp 0 ∧ Tp s' tp (ns.map (· % w48)) 0 F ∧ ∀ x ∈ F, s.ctr ≤ x := by
  refine Ev.intro rfl rfl rfl ?_
  have wl := hv.wlen
  simp [pf14, pf14_8, pf14_7, pf14_6, wl]
  refine WpC.loop (fun m r' s' => ∃ i F, i ≤ ns.length ∧ m = ns.length - i ∧ r' 3 = .ptr s.ctr 0 ∧ r' 8 = v ∧ r' 9 = .int .i64 ns.length ∧ r' 10 = .int .i64 (i : Nat) ∧ Ext s s' ∧ Tp s' s.ctr ((ns.map (· % w48)).take i) 0 F ∧ ∀ x ∈ F, s.ctr ≤ x) (m := ns.length) ?_ ?_
  · refine ⟨0, [s.ctr], by omega, rfl, by simp, by simp, by simp, by simp, by simp, ⟨.snil, [], by simp, OwnF.nil _ _, rfl, by simp, by simp, by simp⟩, by simp⟩
  rintro m r' s' ⟨i, F, hi, rfl, e3, e8, e9, e10, hx, hT, hF⟩
  by_cases hlt : i < ns.length
  · obtain ⟨n, hn⟩ : ∃ n, ns[i]? = some n := ⟨_, List.getElem?_eq_getElem hlt⟩
    obtain ⟨A, cap, rfl, hrd⟩ := hv.elem hx hn
    have w1 : IntKind.i64.wrap ((i : Int) + 1) = ((i + 1 : Nat) : Int) := by rw [wrap_i64] <;> omega
    obtain ⟨ev, fe, h1, h2, rfl, h4, h5, h6⟩ := hT
    simp [pf14_5, pf14_4, e9, e10, hlt, pf14_2, e8, hrd, pf14_1, e3, h1, -S.read]
    simp [h1]
    refine Ev.mono (cut_ok n s') ?_
    rintro u s2 ⟨rfl, rfl⟩
    obtain ⟨y, hy⟩ : ∃ y, y = n % w48 := ⟨_, rfl⟩
    rw [← hy]
    simp [h1]
    have htl : ((ns.map (· % w48)).take i).length = i := by simp; omega
    have hn1 : s2.get s.ctr = some (.cells [ev, .int .i64 0] 0 false) := h1
    refine cont_app_ownF (m := 1) (ds := [.int .u64 (y : Int)]) (h2.ext (by simp)) rfl ?_ rfl rfl (u64s_flat _) (by omega) (by omega) ?_ ?_
    · simp [S.cellsOf]
    · simp [htl]; omega
    intro v3 s3 f3 hO hc hg
    have hfe : ∀ x ∈ fe, x < s2.ctr := h2.lt
    have htp : s.ctr ∉ fe := h2.other h1 (by decide)
    have g3 : s3.get s.ctr = some (.cells [ev, .int .i64 0] 0 false) := by
      rw [hc.get s.ctr (by simp; omega) htp]
      simp [h1, show ¬ s.ctr = s2.ctr by omega]
    have f3f := hO.flat
    have c3 := hO.cells1
    simp [e3, g3, f3f, c3, pf14_3, e10, w1]
    have hctr := hc.ctr
    simp at hctr
    have htp3 : s.ctr ∉ f3 := hO.other g3 (by decide)
    have hcs : Chg [s.ctr] s3 (s3.set s.ctr (some (.cells [v3, .int .i64 0] 0 false))) := by simp
    refine ⟨ns.length - (i + 1), by omega, i + 1, by omega, rfl, e8, e9, by simp, ?_, s.ctr :: f3, ?_, ?_⟩
    · have q1 : Chg (s.ctr :: fe) s2 s3 := (Ext.chg (by simp) _ : Chg (s.ctr :: fe) s2 (s2.new (.cells [.int .u64 (y : Int)] 0 false))).trans (hc.sub (fun x hx => by simp [hx]))
      have q2 := hx.chg_trans q1 hF
      exact q2.chg_trans hcs (by simp)
    · refine ⟨v3, f3, by simp, ?_, rfl, by simp; omega, by simp, by simp; omega⟩
      have hO' := hO.chg hcs (fun z hz => by simp; rintro rfl; exact htp3 hz)
      have : u64s ((ns.map (· % w48)).take (i + 1)) = u64s ((ns.map (· % w48)).take i) ++ [.int .u64 (y : Int)] := by
        rw [List.take_add_one]
        simp [u64s, hy, hn]
      have hl2 : ((ns.map (· % w48)).take (i + 1)).length = ((ns.map (· % w48)).take i).length + 1 := by
        simp; omega
      rw [this, hl2]
      exact hO'
    · intro x hx'
      rcases List.mem_cons.1 hx' with rfl | hx'
      · omega
      · rcases hg x hx' with h | h
        · exact hF x (by simp [h])
        · simp at h; omega
  obtain rfl : i = ns.length := by omega
  rw [List.take_of_length_le (by simp)] at hT
  simp [pf14_5, pf14_4, e9, e10, pf14_0, e3]
  exact ⟨hx, F, hT, hF⟩
end Go.Ab
