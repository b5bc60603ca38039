/- Nodes (layer 29): the law NodeIdle: what its call comes to, in plain numbers; its loops. -/
import Derived.Test.YtjpaahcblnnhaaaDoorNodeI
import Derived.Test.YtjpaahcblnnhaaaDoorNodeC
namespace Go.Ab
attribute [local simp] lenV

/-- What is so of a call after so many ticks. -/
def Cst.at_ (x : Cst) (w t i : Int) : Prop := (x.st = 1 ∧ 1 ≤ x.tries ∧ x.tries ≤ t ∧ 1 ≤ x.left ∧ x.left ≤ w ∧ i = (x.tries - 1) * w + (w - x.left)) ∨ (x.st = 3 ∧ x.tries = t ∧ 0 ≤ x.left ∧ x.left ≤ w)

theorem Cst.at_step {x : Cst} {w t i : Int} (hw : 1 ≤ w) (h : x.at_ w t i) : (x.tick w t).at_ w t (i + 1) ∧ (x.tick w t).tries = (if x.again t then x.tries + 1 else x.tries) := by
  obtain ⟨st, tr, le⟩ := x
  rcases h with ⟨h1, h2, h3, h4, h5, h6⟩ | ⟨h1, h2, h3, h4⟩
  · simp only at h1 h2 h3 h4 h5 h6
    subst h1
    by_cases hl : 0 < le - 1
    · simp only [Cst.tick, Cst.again, hl, if_true, decide_true, Bool.not_true, Bool.and_false, Bool.false_and]
      exact ⟨.inl ⟨rfl, h2, h3, by simp only; omega, by simp only; omega, by simp only; omega⟩, rfl⟩
    · by_cases ht : tr = t
      · subst ht
        simp only [Cst.tick, Cst.again, hl, if_true, if_false, decide_true, decide_false, Bool.not_true, Bool.not_false, Bool.and_false, Bool.and_true]
        exact ⟨.inr ⟨rfl, rfl, by simp only; omega, by simp only; omega⟩, rfl⟩
      · have hle : le = 1 := by omega
        subst hle
        simp [Cst.tick, Cst.again, ht]
        refine .inl ⟨rfl, by simp only; omega, by simp only; omega, hw, Int.le_refl _, ?_⟩
        simp only
        have e : (tr - 1) * w = tr * w - w := by rw [Int.sub_mul, Int.one_mul]
        have e2 : (tr + 1 - 1) * w = tr * w := by rw [Int.add_sub_cancel]
        rw [e2]
        rw [e] at h6
        omega
  · simp only at h1 h2 h3 h4
    subst h1
    simp only [Cst.tick, Cst.again]
    simp
    exact .inr ⟨rfl, h2, h3, h4⟩

theorem Cst.at_end {x : Cst} {w t i : Int} (hw : 1 ≤ w) (h : x.at_ w t i) (hi : w * t + 3 ≤ i) : x.st = 3 ∧ x.tries = t := by
  rcases h with ⟨h1, h2, h3, h4, h5, h6⟩ | ⟨h1, h2, h3, h4⟩
  · exfalso
    have e : (x.tries - 1) * w ≤ (t - 1) * w := Int.mul_le_mul_of_nonneg_right (by omega) (by omega)
    have e2 : (t - 1) * w = w * t - w := by rw [Int.sub_mul, Int.one_mul, Int.mul_comm]
    omega
  · exact ⟨h1, h2⟩

section
variable {s : S} {nb : Nat} {id k : Int} {c : Cfg} {op : Nat} {now : Int} {sent reply port : Nat} {r : Cp} {p : Parts} {cl pl : Nat}
theorem tick0N (h : Nd s nb id k c op now sent reply port r p cl pl .snil) (hnow : 0 ≤ now ∧ now < 1000) :
    Ev tab 23 [.ptr nb 0] s fun v s' => v = .snil ∧ Chg [nb] s s' ∧ Nd s' nb id k c op (now + 1) sent reply port r p cl pl .snil := by
  obtain ⟨l1, l2, l3⟩ := h.lt
  obtain ⟨q1, q2, q3⟩ := h.ne
  refine Ev.mono (tick0 h.n h.hcl h.c q1 hnow) ?_
  rintro v s' ⟨rfl, hc, hctr, hn⟩
  obtain ⟨a, ha⟩ := h.p
  exact ⟨rfl, hc, hn, h.hcl, h.hpl, by rw [hc.get _ l2 (by simp; omega), h.c], ⟨a, by rw [hc.get _ l3 (by simp; omega), ha]⟩, h.ne, by omega⟩
end

/-- Both nodes, and the config's box. -/
structure Two (s : S) (cb na nb op cla pla clb plb : Nat) (c : Cfg) (now : Int) (sent : Nat) (pa pb : Parts) (rpb portb : Nat) (rb : Cp) (calls : AV) : Prop where
  a : Nd s na 0 0 c op now sent 2 0 Cp.zero pa cla pla calls
  b : Nd s nb 1 3 c op now 0 rpb portb rb pb clb plb .snil
  hcb : s.get cb = some (.cells c.cells 0 false)
  ne : na ≠ nb ∧ na ≠ clb ∧ na ≠ plb ∧ nb ≠ cla ∧ nb ≠ pla ∧ cla ≠ clb ∧ cla ≠ plb ∧ pla ≠ clb ∧ pla ≠ plb ∧ cb < na ∧ cb < nb
  lt : cb < s.ctr

section
variable {cb na nb op cla pla clb plb : Nat} {c : Cfg} {pa pb : Parts} {rpb portb : Nat} {rb : Cp}
theorem idle_loop {s : S} {T : Nat} (hT : T < 40) (h : Two s cb na nb op cla pla clb plb c 0 0 pa pb rpb portb rb .snil) {tk : Nat} (htk : tk < 256) (hTt : T = tk % 40) {R : Regs} (e0 : R 0 = .int .u8 tk) (e7 : R 7 = .ptr cb 0) (e8 : R 8 = .ptr na 0) (e9 : R 9 = .ptr nb 0) (e10 : R 10 = .bool true)
    {K : KP} (hK : ∀ R s', Two s' cb na nb op cla pla clb plb c T 0 pa pb rpb portb rb .snil → R 7 = .ptr cb 0 → R 8 = .ptr na 0 → R 9 = .ptr nb 0 → R 10 = .bool true → K .normal R s') :
    WpC tab (.seq pf4_18 (.block 0 (.loop pf4_17))) R s K := by
  have hm : ((tk : Int).tmod 40) = (T : Int) := by rw [hTt]; rfl
  have w1 : IntKind.u8.wrap (T : Int) = (T : Int) := by simp [IntKind.wrap, IntKind.signed, IntKind.bits]; omega
  have w2 : IntKind.i64.wrap (T : Int) = (T : Int) := by rw [wrap_i64] <;> omega
  simp [pf4_18]
  refine WpC.loop (fun m R st => R 0 = .int .u8 tk ∧ R 7 = .ptr cb 0 ∧ R 8 = .ptr na 0 ∧ R 9 = .ptr nb 0 ∧ R 10 = .bool true ∧ ∃ i : Nat, m = T - i ∧ i ≤ T ∧ R 11 = .int .i64 i ∧ Two st cb na nb op cla pla clb plb c i 0 pa pb rpb portb rb .snil) (m := T)
    ⟨by simp [e0], by simp [e7], by simp [e8], by simp [e9], by simp [e10], 0, by omega, by omega, by simp, h⟩ ?_
  rintro m R st ⟨e0, e7, e8, e9, e10, i, rfl, hi, e11, h⟩
  by_cases hlt : i < T
  · have hlt' : (i : Int) < (T : Int) := by omega
    have wi : IntKind.i64.wrap ((i : Int) + 1) = ((i + 1 : Nat) : Int) := by rw [wrap_i64] <;> omega
    obtain ⟨n1, n2, n3, n4, n5, n6, n7, n8, n9, n10, n11⟩ := h.ne
    simp [pf4_17, pf4_16, e11, e0, hm, w1, w2, hlt', pf4_15, pf4_13, e8]
    refine Ev.mono (tick0N h.a (by omega)) ?_
    rintro v s1 ⟨rfl, hc1, hN1⟩
    have hb1 := h.b.chg hc1 (by simp; omega) (by simp; omega) (by simp; omega)
    simp [e9]
    refine Ev.mono (tick0N hb1 (by omega)) ?_
    rintro v s2 ⟨rfl, hc2, hN2⟩
    have hN1' := hN1.chg hc2 (by simp; omega) (by simp; omega) (by simp; omega)
    have k1 := hc1.ctr
    have k2 := hc2.ctr
    have hlt3 := h.lt
    simp [pf4_14, e11, wi, e0, e7, e8, e9, e10]
    refine ⟨T - (i + 1), by omega, i + 1, rfl, by omega, by simp, ⟨by simpa using hN1', by simpa using hN2, ?_, h.ne, by omega⟩⟩
    rw [hc2.get _ (by omega) (by simp; omega), hc1.get _ (by omega) (by simp; omega), h.hcb]
  · have hle : i = T := by omega
    subst hle
    simp [pf4_17, pf4_16, e11, e0, hm, w1, w2]
    exact hK _ _ h (by simp [e7]) (by simp [e8]) (by simp [e9]) (by simp [e10])
end
end Go.Ab
/-! Nodes (layer 29): the law NodeIdle. -/
namespace Go.Ab
attribute [local simp] lenV

section
variable {cb na nb op cla pla clb plb : Nat} {c : Cfg} {pa pb : Parts} {rpb portb : Nat} {rb : Cp}
theorem call_loop {s : S} {T kb sent0 : Nat} {ps : AV} (hT : T < 40) (hw : 1 ≤ c.wait ∧ c.wait ≤ 5) (ht : 1 ≤ c.tries ∧ c.tries ≤ 5) (hc : c.nodes = 2 ∧ 50 ≤ c.piece ∧ c.piece ≤ 200)
    (hA : Nd s na 0 0 c op T 1 2 0 Cp.zero pa cla pla (.slice kb 0 1 0 true)) (hcb : s.get cb = some (.cells c.cells 0 false)) (hk : s.get kb = some (.cells (Cst.cells ⟨1, 1, c.wait⟩ (waitM 2)) 25 false)) (hlt : cb < kb ∧ kb < s.ctr) (hne : na ≠ kb ∧ cla ≠ kb ∧ pla ≠ kb ∧ cb < na)
    {R : Regs} (e7 : R 7 = .ptr cb 0) (e8 : R 8 = .ptr na 0) (e10 : R 10 = .bool true) (e12 : R 12 = .int .u32 1) (e13 : R 13 = ps) (e14 : R 14 = .nilIface) (e15 : R 15 = .int .i64 1)
    {K : KP} (hK : ∀ R s' now sent x, Nd s' na 0 0 c op now sent 2 0 Cp.zero pa cla pla (.slice kb 0 1 0 true) → s'.get cb = some (.cells c.cells 0 false) → cb < s'.ctr → s'.get kb = some (.cells (Cst.cells x (waitM 2)) 25 false) → kb < s'.ctr → x.st = 3 → x.tries = c.tries → R 7 = .ptr cb 0 → R 8 = .ptr na 0 → R 10 = .bool true → R 12 = .int .u32 1 → R 13 = ps → R 14 = .nilIface → R 15 = .int .i64 c.tries → K .normal R s') :
    WpC tab (.seq pf4_8 (.block 2 pf4_7)) R s K := by
  obtain ⟨N, hN⟩ : ∃ N : Nat, c.wait * c.tries + 3 = (N : Int) := ⟨(c.wait * c.tries + 3).toNat, by
    have := Int.mul_nonneg (show 0 ≤ c.wait by omega) (show 0 ≤ c.tries by omega)
    omega⟩
  have hP : c.wait * c.tries ≤ 25 := by
    have h1 : c.wait * c.tries ≤ 5 * c.tries := Int.mul_le_mul_of_nonneg_right (by omega) (by omega)
    omega
  have hP0 : 0 ≤ c.wait * c.tries := Int.mul_nonneg (by omega) (by omega)
  have wm : IntKind.i64.wrap (c.wait * c.tries) = c.wait * c.tries := by rw [wrap_i64] <;> omega
  have wm3 : IntKind.i64.wrap (c.wait * c.tries + 3) = (N : Int) := by rw [wrap_i64] <;> omega
  simp [pf4_8, pf4_7]
  refine WpC.loop (fun m R st => R 7 = .ptr cb 0 ∧ R 8 = .ptr na 0 ∧ R 10 = .bool true ∧ R 12 = .int .u32 1 ∧ R 13 = ps ∧ R 14 = .nilIface ∧ ∃ (i sent : Nat) (x : Cst), m = N - i ∧ i ≤ N ∧ R 16 = .int .i64 i ∧ R 15 = .int .i64 sent ∧ (sent : Int) = x.tries ∧ x.at_ c.wait c.tries i ∧
      Nd st na 0 0 c op (T + i) sent 2 0 Cp.zero pa cla pla (.slice kb 0 1 0 true) ∧ st.get cb = some (.cells c.cells 0 false) ∧ st.get kb = some (.cells (Cst.cells x (waitM 2)) 25 false) ∧ cb < st.ctr ∧ kb < st.ctr) (m := N)
    ⟨by simp [e7], by simp [e8], by simp [e10], by simp [e12], by simp [e13], by simp [e14], 0, 1, ⟨1, 1, c.wait⟩, by omega, by omega, by simp, by simp [e15], rfl, .inl ⟨rfl, by simp only; omega, by simp only; omega, by simp only; omega, by simp only; omega, by simp⟩, by simpa using hA, hcb, hk, by omega, hlt.2⟩ ?_
  rintro m R st ⟨e7, e8, e10, e12, e13, e14, i, sent, x, rfl, hi, e16, e15, hsx, hat, hA, hcb, hk, hl1, hl2⟩
  have hcb' := hcb
  unfold Cfg.cells at hcb'
  have hxb : 0 ≤ x.tries ∧ x.tries ≤ 5 ∧ 0 ≤ x.left ∧ x.left ≤ 5 := by
    rcases hat with ⟨h1, h2, h3, h4, h5, h6⟩ | ⟨h1, h2, h3, h4⟩ <;> omega
  by_cases hlt : i < N
  · have hlt' : (i : Int) < (N : Int) := by omega
    have wi : IntKind.i64.wrap ((i : Int) + 1) = ((i + 1 : Nat) : Int) := by rw [wrap_i64] <;> omega
    have ws : IntKind.i64.wrap ((sent : Int) + 1) = ((sent + 1 : Nat) : Int) := by rw [wrap_i64] <;> omega
    obtain ⟨hat2, htr2⟩ := Cst.at_step (x := x) (w := c.wait) (t := c.tries) (i := i) (by omega) hat
    simp [pf4_5, e16, e7, rd hcb', wm, wm3, hlt', pf4_6, pf4_3, e8]
    refine Ev.mono (tick1 hA hk hl2 ⟨hne.1, hne.2.1, hne.2.2.1⟩ (by omega) (by omega) (by decide) (by decide) hc (by omega)) ?_
    rintro v s1 ⟨hc1, hN1, hk1, hv⟩
    have k1 := hc1.ctr
    have hcb1 : s1.get cb = some (.cells c.cells 0 false) := by rw [hc1.get _ hl1 (by simp; omega), hcb]
    cases hag : x.again c.tries with
    | false =>
      rw [hag] at hv hN1 htr2
      simp at hv hN1 htr2
      subst hv
      simp [pf4_4, e16, wi, e7, e8, e10, e12, e13, e14, e15]
      refine ⟨N - (i + 1), by omega, i + 1, rfl, by omega, by simp, sent, rfl, x.tick c.wait c.tries, by omega, by simpa using hat2, ?_, hcb1, hk1, by omega, by omega⟩
      have : (T : Int) + ((i + 1 : Nat) : Int) = (T : Int) + i + 1 := by omega
      rw [this]
      exact hN1
    | true =>
      rw [hag] at hv hN1 htr2
      simp at hv hN1 htr2
      obtain ⟨ds, F, hF⟩ := hv
      have wl := hF.wlen
      simp [wl, pf4_2, e15, ws, pf4_4, e16, wi, e7, e8, e10, e12, e13, e14]
      refine ⟨N - (i + 1), by omega, i + 1, rfl, by omega, by simp, sent + 1, by simp, x.tick c.wait c.tries, by omega, by simpa using hat2, ?_, hcb1, hk1, by omega, by omega⟩
      have : (T : Int) + ((i + 1 : Nat) : Int) = (T : Int) + i + 1 := by omega
      rw [this]
      exact hN1
  · have hle : i = N := by omega
    subst hle
    obtain ⟨z1, z2⟩ := Cst.at_end (x := x) (w := c.wait) (t := c.tries) (i := i) (by omega) hat (by omega)
    simp [pf4_5, e16, e7, rd hcb', wm, wm3]
    exact hK _ _ _ _ x hA hcb hl1 hk hl2 z1 z2 (by simp [e7]) (by simp [e8]) (by simp [e10]) (by simp [e12]) (by simp [e13]) (by simp [e14]) (by simp [e15, hsx, z2])
end
end Go.Ab
/-! Nodes (layer 29): the law NodeIdle. -/
namespace Go.Ab
attribute [local simp] lenV

theorem nodeIdle_ok (tk wq tq : Nat) (h1 : tk < 256) (h2 : wq < 256) (h3 : tq < 256) (s : S) : Ev tab 4 [.int .u8 tk, .int .u8 wq, .int .u8 tq] s fun u _ => u = .bool true := by
  refine Ev.intro rfl rfl rfl ?_
  simp [pf4, pf4_25, pf4_24, pf4_23]
  refine ev_awake29 ?_
  simp [pf4_21]
  refine Ev.mono (config_ok 119 wq tq 19 9 (by decide) h2 h3 (by decide) (by decide)) ?_
  rintro v s1 ⟨x1, rfl⟩
  obtain ⟨c, hc⟩ : ∃ c : Cfg, c = ⟨2, 1 + (119 % 120 : Nat), 1 + (wq % 5 : Nat), 1 + (tq % 5 : Nat), 1 + (19 % 20 : Nat), 10, 1 + (9 % 10 : Nat)⟩ := ⟨_, rfl⟩
  rw [← hc]
  have cw : 1 ≤ c.wait ∧ c.wait ≤ 5 := by rw [hc]; simp only; omega
  have ct : 1 ≤ c.tries ∧ c.tries ≤ 5 := by rw [hc]; simp only; omega
  have cc : c.nodes = 2 ∧ 50 ≤ c.piece ∧ c.piece ≤ 200 := by rw [hc]; simp
  obtain ⟨s2, hs2⟩ : ∃ t, t = s1.new (.cells [.int .i64 0, .int .i64 0, .int .i64 0, .int .i64 0, .int .i64 0, .int .i64 0, .int .i64 0] 0 false) := ⟨_, rfl⟩
  have x2 : Ext s1 s2 := by rw [hs2]; simp
  have c2 : s2.ctr = s1.ctr + 1 := by rw [hs2]; rfl
  have g2 : s2.get s1.ctr = some (.cells [.int .i64 0, .int .i64 0, .int .i64 0, .int .i64 0, .int .i64 0, .int .i64 0, .int .i64 0] 0 false) := by rw [hs2]; simp
  obtain ⟨s3, hs3⟩ : ∃ t, t = s2.set s1.ctr (some (.cells c.cells 0 false)) := ⟨_, rfl⟩
  have c3 : s3.ctr = s1.ctr + 1 := by rw [hs3]; exact c2
  have g3 : s3.get s1.ctr = some (.cells c.cells 0 false) := by rw [hs3]; simp
  have g3m := g3
  unfold Cfg.cells at hs3 g3m
  have hp := pair_ok (c := c) cw.1 ct.1 s3
  unfold Cfg.cells at hp
  simp [Cfg.cells, ← hs2, wrc g2, ← hs3, pf4_20, rd g3m]
  refine Ev.mono hp ?_
  rintro v s4 ⟨x4, na, nb, op, cla, pla, clb, plb, pa, pb, portb, rb, rpb, rfl, hA, hB, n1, n2, n3, n4, n5, n6, n7, n8, n9, n10, n11⟩
  have k4 := x4.ctr
  have g4 : s4.get s1.ctr = some (.cells c.cells 0 false) := by rw [x4.get _ (by omega), g3]
  have h4 : Two s4 s1.ctr na nb op cla pla clb plb c 0 0 pa pb rpb portb rb .snil := ⟨hA, hB, g4, ⟨n1, n2, n3, n4, n5, n6, n7, n8, n9, by omega, by omega⟩, by omega⟩
  simp [pf4_19]
  refine idle_loop (T := tk % 40) (Nat.mod_lt _ (by decide)) h4 h1 rfl (by simp) (by simp) (by simp) (by simp) (by simp) ?_
  intro R s5 h5 e7 e8 e9 e10
  simp [pf4_11, e8]
  refine Ev.mono (touch0 s5) ?_
  rintro v s6 ⟨x6, rfl⟩
  have k6 := x6.ctr
  have hA6 := h5.a.ext x6
  obtain ⟨l1, l2, l3⟩ := h5.a.lt
  have hl5 := h5.lt
  have g6 : s6.get s1.ctr = some (.cells c.cells 0 false) := by rw [x6.get _ hl5, h5.hcb]
  simp
  refine Ev.mono (call1 hA6 (by decide) (by decide) cc (by decide)) ?_
  rintro v s7 ⟨hc7, ⟨ps, rfl, ds, F, hF⟩, kb, hk1, hk2, hA7, hk7⟩
  have k7 := hc7.ctr
  obtain ⟨m1, m2, m3, m4, m5, m6, m7, m8, m9, m10, m11⟩ := h5.ne
  obtain ⟨b7, rfl⟩ : ∃ b, ps = .slice b 0 1 0 true := by
    rcases hF.2 with ⟨_, h0, _⟩ | ⟨b, z1, _⟩
    · simp at h0
    · exact ⟨b, z1⟩
  have hcl : s1.ctr < na := m10
  obtain ⟨q1, q2, q3⟩ := h5.a.ne
  have hcbcl : s1.ctr ≠ cla := fun e => by
    have hcla := h5.a.c
    rw [← e, h5.hcb] at hcla
    simp [Cfg.cells] at hcla
  have g7 : s7.get s1.ctr = some (.cells c.cells 0 false) := by
    rw [hc7.get _ (by omega) (by simp; exact ⟨by omega, hcbcl⟩), g6]
  simp [pf4_10, pf4_9]
  refine call_loop (T := tk % 40) (kb := kb) (ps := .slice b7 0 1 0 true) (sent0 := 0) (Nat.mod_lt _ (by decide)) cw ct cc hA7 g7 hk7 ⟨by omega, hk2⟩ ⟨by omega, by omega, by omega, m10⟩ (by simp [e7]) (by simp [e8]) (by simp [e10]) (by simp) (by simp) (by simp) (by simp) ?_
  intro R s8 now sent x hA8 g8 hl8 hk8 hl8' hx3 hxt e7 e8 e10 e12 e13 e14 e15
  simp [pf4_1, e8, e12]
  refine Ev.mono (get1 hA8 hk8 hl8' hx3) ?_
  rintro v s9 ⟨x9, cs, hcs, hfl, rfl⟩
  obtain ⟨s10, hs10⟩ : ∃ t, t = s9.new (.cells mz 0 false) := ⟨_, rfl⟩
  have g10 : s10.get s9.ctr = some (.cells mz 0 false) := by rw [hs10]; simp
  unfold mz at hs10 g10
  have hwr : s10.write s9.ctr 0 cs = some (s10.set s9.ctr (some (.cells (over [AV.int .u64 0, .int .u64 0, .int .u32 0, .int .u16 0, .int .u16 0, .int .u64 0, .int .u32 0, .int .u8 0, .int .u64 0, .int .u64 0, .snil] 0 cs) 0 false))) := wrc g10 (by simp [hcs]) hfl
  obtain ⟨s11, hs11⟩ : ∃ t, t = s10.set s9.ctr (some (.cells cs 0 false)) := ⟨_, rfl⟩
  have k9 := x9.ctr
  have x11 : Ext s9 s11 := by rw [hs11, hs10]; exact Ext.set (Nat.le_refl _) (Ext.new (Ext.refl _))
  have g11 : s11.get s1.ctr = some (.cells c.cells 0 false) := by rw [x11.get _ (by omega), x9.get _ (by omega), g8]
  unfold Cfg.cells at g11
  simp [← hs10, hcs, hwr, ← hs11, pf4_0, e10, e13, e14, e15, e7, rd g11]
  refine ev_num ?_
  simp
end Go.Ab
