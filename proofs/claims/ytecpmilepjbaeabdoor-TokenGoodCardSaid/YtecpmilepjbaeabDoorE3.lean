/- 'TokenOf' over the abstract machine. -/
import Derived.Test.YtecpmilepjbaeabDoorE2
namespace Go.Ab
attribute [local simp] S.read S.write

theorem Orc.ask_rs {q : Orc} {f x : Nat} : (q.ask f x).2.rs.length ≤ q.rs.length + 1 := by
  unfold Orc.ask
  split
  · simp
  · split
    · simp
    · simp

theorem port_ok {s : S} {op : Nat} {q : Orc} {F : List Nat} (h : Oc s op q F) (hq : q.rs.length ≤ 5000000000000) (x : Nat) : Ev tab 19 [.ptr op 0, .int .u64 x] s fun v s' => Chg F s s' ∧ ∃ F', Grow F F' s.ctr ∧ Oc s' op (q.ask 0 x).2 F' ∧ v = ansV (q.ask 0 x).1 := by
  refine Ev.intro rfl rfl rfl ?_
  simp [pf19, pf19_1, pf19_0]
  refine Ev.mono (ask_ok h hq 0 x) ?_
  rintro v s1 ⟨hc, F', hg, hO, rfl⟩
  simp only [ansV_eq]
  simp
  exact ⟨hc, F', hg, hO⟩

theorem NumsAt.ext {s s' : S} {v : AV} {ns : List Nat} (h : NumsAt s v ns) (hx : Ext s s') : NumsAt s' v ns := by
  obtain ⟨a, b⟩ := h
  refine ⟨a, ?_⟩
  rcases b with b | b | ⟨A, cap, b, c, d⟩
  · exact .inl b
  · exact .inr (.inl b)
  · exact .inr (.inr ⟨A, cap, b, by have := hx.ctr; omega, fun i n hi => by rw [read_ext hx c]; exact d i n hi⟩)

/-- Two oracles of one tape. -/
theorem two_apart {s1 s2 s3 s4 : S} {F1 Fo G1 Fq : List Nat} (hx2 : Ext s1 s2) (hx3 : Ext s2 s3) (hFo : ∀ x ∈ Fo, x < s2.ctr) (hG1 : ∀ x ∈ G1, s2.ctr ≤ x) (hGq : Grow G1 Fq s3.ctr) : Apart Fo Fq := by
  intro x hx hxq
  have h1 := hFo x hx
  have := hx3.ctr
  rcases hGq x hxq with h | h
  · have := hG1 x h; omega
  · omega

/-- The ports, and what is held against what. -/
theorem tokenOf_rest {t : S} {op qp : Nat} {q1 : Orc} {F5 Fq : List Nat} (hO : Oc t op q1 F5) (hQ : Oc t qp q1 Fq) (hap : Apart F5 Fq) (hq1 : q1.rs.length ≤ 1) (g w : Nat) (e : Option Int) {R : Regs} (e3 : R 3 = .int .u64 g) (e9 : R 9 = .ptr op 0) (e10 : R 10 = .ptr qp 0)
    (e11 : R 11 = .int .u64 w) (e12 : R 12 = errV e) (e13 : R 13 = .int .u64 w) (e14 : R 14 = errV e) {K : KP} (hK : ∀ R' t', R' 8 = .bool true → K .ret R' t') : WpC tab pf5_2 R t (seqK tab (.seq pf5_1 (.seq pf5_0 .ret)) K) := by
  simp [pf5_2, e9, e3]
  refine Ev.mono (port_ok hO (by omega) g) ?_
  rintro u s1 ⟨hc1, F1, hG1, hO1, rfl⟩
  have hQ1 := hQ.chg hc1 hap.symm
  have hap1 : Apart F1 Fq := hap.grow hG1 hQ.lt
  obtain ⟨b, q2, hq⟩ : ∃ b q2, q1.ask 0 g = (b, q2) := ⟨_, _, rfl⟩
  rw [hq] at hO1 ⊢
  replace hO1 : Oc s1 op q2 F1 := hO1
  simp only [ansV_eq]
  simp [pf5_1, e10, e3]
  refine Ev.mono (ask_ok hQ1 (by omega) 0 g) ?_
  rintro u s2 ⟨hc2, F2, hG2, hQ2, rfl⟩
  rw [hq] at hQ2 ⊢
  replace hQ2 : Oc s2 qp q2 F2 := hQ2
  have hO2 := hO1.chg hc2 hap1
  simp only [ansV_eq]
  simp [pf5_0, e11, e13, e12, e14]
  refine Ev.mono (alike_ok _ _ _) ?_
  rintro u s3 ⟨rfl, rfl⟩
  simp
  refine Ev.mono (alike_ok _ _ _) ?_
  rintro u s4 ⟨rfl, rfl⟩
  simp [e9, e10]
  refine Ev.mono (oracleLeft_ok hO2) ?_
  rintro u s5 ⟨rfl, rfl⟩
  obtain ⟨L, hL⟩ : ∃ L, L = q2.es.length - q2.at_ := ⟨_, rfl⟩
  rw [← hL]
  simp [e10]
  refine Ev.mono (oracleLeft_ok hQ2) ?_
  rintro u s6 ⟨rfl, rfl⟩
  rw [← hL]
  simp
  exact hK _ _ (by simp)

theorem tokenOf_law (v : AV) (ns : List Nat) (x r g : Nat) (hx : x < 18446744073709551616) (hr : r < 256) (s : S) (hv : NumsAt s v ns) (hl : ns.length ≤ 17592186044416) : Ev tab 5 [v, .int .u64 x, .int .u8 r, .int .u64 g] s fun u s' => u = .bool true := by
  refine Ev.intro rfl rfl rfl ?_
  simp [pf5, pf5_12, pf5_11, pf5_10]
  refine ev_awake07 ?_
  simp [pf5_8]
  refine Ev.mono (tapeOf_ok hv hl) ?_
  rintro u s1 ⟨hx1, tp, F1, rfl, hT, hF1⟩
  simp
  refine Ev.mono (oracleOf_ok hT) ?_
  rintro u s2 ⟨hx2, op, Fo, rfl, hO, hGo⟩
  simp
  refine Ev.mono (tapeOf_ok (hv.ext (hx1.trans hx2)) hl) ?_
  rintro u s3 ⟨hx3, tp2, G1, rfl, hT2, hG1⟩
  simp
  refine Ev.mono (oracleOf_ok hT2) ?_
  rintro u s4 ⟨hx4, qp, Fq, rfl, hQ, hGq⟩
  obtain ⟨es, hes⟩ : ∃ es, es = ns.map (· % w48) := ⟨_, rfl⟩
  rw [← hes] at hO hQ
  have hap : Apart Fo Fq := two_apart (s4 := s4) (F1 := F1) hx2 hx3 hO.lt hG1 hGq
  replace hO := hO.ext (hx3.trans hx4)
  simp [pf5_7]
  refine Ev.mono (tokenOf_ok hO (by simp) x r hr) ?_
  rintro u s5 ⟨hc5, F5, hG5, hO5, rfl⟩
  have hQ5 := hQ.chg hc5 hap.symm
  have hap5 : Apart F5 Fq := hap.grow hG5 hQ.lt
  obtain ⟨a, q1, hq⟩ : ∃ a q1, (⟨[], es, 0⟩ : Orc).tok x r = (a, q1) := ⟨_, _, rfl⟩
  have hq1 : q1.rs.length ≤ 1 := by have := Orc.tok_rs (q := ⟨[], es, 0⟩) (s := x) (r := r); rw [hq] at this; simpa using this
  rw [hq] at hO5 ⊢
  replace hO5 : Oc s5 op q1 F5 := hO5
  simp only [ansV_eq]
  have hcut := b48' x
  have hlt : x % w48 < w48 := Nat.mod_lt _ (by decide)
  obtain ⟨y, hy⟩ : ∃ y, y = x % w48 := ⟨_, rfl⟩
  rw [← hy] at hcut hlt
  simp [pf5_6, hcut, -binV_and]
  by_cases h255 : r = 255
  · have e1 : (⟨[], es, 0⟩ : Orc).tok x r = (some y, ⟨[], es, 0⟩) := by simp [Orc.tok, h255, hy]
    rw [e1] at hq
    simp only [Prod.mk.injEq] at hq
    obtain ⟨rfl, rfl⟩ := hq
    simp [pf5_5, pf5_4, h255]
    exact tokenOf_rest hO5 hQ5 hap5 hq1 g y none (by simp) (by simp) (by simp) (by simp [tapeE]) (by simp [tapeE]) (by simp) (by simp [errV]) (fun R' t' h8 => by simp [FinP, resA, h8])
  · have h255' : ¬ (r : Int) = 255 := by omega
    have w : IntKind.u64.wrap (r : Int) = r := wrap_u64 (by omega) (by omega)
    have hxo := bxor y r (by unfold w48 at *; omega) (by omega)
    have hm : y ^^^ r = mix x r := by rw [hy]; rfl
    rw [hm] at hxo
    have e1 : (⟨[], es, 0⟩ : Orc).tok x r = (⟨[], es, 0⟩ : Orc).ask 1 (mix x r) := by simp [Orc.tok, h255]
    rw [e1] at hq
    simp [pf5_5, pf5_4, h255', pf5_3, hcut, w, hxo, -binV_and, -binV_xor]
    refine Ev.mono (ask_ok hQ5 (by simp) 1 (mix x r)) ?_
    rintro u s6 ⟨hc6, F6, hG6, hQ6, rfl⟩
    rw [hq] at hQ6 ⊢
    replace hQ6 : Oc s6 qp q1 F6 := hQ6
    have hO6 := hO5.chg hc6 hap5
    have hap6 : Apart F5 F6 := (hap5.symm.grow hG6 hO5.lt).symm
    simp only [ansV_eq]
    simp
    exact tokenOf_rest hO6 hQ6 hap6 hq1 g (a.getD 0) (tapeE a) (by simp) (by simp) (by simp) (by simp) (by simp) (by simp) (by simp) (fun R' t' h8 => by simp [FinP, resA, h8])
end Go.Ab
