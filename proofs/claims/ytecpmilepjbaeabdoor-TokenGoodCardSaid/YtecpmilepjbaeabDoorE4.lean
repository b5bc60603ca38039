/- 'TokenGood' over the abstract machine. -/
import Derived.Test.YtecpmilepjbaeabDoorE3
namespace Go.Ab
attribute [local simp] S.read S.write

/-- What is held against what. -/
theorem tokenGood_rest {t : S} {op qp c : Nat} {q0 q1 : Orc} {Fo : List Nat} (hO : Oc t op q0 Fo) (x p o r k : Nat) (hr : r < 256) (a : Option Nat) (hq : q0.tok x r = (a, q1)) (hq0 : q0.rs.length ≤ 1) (hcf : c ∉ Fo) (hct : c < t.ctr)
    (hg : t.get c = some (.cells [.int .u64 p, .int .u32 o, .int .u8 r, .int .u64 k] 0 false)) {R : Regs} (e1 : R 1 = .int .u64 x) (e6 : R 6 = .ptr c 0) (e9 : R 9 = .ptr op 0) (e11 : R 11 = .int .u64 (a.getD 0 : Nat)) (e12 : R 12 = errV (tapeE a))
    {K : KP} (hK : ∀ R' t', R' 8 = .bool true → K .ret R' t') : WpC tab pf6_1 R t (seqK tab (.seq pf6_0 .ret) K) := by
  simp [pf6_1, e9, e1, e6, hg]
  refine Ev.mono (good_ok hO (by omega) x p o r k hr) ?_
  rintro u s1 ⟨hc1, F1, hG1, hO1, rfl⟩
  have hg1 : s1.get c = some (.cells [.int .u64 p, .int .u32 o, .int .u8 r, .int .u64 k] 0 false) := by rw [hc1.get c hct hcf, hg]
  rw [hq]
  cases a with
  | none =>
    simp [goodV, pf6_0, e12, tapeE]
    refine Ev.mono (alike_ok (some 7) (some 7) _) ?_
    rintro u s2 ⟨rfl, rfl⟩
    simp [e12, tapeE, errV]
    exact hK _ _ (by simp)
  | some y =>
    simp [goodV, pf6_0, e12, tapeE]
    refine Ev.mono (alike_ok none none _) ?_
    rintro u s2 ⟨rfl, rfl⟩
    have hd : decide ((k : Int) = y) = decide (y = k) := decide_eq_decide.2 (by omega)
    simp [e12, tapeE, errV, e6, hg1, e11, hd]
    exact hK _ _ (by simp)

theorem tokenGood_law (v : AV) (ns : List Nat) (x p o r k : Nat) (right : Bool) (hr : r < 256) (s : S) (hv : NumsAt s v ns) (hl : ns.length ≤ 17592186044416) : Ev tab 6 [v, .int .u64 x, .agg [.int .u64 p, .int .u32 o, .int .u8 r, .int .u64 k], .bool right] s fun u s' => u = .bool true := by
  refine Ev.intro rfl rfl rfl ?_
  obtain ⟨s0, hs0⟩ : ∃ s0, s0 = s.new (.cells [.int .u64 p, .int .u32 o, .int .u8 r, .int .u64 k] 0 false) := ⟨_, rfl⟩
  have x0 : Ext s s0 := by rw [hs0]; simp
  have g0 : s0.get s.ctr = some (.cells [.int .u64 p, .int .u32 o, .int .u8 r, .int .u64 k] 0 false) := by rw [hs0]; simp
  have c0 : s0.ctr = s.ctr + 1 := by rw [hs0]; rfl
  simp [pf6, pf6_10, ← hs0, pf6_9, pf6_7]
  refine ev_awake07 ?_
  replace hv := hv.ext x0
  simp [pf6_8, pf6_5]
  refine Ev.mono (tapeOf_ok hv hl) ?_
  rintro u s1 ⟨hx1, tp, F1, rfl, hT, hF1⟩
  simp
  refine Ev.mono (oracleOf_ok hT) ?_
  rintro u s2 ⟨hx2, op, Fo, rfl, hO, hGo⟩
  simp
  refine Ev.mono (tapeOf_ok (hv.ext (hx1.trans hx2)) hl) ?_
  rintro u s3 ⟨hx3, tp2, G1, rfl, hT2, hG1⟩
  simp
  refine Ev.mono (oracleOf_ok hT2) ?_
  rintro u s4 ⟨hx4, qp, Fq, rfl, hQ, hGq⟩
  obtain ⟨es, hes⟩ : ∃ es, es = ns.map (· % w48) := ⟨_, rfl⟩
  rw [← hes] at hO hQ
  have hap : Apart Fo Fq := two_apart (s4 := s4) (F1 := F1) hx2 hx3 hO.lt hG1 hGq
  have hOo : ∀ z ∈ Fo, s0.ctr ≤ z := fun z hz => by
    have := hx1.ctr
    rcases hGo z hz with h | h
    · exact hF1 z h
    · omega
  have hQo : ∀ z ∈ Fq, s0.ctr ≤ z := fun z hz => by
    have := hx1.ctr; have := hx2.ctr; have := hx3.ctr
    rcases hGq z hz with h | h
    · have := hG1 z h; omega
    · omega
  have hxx := hx1.trans (hx2.trans (hx3.trans hx4))
  replace hO := hO.ext (hx3.trans hx4)
  have g4 : s4.get s.ctr = some (.cells [.int .u64 p, .int .u32 o, .int .u8 r, .int .u64 k] 0 false) := by rw [hxx.get _ (by omega), g0]
  have hxc := hxx.ctr
  have ho : s.ctr ∉ Fo := fun h => by have := hOo _ h; omega
  have hqn : s.ctr ∉ Fq := fun h => by have := hQo _ h; omega
  simp [pf6_4, g4]
  refine Ev.mono (tokenOf_ok hQ (by simp) x r hr) ?_
  rintro u s5 ⟨hc5, F5, hG5, hQ5, rfl⟩
  obtain ⟨a, q1, hq⟩ : ∃ a q1, (⟨[], es, 0⟩ : Orc).tok x r = (a, q1) := ⟨_, _, rfl⟩
  rw [hq]
  simp only [ansV_eq]
  have hO5 := hO.chg hc5 hap
  have g5 : s5.get s.ctr = some (.cells [.int .u64 p, .int .u32 o, .int .u8 r, .int .u64 k] 0 false) := by rw [hc5.get _ (by omega) hqn, g4]
  have h5c := hc5.ctr
  cases right with
  | false =>
    simp [pf6_3]
    exact tokenGood_rest (qp := qp) hO5 x p o r k hr a hq (by simp) ho (by omega) g5 (by simp) (by simp) (by simp) (by simp) (by simp) (fun R' t' h8 => by simp [FinP, resA, h8])
  | true =>
    simp [pf6_3, pf6_2, g5]
    refine tokenGood_rest (qp := qp) (k := a.getD 0) (c := s.ctr) (hO5.chg (l := [s.ctr]) (by simp) (fun z hz => by simp; rintro rfl; exact ho hz)) x p o r hr a hq (by simp) ho (by simp; omega) (by simp) (by simp) (by simp) (by simp) (by simp) (by simp) (fun R' t' h8 => by simp [FinP, resA, h8])
end Go.Ab
