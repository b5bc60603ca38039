/- 'TokenDraws' over the abstract machine. -/
import Derived.Test.YtecpmilepjbaeabDoorE1
namespace Go.Ab
attribute [local simp] S.read S.write

theorem Orc.tok_rs {q : Orc} {s r : Nat} : (q.tok s r).2.rs.length ≤ q.rs.length + 1 := by
  unfold Orc.tok
  split
  · simp
  · unfold Orc.ask
    split
    · simp
    · split
      · simp
      · simp
theorem Orc.tok_es {q : Orc} {s r : Nat} : (q.tok s r).2.es = q.es := by
  unfold Orc.tok
  split
  · rfl
  · unfold Orc.ask
    split
    · rfl
    · split
      · rfl
      · rfl

theorem tokenDraws_ok (v : AV) (ns : List Nat) (x r : Nat) (hr : r < 256) (s : S) (hv : NumsAt s v ns) (hl : ns.length ≤ 17592186044416) : Ev tab 4 [v, .int .u64 x, .int .u8 r] s fun u s' => u = .bool true := by
  refine Ev.intro rfl rfl rfl ?_
  have wl := hv.wlen
  simp [pf4, pf4_14, pf4_13, pf4_12]
  refine ev_awake07 ?_
  simp [pf4_10]
  refine Ev.mono (tapeOf_ok hv hl) ?_
  rintro u s1 ⟨hx1, tp, F1, rfl, hT, hF1⟩
  simp
  refine Ev.mono (oracleOf_ok hT) ?_
  rintro u s2 ⟨hx2, op, F2, rfl, hO, hG2⟩
  obtain ⟨es, hes⟩ : ∃ es, es = ns.map (· % w48) := ⟨_, rfl⟩
  rw [← hes] at hO
  have hel : es.length = ns.length := by rw [hes]; simp
  simp [pf4_9, pf4_8]
  refine Ev.mono (tokenOf_ok hO (by simp) x 255 (by omega)) ?_
  rintro u s3 ⟨hc3, F3, hG3, hO3, rfl⟩
  have e1 : (⟨[], es, 0⟩ : Orc).tok x 255 = (some (x % w48), ⟨[], es, 0⟩) := by simp [Orc.tok]
  rw [e1] at hO3 ⊢
  simp [ansV, pf4_7]
  refine Ev.mono (oracleLeft_ok hO3) ?_
  rintro u s4 ⟨rfl, rfl⟩
  simp [pf4_6]
  refine Ev.mono (tokenOf_ok hO3 (by simp) x r hr) ?_
  rintro u s5 ⟨hc5, F5, hG5, hO5, rfl⟩
  obtain ⟨a, q1, hq⟩ : ∃ a q1, (⟨[], es, 0⟩ : Orc).tok x r = (a, q1) := ⟨_, _, rfl⟩
  have hq1 : q1.rs.length ≤ 1 := by have := Orc.tok_rs (q := ⟨[], es, 0⟩) (s := x) (r := r); rw [hq] at this; simpa using this
  have hq2 : q1.es = es := by have := Orc.tok_es (q := ⟨[], es, 0⟩) (s := x) (r := r); rw [hq] at this; exact this
  rw [hq] at hO5 ⊢
  replace hO5 : Oc s5 op q1 F5 := hO5
  have hat : q1.at_ = if r = 255 then 0 else min 1 es.length := by
    unfold Orc.tok Orc.ask at hq
    by_cases h : r = 255
    · rw [if_pos h] at hq ⊢
      simp at hq
      rw [← hq.2]
    · rw [if_neg h] at hq ⊢
      simp [Orc.known] at hq
      cases he : es with
      | nil => rw [he] at hq; simp at hq; rw [← hq.2]; simp
      | cons y es' => rw [he] at hq; simp at hq; rw [← hq.2]; simp
  simp only [ansV_eq]
  have hfe := flat_errV (tapeE a)
  have hce := cells_errV (tapeE a)
  simp [pf4_5]
  refine Ev.mono (oracleLeft_ok hO5) ?_
  rintro u s6 ⟨rfl, rfl⟩
  simp [pf4_4]
  refine Ev.mono (tokenOf_ok hO5 (by omega) x r hr) ?_
  rintro u s7 ⟨hc7, F7, hG7, hO7, rfl⟩
  rw [Orc.tok_idem hq] at hO7 ⊢
  simp only [ansV_eq]
  obtain ⟨L, hL⟩ : ∃ L, L = q1.es.length - q1.at_ := ⟨_, rfl⟩
  rw [← hL]
  have hel' : (es.length : Int) = ns.length := by omega
  simp [pf4_3, pf4_2, wl, hel']
  refine Ev.mono (alike_ok _ _ _) ?_
  rintro u s8 ⟨rfl, rfl⟩
  simp
  refine Ev.mono (oracleLeft_ok hO7) ?_
  rintro u s9 ⟨rfl, rfl⟩
  rw [← hL]
  simp
  rw [hat, hq2] at hL
  by_cases h255 : r = 255
  · rw [if_pos h255] at hL
    have hL2 : L = es.length := by omega
    have hL3 : (L : Int) = ns.length := by omega
    simp [pf4_0, h255, hL2, hL3, hel]
  · rw [if_neg h255] at hL
    have h255' : ¬ (r : Int) = 255 := by omega
    have w1 : IntKind.i64.wrap ((ns.length : Int) - 1) = (ns.length : Int) - 1 := by rw [wrap_i64] <;> omega
    have hmx : (L : Int) = if (ns.length : Int) - 1 > 0 then (ns.length : Int) - 1 else 0 := by
      split <;> omega
    simp [pf4_0, h255', foldO, minV, maxV, w1, hel]
    split <;> omega
end Go.Ab
