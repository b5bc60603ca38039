/- 'TokenApart' over the abstract machine. -/
import Derived.Test.YtecpmilepjbaeabT4
namespace Go.Ab
attribute [local simp] S.read S.write

theorem ev_awake07 {s : S} {Q : AV → S → Prop} (h : Q (.bool true) s) : Ev tab 19 [] s Q := Ev.prim (p := closedPrim [] (.bool true)) rfl rfl h

/-- What was told is told again. -/
theorem Orc.ask_again {q q' : Orc} {f x y : Nat} (h : q.ask f x = (some y, q')) : q'.known f x = some y := by
  unfold Orc.ask at h
  split at h
  · rename_i z hz
    simp only [Prod.mk.injEq, Option.some.injEq] at h
    obtain ⟨rfl, rfl⟩ := h
    exact hz
  · rename_i hz
    split at h
    · rename_i z hz2
      simp only [Prod.mk.injEq, Option.some.injEq] at h
      obtain ⟨rfl, rfl⟩ := h
      simp only [Orc.known, Option.map_eq_none_iff] at hz ⊢
      rw [List.find?_append, hz]
      simp [hit]
    · simp at h
theorem Orc.ask_known {q : Orc} {f x y : Nat} (h : q.known f x = some y) : q.ask f x = (some y, q) := by
  unfold Orc.ask; rw [h]
theorem Orc.tok_again {q q' : Orc} {s r y : Nat} (h : q.tok s r = (some y, q')) : q'.tok s r = (some y, q') := by
  unfold Orc.tok at h ⊢
  split
  · rename_i h255
    rw [if_pos h255] at h
    simp only [Prod.mk.injEq] at h
    rw [h.1]
  · rename_i h255
    rw [if_neg h255] at h
    exact Orc.ask_known (Orc.ask_again h)

theorem xor_inj {s r o : Nat} (h : s ^^^ r = s ^^^ o) : r = o := by
  have : s ^^^ (s ^^^ r) = s ^^^ (s ^^^ o) := by rw [h]
  rwa [← Nat.xor_assoc, ← Nat.xor_assoc, Nat.xor_self, Nat.zero_xor, Nat.zero_xor] at this
theorem mix_lt {s r : Nat} (hr : r < 256) : mix s r < w48 := by
  unfold mix
  have h1 : s % w48 < 2 ^ 48 := Nat.mod_lt _ (by decide)
  exact Nat.xor_lt_two_pow h1 (show r < 2 ^ 48 by omega)
theorem mix_inj {s r o : Nat} (h : mix s r = mix s o) : r = o := xor_inj h

theorem bor (x : Nat) (hx : x < 18446744073709551616) : binV .or (.int .u64 (x : Int)) (.int .u64 140737488355328) = some (.int .u64 ((x ||| 140737488355328 : Nat) : Int)) := by
  rw [binV_or]
  have e1 : (BitVec.ofInt IntKind.u64.bits (x : Int)).toNat = x := by
    simp only [IntKind.bits, BitVec.toNat_ofInt]; omega
  have e2 : (BitVec.ofInt IntKind.u64.bits (140737488355328 : Int)).toNat = 140737488355328 := by
    simp only [IntKind.bits, BitVec.toNat_ofInt]; omega
  rw [BitVec.toNat_or, e1, e2]
  have : x ||| 140737488355328 < 2 ^ 64 := Nat.or_lt_two_pow hx (by decide)
  rw [wrap_u64 (by omega) (by omega)]

/-- The law in plain words. -/
theorem apart_law (A B s r o : Nat) (hr : r < 256) (ho : o < 256) (hs : 140737488355328 ≤ s) (hs2 : s < w48) (hA : A < 140737488355328) (hB : B < 140737488355328) (hAB : A ≠ B) :
    ∃ x y q1 q2 q3 g, (⟨[], [A, B], 0⟩ : Orc).tok s r = (some x, q1) ∧ q1.rs.length ≤ 1 ∧ q1.tok s o = (some y, q2) ∧ q2.rs.length ≤ 2 ∧ q2.tok s o = (some g, q3) ∧ (x = y ↔ r = o) ∧ (g = x ↔ r = o) := by
  have hss : s % w48 = s := Nat.mod_eq_of_lt hs2
  by_cases h1 : r = 255
  · have e1 : (⟨[], [A, B], 0⟩ : Orc).tok s r = (some s, ⟨[], [A, B], 0⟩) := by simp [Orc.tok, h1, hss]
    by_cases h2 : o = 255
    · have e2 : (⟨[], [A, B], 0⟩ : Orc).tok s o = (some s, ⟨[], [A, B], 0⟩) := by simp [Orc.tok, h2, hss]
      exact ⟨s, s, _, _, _, s, e1, by simp, e2, by simp, e2, by simp [h1, h2], by simp [h1, h2]⟩
    · have e2 : (⟨[], [A, B], 0⟩ : Orc).tok s o = (some A, ⟨[(1, mix s o % w48, A)], [A, B], 1⟩) := by simp [Orc.tok, h2, Orc.ask, Orc.known]
      exact ⟨s, A, _, _, _, A, e1, by simp, e2, by simp, Orc.tok_again e2, by omega, by omega⟩
  · have e1 : (⟨[], [A, B], 0⟩ : Orc).tok s r = (some A, ⟨[(1, mix s r % w48, A)], [A, B], 1⟩) := by simp [Orc.tok, h1, Orc.ask, Orc.known]
    by_cases h2 : o = 255
    · have e2 : (⟨[(1, mix s r % w48, A)], [A, B], 1⟩ : Orc).tok s o = (some s, ⟨[(1, mix s r % w48, A)], [A, B], 1⟩) := by simp [Orc.tok, h2, hss]
      exact ⟨A, s, _, _, _, s, e1, by simp, e2, by simp, e2, by omega, by omega⟩
    · by_cases h3 : r = o
      · subst h3
        have e2 := Orc.tok_again e1
        exact ⟨A, A, _, _, _, A, e1, by simp, e2, by simp, e2, by simp, by simp⟩
      · have hne : ¬ mix s r % w48 = mix s o % w48 := by
          rw [Nat.mod_eq_of_lt (mix_lt hr), Nat.mod_eq_of_lt (mix_lt ho)]
          exact fun h => h3 (mix_inj h)
        have e2 : (⟨[(1, mix s r % w48, A)], [A, B], 1⟩ : Orc).tok s o = (some B, ⟨[(1, mix s r % w48, A), (1, mix s o % w48, B)], [A, B], 2⟩) := by simp [Orc.tok, h2, Orc.ask, Orc.known, hit, hne]
        exact ⟨A, B, _, _, _, B, e1, by simp, e2, by simp, Orc.tok_again e2, by omega, by omega⟩

set_option maxRecDepth 20000 in
theorem tokenApart_ok (secret f g r o : Nat) (hsec : secret < 18446744073709551616) (hf : f < 256) (hg : g < 256) (hr : r < 256) (ho : o < 256) (s : S) : Ev tab 6 [.int .u64 secret, .int .u8 f, .int .u8 g, .int .u8 r, .int .u8 o] s fun v s' => v = .bool true := by
  refine Ev.intro rfl rfl rfl ?_
  have m20 : min 20 IntKind.u64.bits = 20 := by decide
  have wf : IntKind.u64.wrap (f : Int) = f := wrap_u64 (by omega) (by omega)
  have wg : IntKind.u64.wrap (g : Int) = g := wrap_u64 (by omega) (by omega)
  obtain ⟨P, hP⟩ : ∃ P, P = f * 1048576 := ⟨_, rfl⟩
  obtain ⟨R, hR⟩ : ∃ R, R = g * 1048576 := ⟨_, rfl⟩
  obtain ⟨A, hA⟩ : ∃ A, A = f * 1048576 + 1 := ⟨_, rfl⟩
  obtain ⟨B, hB⟩ : ∃ B, B = g * 1048576 + 2 := ⟨_, rfl⟩
  have w1 : IntKind.u64.wrap ((f : Int) * 1048576) = (P : Int) := by rw [wrap_u64] <;> omega
  have w2 : IntKind.u64.wrap ((g : Int) * 1048576) = (R : Int) := by rw [wrap_u64] <;> omega
  have w3 : IntKind.u64.wrap ((P : Int) + 1) = (A : Int) := by rw [wrap_u64] <;> omega
  have w4 : IntKind.u64.wrap ((R : Int) + 2) = (B : Int) := by rw [wrap_u64] <;> omega
  have hcut := b48' secret
  have hlt : secret % w48 < 281474976710656 := Nat.mod_lt _ (by decide)
  obtain ⟨c, hc⟩ : ∃ c, c = secret % w48 := ⟨_, rfl⟩
  rw [← hc] at hcut hlt
  have hor := bor c (by omega)
  have ht1 : 140737488355328 ≤ c ||| 140737488355328 := Nat.right_le_or
  have ht2 : c ||| 140737488355328 < 2 ^ 48 := Nat.or_lt_two_pow (by omega) (by decide)
  obtain ⟨t, ht⟩ : ∃ t, t = c ||| 140737488355328 := ⟨_, rfl⟩
  rw [← ht] at hor ht1 ht2
  simp [pf6, pf6_14, pf6_13, pf6_11]
  refine ev_awake07 ?_
  simp [pf6_12, pf6_9, wf, wg, m20, w1, w2, w3, w4, pf6_8, hcut, hor, -binV_and, -binV_or]
  have hN : NumsAt (s.new (.cells [.int .u64 (A : Int), .int .u64 (B : Int)] 0 false)) (.slice s.ctr 0 2 2 false) [A, B] := by
    refine ⟨rfl, .inr (.inr ⟨s.ctr, 2, rfl, by simp, ?_⟩)⟩
    intro i n hi
    match i, hi with
    | 0, hi => simp at hi; simp [hi]
    | 1, hi => simp at hi; simp [hi]
  simp [pf6_7]
  refine Ev.mono (tapeOf_ok hN (by simp)) ?_
  rintro v s1 ⟨x1, tp, G, rfl, hT, hG⟩
  have hAB : [A, B].map (· % w48) = [A, B] := by
    simp [w48]; omega
  rw [hAB] at hT
  simp
  refine Ev.mono (oracleOf_ok hT) ?_
  rintro v s2 ⟨x2, op, F, rfl, hO, hF⟩
  obtain ⟨x, y, q1, q2, q3, gd, l1, l2, l3, l4, l5, l6, l7⟩ := apart_law A B t r o hr ho ht1 (by unfold w48; omega) (by omega) (by omega) (by omega)
  simp [pf6_6]
  refine Ev.mono (tokenOf_ok hO (by simp) t r hr) ?_
  rintro v s3 ⟨_, F1, _, hO1, rfl⟩
  rw [l1] at hO1 ⊢
  simp [ansV, pf6_5]
  refine Ev.mono (tokenOf_ok hO1 (by simp; omega) t o ho) ?_
  rintro v s4 ⟨_, F2, _, hO2, rfl⟩
  rw [l3] at hO2 ⊢
  simp [ansV, pf6_4, pf6_3, pf6_1]
  refine Ev.mono (good_ok hO2 (by simp; omega) t 0 0 o x ho) ?_
  rintro v s5 ⟨_, F3, _, hO3, rfl⟩
  rw [l5]
  have i1 : decide ((x : Int) = y) = decide (r = o) := decide_eq_decide.2 (by omega)
  have i2 : decide ((r : Int) = o) = decide (r = o) := decide_eq_decide.2 (by omega)
  have i3 : decide (gd = x) = decide (r = o) := decide_eq_decide.2 l7
  simp [goodV, pf6_0, i1, i2, i3]
end Go.Ab
