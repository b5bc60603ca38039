/- 'TokenRestrict' over the abstract machine. -/
import Derived.Test.YtecpmilepjbaeabT5
namespace Go.Ab
attribute [local simp] S.read S.write

theorem ev_is7 {n m : Int} {s : S} {Q : AV → S → Prop} (h : Q (.bool (decide (n = m))) s) : Ev tab 13 [.iface 39 (.int .i64 n), .iface 39 (.int .i64 m)] s Q := Ev.prim (p := isPrim) rfl rfl h

set_option maxRecDepth 20000 in
theorem tokenRestrict_ok (v : AV) (ns : List Nat) (secret p o r k m : Nat) (hsec : secret < 18446744073709551616) (hm : m < 256) (s : S) (hv : NumsAt s v ns) (hl : ns.length ≤ 17592186044416) : Ev tab 7 [v, .int .u64 secret, .agg [.int .u64 p, .int .u32 o, .int .u8 r, .int .u64 k], .int .u8 m] s fun v s' => v = .bool true := by
  refine Ev.intro rfl rfl rfl ?_
  have wl := hv.wlen
  obtain ⟨s0, hs0⟩ : ∃ s0, s0 = s.new (.cells [.int .u64 p, .int .u32 o, .int .u8 r, .int .u64 k] 0 false) := ⟨_, rfl⟩
  have x0 : Ext s s0 := by rw [hs0]; simp
  have g0 : s0.get s.ctr = some (.cells [.int .u64 p, .int .u32 o, .int .u8 r, .int .u64 k] 0 false) := by rw [hs0]; simp
  have c0 : s0.ctr = s.ctr + 1 := by rw [hs0]; rfl
  simp [pf7, pf7_15, ← hs0, pf7_14, pf7_13]
  refine ev_awake07 ?_
  have hv0 : NumsAt s0 v ns := by
    obtain ⟨a, b⟩ := hv
    refine ⟨a, ?_⟩
    rcases b with b | b | ⟨A, cap, b, c, d⟩
    · exact .inl b
    · exact .inr (.inl b)
    · exact .inr (.inr ⟨A, cap, b, by omega, fun i n hi => by rw [read_ext x0 c]; exact d i n hi⟩)
  simp [pf7_11]
  refine Ev.mono (tapeOf_ok hv0 hl) ?_
  rintro u s1 ⟨x1, tp, G, rfl, hT, hG⟩
  simp
  refine Ev.mono (oracleOf_ok hT) ?_
  rintro u s2 ⟨x2, op, F, rfl, hO, hF⟩
  have x02 := x1.trans x2
  have hFs : s.ctr ∉ F := fun h => by
    rcases hF _ h with h | h
    · have := hG _ h; omega
    · have := x1.ctr; omega
  have g2 : s2.get s.ctr = some (.cells [.int .u64 p, .int .u32 o, .int .u8 r, .int .u64 k] 0 false) := by rw [x02.get _ (by omega), g0]
  have c2 := x02.ctr
  by_cases h255 : r = 255
  · subst h255
    have hcut := b48' secret
    have hlt : secret % w48 < w48 := Nat.mod_lt _ (by decide)
    obtain ⟨c, hc⟩ : ∃ c, c = secret % w48 := ⟨_, rfl⟩
    rw [← hc] at hcut hlt
    obtain ⟨s3, hs3⟩ : ∃ s3, s3 = s2.set s.ctr (some (.cells [.int .u64 p, .int .u32 o, .int .u8 255, .int .u64 c] 0 false)) := ⟨_, rfl⟩
    have g3 : s3.get s.ctr = some (.cells [.int .u64 p, .int .u32 o, .int .u8 255, .int .u64 c] 0 false) := by rw [hs3]; simp
    have hO3 : Oc s3 op _ F := hO.chg (l := [s.ctr]) (by rw [hs3]; simp) (fun x hx => by simp; rintro rfl; exact hFs hx)
    have c3 : s3.ctr = s2.ctr := by rw [hs3]; rfl
    simp [pf7_10, pf7_9, g2, pf7_6, hcut, ← hs3, -binV_and]
    simp [pf7_5, g3]
    refine Ev.mono (restrict_ok hO3 (by simp) p o c m hm) ?_
    rintro u s4 ⟨hc4, F', hg4, hO4, rfl⟩
    have g4 : s4.get s.ctr = some (.cells [.int .u64 p, .int .u32 o, .int .u8 255, .int .u64 c] 0 false) := by rw [hc4.get _ (by omega) hFs, g3]
    have hc4c := hc4.ctr
    have hF's : s4.ctr ∉ F' := fun h => by have := hO4.lt _ h; omega
    have hne : ¬ s.ctr = s4.ctr := by omega
    cases ht : (Orc.mk [] (ns.map (· % w48)) 0).tok c m with
    | mk a q' =>
      rw [ht] at hO4
      cases a with
      | none =>
        simp [restrictV, pf7_4, pf7_3, pf7_2]
        refine ev_is7 ?_
        simp
      | some y =>
        obtain ⟨s5, hs5⟩ : ∃ s5, s5 = (s4.new (.cells [.int .u64 0, .int .u32 0, .int .u8 0, .int .u64 0] 0 false)).set s4.ctr (some (.cells [.int .u64 p, .int .u32 o, .int .u8 m, .int .u64 y] 0 false)) := ⟨_, rfl⟩
        have x5 : Ext s4 s5 := by rw [hs5]; simp
        have g5 : s5.get s4.ctr = some (.cells [.int .u64 p, .int .u32 o, .int .u8 m, .int .u64 y] 0 false) := by rw [hs5]; simp
        have g5' : s5.get s.ctr = some (.cells [.int .u64 p, .int .u32 o, .int .u8 255, .int .u64 c] 0 false) := by rw [x5.get _ (by omega), g4]
        have c5 : s5.ctr = s4.ctr + 1 := by rw [hs5]; rfl
        have hq : q'.rs.length ≤ 5000000000000 := by
          have : q'.rs.length ≤ 1 := by
            unfold Orc.tok Orc.ask at ht
            simp only [Orc.known] at ht
            split at ht
            · simp at ht; rw [← ht.2]; simp
            · simp at ht
              split at ht
              · simp at ht; rw [← ht.2]; simp
              · simp at ht
          omega
        have hag : q'.tok secret m = (some y, q') := by
          have h1 := Orc.tok_again ht
          have e : q'.tok secret m = q'.tok c m := by
            have hcc : c % w48 = secret % w48 := by rw [hc, Nat.mod_mod]
            simp only [Orc.tok, mix, hcc]
          rw [e, h1]
        simp [restrictV, pf7_4, pf7_3, ← hs5, pf7_1, g5]
        refine Ev.mono (good_ok (hO4.ext x5) hq secret p o m y hm) ?_
        rintro u s6 ⟨hc6, F6, _, _, rfl⟩
        have g6 : s6.get s4.ctr = some (.cells [.int .u64 p, .int .u32 o, .int .u8 m, .int .u64 y] 0 false) := by rw [hc6.get _ (by omega) hF's, g5]
        have hsF' : s.ctr ∉ F' := fun h => by
          rcases hg4 _ h with h | h
          · exact hFs h
          · omega
        have g6' : s6.get s.ctr = some (.cells [.int .u64 p, .int .u32 o, .int .u8 255, .int .u64 c] 0 false) := by rw [hc6.get _ (by omega) hsF', g5']
        rw [hag]
        simp [goodV, pf7_0, g6, g6']
  · have h255' : ¬ (r : Int) = 255 := by omega
    simp [pf7_10, pf7_9, g2, h255', pf7_8]
    refine Ev.mono (restrict_no p o r k m h255 s2) ?_
    rintro u s3 ⟨x3, rfl⟩
    have hO3 := hO.ext x3
    simp [pf7_7]
    refine ev_is7 ?_
    simp
    refine Ev.mono (oracleLeft_ok (hO3.ext ?_)) ?_
    · exact Ext.set (Nat.le_refl _) (Ext.new (Ext.refl _))
    rintro u s4 ⟨rfl, rfl⟩
    simp [wl]
end Go.Ab
