/- Tokens (layer 7) over the abstract machine. -/
import Derived.Test.YtecpmilepjbaeabDoorT3
namespace Go.Ab
attribute [local simp] S.read S.write

/-- A secret with rights laid into it. -/
def mix (secret r : Nat) : Nat := (secret % w48) ^^^ r
/-- The check of a secret for rights. -/
def Orc.tok (q : Orc) (secret r : Nat) : Option Nat × Orc := if r = 255 then (some (secret % w48), q) else q.ask 1 (mix secret r)

theorem bxor (x y : Nat) (hx : x < 18446744073709551616) (hy : y < 18446744073709551616) : binV .xor (.int .u64 (x : Int)) (.int .u64 (y : Int)) = some (.int .u64 ((x ^^^ y : Nat) : Int)) := by
  rw [binV_xor]
  have e1 : (BitVec.ofInt IntKind.u64.bits (x : Int)).toNat = x := by
    simp only [IntKind.bits, BitVec.toNat_ofInt]; omega
  have e2 : (BitVec.ofInt IntKind.u64.bits (y : Int)).toNat = y := by
    simp only [IntKind.bits, BitVec.toNat_ofInt]; omega
  rw [BitVec.toNat_xor, e1, e2]
  have : x ^^^ y < 2 ^ 64 := Nat.xor_lt_two_pow hx hy
  rw [wrap_u64 (by omega) (by omega)]

theorem mixed_ok (secret r : Nat) (hr : r < 256) (s : S) : Ev tab 27 [.int .u64 secret, .int .u8 r] s fun v s' => s' = s ∧ v = .int .u64 (mix secret r : Nat) := by
  refine Ev.intro rfl rfl rfl ?_
  simp [pf27, pf27_1, pf27_0]
  refine Ev.mono (cut_ok secret s) ?_
  rintro v s1 ⟨rfl, rfl⟩
  have hl : secret % w48 < w48 := Nat.mod_lt _ (by decide)
  have hx := bxor (secret % w48) r (by unfold w48 at *; omega) (by omega)
  obtain ⟨y, hy⟩ : ∃ y, y = secret % w48 := ⟨_, rfl⟩
  unfold mix
  rw [← hy] at hx ⊢
  have w : IntKind.u64.wrap (r : Int) = r := wrap_u64 (by omega) (by omega)
  simp [w, hx, -binV_xor]

section
variable {s s' : S} {op : Nat} {q : Orc} {F : List Nat}

theorem tokenOf_ok (h : Oc s op q F) (hq : q.rs.length ≤ 5000000000000) (secret r : Nat) (hr : r < 256) : Ev tab 15 [.ptr op 0, .int .u64 secret, .int .u8 r] s fun v s' => Chg F s s' ∧ ∃ F', Grow F F' s.ctr ∧ Oc s' op (q.tok secret r).2 F' ∧ v = ansV (q.tok secret r).1 := by
  refine Ev.intro rfl rfl rfl ?_
  unfold Orc.tok
  by_cases h255 : r = 255
  · subst h255
    simp [pf15, pf15_4, pf15_3, pf15_2, pf15_1]
    refine Ev.mono (cut_ok secret s) ?_
    rintro v s1 ⟨rfl, rfl⟩
    simp [ansV]
    exact ⟨F, Grow.refl _ _, h⟩
  · have h255' : ¬ (r : Int) = 255 := by omega
    simp [pf15, pf15_4, pf15_3, pf15_2, h255', pf15_0]
    refine Ev.mono (mixed_ok secret r hr s) ?_
    rintro v s1 ⟨rfl, rfl⟩
    simp
    refine Ev.mono (ask_ok h hq 1 (mix secret r)) ?_
    rintro v s2 ⟨hc, F', hg, hO, rfl⟩
    rw [if_neg h255]
    cases (q.ask 1 (mix secret r)).1 with
    | none => simp [ansV]; exact ⟨hc, F', hg, hO⟩
    | some y => simp [ansV]; exact ⟨hc, F', hg, hO⟩

/-- What a check is held against. -/
def goodV (k : Nat) : Option Nat → AV
  | some y => .tuple [.bool (decide (y = k)), .nilIface]
  | none => .tuple [.bool false, .iface 32 (.int .i64 7)]

theorem good_ok (h : Oc s op q F) (hq : q.rs.length ≤ 5000000000000) (secret p o r k : Nat) (hr : r < 256) : Ev tab 20 [.ptr op 0, .int .u64 secret, .agg [.int .u64 p, .int .u32 o, .int .u8 r, .int .u64 k]] s fun v s' => Chg F s s' ∧ ∃ F', Grow F F' s.ctr ∧ Oc s' op (q.tok secret r).2 F' ∧ v = goodV k (q.tok secret r).1 := by
  refine Ev.intro rfl rfl rfl ?_
  obtain ⟨s0, hs0⟩ : ∃ s0, s0 = s.new (.cells [.int .u64 p, .int .u32 o, .int .u8 r, .int .u64 k] 0 false) := ⟨_, rfl⟩
  have x0 : Ext s s0 := by rw [hs0]; simp
  have g0 : s0.get s.ctr = some (.cells [.int .u64 p, .int .u32 o, .int .u8 r, .int .u64 k] 0 false) := by rw [hs0]; simp
  have c0 : s0.ctr = s.ctr + 1 := by rw [hs0]; rfl
  simp [pf20, pf20_2, ← hs0, pf20_1, g0]
  refine Ev.mono (tokenOf_ok (h.ext x0) hq secret r hr) ?_
  rintro v s1 ⟨hc, F', hg, hO, rfl⟩
  have hn : s.ctr ∉ F := fun hx => by have := h.lt _ hx; omega
  have g1 : s1.get s.ctr = some (.cells [.int .u64 p, .int .u32 o, .int .u8 r, .int .u64 k] 0 false) := by rw [hc.get _ (by omega) hn, g0]
  have hcs : Chg F s s1 := (x0.chg F).trans hc
  have hg' : Grow F F' s.ctr := fun x hx => by
    rcases hg x hx with h | h
    · exact .inl h
    · exact .inr (by omega)
  cases (q.tok secret r).1 with
  | none => simp [pf20_0, ansV, goodV]; exact ⟨hcs, F', hg', hO⟩
  | some y =>
    have : decide ((y : Int) = k) = decide (y = k) := decide_eq_decide.2 (by omega)
    simp [pf20_0, ansV, goodV, g1, this]
    exact ⟨hcs, F', hg', hO⟩

/-- What a holder's restricting gives. -/
def restrictV (p o r m : Nat) : Option Nat → AV
  | some y => .tuple [.agg [.int .u64 p, .int .u32 o, .int .u8 m, .int .u64 (y : Int)], .nilIface]
  | none => .tuple [.agg [.int .u64 0, .int .u32 0, .int .u8 0, .int .u64 0], .iface 32 (.int .i64 7)]

theorem restrict_no (p o r k m : Nat) (hr : r ≠ 255) (s : S) : Ev tab 25 [.ptr op 0, .agg [.int .u64 p, .int .u32 o, .int .u8 r, .int .u64 k], .int .u8 m] s fun v s' => Ext s s' ∧ v = .tuple [.agg [.int .u64 0, .int .u32 0, .int .u8 0, .int .u64 0], .iface 32 (.int .i64 2)] := by
  refine Ev.intro rfl rfl rfl ?_
  have h255' : ¬ (r : Int) = 255 := by omega
  simp (maxDischargeDepth := 30) [pf25, pf25_9, pf25_8, pf25_7, h255', pf25_6]

theorem restrict_ok (h : Oc s op q F) (hq : q.rs.length ≤ 5000000000000) (p o k m : Nat) (hm : m < 256) : Ev tab 25 [.ptr op 0, .agg [.int .u64 p, .int .u32 o, .int .u8 255, .int .u64 k], .int .u8 m] s fun v s' => Chg F s s' ∧ ∃ F', Grow F F' s.ctr ∧ Oc s' op (q.tok k m).2 F' ∧ v = restrictV p o 255 m (q.tok k m).1 := by
  refine Ev.intro rfl rfl rfl ?_
  obtain ⟨s0, hs0⟩ : ∃ s0, s0 = (s.new (.cells [.int .u64 p, .int .u32 o, .int .u8 255, .int .u64 k] 0 false)).new (.cells [.int .u64 0, .int .u32 0, .int .u8 0, .int .u64 0] 0 false) := ⟨_, rfl⟩
  have x0 : Ext s s0 := by rw [hs0]; simp (maxDischargeDepth := 30)
  have g0 : s0.get s.ctr = some (.cells [.int .u64 p, .int .u32 o, .int .u8 255, .int .u64 k] 0 false) := by rw [hs0]; simp
  have g0' : s0.get (s.ctr + 1) = some (.cells [.int .u64 0, .int .u32 0, .int .u8 0, .int .u64 0] 0 false) := by rw [hs0]; simp
  have c0 : s0.ctr = s.ctr + 2 := by rw [hs0]; simp [Nat.add_assoc]
  simp [pf25, pf25_9, ← hs0, pf25_8, pf25_7, g0, pf25_5]
  refine Ev.mono (tokenOf_ok (h.ext x0) hq k m hm) ?_
  rintro v s1 ⟨hc, F', hg, hO, rfl⟩
  have hn : s.ctr ∉ F := fun hx => by have := h.lt _ hx; omega
  have hn2 : s.ctr + 1 ∉ F := fun hx => by have := h.lt _ hx; omega
  have g1 : s1.get s.ctr = some (.cells [.int .u64 p, .int .u32 o, .int .u8 255, .int .u64 k] 0 false) := by rw [hc.get _ (by omega) hn, g0]
  have g2 : s1.get (s.ctr + 1) = some (.cells [.int .u64 0, .int .u32 0, .int .u8 0, .int .u64 0] 0 false) := by rw [hc.get _ (by omega) hn2, g0']
  have hcs : Chg F s s1 := (x0.chg F).trans hc
  have hg' : Grow F F' s.ctr := fun x hx => by
    rcases hg x hx with h | h
    · exact .inl h
    · exact .inr (by omega)
  have hF' : ∀ x ∈ F', x ≠ s.ctr ∧ x ≠ s.ctr + 1 := by
    intro x hx
    rcases hg x hx with h | h
    · exact ⟨fun e => hn (e ▸ h), fun e => hn2 (e ▸ h)⟩
    · omega
  have keepO : ∀ (i : Nat) (o' : Option AO) (t : S), (i = s.ctr ∨ i = s.ctr + 1) → Oc t op (q.tok k m).2 F' → Oc (t.set i o') op (q.tok k m).2 F' := by
    intro i o' t hi ht
    refine ht.chg (l := [i]) (by simp) (fun x hx => ?_)
    have := hF' x hx
    simp; omega
  have keepC : ∀ (i : Nat) (o' : Option AO) (t : S), (i = s.ctr ∨ i = s.ctr + 1) → Chg F s t → Chg F s (t.set i o') := fun i o' t hi ht => Chg.set (.inl (by omega)) ht
  cases (q.tok k m).1 with
  | none =>
    simp [pf25_4, pf25_3, pf25_2, ansV, restrictV, g2]
    exact ⟨keepC _ _ _ (.inr rfl) hcs, F', hg', keepO _ _ _ (.inr rfl) hO⟩
  | some y =>
    simp [pf25_4, pf25_3, pf25_1, ansV, restrictV, g1, g2, pf25_0]
    exact ⟨keepC _ _ _ (.inr rfl) (keepC _ _ _ (.inl rfl) (keepC _ _ _ (.inl rfl) hcs)), F', hg', keepO _ _ _ (.inr rfl) (keepO _ _ _ (.inl rfl) (keepO _ _ _ (.inl rfl) hO))⟩
end
end Go.Ab
