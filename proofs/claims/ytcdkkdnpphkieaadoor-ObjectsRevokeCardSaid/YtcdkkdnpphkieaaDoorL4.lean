/- 'ObjectsForged' over the abstract machine: the law. -/
import Derived.Test.YtcdkkdnpphkieaaDoorL3
namespace Go.Ab

theorem Bx.wr3 {s : S} {i : Nat} {c : Cp} {F : List Nat} (h : Bx s i c F) (x : Nat) : s.write i 3 [.int .u64 (x : Int)] = some (s.set i (some (.cells (Cp.cells { c with k := x }) 0 false))) := by
  rw [wrc h.get (by simp) (by simp)]
  rfl
theorem Bx.wr4 {s : S} {i : Nat} {c c' : Cp} {F : List Nat} (h : Bx s i c F) : s.write i 0 c'.cells = some (s.set i (some (.cells c'.cells 0 false))) := by
  rw [wrc h.get (by simp) (Cp.cells_flat _), over4 _ _ (by simp)]
theorem Bx.put {s : S} {i : Nat} {c c' : Cp} {F : List Nat} (h : Bx s i c F) : Bx (s.set i (some (.cells c'.cells 0 false))) i c' F := ⟨by simp, by simpa using h.lt, h.out⟩
theorem Bx.keep {s : S} {i j : Nat} {c : Cp} {F : List Nat} {o : Option AO} (h : Bx s i c F) (hij : ¬ i = j) : Bx (s.set j o) i c F := ⟨by rw [S.get_set, if_neg hij]; exact h.get, by simpa using h.lt, h.out⟩

/-- A capability that was told. -/
theorem Orc.knows_check {T : Tbl} {c : Cp} {x : Ob} (hp : c.p = T.port) (hg : T.get c.o = some x) (hk : T.orc.knows x.secret c.r c.k) (need : Nat) : T.check c need = (if c.r &&& need ≠ need then (0, some 2) else (c.o, none), T) := by
  rw [Tbl.check_ok hp hg (Orc.knows_tok hk)]

def tblForged (q : Orc) (d1 d2 s : Nat) : Tbl := ⟨7, q, [ob d1 1, { ob d2 2 with secret := s, epoch := 1 }]⟩
theorem forged_good {q : Orc} {d1 d2 s y mask : Nat} (h1 : q.knows d1 255 d1) (h2 : q.knows d1 mask y) (h3 : q.knows s 255 s) {c : Cp} (hc : c ∈ [(⟨7, 0, 255, d1⟩ : Cp), ⟨7, 0, mask, y⟩, ⟨7, 1, 255, s⟩]) (need : Nat) :
    (tblForged q d1 d2 s).check c need = (if c.r &&& need ≠ need then (0, some 2) else (c.o, none), tblForged q d1 d2 s) := by
  simp only [List.mem_cons, List.not_mem_nil, or_false] at hc
  rcases hc with rfl | rfl | rfl
  · exact Orc.knows_check (x := ob d1 1) rfl rfl h1 need
  · exact Orc.knows_check (x := ob d1 1) rfl rfl h2 need
  · exact Orc.knows_check (x := { ob d2 2 with secret := s, epoch := 1 }) rfl rfl h3 need

/-- The law's end: a capability is held against those that were told, and checked. -/
theorem forged_end {T : Tbl} {F : List Nat} {tp i : Nat} (a r n : Cp) (need : Nat) (hn : need < 256) (hrs : T.orc.rs.length ≤ 100)
    (hgood : ∀ c ∈ [a, r, n], (T.check c need).1.2 = if c.r &&& need ≠ need then some 2 else none) (hbad : ∀ c : Cp, c.r < 256 → (T.check c need).1 = (0, some 1) ∨ c.k ∈ spreadL 40)
    {t : S} (hT : Tb t tp T F) {c : Cp} (hc : c.Fit) (hb : Bx t i c F) {b : Nat} (hbn : b ≠ i) (hbl : b < t.ctr) (hbF : b ∉ F) (hg : t.get b = some (.cells (rowsOf Cp.cells [a, r, n]) 0 false))
    {R : Regs} (e2 : R 2 = .int .u8 need) (e4 : R 4 = .ptr i 0) (e9 : R 9 = .ptr tp 0) (e18 : R 18 = .slice b 0 3 3 false) :
    WpC tab pf3_13 R t (seqK tab (pf3_12.seq pf3_11) (FinP [PR.tmp 8] fun v _ => v = .bool true)) := by
  have hcut := b48' c.k
  obtain ⟨x, hx⟩ : ∃ x, x = c.k % w48 := ⟨_, rfl⟩
  have hxw : x < w48 := by rw [hx]; exact Nat.mod_lt _ (by decide)
  rw [← hx] at hcut
  obtain ⟨c2, hc2⟩ : ∃ c2 : Cp, c2 = { c with k := x } := ⟨_, rfl⟩
  have hw3 := hb.wr3 x
  rw [← hc2] at hw3
  have fc2 : c2.Fit := by rw [hc2]; exact ⟨hc.p, hc.o, hc.r, by unfold w48 at hxw; simp only; omega⟩
  have b2 : Bx (t.set i (some (.cells c2.cells 0 false))) i c2 F := hb.put
  have hT2 : Tb (t.set i (some (.cells c2.cells 0 false))) tp T F := hT.setOut hb.out
  obtain ⟨t2, ht2⟩ : ∃ t2, t2 = t.set i (some (.cells c2.cells 0 false)) := ⟨_, rfl⟩
  rw [← ht2] at hw3 b2 hT2
  have g2 : t2.get b = some (.cells (rowsOf Cp.cells [a, r, n]) 0 false) := by rw [ht2, S.get_set, if_neg hbn, hg]
  have hbl2 : b < t2.ctr := by rw [ht2]; exact hbl
  simp [pf3_13, e4, hb.rd3, hcut, hw3, -binV_and]
  simp [pf3_12, pf3_11, pf3_10, e18]
  refine WpC.loop (fun m r' s' => ∃ k, k ≤ 3 ∧ m = 3 - k ∧ r' 2 = .int .u8 need ∧ r' 4 = .ptr i 0 ∧ r' 9 = .ptr tp 0 ∧ r' 90 = .slice b 0 3 3 false ∧ r' 91 = .int .i64 3 ∧ r' 92 = .int .i64 (k : Nat) ∧ r' 19 = .bool (decide (c2 ∈ [a, r, n].take k)) ∧ Ext t2 s') (m := 3) ?_ ?_
  · exact ⟨0, by omega, rfl, by simp [e2], by simp [e4], by simp [e9], by simp, by simp, by simp, by simp, Ext.refl _⟩
  rintro m r' s' ⟨k, hk, rfl, q2, q4, q9, q90, q91, q92, q19, hx'⟩
  have b2' := b2.ext hx'
  have hT' := hT2.ext hx'
  by_cases hlt : k < 3
  · obtain ⟨z, hz⟩ : ∃ z, [a, r, n][k]? = some z := ⟨_, List.getElem?_eq_getElem (by simpa using hlt)⟩
    have hrd := rows_read (s := s') (by rw [hx'.get b hbl2, g2]) hz
    have hlt' : (k : Int) < 3 := by omega
    have w1 : IntKind.i64.wrap ((k : Int) + 1) = ((k + 1 : Nat) : Int) := by rw [wrap_i64] <;> omega
    obtain ⟨x3, b3, c3⟩ := box_new (F := F) (s := s') [.int .u64 0, .int .u32 0, .int .u8 0, .int .u64 0] z hT'.lt
    have b2'' := b2'.ext x3
    obtain ⟨u, hu⟩ : ∃ u, u = (s'.new (.cells [.int .u64 0, .int .u32 0, .int .u8 0, .int .u64 0] 0 false)).set s'.ctr (some (.cells z.cells 0 false)) := ⟨_, rfl⟩
    rw [← hu] at x3 b3 c3 b2''
    have hdec : decide (c2 ∈ [a, r, n].take (k + 1)) = (decide (c2 ∈ [a, r, n].take k) || decide (z = c2)) := by
      rw [List.take_add_one, hz]
      have e : (z = c2) = (c2 = z) := propext eq_comm
      simp [List.mem_append, e]
    obtain ⟨is, his⟩ : ∃ is, is = decide (c2 ∈ [a, r, n].take k) := ⟨_, rfl⟩
    rw [← his] at q19 hdec
    simp [pf3_9, q92, q91, hlt', pf3_8, pf3_6, q90, hlt, hrd, write_new, ← hu]
    cases is with
    | true =>
      simp [pf3_5, q19, pf3_7, q92, w1, q2, q4, q9, q90, q91, -Int.natCast_add]
      refine ⟨3 - (k + 1), by omega, k + 1, by omega, rfl, rfl, ?_, hx'.trans x3⟩
      simpa using hdec.symm
    | false =>
      simp [pf3_5, q19, q4, b3.rd4, b2''.rd4, eqV_cp, pf3_7, q92, w1, q2, q9, q90, q91, -Int.natCast_add]
      refine ⟨3 - (k + 1), by omega, k + 1, by omega, rfl, rfl, ?_, hx'.trans x3⟩
      rw [Bool.false_or] at hdec
      exact (decide_eq_decide.1 hdec).symm
  · obtain rfl : k = 3 := by omega
    rw [List.take_of_length_le (by simp)] at q19
    simp [pf3_9, q92, q91, pf3_8, pf3_4, q9, q4, q2, b2'.rd4]
    obtain ⟨ke, T', hchk⟩ : ∃ ke T', T.check c2 need = (ke, T') := ⟨_, _, rfl⟩
    obtain ⟨kk, e⟩ := ke
    refine Ev.mono (check_eq hT' (by omega) fc2 hn hchk) ?_
    rintro v s3 ⟨hc3, F3, hg3, hT3, rfl⟩
    have b3 := b2'.step hc3 hg3
    by_cases his : c2 ∈ [a, r, n]
    · have hgd := hgood c2 his
      rw [hchk] at hgd
      simp only at hgd
      have hb8 := band8 c2.r need fc2.r hn
      obtain ⟨mm, hmm⟩ : ∃ mm, mm = c2.r &&& need := ⟨_, rfl⟩
      rw [← hmm] at hb8 hgd
      simp only [his, decide_true] at q19
      by_cases hq : mm = need
      · rw [if_neg (by simpa using hq)] at hgd
        subst hgd
        simp [idxE, errV, pf3_3, pf3_2, q19, pf3_0, q4, b3.rd2, q2, hb8, hq, -binV_and]
      · have hqi : ¬ (mm : Int) = need := by omega
        rw [if_pos hq] at hgd
        subst hgd
        simp [idxE, errV, pf3_3, pf3_2, q19, pf3_0, q4, b3.rd2, q2, hb8, hqi, -binV_and]
        refine ev_num ?_
        simp
    · simp only [his, decide_false] at q19
      have hbb := hbad c2 fc2.r
      rw [hchk] at hbb
      simp [idxE, pf3_3, pf3_2, q19, pf3_1]
      have num : ∀ (Q : AV → S → Prop), (∀ j : Int, (j = 1 ∨ c2.k ∈ spreadL 40) → Q (.int .i64 j) s3) → Ev tab 22 [errV e] s3 Q := by
        intro Q hQ
        cases e with
        | none =>
          refine ev_num0 (hQ 0 (.inr ?_))
          rcases hbb with h | h
          · simp at h
          · exact h
        | some j =>
          refine ev_num (hQ j ?_)
          rcases hbb with h | h
          · simp at h; exact .inl h.2
          · exact .inr h
      refine num _ ?_
      intro j hj
      by_cases h1 : j = 1
      · subst h1
        simp
      · rcases hj with h | h
        · exact absurd h h1
        · simp [h1, q4, b3.rd4]
          refine Ev.mono (spoilt_ok c2 s3) ?_
          rintro v s4 ⟨hx4, rfl⟩
          simp [h]

/-- The law's middle: which capability is held against the others. -/
theorem forged_mid {T : Tbl} {F : List Nat} {tp i j : Nat} (a r n : Cp) (need : Nat) (hn : need < 256) (hrs : T.orc.rs.length ≤ 100) (own : Nat) (ho : own < 256)
    (hgood : ∀ c ∈ [a, r, n], (T.check c need).1.2 = if c.r &&& need ≠ need then some 2 else none) (hbad : ∀ c : Cp, c.r < 256 → (T.check c need).1 = (0, some 1) ∨ c.k ∈ spreadL 40)
    {t : S} (hT : Tb t tp T F) {c : Cp} (hc : c.Fit) (hb : Bx t i c F) {c2 : Cp} (hc2 : c2.Fit) (hb2 : Bx t j c2 F) {b : Nat} (hbn : b ≠ i) (hbl : b < t.ctr) (hbF : b ∉ F) (hg : t.get b = some (.cells (rowsOf Cp.cells [a, r, n]) 0 false)) (hf : a.Fit ∧ r.Fit ∧ n.Fit)
    {R : Regs} (e2 : R 2 = .int .u8 need) (e3 : R 3 = .int .u8 own) (e4 : R 4 = .ptr i 0) (e9 : R 9 = .ptr tp 0) (e12 : R 12 = .ptr j 0) (e18 : R 18 = .slice b 0 3 3 false) :
    WpC tab pf3_17 R t (seqK tab (PC.cond (Opd.r 73) pf3_16 PC.skip) (seqK tab pf3_18 (FinP [PR.tmp 8] fun v _ => v = .bool true))) := by
  have t5 : (own : Int).tmod 5 = ((own % 5 : Nat) : Int) := rfl
  have q5 : IntKind.u8.wrap ((own : Int) / 5) = ((own / 5 : Nat) : Int) := by
    simp [IntKind.wrap, IntKind.signed, IntKind.bits]
    omega
  obtain ⟨m, hm⟩ : ∃ m, m = own % 5 := ⟨_, rfl⟩
  obtain ⟨d, hd⟩ : ∃ d, d = own / 5 := ⟨_, rfl⟩
  rw [← hm] at t5
  rw [← hd] at q5
  have fin : ∀ (R : Regs) (t : S) (c : Cp) (F : List Nat), Tb t tp T F → c.Fit → Bx t i c F → b < t.ctr → b ∉ F → t.get b = some (.cells (rowsOf Cp.cells [a, r, n]) 0 false) → R 2 = .int .u8 need → R 4 = .ptr i 0 → R 9 = .ptr tp 0 → R 18 = .slice b 0 3 3 false →
      WpC tab pf3_13 R t (seqK tab (pf3_12.seq pf3_11) (FinP [PR.tmp 8] fun v _ => v = .bool true)) :=
    fun R t c F h1 h2 h3 h4 h5 h6 h7 h8 h9 h10 => forged_end a r n need hn hrs hgood hbad h1 h2 h3 hbn h4 h5 h6 h7 h8 h9 h10
  by_cases h3 : m < 3
  · obtain ⟨z, hz⟩ : ∃ z, [a, r, n][m]? = some z := ⟨_, List.getElem?_eq_getElem (by simpa using h3)⟩
    have hrd := rows_read hg hz
    have hzf : z.Fit := by
      have := List.mem_of_getElem? hz
      simp only [List.mem_cons, List.not_mem_nil, or_false] at this
      rcases this with rfl | rfl | rfl
      · exact hf.1
      · exact hf.2.1
      · exact hf.2.2
    have h3i : (m : Int) < 3 := by omega
    have hm3 : ¬ (m : Int) = 3 := by omega
    simp [pf3_17, e3, t5, h3i, pf3_16, e18, h3, hrd, q5]
    refine Ev.mono (change_ok hzf d (by omega) t) ?_
    rintro v t2 ⟨hx2, c3, hc3, rfl⟩
    have hb' := hb.ext hx2
    have w := hb'.wr4 (c' := c3)
    simp [e4, w, pf3_18, pf3_15, e3, t5, hm3]
    have := hx2.ctr
    exact fin _ _ c3 F ((hT.ext hx2).setOut hb.out) hc3 hb'.put (by simp; omega) hbF (by rw [S.get_set, if_neg hbn, hx2.get b hbl, hg]) (by simp [e2]) (by simp [e4]) (by simp [e9]) (by simp [e18])
  · have h3i : ¬ (m : Int) < 3 := by omega
    by_cases hm3 : m = 3
    · have hm3i : (m : Int) = 3 := by omega
      have w := hb.wr4 (c' := c2)
      simp [pf3_17, e3, t5, h3i, pf3_18, pf3_15, hm3i, pf3_14, e12, hb2.rd4, e4, w]
      exact fin _ _ c2 F (hT.setOut hb.out) hc2 hb.put (by simpa using hbl) hbF (by rw [S.get_set, if_neg hbn, hg]) (by simp [e2]) (by simp [e4]) (by simp [e9]) (by simp [e18])
    · have hm3i : ¬ (m : Int) = 3 := by omega
      simp [pf3_17, e3, t5, h3i, pf3_18, pf3_15, hm3i]
      exact fin _ _ c F hT hc hb hbl hbF hg (by simp [e2]) (by simp [e4]) (by simp [e9]) (by simp [e18])

set_option maxRecDepth 10000 in
set_option maxHeartbeats 1000000 in
theorem forged_ok {c : Cp} (hc : c.Fit) (mask need own : Nat) (hm : mask < 256) (hn : need < 256) (ho : own < 256) (s : S) : Ev tab 3 [capA c, .int .u8 mask, .int .u8 need, .int .u8 own] s fun v _ => v = .bool true := by
  refine Ev.intro rfl rfl rfl ?_
  obtain ⟨s0, hs0⟩ : ∃ s0, s0 = s.new (.cells c.cells 0 false) := ⟨_, rfl⟩
  have x0 : Ext s s0 := by rw [hs0]; simp
  have g0 : Bx s0 s.ctr c [] := ⟨by rw [hs0]; simp, by rw [hs0]; simp, by simp⟩
  have c0 : s0.ctr = s.ctr + 1 := by rw [hs0]; rfl
  simp [pf3, pf3_33, Cp.cells_flat, ← hs0, pf3_32, pf3_31]
  refine ev_awake23 ?_
  simp [pf3_29]
  refine Ev.mono (spread_ok 40 (by omega) s0) ?_
  rintro v s1 ⟨hx1, hN⟩
  simp
  refine Ev.mono (tapeOf_ok hN (by simp [spread_len])) ?_
  rintro v s2 ⟨hx2, tp0, F0, rfl, hTp, hF0⟩
  simp
  refine Ev.mono (oracleOf_ok hTp) ?_
  rintro v s3 ⟨hx3, op, F1, rfl, hO, hg1⟩
  simp
  refine Ev.mono (objectsOf_ok hO 7) ?_
  rintro v s4 ⟨hx4, tp, rfl, htp, hT⟩
  obtain ⟨hx, hT, hF⟩ := tbl_ready (by omega) hx1 hx2 hF0 hx3 hg1 hx4 htp hT
  have hcl := spread_clean (n := 40) (by omega)
  have hw : ∀ y ∈ spreadL 40, y < w48 := spread_w (by omega)
  have hel := spread_len 40
  obtain ⟨es, hes⟩ : ∃ es, es = spreadL 40 := ⟨_, rfl⟩
  rw [← hes] at hT hcl hw hel
  have ok0 : Tbl.Ok ⟨7, ⟨[], es, 0⟩, []⟩ := Tbl.Ok.fresh (by omega) hw
  obtain ⟨d1, d2, sec, y, q3, q4, e1, e2, e3, e4, fair, hq4, hat4, kn1, kn2, kn3⟩ := forged_run es hcl (by omega) mask hm
  have bc : Bx s4 s.ctr c (tp :: F1) := ⟨(g0.ext hx).get, (g0.ext hx).lt, fun h => by have := hF _ h; omega⟩
  have s1' := Tbl.create_step ⟨7, ⟨[], es, 0⟩, []⟩ 1
  rw [e1] at s1'
  have f1 := Tbl.create_fit ok0 1
  rw [e1] at f1
  have s2' := Tbl.create_step ⟨7, ⟨[], es, 1⟩, [ob d1 1]⟩ 2
  rw [e2] at s2'
  have f2 := Tbl.create_fit (s1'.ok ok0) 2
  rw [e2] at f2
  have s3' := Tbl.restrict_step ⟨7, ⟨[], es, 2⟩, [ob d1 1, ob d2 2]⟩ ⟨7, 0, 255, d1⟩ mask
  rw [e3] at s3'
  have f3 := Tbl.restrict_fit (s2'.ok (s1'.ok ok0)) f1 mask
  rw [e3] at f3
  have s4' := Tbl.revoke_step ⟨7, q3, [ob d1 1, ob d2 2]⟩ ⟨7, 1, 255, d2⟩
  rw [e4] at s4'
  have f4 := Tbl.revoke_fit (s3'.ok (s2'.ok (s1'.ok ok0))) f2
  rw [e4] at f4
  have ok1 := s1'.ok ok0
  have ok2 := s2'.ok ok1
  have ok3 := s3'.ok ok2
  have r3 := s3'.rs
  have r4 := s4'.rs
  simp only [List.length_nil] at r3
  obtain ⟨T1, hT1⟩ : ∃ T1 : Tbl, T1 = ⟨7, ⟨[], es, 1⟩, [ob d1 1]⟩ := ⟨_, rfl⟩
  obtain ⟨T2, hT2⟩ : ∃ T2 : Tbl, T2 = ⟨7, ⟨[], es, 2⟩, [ob d1 1, ob d2 2]⟩ := ⟨_, rfl⟩
  obtain ⟨T3, hT3⟩ : ∃ T3 : Tbl, T3 = ⟨7, q3, [ob d1 1, ob d2 2]⟩ := ⟨_, rfl⟩
  obtain ⟨T4, hT4⟩ : ∃ T4 : Tbl, T4 = tblForged q4 d1 d2 sec := ⟨_, rfl⟩
  obtain ⟨a, ha⟩ : ∃ a : Cp, a = ⟨7, 0, 255, d1⟩ := ⟨_, rfl⟩
  obtain ⟨b, hb⟩ : ∃ a : Cp, a = ⟨7, 1, 255, d2⟩ := ⟨_, rfl⟩
  obtain ⟨r, hr⟩ : ∃ a : Cp, a = ⟨7, 0, mask, y⟩ := ⟨_, rfl⟩
  obtain ⟨n, hnn⟩ : ∃ a : Cp, a = ⟨7, 1, 255, sec⟩ := ⟨_, rfl⟩
  have hgood : ∀ c ∈ [a, r, n], (T4.check c need).1.2 = if c.r &&& need ≠ need then some 2 else none := by
    intro c hc
    rw [ha, hr, hnn] at hc
    rw [hT4, forged_good kn1 kn2 kn3 hc need]
    split <;> rfl
  have hbad : ∀ c : Cp, c.r < 256 → (T4.check c need).1 = (0, some 1) ∨ c.k ∈ spreadL 40 := by
    intro c hc
    rw [hT4, ← hes]
    have := fair.check_or (c := c) hc (by rw [hq4]; exact hat4) need
    rw [hq4] at this
    exact this
  rw [← hT1, ← ha] at e1
  rw [← hT1, ← hT2, ← hb] at e2
  rw [← hT2, ← hT3, ← ha, ← hr] at e3
  rw [← hT3, ← hb, ← hnn] at e4
  replace e4 : T3.revoke b = ((n, none), T4) := by rw [e4, hT4]; rfl
  replace f1 : a.Fit := by rw [ha]; exact f1
  replace f2 : b.Fit := by rw [hb]; exact f2
  replace f3 : r.Fit := by rw [hr]; exact f3
  replace f4 : n.Fit := by rw [hnn]; exact f4
  replace ok1 : T1.Ok := by rw [hT1]; exact ok1
  replace ok2 : T2.Ok := by rw [hT2]; exact ok2
  replace ok3 : T3.Ok := by rw [hT3]; exact ok3
  replace r3 : T3.orc.rs.length ≤ 2 := by rw [hT3]; simpa using r3
  have r2 : T2.orc.rs.length ≤ 2 := by rw [hT2]; simp
  replace r4 : T4.orc.rs.length ≤ 4 := by rw [hT3] at r3; rw [hT4]; exact Nat.le_trans r4 (by simp only at r3 ⊢; omega)
  have hi1 := bc.lt
  simp [pf3_28, pf3_27]
  refine Ev.mono (create_eq hT ok0 e1) ?_
  rintro v s5 ⟨hc5, F5, hg5, hT5, rfl⟩
  replace bc := bc.step hc5 hg5
  obtain ⟨x6, b6, k6⟩ := box_new (F := F5) (s := s5) [.int .u64 0, .int .u32 0, .int .u8 0, .int .u64 0] a hT5.lt
  simp [capE, errV, write_new]
  obtain ⟨s6, hs6⟩ : ∃ t, t = (s5.new (.cells [.int .u64 0, .int .u32 0, .int .u8 0, .int .u64 0] 0 false)).set s5.ctr (some (.cells (Cp.cells a) 0 false)) := ⟨_, rfl⟩
  rw [← hs6] at x6 b6 k6 ⊢
  replace hT5 := hT5.ext x6
  replace bc := bc.ext x6
  simp [pf3_26]
  refine Ev.mono (create_eq hT5 ok1 e2) ?_
  rintro v s7 ⟨hc7, F7, hg7, hT7, rfl⟩
  replace bc := bc.step hc7 hg7
  replace b6 := b6.step hc7 hg7
  obtain ⟨x8, b8, k8⟩ := box_new (F := F7) (s := s7) [.int .u64 0, .int .u32 0, .int .u8 0, .int .u64 0] b hT7.lt
  simp [capE, errV, write_new]
  obtain ⟨s8, hs8⟩ : ∃ t, t = (s7.new (.cells [.int .u64 0, .int .u32 0, .int .u8 0, .int .u64 0] 0 false)).set s7.ctr (some (.cells (Cp.cells b) 0 false)) := ⟨_, rfl⟩
  rw [← hs8] at x8 b8 k8 ⊢
  replace hT7 := hT7.ext x8
  replace bc := bc.ext x8
  replace b6 := b6.ext x8
  simp [pf3_25, b6.rd4]
  refine Ev.mono (restrict_eq hT7 (by omega) f1 hm e3) ?_
  rintro v s9 ⟨hc9, F9, hg9, hT9, rfl⟩
  replace bc := bc.step hc9 hg9
  replace b6 := b6.step hc9 hg9
  replace b8 := b8.step hc9 hg9
  obtain ⟨x10, b10, k10⟩ := box_new (F := F9) (s := s9) [.int .u64 0, .int .u32 0, .int .u8 0, .int .u64 0] r hT9.lt
  simp [capE, errV, write_new]
  obtain ⟨s10, hs10⟩ : ∃ t, t = (s9.new (.cells [.int .u64 0, .int .u32 0, .int .u8 0, .int .u64 0] 0 false)).set s9.ctr (some (.cells (Cp.cells r) 0 false)) := ⟨_, rfl⟩
  rw [← hs10] at x10 b10 k10 ⊢
  replace hT9 := hT9.ext x10
  replace bc := bc.ext x10
  replace b6 := b6.ext x10
  replace b8 := b8.ext x10
  simp [pf3_24, b8.rd4]
  refine Ev.mono (revoke_eq hT9 ok3 (by omega) f2 e4) ?_
  rintro v s11 ⟨hc11, F11, hg11, hT11, rfl⟩
  replace bc := bc.step hc11 hg11
  replace b6 := b6.step hc11 hg11
  replace b8 := b8.step hc11 hg11
  replace b10 := b10.step hc11 hg11
  obtain ⟨x12, b12, k12⟩ := box_new (F := F11) (s := s11) [.int .u64 0, .int .u32 0, .int .u8 0, .int .u64 0] n hT11.lt
  simp [capE, errV, write_new]
  obtain ⟨s12, hs12⟩ : ∃ t, t = (s11.new (.cells [.int .u64 0, .int .u32 0, .int .u8 0, .int .u64 0] 0 false)).set s11.ctr (some (.cells (Cp.cells n) 0 false)) := ⟨_, rfl⟩
  rw [← hs12] at x12 b12 k12 ⊢
  replace hT11 := hT11.ext x12
  replace bc := bc.ext x12
  replace b6 := b6.ext x12
  replace b8 := b8.ext x12
  replace b10 := b10.ext x12
  simp [pf3_23, pf3_21, pf3_22, pf3_19, b6.rd4, b10.rd4, b12.rd4, Cp.cells]
  have xz : Ext s12 (s12.new (.cells (rowsOf Cp.cells [a, r, n]) 0 false)) := by simp
  have n1 : s.ctr < s12.ctr := bc.lt
  exact forged_mid a r n need hn (by omega) own ho hgood hbad (hT11.ext xz) hc (bc.ext xz) f2 (b8.ext xz) (b := s12.ctr) (by omega) (by simp) (fun h => by have := hT11.lt _ h; omega) (by simp) ⟨f1, f3, f4⟩ (by simp) (by simp) (by simp) (by simp) (by simp) (by simp)
end Go.Ab
