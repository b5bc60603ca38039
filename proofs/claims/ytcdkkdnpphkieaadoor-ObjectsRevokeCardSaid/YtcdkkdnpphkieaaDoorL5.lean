/- 'ObjectsGone' over the abstract machine. -/
import Derived.Test.YtcdkkdnpphkieaaDoorL4
namespace Go.Ab

@[simp] theorem Cp.flat_all (c : Cp) : (∀ x, x ∈ c.cells → isFlat x = true) ↔ True := ⟨fun _ => trivial, fun _ x hx => List.all_eq_true.1 c.cells_flat x hx⟩

/-- A capability behind others. -/
theorem cap_app {s : S} {v : AV} {l : List Cp} {F : List Nat} (c : Cp) (h : OwnR Cp.cells 4 s v l F) (hl : l.length ≤ 5000000000000) {Q : AV → S → Prop} (hq : ∀ v' s' F', OwnR Cp.cells 4 s' v' (l ++ [c]) F' → Chg F s s' → Grow F F' s.ctr → Q v' s') :
    cont ((s.new (.cells c.cells 0 false)).app 4 24 v (.slice s.ctr 0 1 1 false)) Q := by
  refine cont_app_ownF (m := 1) (ds := c.cells) (OwnF.ext h (by simp)) rfl ?_ rfl (Cp.cells_flat c) (rowsOf_flat Cp.cells_flat _) (by omega) (by omega) (by omega) ?_
  · simp [S.cellsOf, S.read]; rfl
  intro v' s' F' hO hc hg
  have x : Ext s (s.new (.cells c.cells 0 false)) := by simp
  refine hq v' s' F' ?_ ((x.chg _).trans hc) (hg.le (by simp))
  unfold OwnR
  simpa [rowsOf_append, rowsOf_cons] using hO

def goneCaps (es : List Nat) (k : Nat) : List Cp := (List.range k).map fun i => ⟨7, i, 255, es.getD i 0⟩

set_option maxRecDepth 10000 in
set_option maxHeartbeats 1000000 in
theorem gone_ok (mask n : Nat) (hm : mask < 256) (hn : n < 256) (s : S) : Ev tab 6 [.int .u8 mask, .int .u8 n] s fun v _ => v = .bool true := by
  refine Ev.intro rfl rfl rfl ?_
  simp [pf6, pf6_22, pf6_21, pf6_20]
  refine ev_awake23 ?_
  simp [pf6_18]
  refine Ev.mono (spread_ok 40 (by omega) s) ?_
  rintro v s1 ⟨hx1, hN⟩
  simp
  refine Ev.mono (tapeOf_ok hN (by simp [spread_len])) ?_
  rintro v s2 ⟨hx2, tp0, F0, rfl, hTp, hF0⟩
  simp
  refine Ev.mono (oracleOf_ok hTp) ?_
  rintro v s3 ⟨hx3, op, F1, rfl, hO, hg1⟩
  simp
  refine Ev.mono (objectsOf_ok hO 7) ?_
  rintro v s4 ⟨hx4, tp, rfl, htp, hT⟩
  obtain ⟨hx, hT, hF⟩ := tbl_ready (by omega) hx1 hx2 hF0 hx3 hg1 hx4 htp hT
  have hcl := spread_clean (n := 40) (by omega)
  have hw : ∀ y ∈ spreadL 40, y < w48 := spread_w (by omega)
  have hel := spread_len 40
  obtain ⟨es, hes⟩ : ∃ es, es = spreadL 40 := ⟨_, rfl⟩
  rw [← hes] at hT hcl hw hel
  have t8 : (n : Int).tmod 8 = ((n % 8 : Nat) : Int) := rfl
  obtain ⟨N, hN8⟩ : ∃ N, N = n % 8 := ⟨_, rfl⟩
  rw [← hN8] at t8
  have hN7 : N < 8 := by omega
  have wN : IntKind.i64.wrap (N : Int) = N := by rw [wrap_i64] <;> omega
  have okk : ∀ k, k ≤ 40 → Tbl.Ok ⟨7, ⟨[], es, k⟩, objs es k⟩ := by
    intro k
    induction k with
    | zero => intro _; exact Tbl.Ok.fresh (by omega) hw
    | succ k ih =>
      intro hk
      have h1 := (Tbl.create_step _ k).ok (ih (by omega))
      rw [objs_create es k (by omega) (by omega)] at h1
      exact h1
  simp [pf6_17, pf6_16, pf6_15]
  refine WpC.loop (fun m r' s' => ∃ k F Fh, k ≤ N + 1 ∧ m = N + 1 - k ∧ r' 0 = .int .u8 mask ∧ r' 1 = .int .u8 n ∧ r' 5 = .ptr tp 0 ∧ r' 7 = .int .i64 (k : Nat) ∧ Tb s' tp ⟨7, ⟨[], es, k⟩, objs es k⟩ F ∧ OwnR Cp.cells 4 s' (r' 6) (goneCaps es k) Fh ∧ Apart F Fh) (m := N + 1) ?_ ?_
  · exact ⟨0, _, [], by omega, rfl, by simp, by simp, by simp, by simp, hT, OwnF.nil _ _, fun _ _ => by simp⟩
  rintro m r' s' ⟨k, F, Fh, hk, rfl, e0, e1, e5, e7, hTk, hOk, hap⟩
  by_cases hlt : k ≤ N
  · have hlt' : (k : Int) ≤ N := by omega
    have w1 : IntKind.i64.wrap ((k : Int) + 1) = ((k + 1 : Nat) : Int) := by rw [wrap_i64] <;> omega
    simp [pf6_14, pf6_13, e7, e1, t8, wN, hlt', pf6_11, e5]
    refine Ev.mono (create_eq hTk (okk k (by omega)) (objs_create es k (by omega) (by omega))) ?_
    rintro v s5 ⟨hc5, F5, hg5, hT5, rfl⟩
    have hO5 := OwnF.chg hOk hc5 hap.symm
    have hap5 : Apart F5 Fh := hap.grow hg5 (OwnF.lt hOk)
    obtain ⟨c, hc⟩ : ∃ c : Cp, c = ⟨7, k, 255, es.getD k 0⟩ := ⟨_, rfl⟩
    rw [← hc]
    obtain ⟨x6, b6, k6⟩ := box_new (F := F5) (s := s5) [.int .u64 0, .int .u32 0, .int .u8 0, .int .u64 0] c hT5.lt
    simp [capE, errV, write_new]
    obtain ⟨s6, hs6⟩ : ∃ t, t = (s5.new (.cells [.int .u64 0, .int .u32 0, .int .u8 0, .int .u64 0] 0 false)).set s5.ctr (some (.cells (Cp.cells c) 0 false)) := ⟨_, rfl⟩
    rw [← hs6] at x6 b6 k6 ⊢
    have hT6 := hT5.ext x6
    have hO6 : OwnR Cp.cells 4 s6 (r' 6) (goneCaps es k) Fh := OwnF.ext hO5 x6
    have hl6 : (goneCaps es k).length = k := by simp [goneCaps]
    simp [pf6_10, b6.rd4, Cp.cells_flat]
    refine cap_app c hO6 (by omega) ?_
    intro v7 s7 F7 hO7 hc7 hg7
    simp [pf6_12, e7, w1, e0, e1, e5, -Int.natCast_add]
    refine ⟨N + 1 - (k + 1), by omega, k + 1, by omega, rfl, rfl, F5, ?_, F7, ?_, ?_⟩
    · exact hT6.chg hc7 hap5
    · have : goneCaps es (k + 1) = goneCaps es k ++ [c] := by simp [goneCaps, List.range_succ, hc]
      rw [this]
      exact hO7
    · exact (hap5.symm.grow hg7 hT6.lt).symm
  · obtain rfl : k = N + 1 := by omega
    obtain ⟨K, hK⟩ : ∃ K, K = (N + 1) / 2 := ⟨_, rfl⟩
    have hKN : K < N + 1 := by omega
    have hlc : (goneCaps es (N + 1)).length = N + 1 := by simp [goneCaps]
    have hgk : (goneCaps es (N + 1))[K]? = some ⟨7, K, 255, es.getD K 0⟩ := by simp [goneCaps, hKN]
    have wl := OwnF.wlen hOk
    rw [hlc] at wl
    have w2 : IntKind.i64.wrap (((N + 1 : Nat) : Int) / 2) = (K : Int) := by
      rw [show ((N + 1 : Nat) : Int) / 2 = ((N + 1) / 2 : Nat) from rfl, ← hK, wrap_i64] <;> omega
    have hlt2 : ¬ (N + 1 : Nat) ≤ (N : Int) := by omega
    obtain ⟨N1, hN1⟩ : ∃ N1, N1 = N + 1 := ⟨_, rfl⟩
    obtain ⟨y, sec, q3, q4, q5, e1', e2', e3', e4', e5', e6', r3, r4, r5⟩ := gone_run es hcl (N + 1) K mask hKN (by omega) (by omega) hm
    have okN := okk (N + 1) (by omega)
    obtain ⟨own, hown⟩ : ∃ c : Cp, c = ⟨7, K, 255, es.getD K 0⟩ := ⟨_, rfl⟩
    obtain ⟨r, hr⟩ : ∃ c : Cp, c = ⟨7, K, mask, y⟩ := ⟨_, rfl⟩
    obtain ⟨nx, hnx⟩ : ∃ c : Cp, c = ⟨7, K, 255, sec⟩ := ⟨_, rfl⟩
    have fown : own.Fit := by
      rw [hown]
      have h := hw (es.getD K 0) (by rw [List.getD_eq_getElem?_getD, List.getElem?_eq_getElem (by omega)]; exact List.getElem_mem _)
      exact ⟨by simp, by simp only; omega, by simp, by unfold w48 at h; simp only; omega⟩
    have fr := Tbl.restrict_fit okN fown mask
    have st1 := (Tbl.restrict_step ⟨7, ⟨[], es, N + 1⟩, objs es (N + 1)⟩ own mask).ok okN
    rw [hown, e1', ← hr] at fr
    rw [hown, e1'] at st1
    obtain ⟨TA, hTA⟩ : ∃ T : Tbl, T = ⟨7, ⟨[], es, N + 1⟩, objs es (N + 1)⟩ := ⟨_, rfl⟩
    obtain ⟨TB, hTB⟩ : ∃ T : Tbl, T = ⟨7, q3, objs es (N + 1)⟩ := ⟨_, rfl⟩
    obtain ⟨TC, hTC⟩ : ∃ T : Tbl, T = ⟨7, q3, (objs es (N + 1)).set K Ob.none⟩ := ⟨_, rfl⟩
    obtain ⟨TD, hTD⟩ : ∃ T : Tbl, T = ⟨7, q4, (objs es (N + 1)).set K (ob sec 99)⟩ := ⟨_, rfl⟩
    obtain ⟨TE, hTE⟩ : ∃ T : Tbl, T = ⟨7, q5, (objs es (N + 1)).set K (ob sec 99)⟩ := ⟨_, rfl⟩
    rw [← hTA, ← hTB, ← hr, ← hown] at e1'
    rw [← hTB, ← hTC, ← hown] at e2'
    rw [← hTC, ← hown] at e3'
    rw [← hTC, ← hTD, ← hnx] at e4'
    rw [← hTD, ← hown] at e5'
    rw [← hTD, ← hTE, ← hr] at e6'
    have st2 := (Tbl.destroy_step TB own).ok (by rw [hTB]; exact st1)
    rw [e2'] at st2
    replace st2 : TC.Ok := st2
    rw [← hTA] at hTk
    have rA : TA.orc.rs.length = 0 := by rw [hTA]; rfl
    have rB : TB.orc.rs.length ≤ 1 := by rw [hTB]; exact r3
    have rC : TC.orc.rs.length ≤ 1 := by rw [hTC]; exact r3
    have rD : TD.orc.rs.length ≤ 1 := by rw [hTD]; exact r4
    have hval : TE.get K = some (ob sec 99) := by
      rw [hTE]; simp [Tbl.get, hKN, ob]
    obtain ⟨bb, hv6, hFh, hrd5, hrd1⟩ := OwnR.load hOk Cp.cells_length hgk
    rw [hlc] at hv6
    rw [← hown] at hrd5
    rw [← hN1] at e7 hlt2 w2 wl hv6
    have hKN1 : K < N1 := by omega
    simp [pf6_14, pf6_13, e7, e1, t8, wN, hlt2, pf6_9, wl, hv6, w2, hKN1, hrd5, write_new]
    obtain ⟨x10, b10, k10⟩ := box_new (F := F) (s := s') [.int .u64 0, .int .u32 0, .int .u8 0, .int .u64 0] own hTk.lt
    obtain ⟨s10, hs10⟩ : ∃ t, t = (s'.new (.cells [.int .u64 0, .int .u32 0, .int .u8 0, .int .u64 0] 0 false)).set s'.ctr (some (.cells (Cp.cells own) 0 false)) := ⟨_, rfl⟩
    rw [← hs10] at x10 b10 k10 ⊢
    replace hTk := hTk.ext x10
    simp [pf6_8, e5, b10.rd4, e0]
    refine Ev.mono (restrict_eq hTk (by omega) fown hm e1') ?_
    rintro v s11 ⟨hc11, F11, hg11, hT11, rfl⟩
    replace b10 := b10.step hc11 hg11
    obtain ⟨x12, b12, k12⟩ := box_new (F := F11) (s := s11) [.int .u64 0, .int .u32 0, .int .u8 0, .int .u64 0] r hT11.lt
    simp [capE, errV, write_new]
    obtain ⟨s12, hs12⟩ : ∃ t, t = (s11.new (.cells [.int .u64 0, .int .u32 0, .int .u8 0, .int .u64 0] 0 false)).set s11.ctr (some (.cells (Cp.cells r) 0 false)) := ⟨_, rfl⟩
    rw [← hs12] at x12 b12 k12 ⊢
    replace hT11 := hT11.ext x12
    replace b10 := b10.ext x12
    simp [pf6_7, e5, b10.rd4]
    refine Ev.mono (destroy_eq hT11 (by omega) fown e2') ?_
    rintro v s13 ⟨hc13, F13, hg13, hT13, rfl⟩
    replace b10 := b10.step hc13 hg13
    replace b12 := b12.step hc13 hg13
    simp [errV, pf6_6, e5, b10.rd4]
    refine Ev.mono (check_eq hT13 (by omega) fown (m := 0) (by omega) e3') ?_
    rintro v s14 ⟨hc14, F14, hg14, hT14, rfl⟩
    replace b10 := b10.step hc14 hg14
    replace b12 := b12.step hc14 hg14
    simp [idxE, errV, pf6_5, pf6_4, e5]
    refine Ev.mono (create_eq hT14 st2 e4') ?_
    rintro v s15 ⟨hc15, F15, hg15, hT15, rfl⟩
    replace b10 := b10.step hc15 hg15
    replace b12 := b12.step hc15 hg15
    obtain ⟨x16, b16, k16⟩ := box_new (F := F15) (s := s15) [.int .u64 0, .int .u32 0, .int .u8 0, .int .u64 0] nx hT15.lt
    simp [capE, errV, write_new]
    obtain ⟨s16, hs16⟩ : ∃ t, t = (s15.new (.cells [.int .u64 0, .int .u32 0, .int .u8 0, .int .u64 0] 0 false)).set s15.ctr (some (.cells (Cp.cells nx) 0 false)) := ⟨_, rfl⟩
    rw [← hs16] at x16 b16 k16 ⊢
    replace hT15 := hT15.ext x16
    replace b10 := b10.ext x16
    replace b12 := b12.ext x16
    simp [pf6_3, e5, b10.rd4]
    refine Ev.mono (check_eq hT15 (by omega) fown (m := 0) (by omega) e5') ?_
    rintro v s17 ⟨hc17, F17, hg17, hT17, rfl⟩
    replace b10 := b10.step hc17 hg17
    replace b12 := b12.step hc17 hg17
    replace b16 := b16.step hc17 hg17
    simp [idxE, errV, pf6_2, e5, b12.rd4]
    refine Ev.mono (check_eq hT17 (by omega) fr (m := 0) (by omega) e6') ?_
    rintro v s18 ⟨hc18, F18, hg18, hT18, rfl⟩
    replace b16 := b16.step hc18 hg18
    simp [idxE, errV, pf6_1, e5]
    refine Ev.mono (value_ok hT18 K) ?_
    rintro v s19 ⟨rfl, rfl⟩
    have hno : nx.o = K := by rw [hnx]
    have hr1 := b16.rd1
    rw [hno] at hr1
    have wK : IntKind.i64.wrap (K : Int) = K := by rw [wrap_i64] <;> omega
    simp [hval, ob, pf6_0, hv6, w2, hr1, wK]
    refine ev_num ?_
    simp
    refine ev_num ?_
    simp
    refine ev_num ?_
    simp
end Go.Ab
