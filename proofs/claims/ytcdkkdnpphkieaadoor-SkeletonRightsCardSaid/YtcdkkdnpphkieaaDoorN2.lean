/- 'SkeletonRights' over the abstract machine. -/
import Derived.Test.YtcdkkdnpphkieaaDoorN1
namespace Go.Ab

set_option maxRecDepth 100000 in
theorem bit3 : ∀ k < 3, ∀ mask < 256, (mask &&& 2 ^ k = 2 ^ k ∨ mask &&& 2 ^ k = 0) := by decide

theorem Sx.fresh {s : S} {xp : Nat} (h : s.get xp = some (.cells [.snil, .snil] 0 false)) (hl : xp < s.ctr) : Sx s xp ⟨[], []⟩ [xp] :=
  ⟨.snil, .snil, [], [], h, by simpa [u64s] using OwnF.nil 1 s, by simpa [i64s] using OwnF.nil 1 s, by simp, hl, (fun _ hx => by cases hx), by simp, by simp⟩

/-- The plain law: of a table with one object, whose capability is restricted. -/
theorem rights_run (es : List Nat) (d y0 : Nat) (h0 : es[0]? = some d) (h1 : es[1]? = some y0) (hd : d < w48) (hy : y0 < w48) (mask : Nat) (hm : mask < 256) :
    ∃ y q, (⟨5, ⟨[], es, 1⟩, [⟨true, d, 0, 4, 24⟩]⟩ : Tbl).restrict ⟨5, 0, 255, d⟩ mask = ((⟨5, 0, mask, y⟩, none), ⟨5, q, [⟨true, d, 0, 4, 24⟩]⟩) ∧ y < w48 ∧ q.rs.length ≤ 1 ∧
      ∀ need, (⟨5, q, [⟨true, d, 0, 4, 24⟩]⟩ : Tbl).check ⟨5, 0, mask, y⟩ need = (if mask &&& need ≠ need then (0, some 2) else (0, none), ⟨5, q, [⟨true, d, 0, 4, 24⟩]⟩) := by
  have hdm : d % w48 = d := Nat.mod_eq_of_lt hd
  have hg : ∀ q : Orc, (⟨5, q, [⟨true, d, 0, 4, 24⟩]⟩ : Tbl).get 0 = some ⟨true, d, 0, 4, 24⟩ := fun q => rfl
  obtain ⟨a, q, ht⟩ : ∃ a q, (⟨[], es, 1⟩ : Orc).tok d mask = (a, q) := ⟨_, _, rfl⟩
  have hrs : q.rs.length ≤ 1 := by have := Orc.tok_rs (q := ⟨[], es, 1⟩) (s := d) (r := mask); rw [ht] at this; simpa using this
  have ha : ∃ y, a = some y ∧ y < w48 := by
    unfold Orc.tok at ht
    split at ht
    · cases ht; exact ⟨_, rfl, Nat.mod_lt _ (by decide)⟩
    · simp only [Orc.ask, Orc.known, List.find?_nil, Option.map_none, h1] at ht
      cases ht; exact ⟨_, rfl, hy⟩
  obtain ⟨y, rfl, hyw⟩ := ha
  refine ⟨y, q, ?_, hyw, hrs, fun need => ?_⟩
  · unfold Tbl.restrict
    rw [Tbl.check_ok (T := ⟨5, ⟨[], es, 1⟩, [⟨true, d, 0, 4, 24⟩]⟩) (q := ⟨[], es, 1⟩) rfl (hg _) (by simp [Orc.tok, hdm])]
    simp only [Nat.and_zero, ne_eq, not_true_eq_false, if_false]
    rw [hg]
    simp only [and255 mask hm, ht]
  · exact Tbl.check_ok (T := ⟨5, q, [⟨true, d, 0, 4, 24⟩]⟩) rfl (hg _) (Orc.tok_idem ht) need

set_option maxRecDepth 10000 in
set_option maxHeartbeats 1000000 in
theorem rights_ok (mask op : Nat) (hm : mask < 256) (ho : op < 256) (s : S) : Ev tab 9 [.int .u8 mask, .int .u8 op] s fun v _ => v = .bool true := by
  refine Ev.intro rfl rfl rfl ?_
  simp [pf9, pf9_12, pf9_11, pf9_10]
  refine ev_awake24 ?_
  simp [pf9_8]
  obtain ⟨es, hes⟩ : ∃ es, es = [1048576, 2097152, 3145728] := ⟨_, rfl⟩
  obtain ⟨s1, hs1⟩ : ∃ t, t = s.new (.cells [.int .u64 1048576, .int .u64 2097152, .int .u64 3145728] 0 false) := ⟨_, rfl⟩
  have x1 : Ext s s1 := by rw [hs1]; simp
  have hN : NumsAt s1 (.slice s.ctr 0 3 3 false) es := by
    refine ⟨by rw [hes]; rfl, .inr (.inr ⟨s.ctr, 3, false, by rw [hes]; rfl, by rw [hs1]; simp, fun i n hi => ?_⟩)⟩
    rw [Nat.zero_add, Nat.mul_one]
    refine read_one (l := [.int .u64 1048576, .int .u64 2097152, .int .u64 3145728]) (ro := false) (opn := 0) (by rw [hs1]; simp) ?_
    rw [hes] at hi
    match i, hi with
    | 0, hi => cases hi; rfl
    | 1, hi => cases hi; rfl
    | 2, hi => cases hi; rfl
  have hcut : es.map (· % w48) = es := by rw [hes]; rfl
  rw [← hs1]
  refine Ev.mono (tapeOf_ok hN (by rw [hes]; simp)) ?_
  rintro v s2 ⟨hx2, tp0, F0, rfl, hTp, hF0⟩
  simp
  refine Ev.mono (oracleOf_ok hTp) ?_
  rintro v s3 ⟨hx3, op', F1, rfl, hO, hg1⟩
  simp
  refine Ev.mono (objectsOf_ok hO 5) ?_
  rintro v s4 ⟨hx4, tp, rfl, htp, hT⟩
  rw [hcut] at hT
  simp [pf9_7, pf9_6]
  obtain ⟨s5, hs5⟩ : ∃ t, t = s4.new (.cells [.snil, .snil] 0 false) := ⟨_, rfl⟩
  have x5 : Ext s4 s5 := by rw [hs5]; simp
  have hX : Sx s5 s4.ctr ⟨[], []⟩ [s4.ctr] := Sx.fresh (by rw [hs5]; simp) (by rw [hs5]; simp)
  rw [← hs5]
  refine Ev.mono (skOf_ok (.ptr tp 0) (.iface 71 (.ptr s4.ctr 0)) rfl rfl rfl rfl s5) ?_
  rintro v s6 ⟨rfl, hs6⟩
  have x6 : Ext s5 s6 := by rw [hs6]; simp
  have hT6 := hT.ext (x5.trans x6)
  have hlt := hT.lt
  have hc5 : s5.ctr = s4.ctr + 1 := by rw [hs5]; rfl
  have H : Sy s6 s5.ctr tp s4.ctr ⟨5, ⟨[], es, 0⟩, []⟩ ⟨[], []⟩ (tp :: F1) [s4.ctr] :=
    ⟨by rw [hs6]; simp; rfl, by rw [hs6]; simp, hT6, hX.ext x6, fun x hx => by have := hlt x hx; simp; omega, fun hx => by
      rcases List.mem_append.1 hx with h | h
      · have := hlt _ h; omega
      · simp at h; omega⟩
  have ok0 : Tbl.Ok ⟨5, ⟨[], es, 0⟩, []⟩ := Tbl.Ok.fresh (by omega) (by rw [hes]; unfold w48; simp)
  obtain ⟨T1, hT1⟩ : ∃ T : Tbl, T = ⟨5, ⟨[], es, 1⟩, [⟨true, 1048576, 0, 4, 24⟩]⟩ := ⟨_, rfl⟩
  have e1 : (⟨5, ⟨[], es, 0⟩, []⟩ : Tbl).create 4 = ((⟨5, 0, 255, 1048576⟩, none), T1) := by simp [hT1, Tbl.create, lowest, Orc.draw, hes]
  have ok1 := (Tbl.create_step _ 4).ok ok0
  rw [e1] at ok1
  replace ok1 : T1.Ok := ok1
  obtain ⟨y, q, e2, hyw, hqr, hchk⟩ := rights_run es 1048576 2097152 (by rw [hes]; rfl) (by rw [hes]; rfl) (by decide) (by decide) mask hm
  obtain ⟨T2, hT2⟩ : ∃ T : Tbl, T = ⟨5, q, [⟨true, 1048576, 0, 4, 24⟩]⟩ := ⟨_, rfl⟩
  rw [← hT1, ← hT2] at e2
  rw [← hT2] at hchk
  have ok2 := (Tbl.restrict_step T1 ⟨5, 0, 255, 1048576⟩ mask).ok ok1
  rw [e2] at ok2
  replace ok2 : T2.Ok := ok2
  obtain ⟨own, hown⟩ : ∃ c : Cp, c = ⟨5, 0, 255, 1048576⟩ := ⟨_, rfl⟩
  obtain ⟨c, hc⟩ : ∃ c : Cp, c = ⟨5, 0, mask, y⟩ := ⟨_, rfl⟩
  rw [← hown] at e1 e2
  rw [← hc] at e2 hchk
  have fown : own.Fit := by rw [hown]; exact ⟨by simp, by simp, by simp, by simp⟩
  have fc : c.Fit := by rw [hc]; exact ⟨by simp, by simp, by simpa using hm, by unfold w48 at hyw; simp only; omega⟩
  have hC := H.start
  simp [pf9_5, pf9_4]
  refine Ev.mono (create_eq hC.sy.tb ok0 e1) ?_
  rintro v s7 ⟨hc7, F7, hg7, hT7, rfl⟩
  replace hC := hC.t hc7 hg7 hT7
  obtain ⟨x8, b8, k8⟩ := box_new (F := F7 ++ [s4.ctr]) (s := s7) [.int .u64 0, .int .u32 0, .int .u8 0, .int .u64 0] own hC.sy.flt
  simp [capE, errV, write_new]
  obtain ⟨s8, hs8⟩ : ∃ t, t = (s7.new (.cells [.int .u64 0, .int .u32 0, .int .u8 0, .int .u64 0] 0 false)).set s7.ctr (some (.cells own.cells 0 false)) := ⟨_, rfl⟩
  rw [← hs8] at x8 b8 k8 ⊢
  replace hC := hC.ext x8
  have r1 : T1.orc.rs.length = 0 := by rw [hT1]; rfl
  simp [pf9_3, b8.rd4]
  refine Ev.mono (restrict_eq hC.sy.tb (by omega) fown hm e2) ?_
  rintro v s9 ⟨hc9, F9, hg9, hT9, rfl⟩
  replace hC := hC.t hc9 hg9 hT9
  obtain ⟨x10, b10, k10⟩ := box_new (F := F9 ++ [s4.ctr]) (s := s9) [.int .u64 0, .int .u32 0, .int .u8 0, .int .u64 0] c hC.sy.flt
  simp [capE, errV, write_new]
  obtain ⟨s10, hs10⟩ : ∃ t, t = (s9.new (.cells [.int .u64 0, .int .u32 0, .int .u8 0, .int .u64 0] 0 false)).set s9.ctr (some (.cells c.cells 0 false)) := ⟨_, rfl⟩
  rw [← hs10] at x10 b10 k10 ⊢
  replace hC := hC.ext x10
  have t3 : (op : Int).tmod 3 = ((op % 3 : Nat) : Int) := rfl
  obtain ⟨k, hk⟩ : ∃ k, k = op % 3 := ⟨_, rfl⟩
  rw [← hk] at t3
  have hk3 : k < 3 := by omega
  have w16 : IntKind.u16.wrap (k : Int) = k := by simp [IntKind.wrap, IntKind.signed, IntKind.bits]; omega
  have w16b : IntKind.u16.wrap (100 + (k : Int)) = ((100 + k : Nat) : Int) := by simp [IntKind.wrap, IntKind.signed, IntKind.bits]; omega
  obtain ⟨o100, ho100⟩ : ∃ o, o = 100 + k := ⟨_, rfl⟩
  rw [← ho100] at w16b
  obtain ⟨M, hM⟩ : ∃ M : Ms, M = ⟨0, 0, 0, o100, 0, c.p, c.o, c.r, c.k, 7, []⟩ := ⟨_, rfl⟩
  have hMc : M.cap = c := by rw [hM]; rfl
  have hMf : M.fit := by
    have f1 := fc.p; have f2 := fc.o; have f3 := fc.r; have f4 := fc.k
    rw [hM]; unfold Ms.fit; simp; omega
  have hsvr := svServe_ok (x := ⟨[], []⟩) hC.sy ok2 (by rw [hT2]; simp only; omega) ⟨by simp, by simp⟩ hMf (d := .snil) (by rw [hM]; exact Bytes.nil _) trivial
  have hneed : svc.need M.op = (2 ^ k, true) := by
    have : M.op = 100 + k := by rw [hM]; exact ho100
    show svNeedOf M.op = _
    rw [this]
    unfold svNeedOf
    rw [if_neg (by omega), if_neg (by omega)]
    congr 1; congr 1; omega
  have hmay : M.cap.may = true := by rw [hMc, hc]; simp [Cp.may, hyw]; unfold w48; omega
  have hMop : M.op = 100 + k := by rw [hM]; exact ho100
  have hrun : svc.run T2 ⟨[], []⟩ M = if mask &&& 2 ^ k ≠ 2 ^ k then ((Rs.zero, some 2), T2, ⟨[], []⟩) else svc.act T2 ⟨[], []⟩ M.op 4 M := by
    have hg : T2.get 0 = some ⟨true, 1048576, 0, 4, 24⟩ := by rw [hT2]; rfl
    unfold Sv.run
    rw [hmay, hneed, hMc, hchk]
    have q1 : ¬ M.op = 1 := by omega
    have q2 : ¬ M.op = 2 := by omega
    have q3 : ¬ M.op = 3 := by omega
    have q4 : ¬ M.op = 4 := by omega
    have q5 : ¬ M.op = 5 := by omega
    have q6 : ¬ M.op < 100 := by omega
    by_cases hb : mask &&& 2 ^ k = 2 ^ k
    · simp [q1, q2, q3, q4, q5, q6, hb, hg]
    · simp [q1, q2, q3, q4, q5, q6, hb]
  simp [pf9_2, t3, w16, w16b, b10.rd4, Cp.cells]
  have hMcells : [AV.int .u64 0, .int .u64 0, .int .u32 0, .int .u16 o100, .int .u16 0, .int .u64 c.p, .int .u32 c.o, .int .u8 c.r, .int .u64 c.k, .int .u64 7, .snil] = M.cells .snil := by rw [hM]; rfl
  rw [hMcells]
  refine Ev.mono hsvr ?_
  rintro v s11 ⟨G1, G2, w, HS, hw, hwo, rfl⟩
  obtain ⟨R, hR⟩ : ∃ R, R = M.reply_ (svc.run T2 ⟨[], []⟩ M).1 := ⟨_, rfl⟩
  rw [← hR] at hw ⊢
  have hwf := hw.flat
  obtain ⟨s12, hs12⟩ : ∃ t, t = (s11.new (.cells zMs 0 false)).set s11.ctr (some (.cells (R.cells w) 0 false)) := ⟨_, rfl⟩
  have x12 : Ext s11 s12 := by rw [hs12]; simp
  have wn : (s11.new (.cells [.int .u64 0, .int .u64 0, .int .u32 0, .int .u16 0, .int .u16 0, .int .u64 0, .int .u32 0, .int .u8 0, .int .u64 0, .int .u64 0, .snil] 0 false)).write s11.ctr 0 (R.cells w) = some s12 := by
    rw [wrc (sz := 0) (c := zMs) (by simp [zMs]) (by simp [zMs]) (Ms.cells_flat hwf), over11 _ _ _ rfl, hs12]
    rfl
  have q12 : Bg s12 s11.ctr (R.cells w) [] := ⟨by rw [hs12]; simp, by rw [hs12]; simp, by simp⟩
  have rst : s12.read s11.ctr 4 1 = some [.int .u16 (R.st : Int)] := by rw [rd q12.get (by simp)]; rfl
  have rar : s12.read s11.ctr 9 1 = some [.int .u64 (R.arg : Int)] := by rw [rd q12.get (by simp)]; rfl
  obtain ⟨vd, vg, fd, fg, hxp, hod, _⟩ := HS.sy.sx.ext x12
  have hdl : hod.1 = hod.1 := rfl
  have wl := OwnF.wlen hod
  obtain ⟨D, hD⟩ : ∃ D, D = (svc.run T2 ⟨[], []⟩ M).2.2.done.length := ⟨_, rfl⟩
  rw [← hD] at wl
  have b8 : IntKind.u8.wrap (2 ^ min k IntKind.u8.bits) = ((2 ^ k : Nat) : Int) := by
    have : k = 0 ∨ k = 1 ∨ k = 2 := by omega
    rcases this with h | h | h <;> rw [h] <;> rfl
  have hpk : 2 ^ k < 256 := by
    have : k = 0 ∨ k = 1 ∨ k = 2 := by omega
    rcases this with h | h | h <;> rw [h] <;> decide
  have hband := band8 mask (2 ^ k) hm hpk
  have hkn : ¬ (k : Int) < 0 := by omega
  simp [wn]
  rcases bit3 k hk3 mask hm with hb | hb
  · have hrun' : svc.run T2 ⟨[], []⟩ M = svc.act T2 ⟨[], []⟩ M.op 4 M := by rw [hrun, if_neg (by simpa using hb)]
    have h103 : ¬ M.op = 103 := by omega
    have hMarg : M.arg = 7 := by rw [hM]
    have eR1 : R.st = 0 := by rw [hR, hrun']; simp [svc, h103, Ms.reply_, Ms.answer]
    have eR2 : R.arg = 8 := by rw [hR, hrun']; simp [svc, h103, Ms.reply_, Ms.answer, hMarg]
    have eD : D = 1 := by rw [hD, hrun']; simp [svc, h103]
    rw [eR1] at rst
    rw [eR2] at rar
    rw [eD] at wl
    rw [hb] at hband
    obtain ⟨z, hz⟩ : ∃ z, z = 2 ^ k := ⟨_, rfl⟩
    have hz0 : ¬ (z : Int) = 0 := by
      have : 0 < 2 ^ k := Nat.pow_pos (by omega)
      omega
    have hz0' : ¬ z = 0 := by omega
    rw [← hz] at hband b8
    simp [pf9_1, t3, hkn, b8, hband, hz0, hz0', -binV_and]
    simp [pf9_0, rst, rar, rd hxp, wl]
  · have hne : ¬ mask &&& 2 ^ k = 2 ^ k := by
      rw [hb]
      have : 0 < 2 ^ k := Nat.pow_pos (by omega)
      omega
    have hrun' : svc.run T2 ⟨[], []⟩ M = ((Rs.zero, some 2), T2, ⟨[], []⟩) := by rw [hrun, if_pos hne]
    have eR1 : R.st = 2 := by rw [hR, hrun']; simp [Ms.reply_, Ms.answer]
    have eD : D = 0 := by rw [hD, hrun']; rfl
    rw [eR1] at rst
    rw [eD] at wl
    rw [hb] at hband
    obtain ⟨z, hz⟩ : ∃ z, z = 2 ^ k := ⟨_, rfl⟩
    rw [← hz] at hband b8
    simp [pf9_1, t3, hkn, b8, hband, -binV_and]
    simp [pf9_0, rst, rar, rd hxp, wl]
end Go.Ab
