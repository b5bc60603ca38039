/- 'ObjectsRevoke' over the abstract machine: the second loop; the law. -/
import Derived.Test.YtcdkkdnpphkieaaDoorL6
namespace Go.Ab

set_option maxRecDepth 10000 in
theorem revoke_loop2 {es : List Nat} (hw : ∀ y ∈ es, y < w48) (hel : es.length = 200) {st0 st : S} {v mv tv : AV} {n0 tp b6 b8 d s i j i0 : Nat} {T : Tbl} {F Fh : List Nat} {old : List Cp}
    (hX : RvX st0 st n0 tp b6 b8 v es d s i j T F Fh old) (hold : OldOk es j old) (hA : T.orc.at_ + old.length ≤ 199) (hL : old.length ≤ 100) {K : KP} {R : Regs} (e0 : R 0 = mv) (e1 : R 1 = tv) (e5 : R 5 = .ptr tp 0) (e6 : R 6 = .ptr b6 0) (e7 : R 7 = .nilIface) (e8 : R 8 = .ptr b8 0) (e9 : R 9 = .nilIface) (e10 : R 10 = v) (e11 : R 11 = .int .i64 (i0 : Nat)) (e86 : R 86 = v) (e87 : R 87 = .int .i64 old.length) (e88 : R 88 = .int .i64 0)
    (hK : ∀ (R' : Regs) st' T' F', RvX st0 st' n0 tp b6 b8 v es d s i j T' F' Fh old → T'.orc.at_ ≤ T.orc.at_ + old.length → R' 0 = mv → R' 1 = tv → R' 5 = .ptr tp 0 → R' 6 = .ptr b6 0 → R' 7 = .nilIface → R' 8 = .ptr b8 0 → R' 9 = .nilIface → R' 10 = v → R' 11 = .int .i64 (i0 : Nat) → K (.exit 4) R' st') :
    WpC tab (.loop (pf5_12.seq pf5_11)) R st K := by
  refine WpC.loop (fun m R' st' => ∃ k T' F', k ≤ old.length ∧ m = old.length - k ∧ RvX st0 st' n0 tp b6 b8 v es d s i j T' F' Fh old ∧ T'.orc.at_ ≤ T.orc.at_ + k ∧ R' 0 = mv ∧ R' 1 = tv ∧ R' 5 = .ptr tp 0 ∧ R' 6 = .ptr b6 0 ∧ R' 7 = .nilIface ∧ R' 8 = .ptr b8 0 ∧ R' 9 = .nilIface ∧ R' 10 = v ∧ R' 11 = .int .i64 (i0 : Nat) ∧ R' 86 = v ∧ R' 87 = .int .i64 old.length ∧ R' 88 = .int .i64 (k : Nat)) (m := old.length) ?_ ?_
  · exact ⟨0, T, F, by omega, rfl, hX, by omega, e0, e1, e5, e6, e7, e8, e9, e10, e11, e86, e87, by simpa using e88⟩
  rintro m R st ⟨k, T', F', hk, rfl, hX', ha, e0, e1, e5, e6, e7, e8, e9, e10, e11, e86, e87, e88⟩
  by_cases hlt : k < old.length
  · obtain ⟨x, hx⟩ : ∃ x, old[k]? = some x := ⟨_, List.getElem?_eq_getElem hlt⟩
    obtain ⟨b, rfl, hFb, hrd, _⟩ := OwnR.load hX'.hold Cp.cells_length hx
    have w1 : IntKind.i64.wrap ((k : Int) + 1) = ((k + 1 : Nat) : Int) := by rw [wrap_i64] <;> omega
    obtain ⟨r, y, o, rfl, hr, hy, ho⟩ := hold x (List.mem_of_getElem? hx)
    have fx := fit7 hw (k := 1) (by omega) hr hy
    obtain ⟨q', c1, c2, c3, c4, c5⟩ := hX'.rv.old hr ho hy (by omega)
    have hsm := hX'.tb.small
    have st2 := Tbl.check_step T' ⟨7, 1, r, y⟩ 0
    rw [c1] at st2
    obtain ⟨cc, hcc⟩ : ∃ c : Cp, c = ⟨7, 1, r, y⟩ := ⟨_, rfl⟩
    rw [← hcc] at hrd c1 fx
    obtain ⟨x6, b6', k6⟩ := box_new (F := F') (s := st) [.int .u64 0, .int .u32 0, .int .u8 0, .int .u64 0] cc hX'.tb.lt
    simp [pf5_12, e88, e87, hlt, pf5_11, pf5_9, e86, hrd, write_new]
    obtain ⟨s6, hs6⟩ : ∃ t, t = (st.new (.cells [.int .u64 0, .int .u32 0, .int .u8 0, .int .u64 0] 0 false)).set st.ctr (some (.cells (Cp.cells cc) 0 false)) := ⟨_, rfl⟩
    rw [← hs6] at x6 b6' k6 ⊢
    have hX6 := hX'.ext x6
    simp [pf5_8, pf5_7, e5, b6'.rd4]
    refine Ev.mono (check_eq hX6.tb (by omega) fx (m := 0) (by omega) c1) ?_
    rintro v5 s5 ⟨hc5, F5, hg5, hT5, rfl⟩
    have hX5 := hX6.tbl hc5 hg5 hT5 c2 (st2.ok hX'.ok) c3
    simp [idxE, errV, pf5_6]
    refine ev_num ?_
    simp [pf5_10, e88, w1, -Int.natCast_add]
    exact ⟨old.length - (k + 1), by omega, k + 1, by omega, rfl, _, ⟨F5, hX5⟩, by simp only; omega, e0, e1, e5, e6, e7, e8, e9, e10, e11, e86, e87, rfl⟩
  · obtain rfl : k = old.length := by omega
    simp [pf5_12, e88, e87, pf5_11]
    exact hK _ st T' F' hX' (by omega) (by simp [e0]) (by simp [e1]) (by simp [e5]) (by simp [e6]) (by simp [e7]) (by simp [e8]) (by simp [e9]) (by simp [e10]) (by simp [e11])

/-- The secret is drawn anew, and the owner's capability with it. -/
theorem RvX.turn {st0 st st' st2 : S} {n0 tp b6 b8 : Nat} {v : AV} {es : List Nat} {d s i j s2 i2 j2 : Nat} {T T' : Tbl} {F F' Fh : List Nat} {old : List Cp} (h : RvX st0 st n0 tp b6 b8 v es d s i j T F Fh old) (hc : Chg F st st') (hg : Grow F F' st.ctr) (hT : Tb st' tp T' F') (hr : Rv T' es d s2 i2 j2) (ok : T'.Ok) (ha : T.orc.at_ ≤ T'.orc.at_) (hx : Ext st' st2) :
    Bx st2 b8 ⟨7, 1, 255, s⟩ (F' ++ Fh) ∧ RvX st0 (st2.set b8 (some (.cells (Cp.cells ⟨7, 1, 255, s2⟩) 0 false))) n0 tp b6 b8 v es d s2 i2 j2 T' F' Fh old := by
  have x8 := (h.x8.step_l hc hg).ext hx
  have x6 := (h.x6.step_l hc hg).ext hx
  have hap := h.ap.grow hg (OwnF.lt h.hold)
  have hO : OwnR Cp.cells 4 st2 v old Fh := OwnF.ext (OwnF.chg h.hold hc h.ap.symm) hx
  have h0 := h.hn0
  have hctr := hc.ctr
  have hctr2 := hx.ctr
  refine ⟨x8, hr, (hT.ext hx).setOut (fun hm => x8.out (by simp [hm])), ok, OwnF.chg hO (l := [b8]) (by simp) (fun z hz => by simp; rintro rfl; exact x8.out (by simp [hz])), hap, h.oldok.mono ha, x6.keep h.ne, x8.put, ?_, ?_, by simp; omega, h.lo6, h.lo8, h.ne⟩
  · intro x hx
    rcases List.mem_append.1 hx with h1 | h1
    · rcases hg x h1 with h2 | h2
      · exact h.low x (by simp [h2])
      · omega
    · exact h.low x (by simp [h1])
  · exact h.keep.trans ((hc.keep (fun x hx => h.low x (by simp [hx])) h0).trans (Keep.set h.lo8 (hx.keep (by omega))))

def drawsTo : Nat → Nat
  | 0 => 2
  | i + 1 => drawsTo i + 18 + 9 * i
theorem drawsTo_le : ∀ i, i ≤ 4 → drawsTo (i + 1) ≤ 182 := by decide

set_option maxRecDepth 10000 in
set_option maxHeartbeats 1000000 in
theorem revoke_law {mv : AV} {l : List UInt8} (times : Nat) (ht : times < 256) (s : S) (hv : Bytes s mv l) (hll : l.length ≤ 140737488355328) : Ev tab 5 [mv, .int .u8 times] s fun v _ => v = .bool true := by
  refine Ev.intro rfl rfl rfl ?_
  simp [pf5, pf5_47, pf5_46, pf5_45]
  refine ev_awake23 ?_
  simp [pf5_43]
  refine Ev.mono (spread_ok 200 (by omega) s) ?_
  rintro v s1 ⟨hx1, hN⟩
  simp
  refine Ev.mono (tapeOf_ok hN (by simp [spread_len])) ?_
  rintro v s2 ⟨hx2, tp0, F0, rfl, hTp, hF0⟩
  simp
  refine Ev.mono (oracleOf_ok hTp) ?_
  rintro v s3 ⟨hx3, op, F1, rfl, hO, hg1⟩
  simp
  refine Ev.mono (objectsOf_ok hO 7) ?_
  rintro v s4 ⟨hx4, tp, rfl, htp, hT⟩
  obtain ⟨hx, hT, hF⟩ := tbl_ready (by omega) hx1 hx2 hF0 hx3 hg1 hx4 htp hT
  have hcl := spread_clean (n := 200) (by omega)
  have hw : ∀ y ∈ spreadL 200, y < w48 := spread_w (by omega)
  have hel := spread_len 200
  obtain ⟨es, hes⟩ : ∃ es, es = spreadL 200 := ⟨_, rfl⟩
  rw [← hes] at hT hcl hw hel
  obtain ⟨d, hd⟩ : ∃ d, es[0]? = some d := ⟨_, List.getElem?_eq_getElem (by omega)⟩
  obtain ⟨sc, hsc⟩ : ∃ d, es[1]? = some d := ⟨_, List.getElem?_eq_getElem (by omega)⟩
  have ok0 : Tbl.Ok ⟨7, ⟨[], es, 0⟩, []⟩ := Tbl.Ok.fresh (by omega) hw
  obtain ⟨T1, hT1⟩ : ∃ T : Tbl, T = ⟨7, ⟨[], es, 1⟩, [ob d 5]⟩ := ⟨_, rfl⟩
  obtain ⟨T2, hT2⟩ : ∃ T : Tbl, T = ⟨7, ⟨[], es, 2⟩, [ob d 5, ob sc 6]⟩ := ⟨_, rfl⟩
  have e1 : (⟨7, ⟨[], es, 0⟩, []⟩ : Tbl).create 5 = ((⟨7, 0, 255, d⟩, none), T1) := by simp [hT1, Tbl.create, lowest, Orc.draw, hd, ob]
  have e2 : T1.create 6 = ((⟨7, 1, 255, sc⟩, none), T2) := by simp [hT1, hT2, Tbl.create, lowest, Orc.draw, hsc, ob]
  have ok1 := (Tbl.create_step _ 5).ok ok0
  rw [e1] at ok1
  replace ok1 : T1.Ok := ok1
  have ok2 := (Tbl.create_step T1 6).ok ok1
  rw [e2] at ok2
  replace ok2 : T2.Ok := ok2
  have rv2 : Rv T2 es d sc 0 1 := by
    rw [hT2]
    exact ⟨rfl, rfl, ⟨hcl.nodup, hcl.sort, by simp only; omega, fun a ha => by simp at ha⟩, rfl, hd, hsc, by simp⟩
  obtain ⟨own, hown⟩ : ∃ c : Cp, c = ⟨7, 1, 255, sc⟩ := ⟨_, rfl⟩
  obtain ⟨oth, hoth⟩ : ∃ c : Cp, c = ⟨7, 0, 255, d⟩ := ⟨_, rfl⟩
  rw [← hoth] at e1
  rw [← hown] at e2
  simp [pf5_42]
  refine Ev.mono (create_eq hT ok0 e1) ?_
  rintro v s5 ⟨hc5, F5, hg5, hT5, rfl⟩
  obtain ⟨x6, b6, k6⟩ := box_new (F := F5) (s := s5) [.int .u64 0, .int .u32 0, .int .u8 0, .int .u64 0] oth hT5.lt
  simp [capE, errV, write_new]
  obtain ⟨s6, hs6⟩ : ∃ t, t = (s5.new (.cells [.int .u64 0, .int .u32 0, .int .u8 0, .int .u64 0] 0 false)).set s5.ctr (some (.cells oth.cells 0 false)) := ⟨_, rfl⟩
  rw [← hs6] at x6 b6 k6 ⊢
  replace hT5 := hT5.ext x6
  simp [pf5_41]
  refine Ev.mono (create_eq hT5 ok1 e2) ?_
  rintro v s7 ⟨hc7, F7, hg7, hT7, rfl⟩
  replace b6 := b6.step hc7 hg7
  obtain ⟨x8, b8, k8⟩ := box_new (F := F7) (s := s7) [.int .u64 0, .int .u32 0, .int .u8 0, .int .u64 0] own hT7.lt
  simp [capE, errV, write_new]
  obtain ⟨s8, hs8⟩ : ∃ t, t = (s7.new (.cells [.int .u64 0, .int .u32 0, .int .u8 0, .int .u64 0] 0 false)).set s7.ctr (some (.cells own.cells 0 false)) := ⟨_, rfl⟩
  rw [← hs8] at x8 b8 k8 ⊢
  replace hT7 := hT7.ext x8
  replace b6 := b6.ext x8
  have cx := hx.ctr
  have cc5 := hc5.ctr
  have cc7 := hc7.ctr
  have l5 : ∀ z ∈ F5, s.ctr ≤ z := fun z hz => by
    rcases hg5 z hz with h | h
    · exact hF z h
    · omega
  have l7 : ∀ z ∈ F7, s.ctr ≤ z := fun z hz => by
    rcases hg7 z hz with h | h
    · exact l5 z h
    · omega
  have kp : Keep s.ctr s s8 := (hx.keep (by omega)).trans ((hc5.keep hF (by omega)).trans ((x6.keep (by omega)).trans ((hc7.keep l5 (by omega)).trans (x8.keep (by omega)))))
  have hX0 : RvX s s8 s.ctr tp s5.ctr s7.ctr .snil es d sc 0 1 T2 F7 [] [] :=
    ⟨rv2, hT7, ok2, OwnF.nil _ _, fun _ _ => by simp, fun c hc => by simp at hc, by rw [List.append_nil, ← hoth]; exact b6, by rw [List.append_nil, ← hown]; exact b8, by rw [List.append_nil]; exact l7, kp, by omega, by omega, by omega, by omega⟩
  have t5 : (times : Int).tmod 5 = ((times % 5 : Nat) : Int) := rfl
  obtain ⟨M, hM⟩ : ∃ M, M = times % 5 := ⟨_, rfl⟩
  rw [← hM] at t5
  have hM5 : M < 5 := by omega
  have wM : IntKind.i64.wrap (M : Int) = M := by rw [wrap_i64] <;> omega
  have hbl := hv.below
  have hat2 : T2.orc.at_ = 2 := by rw [hT2]
  simp [pf5_40, pf5_39, pf5_38]
  refine WpC.loop (fun m R st => ∃ i0 T F Fh old sec j, i0 ≤ M + 1 ∧ m = M + 1 - i0 ∧ RvX s st s.ctr tp s5.ctr s7.ctr (R 10) es d sec i0 j T F Fh old ∧ T.orc.at_ ≤ drawsTo i0 ∧ old.length ≤ 9 * i0 ∧ R 0 = mv ∧ R 1 = .int .u8 times ∧ R 5 = .ptr tp 0 ∧ R 6 = .ptr s5.ctr 0 ∧ R 7 = .nilIface ∧ R 8 = .ptr s7.ctr 0 ∧ R 9 = .nilIface ∧ R 11 = .int .i64 (i0 : Nat)) (m := M + 1) ?_ ?_
  · exact ⟨0, T2, F7, [], [], sc, 1, by omega, rfl, by simpa using hX0, by rw [hat2]; simp [drawsTo], by simp, by simp, by simp, by simp, by simp, by simp, by simp, by simp, by simp⟩
  rintro m R st ⟨i0, T, F, Fh, old, sec, j, hi, rfl, hX, ha, hl, e0, e1', e5, e6, e7, e8, e9, e11⟩
  by_cases hlt : i0 ≤ M
  · have hlt' : (i0 : Int) ≤ M := by omega
    have hd1 := drawsTo_le i0 (by omega)
    have hd2 : drawsTo (i0 + 1) = drawsTo i0 + 18 + 9 * i0 := rfl
    have hb := hv.keep hX.keep hbl
    have wl := hb.wlen
    simp [pf5_37, pf5_36, e11, e1', t5, wM, hlt', pf5_34, pf5_33, e0, wl]
    refine revoke_loop1 (L := times) hw hel hv hbl hll hX (by omega) (by omega) (by simp [e1']) (by simp [e5]) (by simp [e6]) (by simp [e7]) (by simp [e8]) (by simp [e9]) (by simp) (by simp [e11]) (by simp) (by simp) (by simp) (by simp [e0]) ?_
    intro R2 st2 v2 T2' F2 Fh2 old2 hX2 ha2 hl2 q0 q1 q5 q6 q7 q8 q9 q10 q11
    have hO2 : OwnR Cp.cells 4 st2 v2 old2 Fh2 := hX2.hold
    simp [pf5_21, q10, q8, hX2.x8.rd4]
    refine cap_app _ hO2 (by omega) ?_
    intro v3 st3 Fh3 hO3 hc3 hg3
    have hX3 := hX2.push hO3 hc3 hg3 (hX2.oldok.push (by omega) hX2.rv.sj hX2.rv.lt)
    simp [pf5_20, q5, q8, hX3.x8.rd4]
    obtain ⟨s2', T3, r1, r2, r3, r4⟩ := hX3.rv.revoke (by omega)
    have hsm := hX3.tb.small
    have st4 := Tbl.revoke_step T2' ⟨7, 1, 255, sec⟩
    rw [r1] at st4
    replace st4 : Tbl.Step 2 T2' T3 := st4
    refine Ev.mono (revoke_eq hX3.tb hX3.ok (by omega) (fit7 hw (by omega) (by omega) hX3.rv.sj) r1) ?_
    rintro v5 st5 ⟨hc5', F5', hg5', hT5', rfl⟩
    obtain ⟨cc, hcc⟩ : ∃ c : Cp, c = ⟨7, 1, 255, s2'⟩ := ⟨_, rfl⟩
    rw [← hcc]
    obtain ⟨x6', bn, k6'⟩ := box_new (F := F5') (s := st5) [.int .u64 0, .int .u32 0, .int .u8 0, .int .u64 0] cc hT5'.lt
    simp [capE, errV, write_new]
    obtain ⟨st6, hst6⟩ : ∃ t, t = (st5.new (.cells [.int .u64 0, .int .u32 0, .int .u8 0, .int .u64 0] 0 false)).set st5.ctr (some (.cells cc.cells 0 false)) := ⟨_, rfl⟩
    rw [← hst6] at x6' bn k6' ⊢
    obtain ⟨xb, hX6⟩ := hX3.turn hc5' hg5' hT5' r2 (st4.ok hX3.ok) (by omega) x6'
    have w4 := xb.wr4 (c' := cc)
    rw [← hcc] at hX6
    have hll6 : (old2 ++ [(⟨7, 1, 255, sec⟩ : Cp)]).length = old2.length + 1 := by simp
    obtain ⟨st7, hst7⟩ : ∃ t, t = st6.set s7.ctr (some (.cells cc.cells 0 false)) := ⟨_, rfl⟩
    rw [← hst7] at hX6 w4
    have wl6 := OwnF.wlen hX6.hold
    have hold6 : OldOk es T2'.orc.at_ (old2 ++ [(⟨7, 1, 255, sec⟩ : Cp)]) := hX3.oldok
    obtain ⟨old3, ho3⟩ : ∃ o, o = old2 ++ [(⟨7, 1, 255, sec⟩ : Cp)] := ⟨_, rfl⟩
    rw [← ho3] at hX6 hll6 wl6 hold6
    simp [pf5_19, pf5_18, pf5_16, bn.rd4, q8, w4, pf5_15, pf5_13, wl6]
    refine revoke_loop2 (i0 := i0) hw hel (mv := mv) (tv := .int .u8 times) hX6 hold6 (by omega) (by omega) (by simp [q0]) (by simp [q1]) (by simp [q5]) (by simp [q6]) (by simp [q7]) (by simp [q8]) (by simp [q9]) (by simp) (by simp [q11]) (by simp) (by simp) (by simp) ?_
    intro R8 st8 T8 F8 hX8 ha8 p0 p1 p5 p6 p7 p8 p9 p10 p11
    have hsm8 := hX8.tb.small
    have hin := hX8.rv.info
    have w1 : IntKind.i64.wrap ((i0 : Int) + 1) = ((i0 + 1 : Nat) : Int) := by rw [wrap_i64] <;> omega
    have st9' := Tbl.info_step T8 ⟨7, 1, 255, s2'⟩
    rw [hin] at st9'
    simp [pf5_14, pf5_4, p5, p8, hX8.x8.rd4]
    refine Ev.mono (info_eq hX8.tb (by omega) (fit7 hw (by omega) (by omega) hX8.rv.sj) hin) ?_
    rintro v st9 ⟨hc9, F9, hg9, hT9, rfl⟩
    have hX9 := hX8.tbl hc9 hg9 hT9 hX8.rv hX8.ok (Nat.le_refl _)
    obtain ⟨I1, hI1⟩ : ∃ x, x = i0 + 1 := ⟨_, rfl⟩
    rw [← hI1] at w1
    simp [errV, pf5_3, p11, w1, hI1, pf5_35]
    refine ⟨M + 1 - (i0 + 1), by omega, i0 + 1, by omega, rfl, T8, F9, Fh3, old3, ⟨s2', T2'.orc.at_, ?_⟩, by omega, by omega, p0, p1, p5, p6, p7, p8, p9, by omega⟩
    rw [p10]
    exact hX9
  · obtain rfl : i0 = M + 1 := by omega
    have hlt' : ¬ ((M + 1 : Nat) : Int) ≤ M := by omega
    obtain ⟨I1, hI1⟩ : ∃ x, x = M + 1 := ⟨_, rfl⟩
    rw [← hI1] at e11 hlt'
    have hd1 := drawsTo_le M (by omega)
    have hsm := hX.tb.small
    simp [pf5_37, pf5_36, e11, e1', t5, wM, hlt', pf5_1, e5, e6, hX.x6.rd4]
    refine Ev.mono (check_eq hX.tb (by omega) (fit7 hw (by omega) (by omega) hX.rv.d0) (m := 255) (by omega) hX.rv.other) ?_
    rintro v st9 ⟨hc9, F9, hg9, hT9, rfl⟩
    simp [idxE, errV, pf5_0, e7, e9]
end Go.Ab
