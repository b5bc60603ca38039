/- 'SkeletonServes' over the abstract machine: the reply of the laws. -/
import Derived.Test.YtcdkkdnpphkieaaDoorNoneR
namespace Go.Ab

/-- A table and a service in memory. -/
structure Wy (s : S) (tp xp : Nat) (T : Tbl) (x : Sg) (F1 F2 : List Nat) : Prop where
  tb : Tb s tp T F1
  sx : Sx s xp x F2
  ap : Apart F1 F2
structure WyC (s0 s : S) (L : List Nat) (tp xp : Nat) (T : Tbl) (x : Sg) (F1 F2 : List Nat) : Prop where
  chg : Chg L s0 s
  grow : Grow L (F1 ++ F2) s0.ctr
  ty : Wy s tp xp T x F1 F2
section
variable {s0 s s' : S} {L : List Nat} {tp xp : Nat} {T T' : Tbl} {x x' : Sg} {F1 F2 F' : List Nat}
theorem Wy.start (h : Wy s tp xp T x F1 F2) : WyC s s (F1 ++ F2) tp xp T x F1 F2 := ⟨Chg.refl _ _, Grow.refl _ _, h⟩
theorem Wy.flt (h : Wy s tp xp T x F1 F2) : ∀ y ∈ F1 ++ F2, y < s.ctr := fun y hy => by
  rcases List.mem_append.1 hy with h1 | h1
  · exact h.tb.lt y h1
  · exact h.sx.lt y h1
theorem Wy.chg {l : List Nat} (h : Wy s tp xp T x F1 F2) (hc : Chg l s s') (hd : Apart (F1 ++ F2) l) : Wy s' tp xp T x F1 F2 :=
  ⟨h.tb.chg hc (fun y hy => hd y (by simp [hy])), h.sx.chg hc (fun y hy => hd y (by simp [hy])), h.ap⟩
theorem Wy.ext (h : Wy s tp xp T x F1 F2) (hx : Ext s s') : Wy s' tp xp T x F1 F2 := ⟨h.tb.ext hx, h.sx.ext hx, h.ap⟩
theorem WyC.ext (h : WyC s0 s L tp xp T x F1 F2) (hx : Ext s s') : WyC s0 s' L tp xp T x F1 F2 := ⟨h.chg.trans (hx.chg _), h.grow, h.ty.ext hx⟩
theorem WyC.set (h : WyC s0 s L tp xp T x F1 F2) {i : Nat} {o : Option AO} (hi : i ∉ F1 ++ F2) (h0 : s0.ctr ≤ i) : WyC s0 (s.set i o) L tp xp T x F1 F2 :=
  ⟨Chg.set (.inl h0) h.chg, h.grow, h.ty.chg (l := [i]) (by simp) (fun y hy => by simp; rintro rfl; exact hi hy)⟩
theorem WyC.t (h : WyC s0 s L tp xp T x F1 F2) (hc : Chg F1 s s') (hg : Grow F1 F' s.ctr) (hT : Tb s' tp T' F') : WyC s0 s' L tp xp T' x F' F2 :=
  ⟨h.chg.comp hc (fun y hy => h.grow y (by simp [hy])), h.grow.trans hg.l1 h.chg.ctr, ⟨hT, h.ty.sx.chg hc h.ty.ap.symm, h.ty.ap.grow hg h.ty.sx.lt⟩⟩
theorem WyC.v (h : WyC s0 s L tp xp T x F1 F2) (hc : Chg F2 s s') (hg : Grow F2 F' s.ctr) (hX : Sx s' xp x' F') : WyC s0 s' L tp xp T x' F1 F' :=
  ⟨h.chg.comp hc (fun y hy => h.grow y (by simp [hy])), h.grow.trans hg.l2 h.chg.ctr, ⟨h.ty.tb.chg hc h.ty.ap, hX, (h.ty.ap.symm.grow hg h.ty.tb.lt).symm⟩⟩
end

/-- The closure that tells an error. -/
theorem fail_ok {s : S} {b : Nat} {m : Ms} {d : AV} {G : List Nat} (hb : Bg s b (m.cells d) G) (hd : Bytes s d m.data) (n : Nat) (hn : n < 65536) : Ev tab 51 [.iface 45 (.int .i64 n), .ptr b 0] s fun u s' => Ext s s' ∧ ∃ w, u = .agg ((m.answer n 0 0 0 0 0 []).cells w) ∧ Own s.ctr s' w [] := by
  refine Ev.intro rfl rfl rfl ?_
  obtain ⟨s0, hs0⟩ : ∃ s0, s0 = s.new (.cells zMs 0 false) := ⟨_, rfl⟩
  have x0 : Ext s s0 := by rw [hs0]; simp
  have hs0' : s.new (.cells [.int .u64 0, .int .u64 0, .int .u32 0, .int .u16 0, .int .u16 0, .int .u64 0, .int .u32 0, .int .u8 0, .int .u64 0, .int .u64 0, .snil] 0 false) = s0 := hs0.symm
  have r0 : Bg s0 s.ctr zMs [] := ⟨by rw [hs0]; simp, by rw [hs0]; simp, by simp⟩
  have b0 := hb.ext x0
  simp [pf51, pf51_1, hs0', pf51_0, b0.all]
  refine Ev.mono (fault_ok m (errV (some (n : Int))) n hn (fun t Q hQ => ev_num hQ) s0 (hd.ext x0)) ?_
  rintro u s1 ⟨hx1, w, rfl, hw⟩
  have hwf := hw.flat
  have r1 := r0.ext hx1
  have ww := wrc (o := 0) (v := (m.answer n 0 0 0 0 0 []).cells w) r1.get (by simp [zMs]) (Ms.cells_flat hwf)
  rw [over11 _ _ _ rfl] at ww
  have hl := r0.lt
  have hxc := x0.ctr
  simp [ww]
  exact ⟨Ext.set (by omega) (x0.trans hx1), w, rfl, (hw.setLow hl).le hxc⟩

/-- What is left behind the law's reply. -/
def WaPost (s : S) (L : List Nat) (tp xp : Nat) (m : Ms) (r : (Rs × Option Int) × Tbl × Sg) : AV → S → Prop := fun u s' => ∃ F1' F2' w, WyC s s' L tp xp r.2.1 r.2.2 F1' F2' ∧ Own s.ctr s' w (m.reply_ r.1).data ∧ w.out (F1' ++ F2') ∧ u = .agg ((m.reply_ r.1).cells w)

theorem WaPost.done {s s1 s2 : S} {L : List Nat} {tp xp : Nat} {m M : Ms} {r : (Rs × Option Int) × Tbl × Sg} {F1 F2 : List Nat} {w : AV} (H : WyC s s1 L tp xp r.2.1 r.2.2 F1 F2) {i : Nat} (hi : Bg s1 i zMs (F1 ++ F2)) (h0 : s.ctr ≤ i) (hx : Ext s1 s2) (hw : Own s1.ctr s2 w M.data) (hM : M = m.reply_ r.1) :
    s2.write i 0 (M.cells w) = some (s2.set i (some (.cells (M.cells w) 0 false))) ∧ WaPost s L tp xp m r (.agg (M.cells w)) (s2.set i (some (.cells (M.cells w) 0 false))) := by
  have hwf := hw.flat
  have i2 := hi.ext hx
  have ww := wrc (o := 0) (v := M.cells w) i2.get (by simp [zMs]) (Ms.cells_flat hwf)
  rw [over11 _ _ _ rfl] at ww
  have hl := hi.lt
  have hlt := H.ty.flt
  refine ⟨ww, F1, F2, w, (H.ext hx).set i2.out h0, ?_, ?_, by rw [← hM]⟩
  · rw [← hM]
    exact (hw.setLow hl).le (by have := H.chg.ctr; omega)
  · rcases hw with ⟨rfl, _⟩ | ⟨b, rfl, _, _, hb⟩
    · trivial
    · exact fun hx => by have := hlt _ hx; omega
theorem take11 (m : Ms) (d : AV) : List.take 11 (m.cells d) = m.cells d := rfl

theorem reply_some (m : Ms) (R : Rs) (n : Nat) : m.reply_ (R, some (n : Int)) = m.answer n 0 0 0 0 0 [] := by simp [Ms.reply_]
theorem reply_none (m : Ms) (R : Rs) : m.reply_ (R, none) = m.answer 0 R.cap.p R.cap.o R.cap.r R.cap.k R.arg R.data := by simp [Ms.reply_]
theorem reply_err (m : Ms) (R : Rs × Option Int) {e : Int} (he : R.2 = some e) (n : Nat) (hn : e = n) : m.reply_ R = m.answer n 0 0 0 0 0 [] := by
  simp [Ms.reply_, he, hn]
end Go.Ab
/-! 'SkeletonServes' over the abstract machine: the law's reply is the server's. -/
namespace Go.Ab

theorem wadd32 (a b : Nat) (ha : a < 18446744073709551616) (hb : b < 18446744073709551616) : IntKind.u64.wrap (IntKind.u64.wrap ((a : Int) * 4294967296) + (b : Int)) = (((a * 4294967296 + b) % 18446744073709551616 : Nat) : Int) := by
  simp only [IntKind.wrap, IntKind.signed, IntKind.bits]
  simp
theorem mod256 (a : Nat) (ha : a < 18446744073709551616) : IntKind.u8.wrap ((a : Int).tmod 256) = ((a % 256 : Nat) : Int) := by
  have : (a : Int).tmod 256 = ((a % 256 : Nat) : Int) := rfl
  rw [this]
  simp only [IntKind.wrap, IntKind.signed, IntKind.bits]
  simp

set_option maxRecDepth 10000 in
set_option maxHeartbeats 2000000 in
theorem want_ok {s : S} {tp xp : Nat} {T : Tbl} {x : Sg} {F1 F2 : List Nat} (h : Wy s tp xp T x F1 F2) (ok : T.Ok) (hq : T.orc.rs.length + 1 ≤ 5000000000000) (hf : x.fits 1) {m : Ms} (hm : m.fit) {d : AV} (hd : Bytes s d m.data) (ho : d.out (F1 ++ F2)) :
    Ev tab 33 [.ptr tp 0, .ptr xp 0, .agg (m.cells d)] s (WaPost s (F1 ++ F2) tp xp m (svc.run T x m)) := by
  refine Ev.intro rfl rfl rfl ?_
  have fl := hd.flat
  have hcl0 := hd.cells1
  have hcf := Ms.cap_fit hm
  have hmf := hm.2.2.2.2.2.2.2.2.2.2
  obtain ⟨s0, hs0⟩ : ∃ s0, s0 = (s.new (.cells (m.cells d) 0 false)).new (.cells zMs 0 false) := ⟨_, rfl⟩
  have x0 : Ext s s0 := by rw [hs0]; simp (maxDischargeDepth := 30)
  have hs0' : (s.new (.cells (m.cells d) 0 false)).new (.cells [.int .u64 0, .int .u64 0, .int .u32 0, .int .u16 0, .int .u16 0, .int .u64 0, .int .u32 0, .int .u8 0, .int .u64 0, .int .u64 0, .snil] 0 false) = s0 := hs0.symm
  have hflt := h.flt
  have b0 : Bg s0 s.ctr (m.cells d) (F1 ++ F2) := ⟨by rw [hs0]; simp, by rw [hs0]; simp; omega, fun hx => by have := hflt _ hx; omega⟩
  have r0 : Bg s0 (s.ctr + 1) zMs (F1 ++ F2) := ⟨by rw [hs0]; simp, by rw [hs0]; simp, fun hx => by have := hflt _ hx; omega⟩
  have H := h.start.ext x0
  have he1 : s.ctr ≤ s.ctr + 1 := by omega
  -- an error's reply
  have failK : ∀ {st : S} {G1 G2 : List Nat} {R : (Rs × Option Int) × Tbl × Sg} {e : Int}, WyC s st (F1 ++ F2) tp xp R.2.1 R.2.2 G1 G2 → Bg st s.ctr (m.cells d) (G1 ++ G2) → Bg st (s.ctr + 1) zMs (G1 ++ G2) → R.1.2 = some e → 1 ≤ e → e ≤ 15 →
      Ev tab 51 [.iface 45 (.int .i64 e), .ptr s.ctr 0] st fun u s' => ∃ M w, u = .agg (Ms.cells M w) ∧ s'.write (s.ctr + 1) 0 (M.cells w) = some (s'.set (s.ctr + 1) (some (.cells (M.cells w) 0 false))) ∧ WaPost s (F1 ++ F2) tp xp m R (.agg (M.cells w)) (s'.set (s.ctr + 1) (some (.cells (M.cells w) 0 false))) := by
    intro st G1 G2 R e HS hb hr hR h1 h2
    obtain ⟨n, rfl⟩ := Int.eq_ofNat_of_zero_le (show 0 ≤ e by omega)
    refine Ev.mono (fail_ok hb (hd.chg HS.chg ho) n (by omega)) ?_
    rintro u s' ⟨hx, w, rfl, hw⟩
    have := WaPost.done (M := m.answer n 0 0 0 0 0 []) HS hr he1 hx hw (reply_err m R.1 hR n rfl).symm
    exact ⟨_, w, rfl, this.1, this.2⟩
  -- a reply without an error
  have ansK : ∀ {st : S} {G1 G2 : List Nat} {R : (Rs × Option Int) × Tbl × Sg} {dv : AV}, WyC s st (F1 ++ F2) tp xp R.2.1 R.2.2 G1 G2 → Bg st (s.ctr + 1) zMs (G1 ++ G2) → R.1.2 = none → Bytes st dv R.1.1.data → R.1.1.data.length ≤ 140737488355328 →
      Ev tab 50 [.agg (m.cells d), .int .i64 0, .agg R.1.1.cap.cells, .int .u64 R.1.1.arg, dv] st fun u s' => ∃ M w, u = .agg (Ms.cells M w) ∧ s'.write (s.ctr + 1) 0 (M.cells w) = some (s'.set (s.ctr + 1) (some (.cells (M.cells w) 0 false))) ∧ WaPost s (F1 ++ F2) tp xp m R (.agg (M.cells w)) (s'.set (s.ctr + 1) (some (.cells (M.cells w) 0 false))) := by
    intro st G1 G2 R dv HS hr hR hdv hl
    refine Ev.mono (answer_ok m 0 R.1.1.cap.p R.1.1.cap.o R.1.1.cap.r R.1.1.cap.k R.1.1.arg R.1.1.data (by omega) hl st (hd.chg HS.chg ho) hdv) ?_
    rintro u s' ⟨hx, w, rfl, hw⟩
    have hrep : m.answer 0 R.1.1.cap.p R.1.1.cap.o R.1.1.cap.r R.1.1.cap.k R.1.1.arg R.1.1.data = m.reply_ R.1 := by
      unfold Ms.reply_
      rw [hR]
    have := WaPost.done (M := m.answer 0 R.1.1.cap.p R.1.1.cap.o R.1.1.cap.r R.1.1.cap.k R.1.1.arg R.1.1.data) HS hr he1 hx hw hrep
    exact ⟨_, w, rfl, this.1, this.2⟩
  simp [pf33, pf33_58, Ms.cells_flat, fl, hs0', pf33_57, pf33_56, pf33_54, b0.cap]
  refine Ev.mono (may_ok m.cap hcf s0) ?_
  rintro v s1 ⟨hx1, rfl⟩
  replace H := H.ext hx1
  replace b0 := b0.ext hx1
  replace r0 := r0.ext hx1
  cases hmay : m.cap.may with
  | false =>
    have hrun : svc.run T x m = ((Rs.zero, some 1), T, x) := by simp [Sv.run, hmay]
    rw [hrun]
    simp [pf33_53]
    refine Ev.mono (failK (R := ((Rs.zero, some 1), T, x)) (e := 1) H b0 r0 rfl (by omega) (by omega)) ?_
    rintro u s2 ⟨M, w, rfl, ww, hpost⟩
    simp [ww, take11]
    exact hpost
  | true =>
    simp [pf33_55, pf33_52, b0.op]
    by_cases o1 : m.op = 1
    · have o1i : (m.op : Int) = 1 := by omega
      have hrun : svc.run T x m = (({ Rs.zero with arg := ((T.info m.cap).1.1.toNat * 4294967296 + (T.info m.cap).1.2.1.toNat) % 18446744073709551616 }, (T.info m.cap).1.2.2), (T.info m.cap).2, x) := by simp [Sv.run, hmay, o1]
      have hsm := H.ty.tb.small
      obtain ⟨a, b, ha, hb, hb24, haa⟩ := Tbl.info_nat ok m.cap
      rw [ha, hb] at hrun
      simp only [Int.toNat_natCast] at hrun
      obtain ⟨AR, hAR⟩ : ∃ AR, AR = (a * 4294967296 + b) % 18446744073709551616 := ⟨_, rfl⟩
      rw [← hAR] at hrun
      rw [hrun]
      have herr := Tbl.info_err T m.cap
      simp [pf33_51, o1i, pf33_50, pf33_49, b0.cap]
      refine Ev.mono (info_ok H.ty.tb (by omega) hcf) ?_
      rintro v s2 ⟨hc2, F', hg2, hT2, rfl⟩
      replace r0 := r0.step hc2.l1 hg2.l1
      replace b0 := b0.step hc2.l1 hg2.l1
      replace H := H.t hc2 hg2 hT2
      rw [ha, hb]
      have w1 : IntKind.u64.wrap (a : Int) = a := wrap_u64 (by omega) (by omega)
      have w3 : IntKind.u64.wrap (b : Int) = b := wrap_u64 (by omega) (by omega)
      have w4 := wadd32 a b (by omega) (by omega)
      rw [← hAR] at w4
      obtain ⟨e, he⟩ : ∃ e, e = (T.info m.cap).1.2.2 := ⟨_, rfl⟩
      rw [← he] at herr ⊢
      cases e with
      | some e =>
        obtain ⟨q1, q2⟩ := herr e rfl
        simp [errV, pf33_48, pf33_47, pf33_46]
        refine Ev.mono (failK (R := (({ Rs.zero with arg := AR }, some e), (T.info m.cap).2, x)) (e := e) H b0 r0 rfl q1 q2) ?_
        rintro u s3 ⟨M, w, rfl, ww, hpost⟩
        simp [ww, take11]
        exact hpost
      | none =>
        simp [errV, pf33_48, pf33_47, pf33_45, b0.all, w1, w3, w4]
        refine Ev.mono (ansK (R := (({ Rs.zero with arg := AR }, none), (T.info m.cap).2, x)) (dv := .snil) H r0 rfl (Bytes.nil _) (by simp [Rs.zero])) ?_
        rintro u s3 ⟨M, w, rfl, ww, hpost⟩
        simp [ww, take11]
        exact hpost
    have o1i : ¬ (m.op : Int) = 1 := by omega
    by_cases o2 : m.op = 2
    · have o2i : (m.op : Int) = 2 := by omega
      have hrun : svc.run T x m = ((Rs.zero, (T.touch m.cap).1), (T.touch m.cap).2, x) := by simp [Sv.run, hmay, o2]
      rw [hrun]
      have herr := Tbl.touch_err T m.cap
      simp [pf33_51, o1i, pf33_50, pf33_44, o2i, pf33_43, pf33_42, b0.all, b0.cap]
      refine Ev.mono (touch_ok H.ty.tb (by omega) hcf) ?_
      rintro v s2 ⟨hc2, F', hg2, hT2, rfl⟩
      replace r0 := r0.step hc2.l1 hg2.l1
      replace b0 := b0.step hc2.l1 hg2.l1
      replace H := H.t hc2 hg2 hT2
      obtain ⟨e, he⟩ : ∃ e, e = (T.touch m.cap).1 := ⟨_, rfl⟩
      rw [← he] at herr ⊢
      simp [ChkP, b0.all]
      cases e with
      | some e =>
        obtain ⟨q1, q2⟩ := herr e rfl
        obtain ⟨n, rfl⟩ := Int.eq_ofNat_of_zero_le (show 0 ≤ e by omega)
        refine ev_num ?_
        simp [ChkP, b0.all]
        refine Ev.mono (answer_ok m n 0 0 0 0 0 [] (by omega) (by simp) s2 (hd.chg H.chg ho) (Bytes.nil _)) ?_
        rintro u s3 ⟨hx3, w, rfl, hw⟩
        obtain ⟨ww, hpost⟩ := WaPost.done (r := ((Rs.zero, some (n : Int)), (T.touch m.cap).2, x)) (M := m.answer n 0 0 0 0 0 []) H r0 he1 hx3 hw (reply_some m Rs.zero n).symm
        simp [ww, take11]
        exact hpost
      | none =>
        refine ev_num0 ?_
        simp [ChkP, b0.all]
        refine Ev.mono (ansK (R := ((Rs.zero, none), (T.touch m.cap).2, x)) (dv := .snil) H r0 rfl (Bytes.nil _) (by simp [Rs.zero])) ?_
        rintro u s3 ⟨M, w, rfl, ww, hpost⟩
        simp [ww, take11]
        exact hpost
    have o2i : ¬ (m.op : Int) = 2 := by omega
    by_cases o34 : m.op = 3 ∨ m.op = 4
    · -- behind the restricting or revoking
      have tail34 : ∀ {st : S} {G1 G2 : List Nat} {R : (Rs × Option Int) × Tbl × Sg} {c : Cp} {e : Option Int} {cb : Nat} {rg : Regs}, WyC s st (F1 ++ F2) tp xp R.2.1 R.2.2 G1 G2 → Bg st s.ctr (m.cells d) (G1 ++ G2) → Bg st (s.ctr + 1) zMs (G1 ++ G2) → st.read cb 0 4 = some c.cells → R.1 = ({ Rs.zero with cap := c }, e) → errOk e → rg 5 = .ptr s.ctr 0 → rg 6 = .ptr (s.ctr + 1) 0 → rg 7 = .func (.func 51) [] [.ptr s.ctr 0] → rg 11 = .ptr cb 0 → rg 12 = errV e →
          WpC tab pf33_35 rg st (FinP [PR.cell 6 11 true] (WaPost s (F1 ++ F2) tp xp m R)) := by
        intro st G1 G2 R c e cb rg HS hb hr hcr hR herr g5 g6 g7 g11 g12
        obtain ⟨R1, R2⟩ := R
        simp only at hR
        subst hR
        cases e with
        | some e =>
          obtain ⟨q1, q2⟩ := herr e rfl
          simp [pf33_35, pf33_31, g12, errV, pf33_30, g7]
          refine Ev.mono (failK (R := (({ Rs.zero with cap := c }, some e), R2)) (e := e) HS hb hr rfl q1 q2) ?_
          rintro u s3 ⟨M, w, rfl, ww, hpost⟩
          simp [g6, ww, take11]
          exact hpost
        | none =>
          simp [pf33_35, pf33_31, g12, errV, pf33_29, g5, hb.all, g11, hcr]
          refine Ev.mono (ansK (R := (({ Rs.zero with cap := c }, none), R2)) (dv := .snil) HS hr rfl (Bytes.nil _) (by simp [Rs.zero])) ?_
          rintro u s3 ⟨M, w, rfl, ww, hpost⟩
          simp [g6, ww, take11]
          exact hpost
      obtain ⟨sa, hsa⟩ : ∃ t, t = s1.new (.cells [.int .u64 0, .int .u32 0, .int .u8 0, .int .u64 0] 0 false) := ⟨_, rfl⟩
      have xa : Ext s1 sa := by rw [hsa]; simp
      have hns2 : s.ctr + 1 < s1.ctr := r0.lt
      have ba : Bg sa s1.ctr [.int .u64 0, .int .u32 0, .int .u8 0, .int .u64 0] (F1 ++ F2) := ⟨by rw [hsa]; simp, by rw [hsa]; simp, fun hx => by have := H.ty.flt _ hx; omega⟩
      replace H := H.ext xa
      replace r0 := r0.ext xa
      replace b0 := b0.ext xa
      have hs1 : s.ctr ≤ s1.ctr := by omega
      rcases o34 with o3 | o4
      · have o3i : (m.op : Int) = 3 := by omega
        have hrun : svc.run T x m = (({ Rs.zero with cap := (T.restrict m.cap (m.arg % 256)).1.1 }, (T.restrict m.cap (m.arg % 256)).1.2), (T.restrict m.cap (m.arg % 256)).2, x) := by simp [Sv.run, hmay, o3]
        rw [hrun]
        have hargl : m.arg < 18446744073709551616 := hm.2.2.2.2.2.2.2.2.2.1
        have w8 := mod256 m.arg hargl
        obtain ⟨z, hz⟩ : ∃ z, z = m.arg % 256 := ⟨_, rfl⟩
        have hz2 : z < 256 := by omega
        rw [← hz] at w8 ⊢
        have herr := Tbl.restrict_err T m.cap z
        simp [pf33_51, o1i, pf33_50, pf33_44, o2i, pf33_43, pf33_40, o3i, pf33_41, pf33_38, ← hsa, pf33_37, pf33_36, pf33_34, b0.op, pf33_33, b0.cap, b0.arg, w8]
        refine Ev.mono (tblRestrict_ok H.ty.tb hq hcf z hz2) ?_
        rintro v s2 ⟨hc2, F', hg2, hT2, rfl⟩
        replace r0 := r0.step hc2.l1 hg2.l1
        replace b0 := b0.step hc2.l1 hg2.l1
        replace ba := ba.step hc2.l1 hg2.l1
        replace H := H.t hc2 hg2 hT2
        obtain ⟨c', hc'⟩ : ∃ c', c' = (T.restrict m.cap z).1.1 := ⟨_, rfl⟩
        obtain ⟨e', he'⟩ : ∃ e', e' = (T.restrict m.cap z).1.2 := ⟨_, rfl⟩
        rw [← hc', ← he']
        rw [← he'] at herr
        have wb := wrc (o := 0) (v := c'.cells) ba.get (by simp) (Cp.cells_flat _)
        rw [over4 _ _ rfl] at wb
        have Hb := H.set (i := s1.ctr) (o := some (.cells c'.cells 0 false)) ba.out hs1
        have rb := r0.set (j := s1.ctr) (o := some (.cells c'.cells 0 false)) (by omega)
        have bb := b0.set (j := s1.ctr) (o := some (.cells c'.cells 0 false)) (by omega)
        obtain ⟨s3, hs3⟩ : ∃ t, t = s2.set s1.ctr (some (.cells c'.cells 0 false)) := ⟨_, rfl⟩
        have r9 : s3.read s1.ctr 0 4 = some c'.cells := by
          rw [hs3, read_set_self, if_pos (by simp)]; rfl
        rw [← hs3] at Hb rb wb bb
        simp [capE, wb]
        exact tail34 (R := (({ Rs.zero with cap := c' }, e'), (T.restrict m.cap z).2, x)) Hb bb rb r9 rfl herr rfl rfl rfl rfl rfl
      · have o4i : (m.op : Int) = 4 := by omega
        have o3 : ¬ m.op = 3 := by omega
        have o3i : ¬ (m.op : Int) = 3 := by omega
        have hrun : svc.run T x m = (({ Rs.zero with cap := (T.revoke m.cap).1.1 }, (T.revoke m.cap).1.2), (T.revoke m.cap).2, x) := by simp [Sv.run, hmay, o4]
        rw [hrun]
        have herr := Tbl.revoke_err T m.cap
        simp [pf33_51, o1i, pf33_50, pf33_44, o2i, pf33_43, pf33_40, o3i, pf33_39, o4i, pf33_41, pf33_38, ← hsa, pf33_37, pf33_36, pf33_34, b0.op, pf33_32, b0.cap]
        refine Ev.mono (revoke_ok H.ty.tb ok (by omega) hcf) ?_
        rintro v s2 ⟨hc2, F', hg2, hT2, rfl⟩
        replace r0 := r0.step hc2.l1 hg2.l1
        replace b0 := b0.step hc2.l1 hg2.l1
        replace ba := ba.step hc2.l1 hg2.l1
        replace H := H.t hc2 hg2 hT2
        obtain ⟨c', hc'⟩ : ∃ c', c' = (T.revoke m.cap).1.1 := ⟨_, rfl⟩
        obtain ⟨e', he'⟩ : ∃ e', e' = (T.revoke m.cap).1.2 := ⟨_, rfl⟩
        rw [← hc', ← he']
        rw [← he'] at herr
        have wb := wrc (o := 0) (v := c'.cells) ba.get (by simp) (Cp.cells_flat _)
        rw [over4 _ _ rfl] at wb
        have Hb := H.set (i := s1.ctr) (o := some (.cells c'.cells 0 false)) ba.out hs1
        have rb := r0.set (j := s1.ctr) (o := some (.cells c'.cells 0 false)) (by omega)
        have bb := b0.set (j := s1.ctr) (o := some (.cells c'.cells 0 false)) (by omega)
        obtain ⟨s3, hs3⟩ : ∃ t, t = s2.set s1.ctr (some (.cells c'.cells 0 false)) := ⟨_, rfl⟩
        have r9 : s3.read s1.ctr 0 4 = some c'.cells := by
          rw [hs3, read_set_self, if_pos (by simp)]; rfl
        rw [← hs3] at Hb rb wb bb
        simp [capE, wb]
        exact tail34 (R := (({ Rs.zero with cap := c' }, e'), (T.revoke m.cap).2, x)) Hb bb rb r9 rfl herr rfl rfl rfl rfl rfl
    have o3 : ¬ m.op = 3 := fun h => o34 (.inl h)
    have o4 : ¬ m.op = 4 := fun h => o34 (.inr h)
    have o3i : ¬ (m.op : Int) = 3 := by omega
    have o4i : ¬ (m.op : Int) = 4 := by omega
    by_cases o5 : m.op = 5
    · have o5i : (m.op : Int) = 5 := by omega
      have hrun : svc.run T x m = ((Rs.zero, (svc.destroy T x m.cap).1), (svc.destroy T x m.cap).2) := by simp [Sv.run, hmay, o5]
      rw [hrun]
      have rdo : ∀ {st : S} {G : List Nat}, Bg st s.ctr (m.cells d) G → st.read s.ctr 6 1 = some [.int .u32 (m.o : Int)] := fun hb => by rw [rd hb.get (by simp [Ms.cells])]; rfl
      simp [pf33_51, o1i, pf33_50, pf33_44, o2i, pf33_43, pf33_40, o3i, pf33_39, o4i, pf33_41, pf33_28, o5i, pf33_27, pf33_26, pf33_25, rdo b0]
      unfold Sv.destroy
      by_cases h0 : m.cap.o = 0
      · have h0' : m.o = 0 := h0
        have h0i : (m.o : Int) = 0 := by omega
        simp only [if_pos h0]
        simp [h0', pf33_24, b0.cap]
        refine Ev.mono (check_ok H.ty.tb (by omega) hcf 8 (by omega)) ?_
        rintro v s2 ⟨hc1, F', hg1, hT1, rfl⟩
        have herr := Tbl.check_err T m.cap 8
        replace r0 := r0.step hc1.l1 hg1.l1
        replace b0 := b0.step hc1.l1 hg1.l1
        cases hchk : T.check m.cap 8 with
        | mk a T1 =>
          obtain ⟨k, e⟩ := a
          rw [hchk] at hT1 herr
          replace H := H.t hc1 hg1 hT1
          cases e with
          | some e =>
            obtain ⟨q1, q2⟩ := herr e rfl
            simp [idxE, errV, pf33_23, pf33_22, pf33_20]
            refine Ev.mono (failK (R := ((Rs.zero, some e), T1, x)) (e := e) H b0 r0 rfl q1 q2) ?_
            rintro u s3 ⟨M, w, rfl, ww, hpost⟩
            simp [ww, take11]
            exact hpost
          | none =>
            simp [idxE, errV, pf33_23, pf33_22, pf33_21, pf33_20]
            refine Ev.mono (failK (R := ((Rs.zero, some 15), T1, x)) (e := 15) H b0 r0 rfl (by omega) (by omega)) ?_
            rintro u s3 ⟨M, w, rfl, ww, hpost⟩
            simp [ww, take11]
            exact hpost
      · have h0' : ¬ m.o = 0 := h0
        have h0i : ¬ (m.o : Int) = 0 := by omega
        simp only [if_neg h0]
        simp [h0', h0i, pf33_19, b0.cap]
        refine Ev.mono (destroy_ok H.ty.tb (by omega) hcf) ?_
        rintro v s2 ⟨hc1, F', hg1, hT1, rfl⟩
        have herr := Tbl.destroy_err T m.cap
        replace r0 := r0.step hc1.l1 hg1.l1
        replace b0 := b0.step hc1.l1 hg1.l1
        cases hdd : T.destroy m.cap with
        | mk a T1 =>
          obtain ⟨k, v, e⟩ := a
          rw [hdd] at hT1 herr
          replace H := H.t hc1 hg1 hT1
          cases e with
          | some e =>
            obtain ⟨q1, q2⟩ := herr e rfl
            simp [errV, pf33_18, pf33_17, pf33_16]
            refine Ev.mono (failK (R := ((Rs.zero, some e), T1, x)) (e := e) H b0 r0 rfl q1 q2) ?_
            rintro u s3 ⟨M, w, rfl, ww, hpost⟩
            simp [ww, take11]
            exact hpost
          | none =>
            simp [errV, pf33_18, pf33_17, pf33_15]
            refine Ev.mono (gone_ev H.ty.sx hf v) ?_
            rintro u s3 ⟨hc2, F'', hg2, hX2⟩
            replace r0 := r0.step hc2.l2 hg2.l2
            replace b0 := b0.step hc2.l2 hg2.l2
            replace H := H.v hc2 hg2 hX2
            simp [pf33_14, b0.all]
            refine Ev.mono (ansK (R := ((Rs.zero, none), T1, svc.gone x v)) (dv := .snil) H r0 rfl (Bytes.nil _) (by simp [Rs.zero])) ?_
            rintro u s4 ⟨M, w, rfl, ww, hpost⟩
            simp [ww, take11]
            exact hpost
    have o5i : ¬ (m.op : Int) = 5 := by omega
    simp [pf33_51, o1i, pf33_50, pf33_44, o2i, pf33_43, pf33_40, o3i, pf33_39, o4i, pf33_41, pf33_28, o5i, pf33_27, pf33_13, b0.op]
    refine Ev.mono (need_ok xp m.op hm.2.2.2.1 s1) ?_
    rintro v s2 ⟨rfl, rfl⟩
    have hnd : svc.need m.op = svNeedOf m.op := rfl
    obtain ⟨nd, is, hni⟩ : ∃ nd is, svNeedOf m.op = (nd, is) := ⟨_, _, rfl⟩
    rw [hni] at hnd ⊢
    have hndl : nd < 256 := by
      unfold svNeedOf at hni
      split at hni
      · cases hni; omega
      · split at hni
        · cases hni; omega
        · cases hni
          have : m.op = 100 ∨ m.op = 101 ∨ m.op = 102 ∨ m.op = 103 := by omega
          rcases this with h | h | h | h <;> rw [h] <;> decide
    by_cases hno : is = false ∨ m.op < 100
    · have hrun : svc.run T x m = ((Rs.zero, some 3), T, x) := by simp [Sv.run, hmay, o1, o2, o3, o4, o5, hnd, hno]
      rw [hrun]
      have hcase : ((m.op : Int) < 100) ∨ (¬ (m.op : Int) < 100 ∧ is = false) := by
        by_cases h1 : m.op < 100
        · exact .inl (by omega)
        · exact .inr ⟨by omega, hno.resolve_right h1⟩
      rcases hcase with h1 | ⟨h1, rfl⟩
      · simp [pf33_12, pf33_11, b0.op, h1, pf33_10]
        refine Ev.mono (failK (R := ((Rs.zero, some 3), T, x)) (e := 3) H b0 r0 rfl (by omega) (by omega)) ?_
        rintro u s2 ⟨M, w, rfl, ww, hpost⟩
        simp [ww, take11]
        exact hpost
      · simp [pf33_12, pf33_11, b0.op, h1, pf33_10]
        refine Ev.mono (failK (R := ((Rs.zero, some 3), T, x)) (e := 3) H b0 r0 rfl (by omega) (by omega)) ?_
        rintro u s2 ⟨M, w, rfl, ww, hpost⟩
        simp [ww, take11]
        exact hpost
    · have his : is = true := by
        cases is with
        | false => exact absurd (.inl rfl) hno
        | true => rfl
      subst his
      have h100 : ¬ m.op < 100 := fun h => hno (.inr h)
      have h100i : ¬ (m.op : Int) < 100 := by omega
      simp [pf33_12, pf33_11, b0.op, h100i, pf33_9, b0.cap]
      refine Ev.mono (check_ok H.ty.tb (by omega) hcf nd hndl) ?_
      rintro v s3 ⟨hc3, F', hg3, hT3, rfl⟩
      replace r0 := r0.step hc3.l1 hg3.l1
      replace b0 := b0.step hc3.l1 hg3.l1
      replace H := H.t hc3 hg3 hT3
      have herr := Tbl.check_err T m.cap nd
      cases hchk : T.check m.cap nd with
      | mk a T1 =>
        obtain ⟨k, e⟩ := a
        rw [hchk] at H herr
        replace H : WyC s s3 (F1 ++ F2) tp xp T1 x F' F2 := H
        cases e with
        | some e =>
          have hrun : svc.run T x m = ((Rs.zero, some e), T1, x) := by simp [Sv.run, hmay, o1, o2, o3, o4, o5, hnd, h100, hchk]
          rw [hrun]
          obtain ⟨q1, q2⟩ := herr e rfl
          simp [idxE, errV, pf33_8, pf33_7, pf33_6]
          refine Ev.mono (failK (R := ((Rs.zero, some e), T1, x)) (e := e) H b0 r0 rfl q1 q2) ?_
          rintro u s3 ⟨M, w, rfl, ww, hpost⟩
          simp [ww, take11]
          exact hpost
        | none =>
          obtain ⟨ob, hgx, hax, hth, rfl, hall, hport⟩ := Tbl.check_facts hchk
          have hrun : svc.run T x m = svc.act T1 x m.op ob.value m := by simp [Sv.run, hmay, o1, o2, o3, o4, o5, hnd, h100, hchk, hgx]
          have hfacts := svc_run_facts T x m
          rw [hrun] at hfacts ⊢
          simp [idxE, errV, pf33_8, pf33_7, pf33_5]
          refine Ev.mono (value_ok H.ty.tb (m.cap.o : Nat)) ?_
          rintro v s4 ⟨rfl, rfl⟩
          have h0 : (0 : Int) ≤ (m.cap.o : Nat) := by omega
          simp [hgx, pf33_4, b0.op, b0.all]
          have hout : d.out (F' ++ F2) := AV.out_grow ho hd.below H.grow
          have hs4 : s.ctr + 1 < s4.ctr := r0.lt
          refine Ev.mono (do_ev H.ty.sx hf T1 m.op hm.2.2.2.1 ob.value m (d := d) (hd.chg H.chg ho) (AV.out_sub hout (fun y hy => by simp [hy]))) ?_
          rintro u s5 ⟨hc5, F'', hg5, hX5, dv, hdv, hdo, rfl⟩
          replace r0 := r0.step hc5.l2 hg5.l2
          replace b0 := b0.step hc5.l2 hg5.l2
          replace H := H.v hc5 hg5 hX5
          have hdf := hdv.flat
          have hT1 : (svc.act T1 x m.op ob.value m).2.1 = T1 := by by_cases h103 : m.op = 103 <;> simp [svc, h103]
          obtain ⟨rr, hrr⟩ : ∃ rr, rr = svc.act T1 x m.op ob.value m := ⟨_, rfl⟩
          rw [← hrr] at hdv hX5 hfacts H hT1 ⊢
          obtain ⟨⟨ra, re⟩, rT, rx⟩ := rr
          simp only at hdv hX5 hfacts H hT1
          subst hT1
          obtain ⟨s6, hs6⟩ : ∃ t, t = s5.new (.cells [.int .u64 0, .int .u32 0, .int .u8 0, .int .u64 0, .int .u64 0, .snil] 0 false) := ⟨_, rfl⟩
          have hdv6 : isFlat dv = true := hdv.flat
          have hfd6 : (ra.cells dv).all isFlat = true := Rs.cells_flat hdf
          have x6 : Ext s5 s6 := by rw [hs6]; simp
          have g6 : s6.get s5.ctr = some (.cells [.int .u64 0, .int .u32 0, .int .u8 0, .int .u64 0, .int .u64 0, .snil] 0 false) := by rw [hs6]; simp
          have wr6 := wrc (o := 0) (v := ra.cells dv) g6 (by simp) hfd6
          rw [over6 _ _ _ rfl] at wr6
          obtain ⟨s7, hs7⟩ : ∃ t, t = s6.set s5.ctr (some (.cells (ra.cells dv) 0 false)) := ⟨_, rfl⟩
          have x7 : Ext s5 s7 := by rw [hs7]; exact Ext.set (by omega) x6
          have g7 : s7.get s5.ctr = some (.cells (ra.cells dv) 0 false) := by rw [hs7]; simp
          rw [← hs7] at wr6
          replace r0 := r0.ext x7
          replace b0 := b0.ext x7
          replace H := H.ext x7
          replace hdv := hdv.ext x7
          simp [← hs6, wr6]
          cases re with
          | some e =>
            obtain ⟨q1, q2⟩ := hfacts.1 e rfl
            simp [errV, pf33_3, pf33_2, pf33_1]
            refine Ev.mono (failK (R := ((ra, some e), rT, rx)) (e := e) H b0 r0 rfl q1 q2) ?_
            rintro u s8 ⟨M, w, rfl, ww, hpost⟩
            simp [ww, take11]
            exact hpost
          | none =>
            have rc : s7.read s5.ctr 0 4 = some ra.cap.cells := by rw [rd g7 (by simp)]; rfl
            have ra4 : s7.read s5.ctr 4 1 = some [.int .u64 (ra.arg : Int)] := by rw [rd g7 (by simp)]; rfl
            have rd5 : s7.read s5.ctr 5 1 = some [dv] := by rw [rd g7 (by simp)]; rfl
            simp [errV, pf33_3, pf33_2, pf33_0, b0.all, rc, ra4, rd5]
            refine Ev.mono (ansK (R := ((ra, none), rT, rx)) (dv := dv) H r0 rfl hdv (by rcases hfacts.2 with h9 | h9 <;> simp only [h9, List.length_nil] <;> omega)) ?_
            rintro u s8 ⟨M, w, rfl, ww, hpost⟩
            simp [ww, take11]
            exact hpost
end Go.Ab
/-! 'SkeletonServes' in plain Lean: what a request keeps; the acts. -/
namespace Go.Ab

theorem Tbl.Step.up {a b : Nat} {T T' : Tbl} (h : Tbl.Step a T T') (hb : a ≤ b) : Tbl.Step b T T' := ⟨h.port, h.es, h.ge, by have := h.le; omega, by have := h.rs; omega, h.ok⟩

/-- What a service has seen has at most one thing more. -/
def Sg.More (x y : Sg) : Prop := y.done.length ≤ x.done.length + 1 ∧ y.gone.length ≤ x.gone.length + 1
theorem Sg.More.refl (x : Sg) : Sg.More x x := ⟨by omega, by omega⟩

theorem svc_destroy_step (T : Tbl) (x : Sg) (c : Cp) : Tbl.Step 2 T (svc.destroy T x c).2.1 ∧ Sg.More x (svc.destroy T x c).2.2 := by
  unfold Sv.destroy
  split
  · have h := Tbl.check_step T c 8
    cases hc : T.check c 8 with
    | mk a T1 =>
      obtain ⟨k, e⟩ := a
      rw [hc] at h
      cases e with
      | some e => exact ⟨h.up (by omega), Sg.More.refl _⟩
      | none => exact ⟨h.up (by omega), Sg.More.refl _⟩
  · have h := Tbl.destroy_step T c
    cases hc : T.destroy c with
    | mk a T1 =>
      obtain ⟨k, v, e⟩ := a
      rw [hc] at h
      cases e with
      | some e => exact ⟨h.up (by omega), Sg.More.refl _⟩
      | none => exact ⟨h.up (by omega), by simp [svc, Sg.More]⟩

theorem svc_run_step {T : Tbl} (ok : T.Ok) (x : Sg) {m : Ms} (hm : m.fit) : Tbl.Step 2 T (svc.run T x m).2.1 ∧ Sg.More x (svc.run T x m).2.2 ∧ (svc.run T x m).1.1.cap.Fit := by
  have hcf := Ms.cap_fit hm
  have hz : Rs.zero.cap.Fit := Cp.zero_fit
  unfold Sv.run
  split
  · exact ⟨Tbl.Step.refl _ _, Sg.More.refl _, hz⟩
  · split
    · exact ⟨(Tbl.info_step T m.cap).up (by omega), Sg.More.refl _, hz⟩
    · split
      · exact ⟨(Tbl.touch_step T m.cap).up (by omega), Sg.More.refl _, hz⟩
      · split
        · exact ⟨Tbl.restrict_step T m.cap _, Sg.More.refl _, Tbl.restrict_fit ok hcf _⟩
        · split
          · exact ⟨Tbl.revoke_step T m.cap, Sg.More.refl _, Tbl.revoke_fit ok hcf⟩
          · split
            · exact ⟨(svc_destroy_step T x m.cap).1, (svc_destroy_step T x m.cap).2, hz⟩
            · split
              · exact ⟨Tbl.Step.refl _ _, Sg.More.refl _, hz⟩
              · have h := Tbl.check_step T m.cap (svc.need m.op).1
                cases hc : T.check m.cap (svc.need m.op).1 with
                | mk a T1 =>
                  obtain ⟨k, e⟩ := a
                  rw [hc] at h
                  cases e with
                  | some e => exact ⟨h.up (by omega), Sg.More.refl _, hz⟩
                  | none =>
                    by_cases h103 : m.op = 103
                    · simp only [svc, h103, if_true]
                      exact ⟨h.up (by omega), by simp [Sg.More], hz⟩
                    · simp only [svc, h103, if_false]
                      exact ⟨h.up (by omega), by simp [Sg.More], hcf⟩

/-- The reply's parts. -/
def Ms.rcap (m : Ms) : Cp := m.cap
theorem reply_cap_fit (m : Ms) {r : Rs × Option Int} (h : r.1.cap.Fit) : (m.reply_ r).cap.Fit := by
  unfold Ms.reply_
  cases r.2 with
  | some e => exact Cp.zero_fit
  | none => exact h

/-- What is done in the law. -/
structure Act where
  op : Nat
  which : Nat
  change : Nat
  m : Ms
def Act.fit (a : Act) : Prop := a.op < 65536 ∧ a.which < 256 ∧ a.change < 256 ∧ a.m.fit
def Act.cells (a : Act) (d : AV) : List AV := .int .u16 (a.op : Int) :: .int .u8 (a.which : Int) :: .int .u8 (a.change : Int) :: a.m.cells d
def Act.code (a : Act) : Nat := if a.op % 16 ≤ 4 then 1 + a.op % 16 else if a.op % 16 ≤ 8 then 95 + a.op % 16 else if a.op % 16 = 9 then 7 else a.op
theorem Act.code_lt {a : Act} (h : a.fit) : a.code < 65536 := by
  have := h.1
  unfold Act.code
  split
  · omega
  · split
    · omega
    · split <;> omega

theorem tmod16 (n : Nat) : (n : Int).tmod 16 = ((n % 16 : Nat) : Int) := rfl

set_option maxHeartbeats 1000000 in
theorem code_ok {s : S} {a : Act} (ha : a.fit) {d : AV} (hf : isFlat d = true) : Ev tab 31 [.agg (a.cells d)] s fun v s' => Ext s s' ∧ v = .int .u16 (a.code : Int) := by
  refine Ev.intro rfl rfl rfl ?_
  obtain ⟨s0, hs0⟩ : ∃ s0, s0 = s.new (.cells (a.cells d) 0 false) := ⟨_, rfl⟩
  have x0 : Ext s s0 := by rw [hs0]; simp
  have g0 : s0.get s.ctr = some (.cells (a.cells d) 0 false) := by rw [hs0]; simp
  have r0 : s0.read s.ctr 0 1 = some [.int .u16 (a.op : Int)] := by rw [rd g0 (by simp [Act.cells])]; rfl
  have hcf : (a.cells d).all isFlat = true := by simp [Act.cells, Ms.cells, hf]
  have h16 := tmod16 a.op
  obtain ⟨k, hk⟩ : ∃ k, k = a.op % 16 := ⟨_, rfl⟩
  have hop := ha.1
  simp [pf31, pf31_21, hcf, ← hs0, pf31_20, r0, h16]
  unfold Act.code
  rw [← hk]
  have hk16 : k < 16 := by omega
  have hc : k = 0 ∨ k = 1 ∨ k = 2 ∨ k = 3 ∨ k = 4 ∨ k = 5 ∨ k = 6 ∨ k = 7 ∨ k = 8 ∨ k = 9 ∨ (10 ≤ k) := by omega
  rcases hc with h | h | h | h | h | h | h | h | h | h | h
  iterate 10
    · have hz : (a.op : Int) % 16 = (k : Int) := by omega
      subst h
      simp [pf31_19, pf31_18, pf31_17, pf31_16, pf31_15, pf31_14, pf31_13, pf31_12, pf31_11, pf31_10, pf31_9, pf31_8, pf31_7, pf31_6, pf31_5, pf31_4, pf31_3, pf31_2, pf31_1, pf31_0, r0, h16, hz, x0]
      all_goals rfl
  · have q4 : ¬ k ≤ 4 := by omega
    have q8 : ¬ k ≤ 8 := by omega
    have q9 : ¬ k = 9 := by omega
    have n0 : ¬ (a.op : Int) % 16 = 0 := by omega
    have n1 : ¬ (a.op : Int) % 16 = 1 := by omega
    have n2 : ¬ (a.op : Int) % 16 = 2 := by omega
    have n3 : ¬ (a.op : Int) % 16 = 3 := by omega
    have n4 : ¬ (a.op : Int) % 16 = 4 := by omega
    have n5 : ¬ (a.op : Int) % 16 = 5 := by omega
    have n6 : ¬ (a.op : Int) % 16 = 6 := by omega
    have n7 : ¬ (a.op : Int) % 16 = 7 := by omega
    have n8 : ¬ (a.op : Int) % 16 = 8 := by omega
    have n9 : ¬ (a.op : Int) % 16 = 9 := by omega
    simp [pf31_19, pf31_18, pf31_17, pf31_16, pf31_15, pf31_14, pf31_13, pf31_12, pf31_11, pf31_10, pf31_9, pf31_8, pf31_7, pf31_6, pf31_5, pf31_4, pf31_3, pf31_2, pf31_1, pf31_0, r0, h16, n0, n1, n2, n3, n4, n5, n6, n7, n8, n9, q4, q8, q9, x0]
end Go.Ab
/-! 'SkeletonServes' over the abstract machine: a server, what the law holds against it, capabilities. -/
namespace Go.Ab

/-- A server, the law's table and service of the same plain state, capabilities. -/
structure Wd (s st : S) (sp tp xp up yp : Nat) (T : Tbl) (x : Sg) (A : List Nat) (hv : AV) (cs : List Cp) : Prop where
  kp : Keep s.ctr s st
  ex : ∃ F1 F2 G1 G2 Fh, A = sp :: ((F1 ++ F2) ++ ((G1 ++ G2) ++ Fh)) ∧ Sy st sp tp xp T x F1 F2 ∧ Wy st up yp T x G1 G2 ∧ OwnR Cp.cells 4 st hv cs Fh ∧ Apart (F1 ++ F2) (G1 ++ G2) ∧ Apart (F1 ++ F2) Fh ∧ Apart (G1 ++ G2) Fh ∧ sp ∉ G1 ++ G2 ∧ sp ∉ Fh
  lo : ∀ y ∈ A, s.ctr ≤ y
  fit : ∀ c ∈ cs, c.Fit

section
variable {s st st' : S} {sp tp xp up yp : Nat} {T T' : Tbl} {x x' : Sg} {A : List Nat} {hv : AV} {cs : List Cp}
theorem Wd.lt (h : Wd s st sp tp xp up yp T x A hv cs) : ∀ y ∈ A, y < st.ctr := by
  obtain ⟨F1, F2, G1, G2, Fh, rfl, hS, hT, hO, _⟩ := h.ex
  intro y hy
  rcases List.mem_cons.1 hy with rfl | hy
  · exact hS.lt
  · rcases List.mem_append.1 hy with hy | hy
    · exact hS.flt y hy
    · rcases List.mem_append.1 hy with hy | hy
      · exact hT.flt y hy
      · exact OwnF.lt hO y hy
theorem Wd.ext (h : Wd s st sp tp xp up yp T x A hv cs) (hx : Ext st st') : Wd s st' sp tp xp up yp T x A hv cs := by
  obtain ⟨F1, F2, G1, G2, Fh, rfl, hS, hT, hO, a1, a2, a3, o1, o2⟩ := h.ex
  exact ⟨h.kp.trans (hx.keep h.kp.ctr), ⟨F1, F2, G1, G2, Fh, rfl, hS.ext hx, hT.ext hx, OwnF.ext hO hx, a1, a2, a3, o1, o2⟩, h.lo, h.fit⟩
theorem Wd.set (h : Wd s st sp tp xp up yp T x A hv cs) {i : Nat} {o : Option AO} (hi : i ∉ A) (h0 : s.ctr ≤ i) : Wd s (st.set i o) sp tp xp up yp T x A hv cs := by
  obtain ⟨F1, F2, G1, G2, Fh, rfl, hS, hT, hO, a1, a2, a3, o1, o2⟩ := h.ex
  simp only [List.mem_cons, List.mem_append, not_or] at hi
  obtain ⟨i0, ⟨i1, i2⟩, ⟨i3, i4⟩, i5⟩ := hi
  refine ⟨⟨by simpa using h.kp.ctr, fun id hid => by rw [S.get_set, if_neg (by omega), h.kp.get id hid]⟩, ⟨F1, F2, G1, G2, Fh, rfl, hS.set (by simp [i1, i2]) (fun e => i0 e.symm), hT.chg (l := [i]) (by simp) (fun y hy => ?_), OwnF.chg hO (l := [i]) (by simp) (fun y hy => ?_), a1, a2, a3, o1, o2⟩, h.lo, h.fit⟩
  · simp only [List.mem_singleton]
    rintro rfl
    rcases List.mem_append.1 hy with hy | hy
    · exact i3 hy
    · exact i4 hy
  · simp only [List.mem_singleton]
    rintro rfl
    exact i5 hy
/-- The server has served. -/
theorem Wd.serve {F1 F2 G1 G2 Fh F1' F2' : List Nat} (hA : A = sp :: ((F1 ++ F2) ++ ((G1 ++ G2) ++ Fh))) (h0 : Keep s.ctr s st) (hlo : ∀ y ∈ A, s.ctr ≤ y) (hC : SyC st st' (F1 ++ F2) sp tp xp T' x' F1' F2') (hT : Wy st up yp T x G1 G2) (hO : OwnR Cp.cells 4 st hv cs Fh) (a1 : Apart (F1 ++ F2) (G1 ++ G2)) (a2 : Apart (F1 ++ F2) Fh) :
    Keep s.ctr s st' ∧ Wy st' up yp T x G1 G2 ∧ OwnR Cp.cells 4 st' hv cs Fh ∧ Apart (F1' ++ F2') (G1 ++ G2) ∧ Apart (F1' ++ F2') Fh := by
  subst hA
  refine ⟨h0.trans (hC.chg.keep (fun y hy => hlo y ?_) h0.ctr), hT.chg hC.chg a1.symm, OwnF.chg hO hC.chg a2.symm, a1.grow hC.grow hT.flt, a2.grow hC.grow (OwnF.lt hO)⟩
  rw [List.mem_cons, List.mem_append]
  exact .inr (.inl hy)
end
/-- The message that is sent. -/
def Ms.withCap (m : Ms) (c : Cp) : Ms := { m with p := c.p, o := c.o, r := c.r, k := c.k }
def Act.msg (cs : List Cp) (a : Act) : Ms :=
  if 0 < a.change % 8 then
    let c := cs.getD (a.which % cs.length) Cp.zero
    { a.m with op := a.code }.withCap (if a.change % 8 = 1 then { c with r := c.r ^^^ 2 ^ (a.change / 8 % 8) } else c)
  else { a.m with op := a.code }
theorem wrap_u8n {z : Nat} (h : z < 256) : IntKind.u8.wrap (z : Int) = z := by
  simp only [IntKind.wrap, IntKind.signed, IntKind.bits]
  simp
  omega
theorem xor8 (a z : Nat) (ha : a < 256) (hz : z < 256) : binV .xor (.int .u8 (a : Int)) (.int .u8 (z : Int)) = some (.int .u8 ((a ^^^ z : Nat) : Int)) := by
  rw [binV_xor]
  have e1 : (BitVec.ofInt IntKind.u8.bits (a : Int)).toNat = a := by
    simp only [IntKind.bits, BitVec.toNat_ofInt]; omega
  have e2 : (BitVec.ofInt IntKind.u8.bits (z : Int)).toNat = z := by
    simp only [IntKind.bits, BitVec.toNat_ofInt]; omega
  rw [BitVec.toNat_xor, e1, e2]
  have hx : a ^^^ z < 2 ^ 8 := Nat.xor_lt_two_pow (n := 8) ha hz
  rw [wrap_u8n (by omega)]
theorem xor8_lt {a b : Nat} (ha : a < 256) (hb : b < 8) : a ^^^ 2 ^ b < 256 := by
  have hb2 : 2 ^ b < 2 ^ 8 := Nat.pow_lt_pow_right (by omega) hb
  exact Nat.xor_lt_two_pow (n := 8) ha hb2

theorem Act.msg_fit {cs : List Cp} {a : Act} (ha : a.fit) (hc : ∀ c ∈ cs, c.Fit) : (a.msg cs).fit := by
  obtain ⟨h1, h2, h3, h4, h5, h6, h7, h8, h9, h10, h11⟩ := ha.2.2.2
  have hcd := Act.code_lt ha
  have hg : (cs.getD (a.which % cs.length) Cp.zero).Fit := by
    by_cases hl : a.which % cs.length < cs.length
    · rw [List.getD_eq_getElem?_getD, List.getElem?_eq_getElem hl]
      exact hc _ (List.getElem_mem hl)
    · rw [List.getD_eq_getElem?_getD, List.getElem?_eq_none (by omega)]
      exact Cp.zero_fit
  unfold Act.msg
  split
  · simp only
    split
    · exact ⟨h1, h2, h3, hcd, h5, hg.p, hg.o, xor8_lt hg.r (Nat.mod_lt _ (by omega)), hg.k, h10, h11⟩
    · exact ⟨h1, h2, h3, hcd, h5, hg.p, hg.o, hg.r, hg.k, h10, h11⟩
  · exact ⟨h1, h2, h3, hcd, h5, h6, h7, h8, h9, h10, h11⟩
theorem Act.msg_data (cs : List Cp) (a : Act) : (a.msg cs).data = a.m.data := by
  unfold Act.msg
  split
  · rfl
  · rfl

/-- The acts, as they are read. -/
def ActsAt (s : S) (v : AV) (bs : List Act) : Prop := lenV v = some bs.length ∧ (v = .snil ∨ (∃ a, v = .zsl a) ∨ ∃ A cap opn, v = .slice A 0 bs.length cap opn ∧ A < s.ctr ∧ ∀ (i : Nat) (a : Act), bs[i]? = some a → ∃ d, s.read A (0 + i * 14) 14 = some (a.cells d) ∧ Bytes s d a.m.data)
theorem ActsAt.wlen {s : S} {v : AV} {bs : List Act} (hb : ActsAt s v bs) : ∀ (T : Tab) (r : Regs) (s' : S) (x : Opd) (Q : AV → S → Prop), x.ev r = v → WpI T (.len false x) r s' Q = Q (.int .i64 bs.length) s' := by
  intro T r s' x Q hx
  have h := hb.1
  rcases hb.2 with rfl | ⟨za, rfl⟩ | ⟨b, c, opn, rfl, _⟩ <;> simp only [lenV, Option.some.injEq] at h <;> first | (simp [hx, ← h]; done) | (simp [hx]; done)
theorem ActsAt.elem {s s' : S} {v : AV} {bs : List Act} (hb : ActsAt s v bs) (hx : Keep s.ctr s s') {i : Nat} {a : Act} (hi : bs[i]? = some a) : ∃ A cap opn d, v = .slice A 0 bs.length cap opn ∧ s'.read A (i * 14) 14 = some (a.cells d) ∧ Bytes s' d a.m.data ∧ d.inS s.ctr := by
  have hil := (List.getElem?_eq_some_iff.1 hi).1
  have h := hb.1
  rcases hb.2 with rfl | ⟨za, rfl⟩ | ⟨A, c, opn, rfl, hA, hr⟩
  · simp [lenV] at h; omega
  · simp [lenV] at h; omega
  · obtain ⟨d, h1, h2⟩ := hr i a hi
    refine ⟨A, c, opn, d, rfl, ?_, h2.keep hx h2.below, h2.below⟩
    rw [show s'.read A (i * 14) 14 = s.read A (i * 14) 14 by unfold S.read; rw [hx.get A hA]]
    simpa using h1
end Go.Ab
/-! 'SkeletonServes' over the abstract machine: an act. -/
namespace Go.Ab

/-- Bounds of what is remembered. -/
structure WdB (T : Tbl) (x : Sg) (cs : List Cp) (n : Nat) : Prop where
  ok : T.Ok
  rs : T.orc.rs.length ≤ 10 + 2 * n
  done : x.done.length ≤ n
  gone : x.gone.length ≤ n
  pos : 0 < cs.length
  len : cs.length ≤ 3 + n

set_option maxRecDepth 10000 in
set_option maxHeartbeats 2000000 in
theorem serve_step {s st : S} {sp tp xp up yp n : Nat} {T : Tbl} {x : Sg} {A : List Nat} {hv : AV} {cs : List Cp} (H : Wd s st sp tp xp up yp T x A hv cs) (B : WdB T x cs n) (hn : n ≤ 1759218604442) {m : Ms} (hm : m.fit) {d : AV} {i16 : Nat} (hb : Bg st i16 (m.cells d) A) (hi : s.ctr ≤ i16) (hd : Bytes st d m.data) (hdl : d.inS s.ctr) {R : Regs} {K : KP}
    (e6 : R 6 = .ptr up 0) (e7 : R 7 = .ptr xp 0) (e8 : R 8 = .ptr yp 0) (e9 : R 9 = .ptr sp 0) (e10 : R 10 = hv) (e16 : R 16 = .ptr i16 0) {v59 v60 v61 : AV} (e59 : R 59 = v59) (e60 : R 60 = v60) (e61 : R 61 = v61)
    (hK : ∀ R' st' T' x' A' hv' cs', Wd s st' sp tp xp up yp T' x' A' hv' cs' → WdB T' x' cs' (n + 1) → R' 6 = .ptr up 0 → R' 7 = .ptr xp 0 → R' 8 = .ptr yp 0 → R' 9 = .ptr sp 0 → R' 10 = hv' → R' 59 = v59 → R' 60 = v60 → R' 61 = v61 → K .normal R' st') :
    WpC tab pf8_23 R st (seqK tab pf8_22 K) := by
  obtain ⟨F1, F2, G1, G2, Fh, hA, hS, hT, hO, a1, a2, a3, o1, o2⟩ := H.ex
  have hlt := H.lt
  have hdf := hd.flat
  have hlo := H.lo
  have hk := H.kp
  have hsc := hk.ctr
  have hrl := B.rs
  have hdo : ∀ L : List Nat, (∀ y ∈ L, s.ctr ≤ y) → d.out L := by
    intro L hL
    cases d <;> first | trivial | exact fun hx => by have := hL _ hx; simp only [AV.inS] at hdl; omega
  obtain ⟨s1, hs1⟩ : ∃ t, t = (st.new (.cells zMs 0 false)).new (.cells zMs 0 false) := ⟨_, rfl⟩
  have x1 : Ext st s1 := by rw [hs1]; simp (maxDischargeDepth := 30)
  have hs1' : (st.new (.cells [.int .u64 0, .int .u64 0, .int .u32 0, .int .u16 0, .int .u16 0, .int .u64 0, .int .u32 0, .int .u8 0, .int .u64 0, .int .u64 0, .snil] 0 false)).new (.cells [.int .u64 0, .int .u64 0, .int .u32 0, .int .u16 0, .int .u16 0, .int .u64 0, .int .u32 0, .int .u8 0, .int .u64 0, .int .u64 0, .snil] 0 false) = s1 := hs1.symm
  have c1 : s1.ctr = st.ctr + 2 := by rw [hs1]; rfl
  have q17 : Bg s1 st.ctr zMs A := ⟨by rw [hs1]; simp, by omega, fun hx => by have := hlt _ hx; omega⟩
  have q18 : Bg s1 (st.ctr + 1) zMs A := ⟨by rw [hs1]; simp, by omega, fun hx => by have := hlt _ hx; omega⟩
  have q16 := hb.ext x1
  have hi16 : i16 < st.ctr := hb.lt
  have k1 := hk.trans (x1.keep hsc)
  have sb : ∀ y ∈ F1 ++ F2, y ∈ A := fun y hy => by rw [hA]; exact List.mem_cons_of_mem _ (List.mem_append_left _ hy)
  have gb : ∀ y ∈ G1 ++ G2, y ∈ A := fun y hy => by rw [hA]; exact List.mem_cons_of_mem _ (List.mem_append_right _ (List.mem_append_left _ hy))
  -- the server
  have hserve := svServe_ok (hS.ext x1) B.ok (by omega) ⟨by have := B.done; omega, by have := B.gone; omega⟩ hm (hd.ext x1) (hdo _ (fun y hy => hlo y (sb y hy)))
  simp [pf8_23, e9, e16, hb.all, hs1', e6, e8]
  refine Ev.mono hserve ?_
  rintro u s2 ⟨F1', F2', w, HC, hw, hwo, rfl⟩
  obtain ⟨k2, hT2, hO2, a1', a2'⟩ := Wd.serve hA k1 hlo HC (hT.ext x1) (OwnF.ext hO x1) a1 a2
  have gA : Grow A (sp :: ((F1' ++ F2') ++ ((G1 ++ G2) ++ Fh))) s1.ctr := by
    rw [hA]
    exact (HC.grow.l1 (m := (G1 ++ G2) ++ Fh)).l2 (m := [sp])
  have cA : Chg A s1 s2 := HC.chg.sub sb
  have p16 := q16.step cA gA
  have p17 := q17.step cA gA
  have p18 := q18.step cA gA
  simp [ChkP, e16, p16.all]
  -- the law
  have hd2 : Bytes s2 d m.data := (hd.ext x1).chg HC.chg (hdo _ (fun y hy => hlo y (sb y hy)))
  have hwant := want_ok hT2 B.ok (by omega) ⟨by have := B.done; omega, by have := B.gone; omega⟩ hm hd2 (hdo _ (fun y hy => hlo y (gb y hy)))
  refine Ev.mono hwant ?_
  rintro u s3 ⟨G1', G2', w2, HD, hw2, hw2o, rfl⟩
  obtain ⟨T', hT'⟩ : ∃ T', T' = (svc.run T x m).2.1 := ⟨_, rfl⟩
  obtain ⟨x', hx'⟩ : ∃ x', x' = (svc.run T x m).2.2 := ⟨_, rfl⟩
  obtain ⟨Y, hY⟩ : ∃ Y, Y = m.reply_ (svc.run T x m).1 := ⟨_, rfl⟩
  have hst := svc_run_step B.ok x hm
  have hYf := reply_cap_fit m hst.2.2
  rw [← hT', ← hx'] at HC HD hst
  rw [← hY] at hw hw2 hYf
  have lT := hT2.flt
  have lF := HC.sy.flt
  have lH := OwnF.lt hO2
  have c2 := HC.chg.ctr
  have c3 := HD.chg.ctr
  have hlo2 : ∀ y ∈ G1 ++ G2, s.ctr ≤ y := fun y hy => hlo y (gb y hy)
  have a1'' : Apart (F1' ++ F2') (G1' ++ G2') := (a1'.symm.grow HD.grow lF).symm
  have a3'' : Apart (G1' ++ G2') Fh := a3.grow HD.grow lH
  have hsp2 : sp < s2.ctr := HC.sy.lt
  have o1'' : sp ∉ G1' ++ G2' := HD.grow.mem hsp2 o1
  have gA2 : Grow (sp :: ((F1' ++ F2') ++ ((G1 ++ G2) ++ Fh))) (sp :: ((F1' ++ F2') ++ ((G1' ++ G2') ++ Fh))) s2.ctr :=
    ((HD.grow.l1 (m := Fh)).l2 (m := F1' ++ F2')).l2 (m := [sp])
  have cA2 : Chg (sp :: ((F1' ++ F2') ++ ((G1 ++ G2) ++ Fh))) s2 s3 := HD.chg.sub (fun y hy => List.mem_cons_of_mem _ (List.mem_append_right _ (List.mem_append_left _ hy)))
  replace p16 := p16.step cA2 gA2
  replace p17 := p17.step cA2 gA2
  replace p18 := p18.step cA2 gA2
  have hS3 : Sy s3 sp tp xp T' x' F1' F2' := ⟨by rw [HD.chg.get sp hsp2 o1, HC.sy.sv], by omega, HC.sy.tb.chg HD.chg (fun y hy => a1' y (List.mem_append_left _ hy)), HC.sy.sx.chg HD.chg (fun y hy => a1' y (List.mem_append_right _ hy)), HC.sy.ap, HC.sy.out⟩
  have hO3 : OwnR Cp.cells 4 s3 hv cs Fh := OwnF.chg hO2 HD.chg a3.symm
  have k3 := k2.trans (HD.chg.keep hlo2 k2.ctr)
  have hlo3 : ∀ y ∈ sp :: ((F1' ++ F2') ++ ((G1' ++ G2') ++ Fh)), s.ctr ≤ y := by
    intro y hy
    rcases gA2 y hy with h | h
    · rcases gA y h with h | h
      · exact hlo y h
      · omega
    · omega
  obtain ⟨A3, hA3⟩ : ∃ L, L = sp :: ((F1' ++ F2') ++ ((G1' ++ G2') ++ Fh)) := ⟨_, rfl⟩
  have H3 : Wd s s3 sp tp xp up yp T' x' A3 hv cs := ⟨k3, ⟨F1', F2', G1', G2', Fh, hA3, hS3, HD.ty, hO3, a1'', a2', a3'', o1'', o2⟩, by rw [hA3]; exact hlo3, H.fit⟩
  rw [← hA3] at p16 p17 p18
  -- the replies are laid
  have b1 : Bytes s3 w Y.data := by
    refine hw.bytes.chg HD.chg ?_
    have := hw.since
    cases w <;> first | trivial | exact fun hx => by have := (hT.ext x1).flt _ hx; simp only [AV.since] at *; omega
  have b2 : Bytes s3 w2 Y.data := hw2.bytes
  have ww1 := wrc (o := 0) (v := Y.cells w) p17.get (by simp [zMs]) (Ms.cells_flat hw.flat)
  rw [over11 _ _ _ rfl] at ww1
  obtain ⟨s4, hs4⟩ : ∃ t, t = s3.set st.ctr (some (.cells (Y.cells w) 0 false)) := ⟨_, rfl⟩
  have H4 := H3.set (o := some (.cells (Y.cells w) 0 false)) p17.out (by omega)
  have r17 := p17.put (Y.cells w)
  have r18 := p18.set (j := st.ctr) (o := some (.cells (Y.cells w) 0 false)) (by omega)
  have r16 := p16.set (j := st.ctr) (o := some (.cells (Y.cells w) 0 false)) (by omega)
  have d1 := b1.set (i := st.ctr) (o := some (.cells (Y.cells w) 0 false)) hw.since (by omega)
  have d2 := b2.set (i := st.ctr) (o := some (.cells (Y.cells w) 0 false)) hw2.since (by omega)
  rw [← hs4] at ww1 H4 r17 r18 r16 d1 d2
  have ww2 := wrc (o := 0) (v := Y.cells w2) r18.get (by simp [zMs]) (Ms.cells_flat hw2.flat)
  rw [over11 _ _ _ rfl] at ww2
  obtain ⟨s5, hs5⟩ : ∃ t, t = s4.set (st.ctr + 1) (some (.cells (Y.cells w2) 0 false)) := ⟨_, rfl⟩
  have H5 := H4.set (o := some (.cells (Y.cells w2) 0 false)) r18.out (by omega)
  have t18 := r18.put (Y.cells w2)
  have t17 := r17.set (j := st.ctr + 1) (o := some (.cells (Y.cells w2) 0 false)) (by omega)
  have t16 := r16.set (j := st.ctr + 1) (o := some (.cells (Y.cells w2) 0 false)) (by omega)
  have f1 := d1.set (i := st.ctr + 1) (o := some (.cells (Y.cells w2) 0 false)) hw.since (by omega)
  have f2 := d2.set (i := st.ctr + 1) (o := some (.cells (Y.cells w2) 0 false)) hw2.since (by omega)
  rw [← hs5] at ww2 H5 t17 t18 t16 f1 f2
  simp [← hY, ww1, ww2, pf8_22, pf8_21, t17.all, t18.all]
  refine Ev.mono (sameMs_ok Y Y s5 f1 f2) ?_
  rintro v s6 ⟨x6, rfl⟩
  have H6 := H5.ext x6
  have u17 := t17.ext x6
  have u16 := t16.ext x6
  obtain ⟨E1, E2, J1, J2, Jh, hA6, hS6, hT6, hO6, z1, z2, z3, z4, z5⟩ := H6.ex
  obtain ⟨vd, vg, fd, fg, hxp, hod, hog, _⟩ := hS6.sx
  obtain ⟨vd', vg', fd', fg', hyp, hod', hog', _⟩ := hT6.sx
  have wl1 := hod.wlen
  have wl2 := hog.wlen
  have wl3 := hod'.wlen
  have wl4 := hog'.wlen
  have q4 : s6.read st.ctr 4 1 = some [.int .u16 (Y.st : Int)] := by rw [rd u17.get (by simp [Ms.cells])]; rfl
  have q3 := u16.op
  have B' : WdB T' x' cs (n + 1) := ⟨hst.1.ok B.ok, by have := hst.1.rs; omega, by have := hst.2.1.1; have := B.done; omega, by have := hst.2.1.2; have := B.gone; omega, B.pos, by have := B.len; omega⟩
  simp [e7, e8, rd hxp, rd hyp, wl1, wl2, wl3, wl4, pf8_19, q4, q3, e16]
  -- one capability more
  have push : ∀ (R' : Regs) (Q : AV → S → Prop), (∀ v' s' Fh', OwnR Cp.cells 4 s' v' (cs ++ [Y.cap]) Fh' → Chg Jh s6 s' → Grow Jh Fh' s6.ctr → Q v' s') → cont ((s6.new (.cells Y.cap.cells 0 false)).app 4 24 hv (.slice s6.ctr 0 1 1 false)) Q :=
    fun R' Q hq => cap_app Y.cap hO6 (by have := B.len; omega) hq
  have pushW : ∀ {v' : AV} {s' : S} {Fh' : List Nat}, OwnR Cp.cells 4 s' v' (cs ++ [Y.cap]) Fh' → Chg Jh s6 s' → Grow Jh Fh' s6.ctr → Wd s s' sp tp xp up yp T' x' (sp :: ((E1 ++ E2) ++ ((J1 ++ J2) ++ Fh'))) v' (cs ++ [Y.cap]) := by
    intro v' s' Fh' hO' hc' hg'
    have hctr := hc'.ctr
    have h6 := H6.kp.ctr
    have hJh : ∀ y ∈ Jh, s.ctr ≤ y := fun y hy => H6.lo y (by rw [hA6]; exact List.mem_cons_of_mem _ (List.mem_append_right _ (List.mem_append_right _ hy)))
    have hj : Jh = Jh := rfl
    refine ⟨H6.kp.trans (hc'.keep hJh h6), ⟨E1, E2, J1, J2, Fh', rfl, ?_, hT6.chg hc' z3, hO', z1, (z2.symm.grow hg' hS6.flt).symm, (z3.symm.grow hg' hT6.flt).symm, z4, hg'.mem hS6.lt z5⟩, fun y hy => ?_, fun c hc => ?_⟩
    · exact ⟨by rw [hc'.get sp hS6.lt z5, hS6.sv], by have := hS6.lt; omega, hS6.tb.chg hc' (fun y hy => z2 y (List.mem_append_left _ hy)), hS6.sx.chg hc' (fun y hy => z2 y (List.mem_append_right _ hy)), hS6.ap, hS6.out⟩
    · have hgA : Grow A3 (sp :: ((E1 ++ E2) ++ ((J1 ++ J2) ++ Fh'))) s6.ctr := by
        rw [hA6]
        exact ((hg'.l2 (m := J1 ++ J2)).l2 (m := E1 ++ E2)).l2 (m := [sp])
      rcases hgA y hy with h | h
      · exact H6.lo y h
      · omega
    · rcases List.mem_append.1 hc with h | h
      · exact H6.fit c h
      · rw [List.mem_singleton.1 h]; exact hYf
  have B'' : WdB T' x' (cs ++ [Y.cap]) (n + 1) := ⟨B'.ok, B'.rs, B'.done, B'.gone, by simp, by have := B.len; simp only [List.length_append, List.length_singleton]; omega⟩
  have ucap := u17.cap
  by_cases hst0 : Y.st = 0
  · by_cases o3 : m.op = 3
    · have o3i : (m.op : Int) = 3 := by omega
      simp [hst0, e16, q3, o3i, pf8_18, e10, ucap, Cp.cells_flat]
      refine push R _ ?_
      rintro v' s7 Fh' hO' hc' hg'
      simp
      exact hK _ _ _ _ _ _ _ (pushW hO' hc' hg') B'' (by simp [e6]) (by simp [e7]) (by simp [e8]) (by simp [e9]) (by simp) (by simp [e59]) (by simp [e60]) (by simp [e61])
    · have o3i : ¬ (m.op : Int) = 3 := by omega
      by_cases o4 : m.op = 4
      · have o4i : (m.op : Int) = 4 := by omega
        simp [hst0, e16, q3, o3i, o4i, pf8_18, e10, ucap, Cp.cells_flat]
        refine push R _ ?_
        rintro v' s7 Fh' hO' hc' hg'
        simp
        exact hK _ _ _ _ _ _ _ (pushW hO' hc' hg') B'' (by simp [e6]) (by simp [e7]) (by simp [e8]) (by simp [e9]) (by simp) (by simp [e59]) (by simp [e60]) (by simp [e61])
      · have o4i : ¬ (m.op : Int) = 4 := by omega
        simp [hst0, e16, q3, o3i, o4i]
        exact hK _ _ _ _ _ _ _ H6 B' (by simp [e6]) (by simp [e7]) (by simp [e8]) (by simp [e9]) (by simp [e10]) (by simp [e59]) (by simp [e60]) (by simp [e61])
  · simp [hst0, e16, q3]
    exact hK _ _ _ _ _ _ _ H6 B' (by simp [e6]) (by simp [e7]) (by simp [e8]) (by simp [e9]) (by simp [e10]) (by simp [e59]) (by simp [e60]) (by simp [e61])
end Go.Ab
/-! 'SkeletonServes' over the abstract machine: the acts. -/
namespace Go.Ab

theorem tmod8 (n : Nat) : (n : Int).tmod 8 = ((n % 8 : Nat) : Int) := rfl
theorem tdiv8 (n : Nat) : (n : Int).tdiv 8 = ((n / 8 : Nat) : Int) := rfl
theorem shl8 (z : Nat) (hz : z < 8) : IntKind.u8.wrap ((2 : Int) ^ z) = ((2 ^ z : Nat) : Int) := by
  have hc : z = 0 ∨ z = 1 ∨ z = 2 ∨ z = 3 ∨ z = 4 ∨ z = 5 ∨ z = 6 ∨ z = 7 := by omega
  rcases hc with h | h | h | h | h | h | h | h <;> subst h <;> rfl
theorem over14 (z : List AV) (a : Act) (d : AV) (hz : z.length = 14) : over z 0 (a.cells d) = a.cells d := by
  have al : (a.cells d).length = 14 := rfl
  unfold over
  simp [hz, al]
def Ms.coded (m : Ms) (o : Nat) : Ms := { m with op := o }

set_option maxRecDepth 10000 in
set_option maxHeartbeats 2000000 in
theorem acts_loop {bs : List Act} {s st : S} {av : AV} {sp tp xp up yp : Nat} {T : Tbl} {x : Sg} {A : List Nat} {hv : AV} {cs : List Cp} (hbv : ActsAt s av bs) (hfit : ∀ a ∈ bs, a.fit) (hbl : bs.length ≤ 1759218604442) (H : Wd s st sp tp xp up yp T x A hv cs) (B : WdB T x cs 0) {R : Regs} {K : KP}
    (e6 : R 6 = .ptr up 0) (e7 : R 7 = .ptr xp 0) (e8 : R 8 = .ptr yp 0) (e9 : R 9 = .ptr sp 0) (e10 : R 10 = hv) (e59 : R 59 = av) (e60 : R 60 = .int .i64 bs.length) (e61 : R 61 = .int .i64 0)
    (hK : ∀ R' st' T' x' A' hv' cs', Wd s st' sp tp xp up yp T' x' A' hv' cs' → WdB T' x' cs' bs.length → R' 7 = .ptr xp 0 → R' 8 = .ptr yp 0 → K (.exit 2) R' st') :
    WpC tab (.loop (.seq pf8_35 pf8_34)) R st K := by
  refine WpC.loop (fun m R' st' => ∃ i T' x' A' hv' cs', i ≤ bs.length ∧ m = bs.length - i ∧ Wd s st' sp tp xp up yp T' x' A' hv' cs' ∧ WdB T' x' cs' i ∧ R' 6 = .ptr up 0 ∧ R' 7 = .ptr xp 0 ∧ R' 8 = .ptr yp 0 ∧ R' 9 = .ptr sp 0 ∧ R' 10 = hv' ∧ R' 59 = av ∧ R' 60 = .int .i64 bs.length ∧ R' 61 = .int .i64 (i : Nat)) (m := bs.length) ?_ ?_
  · exact ⟨0, T, x, A, hv, cs, by omega, by omega, H, B, e6, e7, e8, e9, e10, e59, e60, e61⟩
  rintro m R st ⟨i, T, x, A, hv, cs, hi, rfl, H, B, e6, e7, e8, e9, e10, e59, e60, e61⟩
  by_cases hil : i < bs.length
  · have hili : (i : Int) < bs.length := by omega
    obtain ⟨a, ha⟩ : ∃ a, bs[i]? = some a := ⟨_, List.getElem?_eq_getElem hil⟩
    have haf := hfit a (List.mem_of_getElem? ha)
    obtain ⟨A0, cap, opn, d, rfl, hrd, hd, hdl⟩ := hbv.elem H.kp ha
    have fl := hd.flat
    have hcl0 := hd.cells1
    have w2 : IntKind.i64.wrap ((i : Int) + 1) = ((i + 1 : Nat) : Int) := by rw [wrap_i64] <;> omega
    have hlt := H.lt
    have hsc := H.kp.ctr
    have hacf : (a.cells d).all isFlat = true := by simp [Act.cells, Ms.cells, fl]
    obtain ⟨s1, hs1⟩ : ∃ t, t = (st.new (.cells [.int .u16 0, .int .u8 0, .int .u8 0, .int .u64 0, .int .u64 0, .int .u32 0, .int .u16 0, .int .u16 0, .int .u64 0, .int .u32 0, .int .u8 0, .int .u64 0, .int .u64 0, .snil] 0 false)).set st.ctr (some (.cells (a.cells d) 0 false)) := ⟨_, rfl⟩
    have x1 : Ext st s1 := by rw [hs1]; simp
    have c1 : s1.ctr = st.ctr + 1 := by rw [hs1]; simp
    have q15 : Bg s1 st.ctr (a.cells d) A := ⟨by rw [hs1]; simp, by omega, fun hx => by have := hlt _ hx; omega⟩
    obtain ⟨s2, hs2⟩ : ∃ t, t = (s1.new (.cells zMs 0 false)).set s1.ctr (some (.cells (a.m.cells d) 0 false)) := ⟨_, rfl⟩
    have x2 : Ext s1 s2 := by rw [hs2]; simp
    have c2 : s2.ctr = st.ctr + 2 := by rw [hs2]; simp; omega
    have q16 : Bg s2 (st.ctr + 1) (a.m.cells d) A := ⟨by rw [hs2, ← c1]; simp, by omega, fun hx => by have := hlt _ hx; omega⟩
    have p15 := q15.ext x2
    have wr15 := wrc (o := 0) (v := a.cells d) (s := st.new (.cells [.int .u16 0, .int .u8 0, .int .u8 0, .int .u64 0, .int .u64 0, .int .u32 0, .int .u16 0, .int .u16 0, .int .u64 0, .int .u32 0, .int .u8 0, .int .u64 0, .int .u64 0, .snil] 0 false)) (b := st.ctr) (c := [.int .u16 0, .int .u8 0, .int .u8 0, .int .u64 0, .int .u64 0, .int .u32 0, .int .u16 0, .int .u16 0, .int .u64 0, .int .u32 0, .int .u8 0, .int .u64 0, .int .u64 0, .snil]) (sz := 0) (by simp) (by simp [Act.cells]) hacf
    rw [over14 _ _ _ rfl, ← hs1] at wr15
    have wr16 := wrc (o := 0) (v := a.m.cells d) (s := s1.new (.cells zMs 0 false)) (b := s1.ctr) (c := zMs) (sz := 0) (by simp) (by simp [zMs]) (Ms.cells_flat fl)
    rw [over11 _ _ _ rfl, ← hs2] at wr16
    have wr16' : (s1.new (.cells [.int .u64 0, .int .u64 0, .int .u32 0, .int .u16 0, .int .u16 0, .int .u64 0, .int .u32 0, .int .u8 0, .int .u64 0, .int .u64 0, .snil] 0 false)).write s1.ctr 0 (a.m.cells d) = some s2 := wr16
    have al : (a.cells d).length = 14 := rfl
    have rm : s1.read st.ctr 3 11 = some (a.m.cells d) := by rw [rd q15.get (by simp [al])]; rfl
    have rall : s2.read st.ctr 0 14 = some (a.cells d) := by rw [rd p15.get (by simp [al])]; rfl
    have H2 := H.ext (x1.trans x2)
    have hd2 := hd.ext (x1.trans x2)
    simp [pf8_35, pf8_34, e61, e60, hili, pf8_32, e59, hil, hrd, al, wr15, pf8_31, rm, wr16', pf8_30, pf8_29, rall]
    refine Ev.mono (code_ok haf fl) ?_
    rintro v s3 ⟨x3, rfl⟩
    -- the operation is laid
    replace H2 := H2.ext x3
    replace hd2 := hd2.ext x3
    replace p15 := p15.ext x3
    replace q16 := q16.ext x3
    obtain ⟨M, hM⟩ : ∃ M, M = a.m.coded a.code := ⟨_, rfl⟩
    have ww3 := wrc (o := 3) (v := [.int .u16 (a.code : Int)]) q16.get (by simp [Ms.cells]) (by simp [isFlat])
    have ov3 : over (a.m.cells d) 3 [.int .u16 (a.code : Int)] = M.cells d := by rw [hM]; rfl
    rw [ov3] at ww3
    obtain ⟨s4, hs4⟩ : ∃ t, t = s3.set (st.ctr + 1) (some (.cells (M.cells d) 0 false)) := ⟨_, rfl⟩
    have H4 := H2.set (o := some (.cells (M.cells d) 0 false)) q16.out (by omega)
    have t16 := q16.put (M.cells d)
    have t15 := p15.set (j := st.ctr + 1) (o := some (.cells (M.cells d) 0 false)) (by omega)
    have hd4 : Bytes (s3.set (st.ctr + 1) (some (.cells (M.cells d) 0 false))) d a.m.data := by
      refine hd2.chg (l := [st.ctr + 1]) (by simp) ?_
      cases d <;> first | trivial | (simp only [AV.inS] at hdl; simp only [AV.out, List.mem_singleton]; omega)
    rw [← hs4] at ww3 H4 t16 t15 hd4
    have rch : s4.read st.ctr 2 1 = some [.int .u8 (a.change : Int)] := by rw [rd t15.get (by simp [al])]; rfl
    have rwh : s4.read st.ctr 1 1 = some [.int .u8 (a.which : Int)] := by rw [rd t15.get (by simp [al])]; rfl
    have h8 := tmod8 a.change
    obtain ⟨k, hk⟩ : ∃ k, k = a.change % 8 := ⟨_, rfl⟩
    rw [← hk] at h8
    have hchl := haf.2.2.1
    have hwhl := haf.2.1
    simp [c1, ww3, pf8_28, pf8_27, rch, h8]
    have hmf := Act.msg_fit haf H.fit
    have hmd := Act.msg_data cs a
    by_cases hk0 : 0 < k
    · have hcp := B.pos
      obtain ⟨J, hJ⟩ : ∃ J, J = a.which % cs.length := ⟨_, rfl⟩
      have hJl : J < cs.length := by rw [hJ]; exact Nat.mod_lt _ hcp
      obtain ⟨c, hc⟩ : ∃ c, cs[J]? = some c := ⟨_, List.getElem?_eq_getElem hJl⟩
      have hcf : c.Fit := H.fit c (List.mem_of_getElem? hc)
      have hmsg : a.msg cs = M.withCap (if k = 1 then { c with r := c.r ^^^ 2 ^ (a.change / 8 % 8) } else c) := by
        unfold Act.msg
        rw [← hk, if_pos hk0, ← hJ, List.getD_eq_getElem?_getD, hc, hM]
        rfl
      obtain ⟨F1, F2, G1, G2, Fh, hA, _, _, hO, _⟩ := H4.ex
      obtain ⟨bb, hvb, hFh, hrd4, _⟩ := OwnR.load hO Cp.cells_length hc
      have wlh := hO.wlen
      have w1 : IntKind.i64.wrap (a.which : Int) = a.which := by rw [wrap_i64] <;> omega
      have tm : (a.which : Int).tmod (cs.length : Int) = (J : Int) := by rw [hJ]; rfl
      have hcl : cs.length ≠ 0 := by omega
      have hJi : (J : Int) < cs.length := by omega
      subst hvb
      simp [pf8_26, hk0, e10, rwh, w1, tm, hcl, hJl, hJi, hrd4]
      have ww5 := wrc (o := 5) (v := c.cells) t16.get (by simp [Ms.cells]) (Cp.cells_flat c)
      have ov5 : over (M.cells d) 5 c.cells = (M.withCap c).cells d := rfl
      rw [ov5] at ww5
      obtain ⟨s5, hs5⟩ : ∃ t, t = s4.set (st.ctr + 1) (some (.cells ((M.withCap c).cells d) 0 false)) := ⟨_, rfl⟩
      have H5 := H4.set (o := some (.cells ((M.withCap c).cells d) 0 false)) t16.out (by omega)
      have v16 := t16.put ((M.withCap c).cells d)
      have v15 := t15.set (j := st.ctr + 1) (o := some (.cells ((M.withCap c).cells d) 0 false)) (by omega)
      have hd5 : Bytes (s4.set (st.ctr + 1) (some (.cells ((M.withCap c).cells d) 0 false))) d a.m.data := by
        refine hd4.chg (l := [st.ctr + 1]) (by simp) ?_
        cases d <;> first | trivial | (simp only [AV.inS] at hdl; simp only [AV.out, List.mem_singleton]; omega)
      rw [← hs5] at ww5 H5 v16 v15 hd5
      have rch5 : s5.read st.ctr 2 1 = some [.int .u8 (a.change : Int)] := by rw [rd v15.get (by simp [al])]; rfl
      by_cases hk1 : k = 1
      · have hk1i : (k : Int) = 1 := by omega
        obtain ⟨z, hz⟩ : ∃ z, z = a.change / 8 % 8 := ⟨_, rfl⟩
        have hz8 : z < 8 := by omega
        have td := tdiv8 a.change
        have tm8 : ((a.change / 8 : Nat) : Int).tmod 8 = (z : Int) := by rw [hz]; rfl
        obtain ⟨y, hy⟩ : ∃ y, y = a.change / 8 := ⟨_, rfl⟩
        rw [← hy] at td tm8
        have hsh := shl8 z hz8
        obtain ⟨Z, hZ⟩ : ∃ Z, Z = 2 ^ z := ⟨_, rfl⟩
        have hZ8 : Z < 256 := by
          rw [hZ]
          exact Nat.pow_lt_pow_right (a := 2) (n := 8) (by omega) hz8
        rw [← hZ] at hsh
        have hxo := xor8 c.r Z hcf.r hZ8
        have rr5 : s5.read (st.ctr + 1) 7 1 = some [.int .u8 (c.r : Int)] := by rw [rd v16.get (by simp [Ms.cells])]; rfl
        rw [if_pos hk1, ← hz, ← hZ] at hmsg
        have wy : IntKind.u8.wrap (y : Int) = y := wrap_u8n (by omega)
        have hz0 : ¬ (z : Int) < 0 := by omega
        have hmin : min z IntKind.u8.bits = z := by simp only [IntKind.bits]; omega
        have ww6 := wrc (o := 7) (v := [.int .u8 ((c.r ^^^ Z : Nat) : Int)]) v16.get (by simp [Ms.cells]) (by simp [isFlat])
        have ov6 : over ((M.withCap c).cells d) 7 [.int .u8 ((c.r ^^^ Z : Nat) : Int)] = (M.withCap { c with r := c.r ^^^ Z }).cells d := rfl
        rw [ov6] at ww6
        obtain ⟨s6, hs6⟩ : ∃ t, t = s5.set (st.ctr + 1) (some (.cells ((M.withCap { c with r := c.r ^^^ Z }).cells d) 0 false)) := ⟨_, rfl⟩
        have H6 := H5.set (o := some (.cells ((M.withCap { c with r := c.r ^^^ Z }).cells d) 0 false)) v16.out (by omega)
        have y16 := v16.put ((M.withCap { c with r := c.r ^^^ Z }).cells d)
        have hd6 : Bytes (s5.set (st.ctr + 1) (some (.cells ((M.withCap { c with r := c.r ^^^ Z }).cells d) 0 false))) d a.m.data := by
          refine hd5.chg (l := [st.ctr + 1]) (by simp) ?_
          cases d <;> first | trivial | (simp only [AV.inS] at hdl; simp only [AV.out, List.mem_singleton]; omega)
        rw [← hs6] at ww6 H6 y16 hd6
        simp [ww5, pf8_25, rch5, h8, hk1i, pf8_24, rr5, td, wy, tm8, hz0, hmin, hsh, hxo, ww6, -binV_xor]
        rw [← hmsg] at y16
        refine serve_step H6 B (by omega) hmf y16 (by omega) (by rw [hmd]; exact hd6) hdl (v59 := .slice A0 0 bs.length cap opn) (v60 := .int .i64 bs.length) (v61 := .int .i64 i) (by simp [e6]) (by simp [e7]) (by simp [e8]) (by simp [e9]) (by simp [e10]) (by simp) (by simp [e59]) (by simp [e60]) (by simp [e61]) ?_
        intro R' st' T' x' A' hv' cs' H' B' g6 g7 g8 g9 g10 g59 g60 g61
        simp [pf8_33, g61, w2, -Int.natCast_add]
        exact ⟨bs.length - (i + 1), by omega, i + 1, by omega, rfl, T', x', A', hv', cs', H', B', g6, g7, g8, g9, g10, g59, g60, rfl⟩
      · have hk1i : ¬ (k : Int) = 1 := by omega
        rw [if_neg hk1] at hmsg
        simp [ww5, pf8_25, rch5, h8, hk1, hk1i]
        rw [← hmsg] at v16
        refine serve_step H5 B (by omega) hmf v16 (by omega) (by rw [hmd]; exact hd5) hdl (v59 := .slice A0 0 bs.length cap opn) (v60 := .int .i64 bs.length) (v61 := .int .i64 i) (by simp [e6]) (by simp [e7]) (by simp [e8]) (by simp [e9]) (by simp [e10]) (by simp) (by simp [e59]) (by simp [e60]) (by simp [e61]) ?_
        intro R' st' T' x' A' hv' cs' H' B' g6 g7 g8 g9 g10 g59 g60 g61
        simp [pf8_33, g61, w2, -Int.natCast_add]
        exact ⟨bs.length - (i + 1), by omega, i + 1, by omega, rfl, T', x', A', hv', cs', H', B', g6, g7, g8, g9, g10, g59, g60, rfl⟩
    · have hmsg : a.msg cs = M := by
        unfold Act.msg
        rw [← hk, if_neg hk0, hM]
        rfl
      simp [hk0]
      rw [← hmsg] at t16
      refine serve_step H4 B (by omega) hmf t16 (by omega) (by rw [hmd]; exact hd4) hdl (v59 := .slice A0 0 bs.length cap opn) (v60 := .int .i64 bs.length) (v61 := .int .i64 i) (by simp [e6]) (by simp [e7]) (by simp [e8]) (by simp [e9]) (by simp [e10]) (by simp) (by simp [e59]) (by simp [e60]) (by simp [e61]) ?_
      intro R' st' T' x' A' hv' cs' H' B' g6 g7 g8 g9 g10 g59 g60 g61
      simp [pf8_33, g61, w2, -Int.natCast_add]
      exact ⟨bs.length - (i + 1), by omega, i + 1, by omega, rfl, T', x', A', hv', cs', H', B', g6, g7, g8, g9, g10, g59, g60, rfl⟩
  · obtain rfl : i = bs.length := by omega
    simp [pf8_35, pf8_34, e61, e60]
    exact hK _ st T x A hv cs H B (by simp [e7]) (by simp [e8])
end Go.Ab
/-! 'SkeletonServes' over the abstract machine: what is made first; what is held against what. -/
namespace Go.Ab

section
variable {s st : S} {sp tp xp up yp : Nat} {T : Tbl} {x : Sg} {A : List Nat} {hv : AV} {cs : List Cp}
/-- One capability more. -/
theorem Wd.push (H : Wd s st sp tp xp up yp T x A hv cs) {c : Cp} (hc : c.Fit) (hl : cs.length ≤ 5000000000000) {Q : AV → S → Prop} (hq : ∀ v' s' A', Wd s s' sp tp xp up yp T x A' v' (cs ++ [c]) → Q v' s') : cont ((st.new (.cells c.cells 0 false)).app 4 24 hv (.slice st.ctr 0 1 1 false)) Q := by
  obtain ⟨E1, E2, J1, J2, Jh, hA6, hS6, hT6, hO6, z1, z2, z3, z4, z5⟩ := H.ex
  refine cap_app c hO6 hl ?_
  intro v' s' Fh' hO' hc' hg'
  have hctr := hc'.ctr
  have h6 := H.kp.ctr
  have hJh : ∀ y ∈ Jh, s.ctr ≤ y := fun y hy => H.lo y (by rw [hA6]; exact List.mem_cons_of_mem _ (List.mem_append_right _ (List.mem_append_right _ hy)))
  refine hq v' s' (sp :: ((E1 ++ E2) ++ ((J1 ++ J2) ++ Fh'))) ⟨H.kp.trans (hc'.keep hJh h6), ⟨E1, E2, J1, J2, Fh', rfl, ?_, hT6.chg hc' z3, hO', z1, (z2.symm.grow hg' hS6.flt).symm, (z3.symm.grow hg' hT6.flt).symm, z4, hg'.mem hS6.lt z5⟩, fun y hy => ?_, fun c' hc' => ?_⟩
  · exact ⟨by rw [hc'.get sp hS6.lt z5, hS6.sv], by have := hS6.lt; omega, hS6.tb.chg hc' (fun y hy => z2 y (List.mem_append_left _ hy)), hS6.sx.chg hc' (fun y hy => z2 y (List.mem_append_right _ hy)), hS6.ap, hS6.out⟩
  · have hgA : Grow A (sp :: ((E1 ++ E2) ++ ((J1 ++ J2) ++ Fh'))) st.ctr := by
      rw [hA6]
      exact ((hg'.l2 (m := J1 ++ J2)).l2 (m := E1 ++ E2)).l2 (m := [sp])
    rcases hgA y hy with h | h
    · exact H.lo y h
    · omega
  · rcases List.mem_append.1 hc' with h | h
    · exact H.fit c' h
    · rw [List.mem_singleton.1 h]; exact hc

/-- The server's table is changed, then the other. -/
theorem Wd.both (H : Wd s st sp tp xp up yp T x A hv cs) : ∃ F1 F2 G1 G2, Sy st sp tp xp T x F1 F2 ∧ Wy st up yp T x G1 G2 ∧ ∀ {s2 : S} {F1' F2' : List Nat} {T' : Tbl} {x' : Sg}, SyC st s2 (F1 ++ F2) sp tp xp T' x' F1' F2' → Wy s2 up yp T x G1 G2 ∧ ∀ {s3 : S}, Ext s2 s3 → ∀ {s4 : S} {G1' G2' : List Nat}, WyC s3 s4 (G1 ++ G2) up yp T' x' G1' G2' → ∃ A3, Wd s s4 sp tp xp up yp T' x' A3 hv cs ∧ Grow A A3 st.ctr ∧ (∀ i, i < st.ctr → i ∉ A → s4.get i = st.get i) ∧ (∀ i, i < s3.ctr → s2.ctr ≤ i → s4.get i = s3.get i ∧ i ∉ A3) := by
  obtain ⟨F1, F2, G1, G2, Fh, hA, hS, hT, hO, a1, a2, a3, o1, o2⟩ := H.ex
  refine ⟨F1, F2, G1, G2, hS, hT, fun {s2 F1' F2' T' x'} HC => ?_⟩
  have hk := H.kp
  have hsc := hk.ctr
  have hlo := H.lo
  obtain ⟨k2, hT2, hO2, a1', a2'⟩ := Wd.serve hA hk hlo HC hT hO a1 a2
  refine ⟨hT2, fun {s3} x3 {s4 G1' G2'} HD => ?_⟩
  have sb : ∀ y ∈ F1 ++ F2, y ∈ A := fun y hy => by rw [hA]; exact List.mem_cons_of_mem _ (List.mem_append_left _ hy)
  have gb : ∀ y ∈ G1 ++ G2, y ∈ A := fun y hy => by rw [hA]; exact List.mem_cons_of_mem _ (List.mem_append_right _ (List.mem_append_left _ hy))
  have gA : Grow A (sp :: ((F1' ++ F2') ++ ((G1 ++ G2) ++ Fh))) st.ctr := by
    rw [hA]
    exact (HC.grow.l1 (m := (G1 ++ G2) ++ Fh)).l2 (m := [sp])
  have hlt2 : ∀ y ∈ sp :: ((F1' ++ F2') ++ ((G1 ++ G2) ++ Fh)), y < s2.ctr := by
    intro y hy
    rcases List.mem_cons.1 hy with rfl | hy
    · exact HC.sy.lt
    · rcases List.mem_append.1 hy with hy | hy
      · exact HC.sy.flt y hy
      · rcases List.mem_append.1 hy with hy | hy
        · exact hT2.flt y hy
        · exact OwnF.lt hO2 y hy
  have S3 := HC.sy.ext x3
  have T3 := hT2.ext x3
  have O3 := OwnF.ext hO2 x3
  have lF := S3.flt
  have lH := OwnF.lt O3
  have c2 := HC.chg.ctr
  have c3 := x3.ctr
  have c4 := HD.chg.ctr
  have gA2 : Grow (sp :: ((F1' ++ F2') ++ ((G1 ++ G2) ++ Fh))) (sp :: ((F1' ++ F2') ++ ((G1' ++ G2') ++ Fh))) s3.ctr :=
    ((HD.grow.l1 (m := Fh)).l2 (m := F1' ++ F2')).l2 (m := [sp])
  have k3 := (k2.trans (x3.keep k2.ctr)).trans (HD.chg.keep (fun y hy => hlo y (gb y hy)) (by have := k2.ctr; omega))
  have g13 := gA.trans gA2 (by omega)
  refine ⟨_, ⟨k3, ⟨F1', F2', G1', G2', Fh, rfl, ?_, HD.ty, OwnF.chg O3 HD.chg a3.symm, (a1'.symm.grow HD.grow lF).symm, a2', a3.grow HD.grow lH, HD.grow.mem S3.lt o1, o2⟩, fun y hy => ?_, H.fit⟩, g13, fun i hi hiA => ?_, fun i hi hi2 => ?_⟩
  · exact ⟨by rw [HD.chg.get sp S3.lt o1, S3.sv], by have := S3.lt; omega, S3.tb.chg HD.chg (fun y hy => a1' y (List.mem_append_left _ hy)), S3.sx.chg HD.chg (fun y hy => a1' y (List.mem_append_right _ hy)), S3.ap, S3.out⟩
  · rcases g13 y hy with h | h
    · exact hlo y h
    · omega
  · have e1 : s2.get i = st.get i := HC.chg.get i hi (fun hx => hiA (sb i hx))
    have e2 : s3.get i = s2.get i := x3.get i (by omega)
    have e3 : s4.get i = s3.get i := HD.chg.get i (by omega) (fun hx => hiA (gb i hx))
    rw [e3, e2, e1]
  · refine ⟨HD.chg.get i hi (fun hx => ?_), gA2.mem hi (fun hx => ?_)⟩
    · have := hT2.flt i hx; omega
    · have := hlt2 i hx; omega
end

set_option maxRecDepth 10000 in
set_option maxHeartbeats 2000000 in
theorem make_loop {s st : S} {sp tp xp up yp : Nat} {T : Tbl} {A : List Nat} (H : Wd s st sp tp xp up yp T ⟨[], []⟩ A .snil []) (ok : T.Ok) (hrs : T.orc.rs.length = 0) {R : Regs} {K : KP} {av : AV}
    (e1 : R 1 = av) (e5 : R 5 = .ptr tp 0) (e6 : R 6 = .ptr up 0) (e7 : R 7 = .ptr xp 0) (e8 : R 8 = .ptr yp 0) (e9 : R 9 = .ptr sp 0) (e10 : R 10 = .snil) (e11 : R 11 = .int .i64 0)
    (hK : ∀ R' st' T' A' hv' cs', Wd s st' sp tp xp up yp T' ⟨[], []⟩ A' hv' cs' → WdB T' ⟨[], []⟩ cs' 0 → R' 1 = av → R' 6 = .ptr up 0 → R' 7 = .ptr xp 0 → R' 8 = .ptr yp 0 → R' 9 = .ptr sp 0 → R' 10 = hv' → K (.exit 0) R' st') :
    WpC tab (.loop pf8_43) R st K := by
  refine WpC.loop (fun m R' st' => ∃ i T' A' hv' cs', i ≤ 3 ∧ m = 3 - i ∧ Wd s st' sp tp xp up yp T' ⟨[], []⟩ A' hv' cs' ∧ T'.Ok ∧ T'.orc.rs.length ≤ i ∧ cs'.length = i ∧ R' 1 = av ∧ R' 5 = .ptr tp 0 ∧ R' 6 = .ptr up 0 ∧ R' 7 = .ptr xp 0 ∧ R' 8 = .ptr yp 0 ∧ R' 9 = .ptr sp 0 ∧ R' 10 = hv' ∧ R' 11 = .int .i64 (i : Nat)) (m := 3) ?_ ?_
  · exact ⟨0, T, A, .snil, [], by omega, by omega, H, ok, by omega, rfl, e1, e5, e6, e7, e8, e9, e10, e11⟩
  rintro m R st ⟨i, T, A, hv, cs, hi, rfl, H, ok, hrs, hcl, e1, e5, e6, e7, e8, e9, e10, e11⟩
  by_cases hil : i < 3
  · have hili : (i : Int) < 3 := by omega
    have w2 : IntKind.i64.wrap ((i : Int) + 1) = ((i + 1 : Nat) : Int) := by rw [wrap_i64] <;> omega
    obtain ⟨F1, F2, G1, G2, hS, hT, hB⟩ := H.both
    simp [pf8_43, pf8_42, e11, hili, pf8_40, e5]
    refine Ev.mono (create_ok hS.tb ok (i : Nat)) ?_
    rintro v s1 ⟨hc1, F', hg1, hT1, rfl⟩
    have hC := hS.start.t hc1 hg1 hT1
    obtain ⟨hT2, hB2⟩ := hB hC
    obtain ⟨c, hc⟩ : ∃ c, c = (T.create (i : Nat)).1.1 := ⟨_, rfl⟩
    have hcf : c.Fit := by rw [hc]; exact Tbl.create_fit ok _
    rw [← hc]
    have hw := write_new s1 c (.int .u64 0) (.int .u32 0) (.int .u8 0) (.int .u64 0)
    obtain ⟨s2, hs2⟩ : ∃ t, t = (s1.new (.cells [.int .u64 0, .int .u32 0, .int .u8 0, .int .u64 0] 0 false)).set s1.ctr (some (.cells c.cells 0 false)) := ⟨_, rfl⟩
    have x2 : Ext s1 s2 := by rw [hs2]; simp
    have g2 : s2.get s1.ctr = some (.cells c.cells 0 false) := by rw [hs2]; simp
    have c2 : s2.ctr = s1.ctr + 1 := by rw [hs2]; simp
    rw [← hs2] at hw
    simp [capE, hw, pf8_39, e6, e11]
    refine Ev.mono (create_ok (hT2.ext x2).tb ok (i : Nat)) ?_
    rintro v s3 ⟨hc3, G', hg3, hT3, rfl⟩
    obtain ⟨A3, H3, _, _, h12⟩ := hB2 x2 ((hT2.ext x2).start.t hc3 hg3 hT3)
    have g3 : s3.get s1.ctr = some (.cells c.cells 0 false) := by rw [(h12 s1.ctr (by omega) (by omega)).1, g2]
    have r12 : s3.read s1.ctr 0 4 = some c.cells := by rw [rd g3 (by simp)]; rfl
    have hst := Tbl.create_step T (i : Nat)
    simp [capE, pf8_38, e10, r12, Cp.cells_flat]
    refine H3.push hcf (by omega) ?_
    intro v' s' A' H'
    simp [pf8_41, e11, w2, -Int.natCast_add]
    exact ⟨3 - (i + 1), by omega, i + 1, by omega, rfl, _, A', v', cs ++ [c], H', hst.ok ok, by have := hst.rs; omega, by simp [hcl], e1, e5, e6, e7, e8, e9, rfl, rfl⟩
  · obtain rfl : i = 3 := by omega
    simp [pf8_43, pf8_42, e11]
    exact hK _ st T A hv cs H ⟨ok, by omega, by simp, by simp, by omega, by omega⟩ (by simp [e1]) (by simp [e6]) (by simp [e7]) (by simp [e8]) (by simp [e9]) (by simp [e10])

theorem u64s_at {l : List Nat} {i n : Nat} (h : l[i]? = some n) : ((u64s l).drop (i * 1)).take 1 = [.int .u64 (n : Int)] := by
  have hil := (List.getElem?_eq_some_iff.1 h)
  obtain ⟨h1, h2⟩ := hil
  rw [Nat.mul_one, List.drop_eq_getElem_cons (by simpa [u64s] using h1)]
  simp [u64s, h2]
theorem i64s_at {l : List Int} {i : Nat} {n : Int} (h : l[i]? = some n) : ((i64s l).drop (i * 1)).take 1 = [.int .i64 n] := by
  have hil := (List.getElem?_eq_some_iff.1 h)
  obtain ⟨h1, h2⟩ := hil
  rw [Nat.mul_one, List.drop_eq_getElem_cons (by simpa [i64s] using h1)]
  simp [i64s, h2]

set_option maxRecDepth 10000 in
set_option maxHeartbeats 2000000 in
/-- Both services have seen the same. -/
theorem seen_same {s st : S} {sp tp xp up yp n : Nat} {T : Tbl} {x : Sg} {A : List Nat} {hv : AV} {cs : List Cp} (H : Wd s st sp tp xp up yp T x A hv cs) (B : WdB T x cs n) (hn : n ≤ 1759218604442) {R : Regs} (e7 : R 7 = .ptr xp 0) (e8 : R 8 = .ptr yp 0) :
    WpC tab pf8_37 R st (FinP [PR.tmp 4] fun v _ => v = .bool true) := by
  obtain ⟨E1, E2, J1, J2, Jh, hA6, hS6, hT6, hO6, z1, z2, z3, z4, z5⟩ := H.ex
  obtain ⟨vd, vg, fd, fg, hxp, hod, hog, _⟩ := hS6.sx
  obtain ⟨vd', vg', fd', fg', hyp, hod', hog', _⟩ := hT6.sx
  have wl1 := hod.wlen
  have wl2 := hog.wlen
  have hbd := B.done
  have hbg := B.gone
  simp [pf8_37, pf8_16, e7, rd hxp, wl1]
  refine WpC.loop (fun m R' st' => ∃ i, i ≤ x.done.length ∧ m = x.done.length - i ∧ R' 7 = .ptr xp 0 ∧ R' 8 = .ptr yp 0 ∧ R' 159 = .int .i64 x.done.length ∧ R' 160 = .int .i64 (i : Nat) ∧ st' = st) (m := x.done.length) ?_ ?_
  · exact ⟨0, by omega, by omega, by simp [e7], by simp [e8], by simp, by simp, rfl⟩
  rintro m R st ⟨i, hi, rfl, e7, e8, e159, e160, rfl⟩
  by_cases hil : i < x.done.length
  · have hili : (i : Int) < x.done.length := by omega
    have w2 : IntKind.i64.wrap ((i : Int) + 1) = ((i + 1 : Nat) : Int) := by rw [wrap_i64] <;> omega
    obtain ⟨v, hv⟩ : ∃ v, x.done[i]? = some v := ⟨_, List.getElem?_eq_getElem hil⟩
    obtain ⟨b1, hb1, hr1⟩ := hod.elem hil
    obtain ⟨b2, hb2, hr2⟩ := hod'.elem hil
    rw [u64s_at hv] at hr1 hr2
    subst hb1 hb2
    simp only [Nat.zero_add, Nat.mul_one] at hr1 hr2
    simp [pf8_15, pf8_14, e160, e159, hili, pf8_12, pf8_11, pf8_10, e7, e8, rd hxp, rd hyp, hil, hr1, hr2, pf8_13, w2, -Int.natCast_add]
    exact ⟨x.done.length - (i + 1), by omega, i + 1, by omega, rfl, rfl⟩
  · obtain rfl : i = x.done.length := by omega
    simp [pf8_15, pf8_14, e160, e159, pf8_17, pf8_8, e7, rd hxp, wl2]
    refine WpC.loop (fun m R' st' => ∃ i, i ≤ x.gone.length ∧ m = x.gone.length - i ∧ R' 7 = .ptr xp 0 ∧ R' 8 = .ptr yp 0 ∧ R' 183 = .int .i64 x.gone.length ∧ R' 184 = .int .i64 (i : Nat) ∧ st' = st) (m := x.gone.length) ?_ ?_
    · exact ⟨0, by omega, by omega, by simp [e7], by simp [e8], by simp, by simp, rfl⟩
    rintro m R st ⟨i, hi, rfl, e7, e8, e159, e160, rfl⟩
    by_cases hil : i < x.gone.length
    · have hili : (i : Int) < x.gone.length := by omega
      have w2 : IntKind.i64.wrap ((i : Int) + 1) = ((i + 1 : Nat) : Int) := by rw [wrap_i64] <;> omega
      obtain ⟨v, hv⟩ : ∃ v, x.gone[i]? = some v := ⟨_, List.getElem?_eq_getElem hil⟩
      obtain ⟨b1, hb1, hr1⟩ := hog.elem hil
      obtain ⟨b2, hb2, hr2⟩ := hog'.elem hil
      rw [i64s_at hv] at hr1 hr2
      subst hb1 hb2
      simp only [Nat.zero_add, Nat.mul_one] at hr1 hr2
      simp [pf8_7, pf8_6, e160, e159, hili, pf8_4, pf8_3, pf8_2, e7, e8, rd hxp, rd hyp, hil, hr1, hr2, pf8_5, w2, -Int.natCast_add]
      exact ⟨x.gone.length - (i + 1), by omega, i + 1, by omega, rfl, rfl⟩
    · obtain rfl : i = x.gone.length := by omega
      simp [pf8_7, pf8_6, e160, e159, pf8_0]
end Go.Ab
/-! 'SkeletonServes' over the abstract machine: the law. -/
namespace Go.Ab

theorem NumsAt.ext {s s' : S} {v : AV} {ns : List Nat} (h : NumsAt s v ns) (hx : Ext s s') : NumsAt s' v ns := by
  refine ⟨h.1, ?_⟩
  rcases h.2 with h2 | h2 | ⟨A, cap, opn, rfl, hA, hr⟩
  · exact .inl h2
  · exact .inr (.inl h2)
  · refine .inr (.inr ⟨A, cap, opn, rfl, by have := hx.ctr; omega, fun i n hi => ?_⟩)
    have := hr i n hi
    unfold S.read at this ⊢
    rw [hx.get A hA]
    exact this

set_option maxRecDepth 10000 in
set_option maxHeartbeats 2000000 in
theorem serves_law {s : S} {v0 v1 : AV} {ns : List Nat} {bs : List Act} (hN : NumsAt s v0 ns) (hl : ns.length ≤ 17592186044416) (hbv : ActsAt s v1 bs) (hfit : ∀ a ∈ bs, a.fit) (hbl : bs.length ≤ 1759218604442) :
    Ev tab 8 [v0, v1] s fun v _ => v = .bool true := by
  refine Ev.intro rfl rfl rfl ?_
  simp [pf8, pf8_53, pf8_52, pf8_51]
  refine ev_awake24 ?_
  simp [pf8_49]
  refine Ev.mono (tapeOf_ok hN hl) ?_
  rintro v s1 ⟨hx1, tp0, F0, rfl, hTp, hF0⟩
  simp
  refine Ev.mono (oracleOf_ok hTp) ?_
  rintro v s2 ⟨hx2, op', F1, rfl, hO, hg1⟩
  simp
  refine Ev.mono (objectsOf_ok hO 5) ?_
  rintro v s3 ⟨hx3, tp, rfl, htp, hT⟩
  simp
  have y3 : Ext s s3 := hx1.trans (hx2.trans hx3)
  refine Ev.mono (tapeOf_ok (hN.ext y3) hl) ?_
  rintro v s4 ⟨hx4, up0, G0, rfl, hUp, hG0⟩
  simp
  refine Ev.mono (oracleOf_ok hUp) ?_
  rintro v s5 ⟨hx5, op2, G1, rfl, hO2, hg2⟩
  simp
  refine Ev.mono (objectsOf_ok hO2 5) ?_
  rintro v s6 ⟨hx6, up, rfl, hup, hU⟩
  obtain ⟨es, hes⟩ : ∃ es, es = ns.map (· % w48) := ⟨_, rfl⟩
  rw [← hes] at hT hU
  obtain ⟨s7, hs7⟩ : ∃ t, t = s6.new (.cells [.snil, .snil] 0 false) := ⟨_, rfl⟩
  have x7 : Ext s6 s7 := by rw [hs7]; simp
  have c7 : s7.ctr = s6.ctr + 1 := by rw [hs7]; rfl
  obtain ⟨s8, hs8⟩ : ∃ t, t = s7.new (.cells [.snil, .snil] 0 false) := ⟨_, rfl⟩
  have x8 : Ext s7 s8 := by rw [hs8]; simp
  have c8 : s8.ctr = s6.ctr + 2 := by rw [hs8]; show s7.ctr + 1 = _; omega
  have hX : Sx s8 s6.ctr ⟨[], []⟩ [s6.ctr] := (Sx.fresh (s := s7) (by rw [hs7]; simp) (by rw [hs7]; simp)).ext x8
  have hY : Sx s8 (s6.ctr + 1) ⟨[], []⟩ [s6.ctr + 1] := by
    rw [← c7]
    exact Sx.fresh (by rw [hs8]; simp) (by rw [hs8]; simp)
  simp [pf8_48, ← hs7, ← hs8, pf8_47]
  refine Ev.mono (skOf_ok (.ptr tp 0) (.iface 71 (.ptr s6.ctr 0)) rfl rfl rfl rfl s8) ?_
  rintro v s9 ⟨rfl, hs9⟩
  have x9 : Ext s8 s9 := by rw [hs9]; simp
  have c9 : s9.ctr = s6.ctr + 3 := by rw [hs9]; show s8.ctr + 1 = _; omega
  have lt := hT.lt
  have lu := hU.lt
  have k1 := hx1.ctr; have k2 := hx2.ctr; have k3 := hx3.ctr; have k4 := hx4.ctr; have k5 := hx5.ctr; have k6 := hx6.ctr
  have y6 : Ext s3 s6 := hx4.trans (hx5.trans hx6)
  have y9 : Ext s6 s9 := x7.trans (x8.trans x9)
  have loT : ∀ y ∈ tp :: F1, s.ctr ≤ y := fun y hy => by
    rcases List.mem_cons.1 hy with rfl | h
    · omega
    · rcases hg1 y h with h | h
      · exact hF0 y h
      · omega
  have loU : ∀ y ∈ up :: G1, s3.ctr ≤ y := fun y hy => by
    rcases List.mem_cons.1 hy with rfl | h
    · omega
    · rcases hg2 y h with h | h
      · exact hG0 y h
      · omega
  have ok0 : Tbl.Ok ⟨5, ⟨[], es, 0⟩, []⟩ := Tbl.Ok.fresh (by omega) (by
    rw [hes]
    intro y hy
    obtain ⟨n, _, rfl⟩ := List.mem_map.1 hy
    exact Nat.mod_lt _ (by decide))
  have HW : Wd s s9 s8.ctr tp s6.ctr up (s6.ctr + 1) ⟨5, ⟨[], es, 0⟩, []⟩ ⟨[], []⟩ (s8.ctr :: (((tp :: F1) ++ [s6.ctr]) ++ (((up :: G1) ++ [s6.ctr + 1]) ++ []))) .snil [] := by
    refine ⟨(y3.trans (y6.trans y9)).keep (Nat.le_refl _), ⟨tp :: F1, [s6.ctr], up :: G1, [s6.ctr + 1], [], rfl, ?_, ?_, OwnF.nil 4 s9, ?_, fun _ _ h => (by cases h), fun _ _ h => (by cases h), ?_, by simp⟩, ?_, by simp⟩
    · refine ⟨by rw [hs9]; simp; rfl, by rw [hs9]; simp, hT.ext (y6.trans y9), hX.ext x9, fun y hy h => ?_, fun h => ?_⟩
      · have := lt y hy
        rw [List.mem_singleton] at h
        omega
      · rcases List.mem_append.1 h with h | h
        · have := lt _ h; omega
        · rw [List.mem_singleton] at h; omega
    · refine ⟨hU.ext y9, hY.ext x9, fun y hy h => ?_⟩
      have := lu y hy
      rw [List.mem_singleton] at h
      omega
    · intro y hy h
      rcases List.mem_append.1 hy with hy | hy
      · have q1 := lt y hy
        rcases List.mem_append.1 h with h | h
        · have := loU y h; omega
        · rw [List.mem_singleton] at h; omega
      · rw [List.mem_singleton] at hy
        rcases List.mem_append.1 h with h | h
        · have := lu y h; omega
        · rw [List.mem_singleton] at h; omega
    · intro h
      rcases List.mem_append.1 h with h | h
      · have := lu _ h; omega
      · rw [List.mem_singleton] at h; omega
    · intro y hy
      rcases List.mem_cons.1 hy with rfl | hy
      · omega
      · rcases List.mem_append.1 hy with hy | hy
        · rcases List.mem_append.1 hy with hy | hy
          · exact loT y hy
          · rw [List.mem_singleton] at hy; omega
        · rw [List.append_nil] at hy
          rcases List.mem_append.1 hy with hy | hy
          · have := loU y hy; omega
          · rw [List.mem_singleton] at hy; omega
  have wl := hbv.wlen
  simp [pf8_46, pf8_44]
  refine make_loop HW ok0 rfl (av := v1) (by simp) (by simp) (by simp) (by simp) (by simp [c7]) (by simp) (by simp) (by simp) ?_
  intro R' st' T' A' hv' cs' H' B' g1 g6 g7 g8 g9 g10
  simp [pf8_45, pf8_36, g1, wl]
  refine acts_loop hbv hfit hbl H' B' (by simp [g6]) (by simp [g7]) (by simp [g8]) (by simp [g9]) (by simp [g10]) (by simp) (by simp) (by simp) ?_
  intro R2 st2 T2 x2 A2 hv2 cs2 H2 B2 j7 j8
  simp
  exact seen_same H2 B2 hbl j7 j8
end Go.Ab
