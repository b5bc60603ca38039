/- 'ObjectsRevoke' over the abstract machine: its loops. -/
import Derived.Test.YtcdkkdnpphkieaaDoorL5
namespace Go.Ab

theorem Bx.step_l {s s' : S} {i : Nat} {c : Cp} {F F' G : List Nat} (h : Bx s i c (F ++ G)) (hc : Chg F s s') (hg : Grow F F' s.ctr) : Bx s' i c (F' ++ G) :=
  h.step (hc.sub (fun x hx => by simp [hx])) (fun x hx => by
    rcases List.mem_append.1 hx with h1 | h1
    · rcases hg x h1 with h2 | h2
      · exact .inl (by simp [h2])
      · exact .inr h2
    · exact .inl (by simp [h1]))
theorem Bx.step_r {s s' : S} {i : Nat} {c : Cp} {F G G' : List Nat} (h : Bx s i c (F ++ G)) (hc : Chg G s s') (hg : Grow G G' s.ctr) : Bx s' i c (F ++ G') :=
  h.step (hc.sub (fun x hx => by simp [hx])) (fun x hx => by
    rcases List.mem_append.1 hx with h1 | h1
    · exact .inl (by simp [h1])
    · rcases hg x h1 with h2 | h2
      · exact .inl (by simp [h2])
      · exact .inr h2)

/-- Capabilities of earlier epochs. -/
def OldOk (es : List Nat) (b : Nat) (l : List Cp) : Prop := ∀ c ∈ l, ∃ r y o, c = ⟨7, 1, r, y⟩ ∧ r < 256 ∧ es[o]? = some y ∧ o < b
theorem OldOk.mono {es : List Nat} {b b' : Nat} {l : List Cp} (h : OldOk es b l) (hb : b ≤ b') : OldOk es b' l := fun c hc => by
  obtain ⟨r, y, o, h1, h2, h3, h4⟩ := h c hc
  exact ⟨r, y, o, h1, h2, h3, by omega⟩
theorem OldOk.push {es : List Nat} {b : Nat} {l : List Cp} (h : OldOk es b l) {r y o : Nat} (hr : r < 256) (hy : es[o]? = some y) (ho : o < b) : OldOk es b (l ++ [⟨7, 1, r, y⟩]) := fun c hc => by
  rcases List.mem_append.1 hc with h1 | h1
  · exact h c h1
  · exact ⟨r, y, o, List.mem_singleton.1 h1, hr, hy, ho⟩

theorem Chg.keep {l : List Nat} {s s' : S} {n : Nat} (h : Chg l s s') (hl : ∀ x ∈ l, n ≤ x) (hn : n ≤ s.ctr) : Keep n s s' := ⟨h.ctr, fun id hid => h.get id (by omega) (fun hx => by have := hl _ hx; omega)⟩

/-- What is so between the law's steps. -/
structure RvX (st0 st : S) (n0 tp b6 b8 : Nat) (v : AV) (es : List Nat) (d s i j : Nat) (T : Tbl) (F Fh : List Nat) (old : List Cp) : Prop where
  rv : Rv T es d s i j
  tb : Tb st tp T F
  ok : T.Ok
  hold : OwnR Cp.cells 4 st v old Fh
  ap : Apart F Fh
  oldok : OldOk es T.orc.at_ old
  x6 : Bx st b6 ⟨7, 0, 255, d⟩ (F ++ Fh)
  x8 : Bx st b8 ⟨7, 1, 255, s⟩ (F ++ Fh)
  low : ∀ x ∈ F ++ Fh, n0 ≤ x
  keep : Keep n0 st0 st
  hn0 : n0 ≤ st.ctr
  lo6 : n0 ≤ b6
  lo8 : n0 ≤ b8
  ne : b6 ≠ b8

section
variable {st0 st st' : S} {n0 tp b6 b8 : Nat} {v : AV} {es : List Nat} {d s i j : Nat} {T : Tbl} {F Fh : List Nat} {old : List Cp}
theorem RvX.lt (h : RvX st0 st n0 tp b6 b8 v es d s i j T F Fh old) : ∀ x ∈ F ++ Fh, x < st.ctr := fun x hx => by
  rcases List.mem_append.1 hx with h1 | h1
  · exact h.tb.lt x h1
  · exact OwnF.lt h.hold x h1
theorem RvX.tbl (h : RvX st0 st n0 tp b6 b8 v es d s i j T F Fh old) {T' : Tbl} {F' : List Nat} (hc : Chg F st st') (hg : Grow F F' st.ctr) (hT : Tb st' tp T' F') (hr : Rv T' es d s i j) (ok : T'.Ok) (ha : T.orc.at_ ≤ T'.orc.at_) : RvX st0 st' n0 tp b6 b8 v es d s i j T' F' Fh old :=
  ⟨hr, hT, ok, OwnF.chg h.hold hc h.ap.symm, h.ap.grow hg (OwnF.lt h.hold), h.oldok.mono ha, h.x6.step_l hc hg, h.x8.step_l hc hg, fun x hx => by
    have := h.hn0
    rcases List.mem_append.1 hx with h1 | h1
    · rcases hg x h1 with h2 | h2
      · exact h.low x (by simp [h2])
      · omega
    · exact h.low x (by simp [h1]), h.keep.trans (hc.keep (fun x hx => h.low x (by simp [hx])) h.hn0), by have := h.hn0; have := hc.ctr; omega, h.lo6, h.lo8, h.ne⟩
theorem RvX.ext (h : RvX st0 st n0 tp b6 b8 v es d s i j T F Fh old) (hx : Ext st st') : RvX st0 st' n0 tp b6 b8 v es d s i j T F Fh old :=
  ⟨h.rv, h.tb.ext hx, h.ok, OwnF.ext h.hold hx, h.ap, h.oldok, h.x6.ext hx, h.x8.ext hx, h.low, h.keep.trans (hx.keep h.hn0), by have := h.hn0; have := hx.ctr; omega, h.lo6, h.lo8, h.ne⟩
theorem RvX.push (h : RvX st0 st n0 tp b6 b8 v es d s i j T F Fh old) {v' : AV} {c : Cp} {F' : List Nat} (hO : OwnR Cp.cells 4 st' v' (old ++ [c]) F') (hc : Chg Fh st st') (hg : Grow Fh F' st.ctr) (ho : OldOk es T.orc.at_ (old ++ [c])) : RvX st0 st' n0 tp b6 b8 v' es d s i j T F F' (old ++ [c]) :=
  ⟨h.rv, h.tb.chg hc h.ap, h.ok, hO, (h.ap.symm.grow hg h.tb.lt).symm, ho, h.x6.step_r hc hg, h.x8.step_r hc hg, fun x hx => by
    have := h.hn0
    rcases List.mem_append.1 hx with h1 | h1
    · exact h.low x (by simp [h1])
    · rcases hg x h1 with h2 | h2
      · exact h.low x (by simp [h2])
      · omega, h.keep.trans (hc.keep (fun x hx => h.low x (by simp [hx])) h.hn0), by have := h.hn0; have := hc.ctr; omega, h.lo6, h.lo8, h.ne⟩
end

theorem fit7 {es : List Nat} (hw : ∀ y ∈ es, y < w48) {k r y o : Nat} (hk : k < 4294967296) (hr : r < 256) (hy : es[o]? = some y) : Cp.Fit ⟨7, k, r, y⟩ := by
  have h := hw y (List.mem_of_getElem? hy)
  exact ⟨by simp, by simpa using hk, hr, by unfold w48 at h; simp only; omega⟩

set_option maxRecDepth 10000 in
theorem revoke_loop1 {es : List Nat} (hw : ∀ y ∈ es, y < w48) (hel : es.length = 200) {st0 st : S} {v mv : AV} {l : List UInt8} {n0 tp b6 b8 d s i j L : Nat} {T : Tbl} {F Fh : List Nat} {old : List Cp} (hv : Bytes st0 mv l) (hvn : mv.inS n0) (hll : l.length ≤ 140737488355328)
    (hX : RvX st0 st n0 tp b6 b8 v es d s i j T F Fh old) (hA : T.orc.at_ + 8 ≤ 199) (hL : old.length ≤ 100) {K : KP} {R : Regs} (e0 : R 1 = .int .u8 L) (e5 : R 5 = .ptr tp 0) (e6 : R 6 = .ptr b6 0) (e7 : R 7 = .nilIface) (e8 : R 8 = .ptr b8 0) (e9 : R 9 = .nilIface) (e10 : R 10 = v) (e11 : R 11 = .int .i64 (i : Nat)) (e50 : R 50 = mv) (e51 : R 51 = .int .i64 l.length) (e52 : R 52 = .int .i64 0) (eR : R 0 = mv)
    (hK : ∀ (R' : Regs) st' v' T' F' Fh' old', RvX st0 st' n0 tp b6 b8 v' es d s i j T' F' Fh' old' → T'.orc.at_ ≤ T.orc.at_ + 8 → old'.length ≤ old.length + 8 → R' 0 = mv → R' 1 = .int .u8 L → R' 5 = .ptr tp 0 → R' 6 = .ptr b6 0 → R' 7 = .nilIface → R' 8 = .ptr b8 0 → R' 9 = .nilIface → R' 10 = v' → R' 11 = .int .i64 (i : Nat) → K (.exit 2) R' st') :
    WpC tab (.loop (pf5_32.seq pf5_31)) R st K := by
  refine WpC.loop (fun m R' st' => ∃ k T' F' Fh' old', k ≤ l.length ∧ m = l.length - k ∧ RvX st0 st' n0 tp b6 b8 (R' 10) es d s i j T' F' Fh' old' ∧ T'.orc.at_ ≤ T.orc.at_ + min k 8 ∧ old'.length ≤ old.length + min k 8 ∧ R' 0 = mv ∧ R' 1 = .int .u8 L ∧ R' 5 = .ptr tp 0 ∧ R' 6 = .ptr b6 0 ∧ R' 7 = .nilIface ∧ R' 8 = .ptr b8 0 ∧ R' 9 = .nilIface ∧ R' 11 = .int .i64 (i : Nat) ∧ R' 50 = mv ∧ R' 51 = .int .i64 l.length ∧ R' 52 = .int .i64 (k : Nat)) (m := l.length) ?_ ?_
  · exact ⟨0, T, F, Fh, old, by omega, rfl, by rw [e10]; exact hX, by omega, by omega, eR, e0, e5, e6, e7, e8, e9, e11, e50, e51, by simpa using e52⟩
  rintro m R st ⟨k, T', F', Fh', old', hk, rfl, hX', ha, hl, e0, e1, e5, e6, e7, e8, e9, e11, e50, e51, e52⟩
  have hb := hv.keep hX'.keep hvn
  by_cases hlt : k < l.length
  · obtain ⟨x, hx⟩ : ∃ x, l[k]? = some x := ⟨_, List.getElem?_eq_getElem hlt⟩
    obtain ⟨b, o, c, opn, rfl, hrd⟩ := hb.elem hx
    have w1 : IntKind.i64.wrap ((k : Int) + 1) = ((k + 1 : Nat) : Int) := by rw [wrap_i64] <;> omega
    have hxl := x.toNat_lt
    rw [Nat.mul_one] at hrd
    by_cases h8 : k < 8
    · have h8i : (k : Int) < 8 := by omega
      simp [pf5_32, e52, e51, hlt, pf5_31, pf5_29, pf5_28, e50, hrd, pf5_27, h8i, pf5_26, e5, e8, hX'.x8.rd4]
      obtain ⟨y, q', o', r1, r2, r3, r4, r5, r6, r7, r8⟩ := hX'.rv.restrict (m := x.toNat) hxl (by omega)
      have hsm := hX'.tb.small
      have st2 := Tbl.restrict_step T' ⟨7, 1, 255, s⟩ x.toNat
      rw [r1] at st2
      refine Ev.mono (restrict_eq hX'.tb (by omega) (fit7 hw (by omega) (by omega) hX'.rv.sj) hxl r1) ?_
      rintro v5 s5 ⟨hc5, F5, hg5, hT5, rfl⟩
      have hX5 := hX'.tbl hc5 hg5 hT5 r2 (st2.ok hX'.ok) r3
      obtain ⟨cc, hcc⟩ : ∃ c : Cp, c = ⟨7, 1, x.toNat, y⟩ := ⟨_, rfl⟩
      rw [← hcc]
      obtain ⟨x6, b6', k6⟩ := box_new (F := F5) (s := s5) [.int .u64 0, .int .u32 0, .int .u8 0, .int .u64 0] cc hT5.lt
      simp [capE, errV, write_new]
      obtain ⟨s6, hs6⟩ : ∃ t, t = (s5.new (.cells [.int .u64 0, .int .u32 0, .int .u8 0, .int .u64 0] 0 false)).set s5.ctr (some (.cells (Cp.cells cc) 0 false)) := ⟨_, rfl⟩
      rw [← hs6] at x6 b6' k6 ⊢
      have hX6 := hX5.ext x6
      simp [pf5_25, pf5_23, pf5_24, b6'.rd4]
      refine cap_app cc hX6.hold (by omega) ?_
      intro v7 s7 F7 hO7 hc7 hg7
      have hX7 := hX6.push hO7 hc7 hg7 (by rw [hcc]; exact hX6.oldok.push hxl r8 r7)
      simp [pf5_30, e52, w1, -Int.natCast_add]
      refine ⟨l.length - (k + 1), by omega, k + 1, by omega, rfl, _, _, _, _, hX7, ?_, ?_, e0, e1, e5, e6, e7, e8, e9, e11, e50, e51, rfl⟩
      · simp only; omega
      · simp only [List.length_append, List.length_cons, List.length_nil]; omega
    · have h8i : ¬ (k : Int) < 8 := by omega
      simp [pf5_32, e52, e51, hlt, pf5_31, pf5_29, pf5_28, e50, hrd, pf5_27, h8i, pf5_30, w1, -Int.natCast_add]
      exact ⟨l.length - (k + 1), by omega, k + 1, by omega, rfl, T', F', Fh', old', hX', by omega, by omega, e0, e1, e5, e6, e7, e8, e9, e11, rfl⟩
  · obtain rfl : k = l.length := by omega
    simp [pf5_32, e52, e51, pf5_31]
    exact hK _ st _ T' F' Fh' old' hX' (by omega) (by omega) (by simp [e0]) (by simp [e1]) (by simp [e5]) (by simp [e6]) (by simp [e7]) (by simp [e8]) (by simp [e9]) (by simp) (by simp [e11])
end Go.Ab
