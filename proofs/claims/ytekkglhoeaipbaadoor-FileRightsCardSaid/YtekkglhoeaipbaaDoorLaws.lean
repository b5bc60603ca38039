/- 'ObjectsNarrow' over the abstract machine. -/
import Derived.Test.YtekkglhoeaipbaaDoorObjM
namespace Go.Ab

theorem spread_w {n : Nat} (hn : n ≤ 1000) : ∀ y ∈ spreadL n, y < w48 := fun y hy => ((spread_clean hn).sort y hy).2
theorem spread_len (n : Nat) : (spreadL n).length = n := by simp [spreadL]

/-- The tape's oracle in memory, from what the three calls give. -/
theorem tbl_ready {s s1 s2 s3 s4 : S} {tp n port : Nat} {F0 F1 : List Nat} (hn : n < 1000) (hx1 : Ext s s1) (hx2 : Ext s1 s2) (hF0 : ∀ x ∈ F0, s1.ctr ≤ x) (hx3 : Ext s2 s3) (hg1 : Grow F0 F1 s2.ctr) (hx4 : Ext s3 s4) (htp : s3.ctr ≤ tp)
    (hT : Tb s4 tp ⟨port, ⟨[], (spreadL n).map (· % w48), 0⟩, []⟩ (tp :: F1)) : Ext s s4 ∧ Tb s4 tp ⟨port, ⟨[], spreadL n, 0⟩, []⟩ (tp :: F1) ∧ ∀ x ∈ tp :: F1, s.ctr ≤ x := by
  rw [spread_cut (by omega)] at hT
  refine ⟨hx1.trans (hx2.trans (hx3.trans hx4)), hT, fun x hx => ?_⟩
  have a1 := hx1.ctr; have a2 := hx2.ctr; have a3 := hx3.ctr
  rcases List.mem_cons.1 hx with rfl | hx
  · omega
  · rcases hg1 x hx with h | h
    · have := hF0 x h; omega
    · omega

end Go.Ab
/-! Objects' laws (layer 23): a capability that is changed in some way; rows of capabilities. -/
namespace Go.Ab

theorem wrapU8 (x : Int) : ∃ n : Nat, IntKind.u8.wrap x = (n : Int) ∧ n < 256 := by
  refine ⟨(x % 256).toNat, ?_, by omega⟩
  simp [IntKind.wrap, IntKind.signed, IntKind.bits]
  omega
theorem wrapU32 (x : Int) : ∃ n : Nat, IntKind.u32.wrap x = (n : Int) ∧ n < 4294967296 := by
  refine ⟨(x % 4294967296).toNat, ?_, by omega⟩
  simp [IntKind.wrap, IntKind.signed, IntKind.bits]
  omega
theorem wrapU64 (x : Int) : ∃ n : Nat, IntKind.u64.wrap x = (n : Int) ∧ n < 18446744073709551616 := by
  refine ⟨(x % 18446744073709551616).toNat, ?_, by omega⟩
  simp [IntKind.wrap, IntKind.signed, IntKind.bits]
  omega

end Go.Ab
/-! 'ObjectsForged' over the abstract machine. -/
namespace Go.Ab

theorem eqV_cp (a b : Cp) : eqV .st (.agg a.cells) (.agg b.cells) = some (decide (a = b)) := by
  simp only [Cp.cells, eqV_st]
  congr 1
  apply decide_eq_decide.2
  cases a; cases b
  simp only [Cp.mk.injEq, Int.natCast_inj]

theorem rows_read {s : S} {b sz : Nat} {l : List Cp} {ro : Bool} (hg : s.get b = some (.cells (rowsOf Cp.cells l) sz ro)) {i : Nat} {c : Cp} (hi : l[i]? = some c) : s.read b (i * 4) 4 = some c.cells := by
  have hil := (List.getElem?_eq_some_iff.1 hi).1
  have hlen := rowsOf_length (f := Cp.cells) (sz := 4) Cp.cells_length l
  rw [rd hg (by omega), rowsOf_part Cp.cells_length hi]
end Go.Ab
/-! 'ObjectsForged' over the abstract machine: the law. -/
namespace Go.Ab

theorem Bx.wr3 {s : S} {i : Nat} {c : Cp} {F : List Nat} (h : Bx s i c F) (x : Nat) : s.write i 3 [.int .u64 (x : Int)] = some (s.set i (some (.cells (Cp.cells { c with k := x }) 0 false))) := by
  rw [wrc h.get (by simp) (by simp)]
  rfl
theorem Bx.wr4 {s : S} {i : Nat} {c c' : Cp} {F : List Nat} (h : Bx s i c F) : s.write i 0 c'.cells = some (s.set i (some (.cells c'.cells 0 false))) := by
  rw [wrc h.get (by simp) (Cp.cells_flat _), over4 _ _ (by simp)]
theorem Bx.put {s : S} {i : Nat} {c c' : Cp} {F : List Nat} (h : Bx s i c F) : Bx (s.set i (some (.cells c'.cells 0 false))) i c' F := ⟨by simp, by simpa using h.lt, h.out⟩
theorem Bx.keep {s : S} {i j : Nat} {c : Cp} {F : List Nat} {o : Option AO} (h : Bx s i c F) (hij : ¬ i = j) : Bx (s.set j o) i c F := ⟨by rw [S.get_set, if_neg hij]; exact h.get, by simpa using h.lt, h.out⟩

/-- A capability that was told. -/
theorem Orc.knows_check {T : Tbl} {c : Cp} {x : Ob} (hp : c.p = T.port) (hg : T.get c.o = some x) (hk : T.orc.knows x.secret c.r c.k) (need : Nat) : T.check c need = (if c.r &&& need ≠ need then (0, some 2) else (c.o, none), T) := by
  rw [Tbl.check_ok hp hg (Orc.knows_tok hk)]

def tblForged (q : Orc) (d1 d2 s : Nat) : Tbl := ⟨7, q, [ob d1 1, { ob d2 2 with secret := s, epoch := 1 }]⟩
theorem forged_good {q : Orc} {d1 d2 s y mask : Nat} (h1 : q.knows d1 255 d1) (h2 : q.knows d1 mask y) (h3 : q.knows s 255 s) {c : Cp} (hc : c ∈ [(⟨7, 0, 255, d1⟩ : Cp), ⟨7, 0, mask, y⟩, ⟨7, 1, 255, s⟩]) (need : Nat) :
    (tblForged q d1 d2 s).check c need = (if c.r &&& need ≠ need then (0, some 2) else (c.o, none), tblForged q d1 d2 s) := by
  simp only [List.mem_cons, List.not_mem_nil, or_false] at hc
  rcases hc with rfl | rfl | rfl
  · exact Orc.knows_check (x := ob d1 1) rfl rfl h1 need
  · exact Orc.knows_check (x := ob d1 1) rfl rfl h2 need
  · exact Orc.knows_check (x := { ob d2 2 with secret := s, epoch := 1 }) rfl rfl h3 need

end Go.Ab
/-! 'ObjectsGone' over the abstract machine. -/
namespace Go.Ab

@[simp] theorem Cp.flat_all (c : Cp) : (∀ x, x ∈ c.cells → isFlat x = true) ↔ True := ⟨fun _ => trivial, fun _ x hx => List.all_eq_true.1 c.cells_flat x hx⟩

/-- A capability behind others. -/
theorem cap_app {s : S} {v : AV} {l : List Cp} {F : List Nat} (c : Cp) (h : OwnR Cp.cells 4 s v l F) (hl : l.length ≤ 5000000000000) {Q : AV → S → Prop} (hq : ∀ v' s' F', OwnR Cp.cells 4 s' v' (l ++ [c]) F' → Chg F s s' → Grow F F' s.ctr → Q v' s') :
    cont ((s.new (.cells c.cells 0 false)).app 4 24 v (.slice s.ctr 0 1 1 false)) Q := by
  refine cont_app_ownF (m := 1) (ds := c.cells) (OwnF.ext h (by simp)) rfl ?_ rfl (Cp.cells_flat c) (rowsOf_flat Cp.cells_flat _) (by omega) (by omega) (by omega) ?_
  · simp [S.cellsOf, S.read]; rfl
  intro v' s' F' hO hc hg
  have x : Ext s (s.new (.cells c.cells 0 false)) := by simp
  refine hq v' s' F' ?_ ((x.chg _).trans hc) (hg.le (by simp))
  unfold OwnR
  simpa [rowsOf_append, rowsOf_cons] using hO

def goneCaps (es : List Nat) (k : Nat) : List Cp := (List.range k).map fun i => ⟨7, i, 255, es.getD i 0⟩

end Go.Ab
/-! 'ObjectsRevoke' over the abstract machine: its loops. -/
namespace Go.Ab

theorem Bx.step_l {s s' : S} {i : Nat} {c : Cp} {F F' G : List Nat} (h : Bx s i c (F ++ G)) (hc : Chg F s s') (hg : Grow F F' s.ctr) : Bx s' i c (F' ++ G) :=
  h.step (hc.sub (fun x hx => by simp [hx])) (fun x hx => by
    rcases List.mem_append.1 hx with h1 | h1
    · rcases hg x h1 with h2 | h2
      · exact .inl (by simp [h2])
      · exact .inr h2
    · exact .inl (by simp [h1]))
theorem Bx.step_r {s s' : S} {i : Nat} {c : Cp} {F G G' : List Nat} (h : Bx s i c (F ++ G)) (hc : Chg G s s') (hg : Grow G G' s.ctr) : Bx s' i c (F ++ G') :=
  h.step (hc.sub (fun x hx => by simp [hx])) (fun x hx => by
    rcases List.mem_append.1 hx with h1 | h1
    · exact .inl (by simp [h1])
    · rcases hg x h1 with h2 | h2
      · exact .inl (by simp [h2])
      · exact .inr h2)

/-- Capabilities of earlier epochs. -/
def OldOk (es : List Nat) (b : Nat) (l : List Cp) : Prop := ∀ c ∈ l, ∃ r y o, c = ⟨7, 1, r, y⟩ ∧ r < 256 ∧ es[o]? = some y ∧ o < b
theorem OldOk.mono {es : List Nat} {b b' : Nat} {l : List Cp} (h : OldOk es b l) (hb : b ≤ b') : OldOk es b' l := fun c hc => by
  obtain ⟨r, y, o, h1, h2, h3, h4⟩ := h c hc
  exact ⟨r, y, o, h1, h2, h3, by omega⟩
theorem OldOk.push {es : List Nat} {b : Nat} {l : List Cp} (h : OldOk es b l) {r y o : Nat} (hr : r < 256) (hy : es[o]? = some y) (ho : o < b) : OldOk es b (l ++ [⟨7, 1, r, y⟩]) := fun c hc => by
  rcases List.mem_append.1 hc with h1 | h1
  · exact h c h1
  · exact ⟨r, y, o, List.mem_singleton.1 h1, hr, hy, ho⟩

theorem Chg.keep {l : List Nat} {s s' : S} {n : Nat} (h : Chg l s s') (hl : ∀ x ∈ l, n ≤ x) (hn : n ≤ s.ctr) : Keep n s s' := ⟨h.ctr, fun id hid => h.get id (by omega) (fun hx => by have := hl _ hx; omega)⟩

/-- What is so between the law's steps. -/
structure RvX (st0 st : S) (n0 tp b6 b8 : Nat) (v : AV) (es : List Nat) (d s i j : Nat) (T : Tbl) (F Fh : List Nat) (old : List Cp) : Prop where
  rv : Rv T es d s i j
  tb : Tb st tp T F
  ok : T.Ok
  hold : OwnR Cp.cells 4 st v old Fh
  ap : Apart F Fh
  oldok : OldOk es T.orc.at_ old
  x6 : Bx st b6 ⟨7, 0, 255, d⟩ (F ++ Fh)
  x8 : Bx st b8 ⟨7, 1, 255, s⟩ (F ++ Fh)
  low : ∀ x ∈ F ++ Fh, n0 ≤ x
  keep : Keep n0 st0 st
  hn0 : n0 ≤ st.ctr
  lo6 : n0 ≤ b6
  lo8 : n0 ≤ b8
  ne : b6 ≠ b8

section
variable {st0 st st' : S} {n0 tp b6 b8 : Nat} {v : AV} {es : List Nat} {d s i j : Nat} {T : Tbl} {F Fh : List Nat} {old : List Cp}
theorem RvX.lt (h : RvX st0 st n0 tp b6 b8 v es d s i j T F Fh old) : ∀ x ∈ F ++ Fh, x < st.ctr := fun x hx => by
  rcases List.mem_append.1 hx with h1 | h1
  · exact h.tb.lt x h1
  · exact OwnF.lt h.hold x h1
theorem RvX.tbl (h : RvX st0 st n0 tp b6 b8 v es d s i j T F Fh old) {T' : Tbl} {F' : List Nat} (hc : Chg F st st') (hg : Grow F F' st.ctr) (hT : Tb st' tp T' F') (hr : Rv T' es d s i j) (ok : T'.Ok) (ha : T.orc.at_ ≤ T'.orc.at_) : RvX st0 st' n0 tp b6 b8 v es d s i j T' F' Fh old :=
  ⟨hr, hT, ok, OwnF.chg h.hold hc h.ap.symm, h.ap.grow hg (OwnF.lt h.hold), h.oldok.mono ha, h.x6.step_l hc hg, h.x8.step_l hc hg, fun x hx => by
    have := h.hn0
    rcases List.mem_append.1 hx with h1 | h1
    · rcases hg x h1 with h2 | h2
      · exact h.low x (by simp [h2])
      · omega
    · exact h.low x (by simp [h1]), h.keep.trans (hc.keep (fun x hx => h.low x (by simp [hx])) h.hn0), by have := h.hn0; have := hc.ctr; omega, h.lo6, h.lo8, h.ne⟩
theorem RvX.ext (h : RvX st0 st n0 tp b6 b8 v es d s i j T F Fh old) (hx : Ext st st') : RvX st0 st' n0 tp b6 b8 v es d s i j T F Fh old :=
  ⟨h.rv, h.tb.ext hx, h.ok, OwnF.ext h.hold hx, h.ap, h.oldok, h.x6.ext hx, h.x8.ext hx, h.low, h.keep.trans (hx.keep h.hn0), by have := h.hn0; have := hx.ctr; omega, h.lo6, h.lo8, h.ne⟩
theorem RvX.push (h : RvX st0 st n0 tp b6 b8 v es d s i j T F Fh old) {v' : AV} {c : Cp} {F' : List Nat} (hO : OwnR Cp.cells 4 st' v' (old ++ [c]) F') (hc : Chg Fh st st') (hg : Grow Fh F' st.ctr) (ho : OldOk es T.orc.at_ (old ++ [c])) : RvX st0 st' n0 tp b6 b8 v' es d s i j T F F' (old ++ [c]) :=
  ⟨h.rv, h.tb.chg hc h.ap, h.ok, hO, (h.ap.symm.grow hg h.tb.lt).symm, ho, h.x6.step_r hc hg, h.x8.step_r hc hg, fun x hx => by
    have := h.hn0
    rcases List.mem_append.1 hx with h1 | h1
    · exact h.low x (by simp [h1])
    · rcases hg x h1 with h2 | h2
      · exact h.low x (by simp [h2])
      · omega, h.keep.trans (hc.keep (fun x hx => h.low x (by simp [hx])) h.hn0), by have := h.hn0; have := hc.ctr; omega, h.lo6, h.lo8, h.ne⟩
end

theorem fit7 {es : List Nat} (hw : ∀ y ∈ es, y < w48) {k r y o : Nat} (hk : k < 4294967296) (hr : r < 256) (hy : es[o]? = some y) : Cp.Fit ⟨7, k, r, y⟩ := by
  have h := hw y (List.mem_of_getElem? hy)
  exact ⟨by simp, by simpa using hk, hr, by unfold w48 at h; simp only; omega⟩

end Go.Ab
/-! 'ObjectsRevoke' over the abstract machine: the second loop; the law. -/
namespace Go.Ab

/-- The secret is drawn anew, and the owner's capability with it. -/
theorem RvX.turn {st0 st st' st2 : S} {n0 tp b6 b8 : Nat} {v : AV} {es : List Nat} {d s i j s2 i2 j2 : Nat} {T T' : Tbl} {F F' Fh : List Nat} {old : List Cp} (h : RvX st0 st n0 tp b6 b8 v es d s i j T F Fh old) (hc : Chg F st st') (hg : Grow F F' st.ctr) (hT : Tb st' tp T' F') (hr : Rv T' es d s2 i2 j2) (ok : T'.Ok) (ha : T.orc.at_ ≤ T'.orc.at_) (hx : Ext st' st2) :
    Bx st2 b8 ⟨7, 1, 255, s⟩ (F' ++ Fh) ∧ RvX st0 (st2.set b8 (some (.cells (Cp.cells ⟨7, 1, 255, s2⟩) 0 false))) n0 tp b6 b8 v es d s2 i2 j2 T' F' Fh old := by
  have x8 := (h.x8.step_l hc hg).ext hx
  have x6 := (h.x6.step_l hc hg).ext hx
  have hap := h.ap.grow hg (OwnF.lt h.hold)
  have hO : OwnR Cp.cells 4 st2 v old Fh := OwnF.ext (OwnF.chg h.hold hc h.ap.symm) hx
  have h0 := h.hn0
  have hctr := hc.ctr
  have hctr2 := hx.ctr
  refine ⟨x8, hr, (hT.ext hx).setOut (fun hm => x8.out (by simp [hm])), ok, OwnF.chg hO (l := [b8]) (by simp) (fun z hz => by simp; rintro rfl; exact x8.out (by simp [hz])), hap, h.oldok.mono ha, x6.keep h.ne, x8.put, ?_, ?_, by simp; omega, h.lo6, h.lo8, h.ne⟩
  · intro x hx
    rcases List.mem_append.1 hx with h1 | h1
    · rcases hg x h1 with h2 | h2
      · exact h.low x (by simp [h2])
      · omega
    · exact h.low x (by simp [h1])
  · exact h.keep.trans ((hc.keep (fun x hx => h.low x (by simp [hx])) h0).trans (Keep.set h.lo8 (hx.keep (by omega))))

def drawsTo : Nat → Nat
  | 0 => 2
  | i + 1 => drawsTo i + 18 + 9 * i
theorem drawsTo_le : ∀ i, i ≤ 4 → drawsTo (i + 1) ≤ 182 := by decide

end Go.Ab
