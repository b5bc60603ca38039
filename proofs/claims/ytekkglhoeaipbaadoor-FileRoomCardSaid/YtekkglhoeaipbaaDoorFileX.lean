/- The server of files (layer 27): what requests come to, in plain Lean; a request in memory. -/
import Derived.Test.YtekkglhoeaipbaaDoorFiles
namespace Go.Ab
attribute [local simp] lenV

theorem ev_awake27 {s : S} {Q : AV → S → Prop} (h : Q (.bool true) s) : Ev tab 29 [] s Q := Ev.prim (p := closedPrim [] (.bool true)) rfl rfl h

/-- A request of an operation of the server's own, by a capability that has the rights. -/
theorem run_act {σ : Type} (V : Sv σ) {T T1 : Tbl} {x : σ} {m : Ms} {ob : Ob} (hc : m.cap.may = true) (ho : 100 ≤ m.op) {nd : Nat} (hn : V.need m.op = (nd, true)) {k : Nat} (hk : T.check m.cap nd = ((k, none), T1)) (hg : T1.get k = some ob) :
    V.run T x m = V.act T1 x m.op ob.value m := by
  have h1 : ¬ m.op = 1 := by omega
  have h2 : ¬ m.op = 2 := by omega
  have h3 : ¬ m.op = 3 := by omega
  have h4 : ¬ m.op = 4 := by omega
  have h5 : ¬ m.op = 5 := by omega
  have h6 : ¬ m.op < 100 := by omega
  simp [Sv.run, hc, h1, h2, h3, h4, h5, h6, hn, hk, hg]
theorem run_refused {σ : Type} (V : Sv σ) {T T1 : Tbl} {x : σ} {m : Ms} (hc : m.cap.may = true) (ho : 100 ≤ m.op) {nd : Nat} (hn : V.need m.op = (nd, true)) {k : Nat} {e : Int} (hk : T.check m.cap nd = ((k, some e), T1)) :
    V.run T x m = ((Rs.zero, some e), T1, x) := by
  have h1 : ¬ m.op = 1 := by omega
  have h2 : ¬ m.op = 2 := by omega
  have h3 : ¬ m.op = 3 := by omega
  have h4 : ¬ m.op = 4 := by omega
  have h5 : ¬ m.op = 5 := by omega
  have h6 : ¬ m.op < 100 := by omega
  simp [Sv.run, hc, h1, h2, h3, h4, h5, h6, hn, hk]
theorem make_ok' {T : Tbl} {x : Fls} {l : List UInt8} (h : (l.length : Int) ≤ 65536 - x.bytes) {c : Cp} {T' : Tbl} (hc : T.create x.next = ((c, none), T')) :
    x.make T l = (({ Rs.zero with cap := c }, none), T', ⟨setL (x.next : Int) l x.files, x.next + 1, x.bytes + l.length⟩) := by
  unfold Fls.make
  rw [if_neg (by omega), hc]
theorem make_full {T : Tbl} {x : Fls} {l : List UInt8} (h : 65536 - x.bytes < (l.length : Int)) : x.make T l = ((Rs.zero, some 6), T, x) := by
  unfold Fls.make
  rw [if_pos h]

/-- A request in memory: the server since a state, the reply. -/
theorem serve_eq {s0 s : S} {L : List Nat} {sp tp xp : Nat} {T : Tbl} {x : Fls} {F1 F2 : List Nat} (H : SyC fileB s0 s L sp tp xp T x F1 F2) (ok : T.Ok) (hq : T.orc.rs.length + 2 ≤ 5000000000000) (hf : x.fits) {m : Ms} (hm : m.fit) (hmo : m.data.length ≤ 1000000000) {d : AV} (hd : Bytes s d m.data) (ho : d.out (F1 ++ F2))
    {r : Rs × Option Int} {T' : Tbl} {x' : Fls} (hr : fileV.run T x m = (r, T', x')) :
    Ev tab 24 [.ptr sp 0, .agg (m.cells d)] s fun u s' => ∃ F1' F2' w, SyC fileB s0 s' L sp tp xp T' x' F1' F2' ∧ Chg (F1 ++ F2) s s' ∧ Grow (F1 ++ F2) (F1' ++ F2') s.ctr ∧ Own s.ctr s' w (m.reply_ r).data ∧ u = .agg ((m.reply_ r).cells w) := by
  have h := svServe_ok H.sy ok hq hf hm hmo hd ho
  have hr' : fileB.V.run T x m = (r, T', x') := hr
  rw [hr'] at h
  refine Ev.mono h ?_
  rintro u s' ⟨G1, G2, w, hS, hw, _, rfl⟩
  exact ⟨G1, G2, w, ⟨H.chg.comp hS.chg H.grow, H.grow.trans hS.grow H.chg.ctr, hS.sy⟩, hS.chg, hS.grow, hw, rfl⟩
theorem numsLit {s s1 : S} (es : List Nat) (h : s1 = s.new (.cells (u64s es) 0 false)) : NumsAt s1 (.slice s.ctr 0 es.length es.length false) es := by
  have g2 : s1.get s.ctr = some (.cells (u64s es) 0 false) := by rw [h]; simp
  have c2 : s1.ctr = s.ctr + 1 := by rw [h]; rfl
  refine ⟨rfl, .inr (.inr ⟨s.ctr, es.length, false, rfl, by omega, ?_⟩)⟩
  intro i n hi
  have hi' : (u64s es)[i]? = some (.int .u64 (n : Int)) := by simp [u64s, hi]
  obtain ⟨q1, q2⟩ := List.getElem?_eq_some_iff.1 hi'
  rw [Nat.zero_add, Nat.mul_one, rd g2 (by omega), List.drop_eq_getElem_cons q1, q2]
  rfl

def zs (n : Nat) : List UInt8 := List.replicate n 0
theorem zs_len (n : Nat) : (zs n).length = n := by simp [zs]
theorem zs_new {s s1 : S} (n : Nat) (h : s1 = s.new (.cells (List.replicate n (AV.int .u8 0)) 0 false)) : Bytes s1 (.slice s.ctr 0 n n false) (zs n) := by
  have g : s1.get s.ctr = some (.cells (u8s (zs n)) 0 false) := by rw [h]; simp [zs, u8s]
  have c : s.ctr < s1.ctr := by rw [h]; simp
  have := Bytes.made g c n false (by simp [AV.roomy, zs_len])
  rwa [zs_len] at this

def mz11 : List AV := [.int .u64 0, .int .u64 0, .int .u32 0, .int .u16 0, .int .u16 0, .int .u64 0, .int .u32 0, .int .u8 0, .int .u64 0, .int .u64 0, .snil]
/-- A request: its operation, its capability, its number, its data. -/
def rq (op : Nat) (c : Cp) (arg : Nat) (l : List UInt8) : Ms := ⟨0, 0, 0, op, 0, c.p, c.o, c.r, c.k, arg, l⟩
theorem rq_fit {op : Nat} {c : Cp} {arg : Nat} {l : List UInt8} (ho : op < 65536) (hc : c.Fit) (ha : arg < 18446744073709551616) (hl : l.length ≤ 140737488355328) : (rq op c arg l).fit :=
  ⟨by simp [rq], by simp [rq], by simp [rq], ho, by simp [rq], hc.p, hc.o, hc.r, hc.k, ha, hl⟩
theorem rq_cap (op : Nat) (c : Cp) (arg : Nat) (l : List UInt8) : (rq op c arg l).cap = c := rfl
/-- The reply is laid into a block that was there. -/
theorem lay_reply {s s' : S} {i : Nat} {F F' : List Nat} {M : Ms} {w : AV} {l : List UInt8} (hb : Bg s i mz11 F) (hc : Chg F s s') (hg : Grow F F' s.ctr) (hw : Bytes s' w l) : s'.write i 0 (M.cells w) = some (s'.set i (some (.cells (M.cells w) 0 false))) ∧ Bg (s'.set i (some (.cells (M.cells w) 0 false))) i (M.cells w) F' := by
  have b := hb.step hc hg
  refine ⟨?_, b.put _⟩
  rw [wrc b.get (by simp [mz11]) (Ms.cells_flat hw.flat), over11 _ _ _ rfl]


/-- A request whose reply is laid into a block that was there. -/
theorem serve_lay {s0 s : S} {L : List Nat} {sp tp xp : Nat} {T : Tbl} {x : Fls} {F1 F2 : List Nat} (H : SyC fileB s0 s L sp tp xp T x F1 F2) (ok : T.Ok) (hq : T.orc.rs.length ≤ 1000) (hf : x.fits) {i : Nat} (hb : Bg s i mz11 (F1 ++ F2)) (hi : s0.ctr ≤ i) (hsp : ¬ sp = i)
    (op : Nat) (c : Cp) (arg : Nat) (l : List UInt8) {d : AV} (hop : op < 65536) (hc : c.Fit) (harg : arg < 18446744073709551616) (hl : l.length ≤ 1000000000) (hd : Bytes s d l) (ho : d.out (F1 ++ F2))
    {r : Rs × Option Int} {T' : Tbl} {x' : Fls} (hr : fileV.run T x (rq op c arg l) = (r, T', x')) :
    Ev tab 24 [.ptr sp 0, .agg [.int .u64 0, .int .u64 0, .int .u32 0, .int .u16 (op : Int), .int .u16 0, .int .u64 (c.p : Int), .int .u32 (c.o : Int), .int .u8 (c.r : Int), .int .u64 (c.k : Int), .int .u64 (arg : Int), d]] s fun u s' => ∃ s'' F1' F2' w, u = .agg (((rq op c arg l).reply_ r).cells w) ∧ isFlat w = true ∧ s'.write i 0 (((rq op c arg l).reply_ r).cells w) = some s'' ∧
      SyC fileB s0 s'' L sp tp xp T' x' F1' F2' ∧ Bg s'' i (((rq op c arg l).reply_ r).cells w) (F1' ++ F2') ∧ (∀ j cs, ¬ j = i → Bg s j cs (F1 ++ F2) → Bg s'' j cs (F1' ++ F2')) ∧ s.ctr ≤ s''.ctr ∧ Bytes s'' w ((rq op c arg l).reply_ r).data ∧ (w = .snil ∨ w.since s.ctr) := by
  refine Ev.mono (serve_eq H ok (by omega) hf (rq_fit hop hc harg (by omega)) hl hd ho hr) ?_
  rintro u s' ⟨F1', F2', w, hS, hc', hg, hw, rfl⟩
  obtain ⟨hwr, hb'⟩ := lay_reply hb hc' hg hw.bytes
  have hbs := hb.step hc' hg
  refine ⟨_, F1', F2', w, rfl, hw.bytes.flat, hwr, hS.set hbs.out hsp hi, hb', fun j cs hj hB => (hB.step hc' hg).set hj, hc'.ctr, ?_, ?_⟩
  · exact hw.bytes.set hw.since hb.lt
  · exact .inr hw.since
/-- A request whose reply is laid into a new block. -/
theorem serve_new {s0 s : S} {L : List Nat} {sp tp xp : Nat} {T : Tbl} {x : Fls} {F1 F2 : List Nat} (H : SyC fileB s0 s L sp tp xp T x F1 F2) (ok : T.Ok) (hq : T.orc.rs.length ≤ 1000) (hf : x.fits)
    (op : Nat) (c : Cp) (arg : Nat) (l : List UInt8) {d : AV} (hop : op < 65536) (hc : c.Fit) (harg : arg < 18446744073709551616) (hl : l.length ≤ 1000000000) (hd : Bytes s d l) (ho : d.out (F1 ++ F2))
    {r : Rs × Option Int} {T' : Tbl} {x' : Fls} (hr : fileV.run T x (rq op c arg l) = (r, T', x')) :
    Ev tab 24 [.ptr sp 0, .agg [.int .u64 0, .int .u64 0, .int .u32 0, .int .u16 (op : Int), .int .u16 0, .int .u64 (c.p : Int), .int .u32 (c.o : Int), .int .u8 (c.r : Int), .int .u64 (c.k : Int), .int .u64 (arg : Int), d]] s fun u s' => ∃ s'' F1' F2' w, u = .agg (((rq op c arg l).reply_ r).cells w) ∧ isFlat w = true ∧
      (s'.new (.cells [.int .u64 0, .int .u64 0, .int .u32 0, .int .u16 0, .int .u16 0, .int .u64 0, .int .u32 0, .int .u8 0, .int .u64 0, .int .u64 0, .snil] 0 false)).write s'.ctr 0 (((rq op c arg l).reply_ r).cells w) = some s'' ∧
      SyC fileB s0 s'' L sp tp xp T' x' F1' F2' ∧ Bg s'' s'.ctr (((rq op c arg l).reply_ r).cells w) (F1' ++ F2') ∧ (∀ j cs, Bg s j cs (F1 ++ F2) → Bg s'' j cs (F1' ++ F2')) ∧ s.ctr ≤ s''.ctr ∧ s.ctr ≤ s'.ctr ∧ Bytes s'' w ((rq op c arg l).reply_ r).data ∧ (w = .snil ∨ w.since s.ctr) := by
  refine Ev.mono (serve_eq H ok (by omega) hf (rq_fit hop hc harg (by omega)) hl hd ho hr) ?_
  rintro u s' ⟨F1', F2', w, hS, hc', hg, hw, rfl⟩
  obtain ⟨sn, hsn⟩ : ∃ t, t = s'.new (.cells mz11 0 false) := ⟨_, rfl⟩
  have xn : Ext s' sn := by rw [hsn]; simp
  have gn : sn.get s'.ctr = some (.cells mz11 0 false) := by rw [hsn]; simp
  have cn : sn.ctr = s'.ctr + 1 := by rw [hsn]; rfl
  have hflt := hS.sy.flt
  have bn : Bg sn s'.ctr mz11 (F1' ++ F2') := ⟨gn, by omega, fun hx => by have := hflt _ hx; omega⟩
  have hwr : sn.write s'.ctr 0 (((rq op c arg l).reply_ r).cells w) = some (sn.set s'.ctr (some (.cells (((rq op c arg l).reply_ r).cells w) 0 false))) := by
    rw [wrc gn (by simp [mz11]) (Ms.cells_flat hw.bytes.flat), over11 _ _ _ rfl]
  have k := hc'.ctr
  have hsp := hS.sy.lt
  have x'' : Ext s' (sn.set s'.ctr (some (.cells (((rq op c arg l).reply_ r).cells w) 0 false))) := Ext.set (Nat.le_refl _) xn
  have hs0 := hS.chg.ctr
  rw [hsn] at hwr
  refine ⟨_, F1', F2', w, rfl, hw.bytes.flat, hwr, ?_, ?_, fun j cs hB => ?_, ?_, k, ?_, .inr hw.since⟩
  · rw [← hsn]; exact hS.ext x''
  · rw [← hsn]; exact bn.put _
  · rw [← hsn]; exact (hB.step hc' hg).ext x''
  · rw [← hsn]; have := x''.ctr; omega
  · rw [← hsn]; exact hw.bytes.ext x''
end Go.Ab
/-! 'FileRoom' over the abstract machine. -/
namespace Go.Ab
attribute [local simp] lenV

def es4 : List Nat := [1, 2, 3, 4]
def tR (k : Nat) (all : List Ob) : Tbl := ⟨1, ⟨[], es4, k⟩, all⟩
theorem tR_create0 : (tR 0 []).create (-1) = ((⟨1, 0, 255, 1⟩, none), tR 1 [⟨true, 1, 0, -1, 24⟩]) := rfl

def xL (L : Nat) : Fls := ⟨[(0, zs L)], 1, L⟩
theorem chk1 : (tR 1 [⟨true, 1, 0, -1, 24⟩]).check ⟨1, 0, 255, 1⟩ 4 = ((0, none), tR 1 [⟨true, 1, 0, -1, 24⟩]) := by kernel_rfl
theorem chk2 : (tR 2 [⟨true, 1, 0, -1, 24⟩, ⟨true, 2, 0, 0, 24⟩]).check ⟨1, 0, 255, 1⟩ 4 = ((0, none), tR 2 [⟨true, 1, 0, -1, 24⟩, ⟨true, 2, 0, 0, 24⟩]) := by kernel_rfl
theorem chk3 : ((tR 2 [⟨true, 1, 0, -1, 24⟩, ⟨true, 2, 0, 0, 24⟩]).destroy ⟨1, 1, 255, 2⟩).2.check ⟨1, 0, 255, 1⟩ 4 = ((0, none), ((tR 2 [⟨true, 1, 0, -1, 24⟩, ⟨true, 2, 0, 0, 24⟩]).destroy ⟨1, 1, 255, 2⟩).2) := by kernel_rfl
theorem room_run1 (L : Nat) (hL : L ≤ 65536) : fileV.run (tR 1 [⟨true, 1, 0, -1, 24⟩]) ⟨[], 0, 0⟩ (rq 100 ⟨1, 0, 255, 1⟩ 0 (zs L)) = ((⟨⟨1, 1, 255, 2⟩, 0, []⟩, none), tR 2 [⟨true, 1, 0, -1, 24⟩, ⟨true, 2, 0, 0, 24⟩], xL L) := by
  have h := run_act fileV (T := tR 1 [⟨true, 1, 0, -1, 24⟩]) (T1 := tR 1 [⟨true, 1, 0, -1, 24⟩]) (x := ⟨[], 0, 0⟩) (m := rq 100 ⟨1, 0, 255, 1⟩ 0 (zs L)) (ob := ⟨true, 1, 0, -1, 24⟩) rfl (Nat.le_refl 100) (nd := 4) rfl (k := 0) chk1 rfl
  rw [h]
  simp only [fileV, rq]
  simp
  rw [make_ok' (c := ⟨1, 1, 255, 2⟩) (T' := tR 2 [⟨true, 1, 0, -1, 24⟩, ⟨true, 2, 0, 0, 24⟩]) (by simp [zs_len]; omega) rfl]
  simp [xL, setL, zs_len, Rs.zero]
theorem room_run2 (L M : Nat) (hL : L ≤ 65536) (hM : 65536 - L < M) : fileV.run (tR 2 [⟨true, 1, 0, -1, 24⟩, ⟨true, 2, 0, 0, 24⟩]) (xL L) (rq 100 ⟨1, 0, 255, 1⟩ 0 (zs M)) = ((Rs.zero, some 6), tR 2 [⟨true, 1, 0, -1, 24⟩, ⟨true, 2, 0, 0, 24⟩], xL L) := by
  have h := run_act fileV (T := tR 2 [⟨true, 1, 0, -1, 24⟩, ⟨true, 2, 0, 0, 24⟩]) (T1 := tR 2 [⟨true, 1, 0, -1, 24⟩, ⟨true, 2, 0, 0, 24⟩]) (x := xL L) (m := rq 100 ⟨1, 0, 255, 1⟩ 0 (zs M)) (ob := ⟨true, 1, 0, -1, 24⟩) rfl (Nat.le_refl 100) (nd := 4) rfl (k := 0) chk2 rfl
  rw [h]
  simp only [fileV, rq]
  simp
  rw [make_full (by simp [zs_len, xL]; omega)]
theorem room_run3 (L : Nat) : fileV.run (tR 2 [⟨true, 1, 0, -1, 24⟩, ⟨true, 2, 0, 0, 24⟩]) (xL L) (rq 5 ⟨1, 1, 255, 2⟩ 0 []) = ((Rs.zero, none), ((tR 2 [⟨true, 1, 0, -1, 24⟩, ⟨true, 2, 0, 0, 24⟩]).destroy ⟨1, 1, 255, 2⟩).2, ⟨[], 1, 0⟩) := by
  have hd : (tR 2 [⟨true, 1, 0, -1, 24⟩, ⟨true, 2, 0, 0, 24⟩]).destroy ⟨1, 1, 255, 2⟩ = ((1, 0, none), ((tR 2 [⟨true, 1, 0, -1, 24⟩, ⟨true, 2, 0, 0, 24⟩]).destroy ⟨1, 1, 255, 2⟩).2) := rfl
  have hm : (rq 5 ⟨1, 1, 255, 2⟩ 0 []).cap.may = true := rfl
  unfold Sv.run
  simp only [hm]
  simp only [rq]
  simp [Sv.destroy, Ms.cap]
  rw [hd]
  simp [fileV, xL, delL, Fls.get, lkL, zs_len]
theorem room_run4 (M : Nat) (hM : M ≤ 65536) : ∃ r T', fileV.run ((tR 2 [⟨true, 1, 0, -1, 24⟩, ⟨true, 2, 0, 0, 24⟩]).destroy ⟨1, 1, 255, 2⟩).2 ⟨[], 1, 0⟩ (rq 100 ⟨1, 0, 255, 1⟩ 0 (zs M)) = ((r, none), T', ⟨[(1, zs M)], 2, M⟩) := by
  have h := run_act fileV (T := ((tR 2 [⟨true, 1, 0, -1, 24⟩, ⟨true, 2, 0, 0, 24⟩]).destroy ⟨1, 1, 255, 2⟩).2) (T1 := ((tR 2 [⟨true, 1, 0, -1, 24⟩, ⟨true, 2, 0, 0, 24⟩]).destroy ⟨1, 1, 255, 2⟩).2) (x := ⟨[], 1, 0⟩) (m := rq 100 ⟨1, 0, 255, 1⟩ 0 (zs M)) (ob := ⟨true, 1, 0, -1, 24⟩) rfl (Nat.le_refl 100) (nd := 4) rfl (k := 0) chk3 rfl
  rw [h]
  simp only [fileV, rq]
  simp
  have hc : (((tR 2 [⟨true, 1, 0, -1, 24⟩, ⟨true, 2, 0, 0, 24⟩]).destroy ⟨1, 1, 255, 2⟩).2.create (1 : Nat)).1.2 = none := rfl
  obtain ⟨a, T', ha⟩ : ∃ a T', ((tR 2 [⟨true, 1, 0, -1, 24⟩, ⟨true, 2, 0, 0, 24⟩]).destroy ⟨1, 1, 255, 2⟩).2.create (1 : Nat) = (a, T') := ⟨_, _, rfl⟩
  obtain ⟨c, e⟩ := a
  rw [ha] at hc
  simp only at hc
  subst hc
  refine ⟨{ Rs.zero with cap := c }, T', ?_⟩
  rw [make_ok' (c := c) (T' := T') (by simp [zs_len]; omega) ha]
  simp [setL, zs_len]

theorem fileRoom_ok (n : Nat) (hn : n < 65536) (s : S) : Ev tab 7 [.int .u16 n] s fun v _ => v = .bool true := by
  refine Ev.intro rfl rfl rfl ?_
  simp [pf7, pf7_10, pf7_9, pf7_8]
  refine ev_awake27 ?_
  obtain ⟨s1, hs1⟩ : ∃ t, t = s.new (.cells (u64s es4) 0 false) := ⟨_, rfl⟩
  have hN := numsLit es4 hs1
  have hs1m := hs1
  simp [u64s, es4] at hs1m
  have hcut : es4.map (· % w48) = es4 := by decide
  simp [pf7_6, ← hs1m]
  refine Ev.mono (tapeOf_ok hN (by decide)) ?_
  rintro v s2 ⟨x2, tp0, G0, rfl, hTp, hG0⟩
  simp
  refine Ev.mono (oracleOf_ok hTp) ?_
  rintro v s3 ⟨x3, op, G1, rfl, hO, hg1⟩
  rw [hcut] at hO
  simp
  refine Ev.mono (objectsOf_ok hO 1) ?_
  rintro v s4 ⟨x4, tp, rfl, htp, hT⟩
  have hT0 : Tb s4 tp (tR 0 []) (tp :: G1) := hT
  have ok0 : (tR 0 []).Ok := Tbl.Ok.fresh (by omega) (by decide)
  have ok1 := (Tbl.create_step (tR 0 []) (-1)).ok ok0
  rw [tR_create0] at ok1
  replace ok1 : (tR 1 [⟨true, 1, 0, -1, 24⟩]).Ok := ok1
  simp
  refine Ev.mono (fileOf_ok hT0 ok0 _ _ tR_create0) ?_
  rintro v s5 ⟨hc5, sp, xp, F1, F2, rfl, hS, hg5⟩
  have H := hS.start
  obtain ⟨c0, hc0⟩ : ∃ c : Cp, c = ⟨1, 0, 255, 1⟩ := ⟨_, rfl⟩
  rw [← hc0]
  obtain ⟨x6, b6, k6⟩ := box_new (F := F1 ++ F2) (s := s5) [.int .u64 0, .int .u32 0, .int .u8 0, .int .u64 0] c0 H.sy.flt
  simp [write_new]
  obtain ⟨t0, ht0⟩ : ∃ t, t = (s5.new (.cells [.int .u64 0, .int .u32 0, .int .u8 0, .int .u64 0] 0 false)).set s5.ctr (some (.cells c0.cells 0 false)) := ⟨_, rfl⟩
  rw [← ht0] at x6 b6 k6 ⊢
  replace H := H.ext x6
  -- the first file
  obtain ⟨L, hL⟩ : ∃ L, L = 65536 - n := ⟨_, rfl⟩
  have w1 : IntKind.i64.wrap (n : Int) = n := by rw [wrap_i64] <;> omega
  have w2 : IntKind.i64.wrap (65536 - (n : Int)) = (L : Int) := by rw [wrap_i64] <;> omega
  have w3 : IntKind.i64.wrap ((n : Int) + 1) = ((n + 1 : Nat) : Int) := by rw [wrap_i64] <;> omega
  obtain ⟨t1, ht1⟩ : ∃ t, t = t0.new (.cells (List.replicate L (AV.int .u8 0)) 0 false) := ⟨_, rfl⟩
  have y1 : Ext t0 t1 := by rw [ht1]; simp
  have k1 : t1.ctr = t0.ctr + 1 := by rw [ht1]; rfl
  have z1 := zs_new L ht1
  obtain ⟨t2, ht2⟩ : ∃ t, t = t1.new (.cells [.int .u64 0, .int .u64 0, .int .u32 0, .int .u16 0, .int .u16 0, .int .u64 0, .int .u32 0, .int .u8 0, .int .u64 0, .int .u64 0, .snil] 0 false) := ⟨_, rfl⟩
  have y2 : Ext t1 t2 := by rw [ht2]; simp
  have k2 : t2.ctr = t1.ctr + 1 := by rw [ht2]; rfl
  have hL1 : (L : Int) ≤ 281474976710656 := by omega
  simp [pf7_5, pf7_4, b6.rd4, w1, w2, hL1, ← ht1, Cp.cells, ← ht2]
  have r1 := room_run1 L (by omega)
  have fc0 : c0.Fit := by rw [hc0]; exact ⟨by simp, by simp, by simp, by simp⟩
  rw [← hc0] at r1
  have i0 : Bg t0 s5.ctr c0.cells (F1 ++ F2) := ⟨b6.get, b6.lt, b6.out⟩
  have hflt0 := H.sy.flt
  have H2 := (H.ext y1).ext y2
  have i2 := (i0.ext y1).ext y2
  have a2 : Bg t2 t1.ctr mz11 (F1 ++ F2) := ⟨by rw [ht2]; simp [mz11], by omega, fun hx => by have := hflt0 _ hx; omega⟩
  have hspl := H.sy.lt
  have e1 := serve_lay H2 ok1 (by decide) (by simp [Fls.fits]) a2 (by omega) (by omega) 100 c0 0 (zs L) (d := .slice t0.ctr 0 L L false) (by decide) fc0 (by decide) (by rw [zs_len]; omega) (z1.ext y2) (fun hx => by have := hflt0 _ hx; omega) r1
  refine Ev.mono e1 ?_
  rintro v s7 ⟨t3, G1, G2, wa, rfl, fa, hw3, H3, ba3, hB3, hk3, _, _⟩
  have ok2 := H3.sy.tb
  obtain ⟨Ma, hMa⟩ : ∃ M, M = (rq 100 c0 0 (zs L)).reply_ (⟨⟨1, 1, 255, 2⟩, 0, []⟩, none) := ⟨_, rfl⟩
  rw [← hMa] at hw3 ba3 ⊢
  have hi0 : ¬ s5.ctr = t1.ctr := by omega
  have i3 := hB3 _ _ hi0 i2
  have ok2 : (tR 2 [⟨true, 1, 0, -1, 24⟩, ⟨true, 2, 0, 0, 24⟩]).Ok := by
    have h := (Tbl.create_step (tR 1 [⟨true, 1, 0, -1, 24⟩]) 0).ok ok1
    rw [show (tR 1 [⟨true, 1, 0, -1, 24⟩]).create 0 = ((⟨1, 1, 255, 2⟩, none), tR 2 [⟨true, 1, 0, -1, 24⟩, ⟨true, 2, 0, 0, 24⟩]) from rfl] at h
    exact h
  have hxL : (xL L).fits := ⟨by simp [xL], by simp only [xL]; omega, by simp only [xL]; omega, by simp [xL, zs_len]; omega⟩
  -- the second one
  obtain ⟨M, hM⟩ : ∃ M, M = n + 1 := ⟨_, rfl⟩
  rw [← hM] at w3
  have hM1 : (M : Int) ≤ 281474976710656 := by omega
  have hM0 : (0 : Int) ≤ M := by omega
  obtain ⟨t4, ht4⟩ : ∃ t, t = t3.new (.cells (List.replicate M (AV.int .u8 0)) 0 false) := ⟨_, rfl⟩
  have y4 : Ext t3 t4 := by rw [ht4]; simp
  have k4 : t4.ctr = t3.ctr + 1 := by rw [ht4]; rfl
  have z4 := zs_new M ht4
  obtain ⟨t5, ht5⟩ : ∃ t, t = t4.new (.cells [.int .u64 0, .int .u64 0, .int .u32 0, .int .u16 0, .int .u16 0, .int .u64 0, .int .u32 0, .int .u8 0, .int .u64 0, .int .u64 0, .snil] 0 false) := ⟨_, rfl⟩
  have y5 : Ext t4 t5 := by rw [ht5]; simp
  have k5 : t5.ctr = t4.ctr + 1 := by rw [ht5]; rfl
  have hflt3 := H3.sy.flt
  have H5 := (H3.ext y4).ext y5
  have i5 := (i3.ext y4).ext y5
  have ba5 := (ba3.ext y4).ext y5
  have bb5 : Bg t5 t4.ctr mz11 (G1 ++ G2) := ⟨by rw [ht5]; simp [mz11], by omega, fun hx => by have := hflt3 _ hx; omega⟩
  have r2 := room_run2 L M (by omega) (by omega)
  rw [← hc0] at r2
  have i3r : t3.read s5.ctr 0 4 = some c0.cells := by rw [rd i3.get (by simp)]; rfl
  simp [hw3, pf7_3, i3r, w1, w3, hM1, hM0, ← ht4, Cp.cells, ← ht5]
  refine Ev.mono (serve_lay H5 ok2 (by decide) hxL bb5 (by omega) (by omega) 100 c0 0 (zs M) (d := .slice t3.ctr 0 M M false) (by decide) fc0 (by decide) (by rw [zs_len]; omega) (z4.ext y5) (fun hx => by have := hflt3 _ hx; omega) r2) ?_
  rintro v s8 ⟨t6, G3, G4, wb, rfl, fb, hw6, H6, bb6, hB6, hk6, _, _⟩
  obtain ⟨Mb, hMb⟩ : ∃ Q, Q = (rq 100 c0 0 (zs M)).reply_ (Rs.zero, some 6) := ⟨_, rfl⟩
  rw [← hMb] at hw6 bb6 ⊢
  have i6 := hB6 _ _ (by omega) i5
  have ba6 := hB6 _ _ (by omega) ba5
  -- the first one is gone
  have r3 := room_run3 L
  have ca : Ma.p = 1 ∧ Ma.o = 1 ∧ Ma.r = 255 ∧ Ma.k = 2 ∧ Ma.st = 0 := by rw [hMa]; exact ⟨rfl, rfl, rfl, rfl, rfl⟩
  have rda : t6.read t1.ctr 5 4 = some [.int .u64 1, .int .u32 1, .int .u8 255, .int .u64 2] := by
    rw [rd ba6.get (by simp)]
    obtain ⟨q1, q2, q3, q4, _⟩ := ca
    simp [Ms.cells, q1, q2, q3, q4]
  simp [hw6, pf7_2, rda]
  refine Ev.mono (serve_new H6 ok2 (by decide) hxL 5 ⟨1, 1, 255, 2⟩ 0 [] (d := .snil) (by decide) ⟨by simp, by simp, by simp, by simp⟩ (by decide) (by simp) (Bytes.nil _) trivial r3) ?_
  rintro v s9 ⟨t7, G5, G6, wc, rfl, fc, hw7, H7, bc7, hB7, hk7, hk7', _, _⟩
  obtain ⟨Mc, hMc⟩ : ∃ Q, Q = (rq 5 ⟨1, 1, 255, 2⟩ 0 []).reply_ (Rs.zero, none) := ⟨_, rfl⟩
  rw [← hMc] at hw7 bc7 ⊢
  have i7 := hB7 _ _ i6
  have ba7 := hB7 _ _ ba6
  have bb7 := hB7 _ _ bb6
  -- there is room again
  obtain ⟨T3, hT3⟩ : ∃ T, T = ((tR 2 [⟨true, 1, 0, -1, 24⟩, ⟨true, 2, 0, 0, 24⟩]).destroy ⟨1, 1, 255, 2⟩).2 := ⟨_, rfl⟩
  have ok3 : T3.Ok := by rw [hT3]; exact (Tbl.destroy_step _ _).ok ok2
  have rs3 : T3.orc.rs.length ≤ 1000 := by rw [hT3]; decide
  obtain ⟨rr, T4, r4⟩ := room_run4 M (by omega)
  rw [← hc0, ← hT3] at r4
  rw [← hT3] at H7
  obtain ⟨t8, ht8⟩ : ∃ t, t = t7.new (.cells (List.replicate M (AV.int .u8 0)) 0 false) := ⟨_, rfl⟩
  have y8 : Ext t7 t8 := by rw [ht8]; simp
  have k8 : t8.ctr = t7.ctr + 1 := by rw [ht8]; rfl
  have z8 := zs_new M ht8
  obtain ⟨t9, ht9⟩ : ∃ t, t = t8.new (.cells [.int .u64 0, .int .u64 0, .int .u32 0, .int .u16 0, .int .u16 0, .int .u64 0, .int .u32 0, .int .u8 0, .int .u64 0, .int .u64 0, .snil] 0 false) := ⟨_, rfl⟩
  have y9 : Ext t8 t9 := by rw [ht9]; simp
  have k9 : t9.ctr = t8.ctr + 1 := by rw [ht9]; rfl
  have hflt7 := H7.sy.flt
  have H9 := (H7.ext y8).ext y9
  have ba9 := (ba7.ext y8).ext y9
  have bb9 := (bb7.ext y8).ext y9
  have bc9 := (bc7.ext y8).ext y9
  have bd9 : Bg t9 t8.ctr mz11 (G5 ++ G6) := ⟨by rw [ht9]; simp [mz11], by omega, fun hx => by have := hflt7 _ hx; omega⟩
  have i7r : t7.read s5.ctr 0 4 = some c0.cells := by rw [rd i7.get (by simp)]; rfl
  have hcl : s9.ctr < t7.ctr := bc7.lt
  simp [hw7, pf7_1, i7r, w1, w3, hM1, hM0, ← ht8, Cp.cells, ← ht9]
  refine Ev.mono (serve_lay H9 ok3 rs3 (by simp [Fls.fits]) bd9 (by omega) (by omega) 100 c0 0 (zs M) (d := .slice t7.ctr 0 M M false) (by decide) fc0 (by decide) (by rw [zs_len]; omega) (z8.ext y9) (fun hx => by have := hflt7 _ hx; omega) r4) ?_
  rintro v s10 ⟨t10, G7, G8, wd, rfl, fd, hw10, H10, bd10, hB10, hk10, _, _⟩
  obtain ⟨Md, hMd⟩ : ∃ Q, Q = (rq 100 c0 0 (zs M)).reply_ (rr, none) := ⟨_, rfl⟩
  rw [← hMd] at hw10 bd10 ⊢
  have ba10 := hB10 _ _ (by omega) ba9
  have bb10 := hB10 _ _ (by omega) bb9
  have bc10 := hB10 _ _ (by omega) bc9
  have sta : ∀ (i : Nat) (M : Ms) (w : AV), Bg t10 i (M.cells w) (G7 ++ G8) → t10.read i 4 1 = some [.int .u16 (M.st : Int)] := fun i M w hb => by rw [rd hb.get (by simp)]; rfl
  have ea := sta _ _ _ ba10
  have eb := sta _ _ _ bb10
  have ec := sta _ _ _ bc10
  have ed := sta _ _ _ bd10
  rw [show Ma.st = 0 by rw [hMa]; rfl] at ea
  rw [show Mb.st = 6 by rw [hMb]; rfl] at eb
  rw [show Mc.st = 0 by rw [hMc]; rfl] at ec
  rw [show Md.st = 0 by rw [hMd]; rfl] at ed
  simp [hw10, pf7_0, ea, eb, ec, ed]
end Go.Ab
