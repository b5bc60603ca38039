/- The server of files (layer 27): what requests come to, in plain Lean; a request in memory. -/
import Derived.Test.YtekkglhoeaipbaaDoorFiles
namespace Go.Ab
attribute [local simp] lenV

theorem ev_awake27 {s : S} {Q : AV → S → Prop} (h : Q (.bool true) s) : Ev tab 29 [] s Q := Ev.prim (p := closedPrim [] (.bool true)) rfl rfl h

/-- A request of an operation of the server's own, by a capability that has the rights. -/
theorem run_act {σ : Type} (V : Sv σ) {T T1 : Tbl} {x : σ} {m : Ms} {ob : Ob} (hc : m.cap.may = true) (ho : 100 ≤ m.op) {nd : Nat} (hn : V.need m.op = (nd, true)) {k : Nat} (hk : T.check m.cap nd = ((k, none), T1)) (hg : T1.get k = some ob) :
    V.run T x m = V.act T1 x m.op ob.value m := by
  have h1 : ¬ m.op = 1 := by omega
  have h2 : ¬ m.op = 2 := by omega
  have h3 : ¬ m.op = 3 := by omega
  have h4 : ¬ m.op = 4 := by omega
  have h5 : ¬ m.op = 5 := by omega
  have h6 : ¬ m.op < 100 := by omega
  simp [Sv.run, hc, h1, h2, h3, h4, h5, h6, hn, hk, hg]
theorem run_refused {σ : Type} (V : Sv σ) {T T1 : Tbl} {x : σ} {m : Ms} (hc : m.cap.may = true) (ho : 100 ≤ m.op) {nd : Nat} (hn : V.need m.op = (nd, true)) {k : Nat} {e : Int} (hk : T.check m.cap nd = ((k, some e), T1)) :
    V.run T x m = ((Rs.zero, some e), T1, x) := by
  have h1 : ¬ m.op = 1 := by omega
  have h2 : ¬ m.op = 2 := by omega
  have h3 : ¬ m.op = 3 := by omega
  have h4 : ¬ m.op = 4 := by omega
  have h5 : ¬ m.op = 5 := by omega
  have h6 : ¬ m.op < 100 := by omega
  simp [Sv.run, hc, h1, h2, h3, h4, h5, h6, hn, hk]
theorem make_ok' {T : Tbl} {x : Fls} {l : List UInt8} (h : (l.length : Int) ≤ 65536 - x.bytes) {c : Cp} {T' : Tbl} (hc : T.create x.next = ((c, none), T')) :
    x.make T l = (({ Rs.zero with cap := c }, none), T', ⟨setL (x.next : Int) l x.files, x.next + 1, x.bytes + l.length⟩) := by
  unfold Fls.make
  rw [if_neg (by omega), hc]
theorem make_full {T : Tbl} {x : Fls} {l : List UInt8} (h : 65536 - x.bytes < (l.length : Int)) : x.make T l = ((Rs.zero, some 6), T, x) := by
  unfold Fls.make
  rw [if_pos h]

/-- A request in memory: the server since a state, the reply. -/
theorem serve_eq {s0 s : S} {L : List Nat} {sp tp xp : Nat} {T : Tbl} {x : Fls} {F1 F2 : List Nat} (H : SyC fileB s0 s L sp tp xp T x F1 F2) (ok : T.Ok) (hq : T.orc.rs.length + 2 ≤ 5000000000000) (hf : x.fits) {m : Ms} (hm : m.fit) (hmo : m.data.length ≤ 1000000000) {d : AV} (hd : Bytes s d m.data) (ho : d.out (F1 ++ F2))
    {r : Rs × Option Int} {T' : Tbl} {x' : Fls} (hr : fileV.run T x m = (r, T', x')) :
    Ev tab 24 [.ptr sp 0, .agg (m.cells d)] s fun u s' => ∃ F1' F2' w, SyC fileB s0 s' L sp tp xp T' x' F1' F2' ∧ Chg (F1 ++ F2) s s' ∧ Grow (F1 ++ F2) (F1' ++ F2') s.ctr ∧ Own s.ctr s' w (m.reply_ r).data ∧ u = .agg ((m.reply_ r).cells w) := by
  have h := svServe_ok H.sy ok hq hf hm hmo hd ho
  have hr' : fileB.V.run T x m = (r, T', x') := hr
  rw [hr'] at h
  refine Ev.mono h ?_
  rintro u s' ⟨G1, G2, w, hS, hw, _, rfl⟩
  exact ⟨G1, G2, w, ⟨H.chg.comp hS.chg H.grow, H.grow.trans hS.grow H.chg.ctr, hS.sy⟩, hS.chg, hS.grow, hw, rfl⟩
theorem numsLit {s s1 : S} (es : List Nat) (h : s1 = s.new (.cells (u64s es) 0 false)) : NumsAt s1 (.slice s.ctr 0 es.length es.length false) es := by
  have g2 : s1.get s.ctr = some (.cells (u64s es) 0 false) := by rw [h]; simp
  have c2 : s1.ctr = s.ctr + 1 := by rw [h]; rfl
  refine ⟨rfl, .inr (.inr ⟨s.ctr, es.length, false, rfl, by omega, ?_⟩)⟩
  intro i n hi
  have hi' : (u64s es)[i]? = some (.int .u64 (n : Int)) := by simp [u64s, hi]
  obtain ⟨q1, q2⟩ := List.getElem?_eq_some_iff.1 hi'
  rw [Nat.zero_add, Nat.mul_one, rd g2 (by omega), List.drop_eq_getElem_cons q1, q2]
  rfl

def zs (n : Nat) : List UInt8 := List.replicate n 0
theorem zs_len (n : Nat) : (zs n).length = n := by simp [zs]
theorem zs_new {s s1 : S} (n : Nat) (h : s1 = s.new (.cells (List.replicate n (AV.int .u8 0)) 0 false)) : Bytes s1 (.slice s.ctr 0 n n false) (zs n) := by
  have g : s1.get s.ctr = some (.cells (u8s (zs n)) 0 false) := by rw [h]; simp [zs, u8s]
  have c : s.ctr < s1.ctr := by rw [h]; simp
  have := Bytes.made g c n false (by simp [AV.roomy, zs_len])
  rwa [zs_len] at this

def mz11 : List AV := [.int .u64 0, .int .u64 0, .int .u32 0, .int .u16 0, .int .u16 0, .int .u64 0, .int .u32 0, .int .u8 0, .int .u64 0, .int .u64 0, .snil]
/-- A request: its operation, its capability, its number, its data. -/
def rq (op : Nat) (c : Cp) (arg : Nat) (l : List UInt8) : Ms := ⟨0, 0, 0, op, 0, c.p, c.o, c.r, c.k, arg, l⟩
theorem rq_fit {op : Nat} {c : Cp} {arg : Nat} {l : List UInt8} (ho : op < 65536) (hc : c.Fit) (ha : arg < 18446744073709551616) (hl : l.length ≤ 140737488355328) : (rq op c arg l).fit :=
  ⟨by simp [rq], by simp [rq], by simp [rq], ho, by simp [rq], hc.p, hc.o, hc.r, hc.k, ha, hl⟩
theorem rq_cap (op : Nat) (c : Cp) (arg : Nat) (l : List UInt8) : (rq op c arg l).cap = c := rfl
/-- The reply is laid into a block that was there. -/
theorem lay_reply {s s' : S} {i : Nat} {F F' : List Nat} {M : Ms} {w : AV} {l : List UInt8} (hb : Bg s i mz11 F) (hc : Chg F s s') (hg : Grow F F' s.ctr) (hw : Bytes s' w l) : s'.write i 0 (M.cells w) = some (s'.set i (some (.cells (M.cells w) 0 false))) ∧ Bg (s'.set i (some (.cells (M.cells w) 0 false))) i (M.cells w) F' := by
  have b := hb.step hc hg
  refine ⟨?_, b.put _⟩
  rw [wrc b.get (by simp [mz11]) (Ms.cells_flat hw.flat), over11 _ _ _ rfl]


/-- A request whose reply is laid into a block that was there. -/
theorem serve_lay {s0 s : S} {L : List Nat} {sp tp xp : Nat} {T : Tbl} {x : Fls} {F1 F2 : List Nat} (H : SyC fileB s0 s L sp tp xp T x F1 F2) (ok : T.Ok) (hq : T.orc.rs.length ≤ 1000) (hf : x.fits) {i : Nat} (hb : Bg s i mz11 (F1 ++ F2)) (hi : s0.ctr ≤ i) (hsp : ¬ sp = i)
    (op : Nat) (c : Cp) (arg : Nat) (l : List UInt8) {d : AV} (hop : op < 65536) (hc : c.Fit) (harg : arg < 18446744073709551616) (hl : l.length ≤ 1000000000) (hd : Bytes s d l) (ho : d.out (F1 ++ F2))
    {r : Rs × Option Int} {T' : Tbl} {x' : Fls} (hr : fileV.run T x (rq op c arg l) = (r, T', x')) :
    Ev tab 24 [.ptr sp 0, .agg [.int .u64 0, .int .u64 0, .int .u32 0, .int .u16 (op : Int), .int .u16 0, .int .u64 (c.p : Int), .int .u32 (c.o : Int), .int .u8 (c.r : Int), .int .u64 (c.k : Int), .int .u64 (arg : Int), d]] s fun u s' => ∃ s'' F1' F2' w, u = .agg (((rq op c arg l).reply_ r).cells w) ∧ isFlat w = true ∧ s'.write i 0 (((rq op c arg l).reply_ r).cells w) = some s'' ∧
      SyC fileB s0 s'' L sp tp xp T' x' F1' F2' ∧ Bg s'' i (((rq op c arg l).reply_ r).cells w) (F1' ++ F2') ∧ (∀ j cs, ¬ j = i → Bg s j cs (F1 ++ F2) → Bg s'' j cs (F1' ++ F2')) ∧ s.ctr ≤ s''.ctr ∧ Bytes s'' w ((rq op c arg l).reply_ r).data ∧ (w = .snil ∨ w.since s.ctr) := by
  refine Ev.mono (serve_eq H ok (by omega) hf (rq_fit hop hc harg (by omega)) hl hd ho hr) ?_
  rintro u s' ⟨F1', F2', w, hS, hc', hg, hw, rfl⟩
  obtain ⟨hwr, hb'⟩ := lay_reply hb hc' hg hw.bytes
  have hbs := hb.step hc' hg
  refine ⟨_, F1', F2', w, rfl, hw.bytes.flat, hwr, hS.set hbs.out hsp hi, hb', fun j cs hj hB => (hB.step hc' hg).set hj, hc'.ctr, ?_, ?_⟩
  · exact hw.bytes.set hw.since hb.lt
  · exact .inr hw.since
/-- A request whose reply is laid into a new block. -/
theorem serve_new {s0 s : S} {L : List Nat} {sp tp xp : Nat} {T : Tbl} {x : Fls} {F1 F2 : List Nat} (H : SyC fileB s0 s L sp tp xp T x F1 F2) (ok : T.Ok) (hq : T.orc.rs.length ≤ 1000) (hf : x.fits)
    (op : Nat) (c : Cp) (arg : Nat) (l : List UInt8) {d : AV} (hop : op < 65536) (hc : c.Fit) (harg : arg < 18446744073709551616) (hl : l.length ≤ 1000000000) (hd : Bytes s d l) (ho : d.out (F1 ++ F2))
    {r : Rs × Option Int} {T' : Tbl} {x' : Fls} (hr : fileV.run T x (rq op c arg l) = (r, T', x')) :
    Ev tab 24 [.ptr sp 0, .agg [.int .u64 0, .int .u64 0, .int .u32 0, .int .u16 (op : Int), .int .u16 0, .int .u64 (c.p : Int), .int .u32 (c.o : Int), .int .u8 (c.r : Int), .int .u64 (c.k : Int), .int .u64 (arg : Int), d]] s fun u s' => ∃ s'' F1' F2' w, u = .agg (((rq op c arg l).reply_ r).cells w) ∧ isFlat w = true ∧
      (s'.new (.cells [.int .u64 0, .int .u64 0, .int .u32 0, .int .u16 0, .int .u16 0, .int .u64 0, .int .u32 0, .int .u8 0, .int .u64 0, .int .u64 0, .snil] 0 false)).write s'.ctr 0 (((rq op c arg l).reply_ r).cells w) = some s'' ∧
      SyC fileB s0 s'' L sp tp xp T' x' F1' F2' ∧ Bg s'' s'.ctr (((rq op c arg l).reply_ r).cells w) (F1' ++ F2') ∧ (∀ j cs, Bg s j cs (F1 ++ F2) → Bg s'' j cs (F1' ++ F2')) ∧ s.ctr ≤ s''.ctr ∧ s.ctr ≤ s'.ctr ∧ Bytes s'' w ((rq op c arg l).reply_ r).data ∧ (w = .snil ∨ w.since s.ctr) := by
  refine Ev.mono (serve_eq H ok (by omega) hf (rq_fit hop hc harg (by omega)) hl hd ho hr) ?_
  rintro u s' ⟨F1', F2', w, hS, hc', hg, hw, rfl⟩
  obtain ⟨sn, hsn⟩ : ∃ t, t = s'.new (.cells mz11 0 false) := ⟨_, rfl⟩
  have xn : Ext s' sn := by rw [hsn]; simp
  have gn : sn.get s'.ctr = some (.cells mz11 0 false) := by rw [hsn]; simp
  have cn : sn.ctr = s'.ctr + 1 := by rw [hsn]; rfl
  have hflt := hS.sy.flt
  have bn : Bg sn s'.ctr mz11 (F1' ++ F2') := ⟨gn, by omega, fun hx => by have := hflt _ hx; omega⟩
  have hwr : sn.write s'.ctr 0 (((rq op c arg l).reply_ r).cells w) = some (sn.set s'.ctr (some (.cells (((rq op c arg l).reply_ r).cells w) 0 false))) := by
    rw [wrc gn (by simp [mz11]) (Ms.cells_flat hw.bytes.flat), over11 _ _ _ rfl]
  have k := hc'.ctr
  have hsp := hS.sy.lt
  have x'' : Ext s' (sn.set s'.ctr (some (.cells (((rq op c arg l).reply_ r).cells w) 0 false))) := Ext.set (Nat.le_refl _) xn
  have hs0 := hS.chg.ctr
  rw [hsn] at hwr
  refine ⟨_, F1', F2', w, rfl, hw.bytes.flat, hwr, ?_, ?_, fun j cs hB => ?_, ?_, k, ?_, .inr hw.since⟩
  · rw [← hsn]; exact hS.ext x''
  · rw [← hsn]; exact bn.put _
  · rw [← hsn]; exact (hB.step hc' hg).ext x''
  · rw [← hsn]; have := x''.ctr; omega
  · rw [← hsn]; exact hw.bytes.ext x''
end Go.Ab
/-! 'FileRights' over the abstract machine. -/
namespace Go.Ab
attribute [local simp] lenV

/-- A table with two objects, whose second capability is restricted. -/
theorem rights2_run (es : List Nat) (d1 d y0 : Nat) (v1 v2 : Int) (h0 : d1 ∈ es) (h2 : es[2]? = some y0) (hd : d < w48) (hy : y0 < w48) (mask : Nat) (hm : mask < 256) :
    ∃ y q, (⟨1, ⟨[], es, 2⟩, [⟨true, d1, 0, v1, 24⟩, ⟨true, d, 0, v2, 24⟩]⟩ : Tbl).restrict ⟨1, 1, 255, d⟩ mask = ((⟨1, 1, mask, y⟩, none), ⟨1, q, [⟨true, d1, 0, v1, 24⟩, ⟨true, d, 0, v2, 24⟩]⟩) ∧ y < w48 ∧ q.rs.length ≤ 1 ∧ q.es = es ∧ q.at_ ≤ 3 ∧
      ∀ need, (⟨1, q, [⟨true, d1, 0, v1, 24⟩, ⟨true, d, 0, v2, 24⟩]⟩ : Tbl).check ⟨1, 1, mask, y⟩ need = (if mask &&& need ≠ need then (0, some 2) else (1, none), ⟨1, q, [⟨true, d1, 0, v1, 24⟩, ⟨true, d, 0, v2, 24⟩]⟩) := by
  have hdm : d % w48 = d := Nat.mod_eq_of_lt hd
  have hg : ∀ q : Orc, (⟨1, q, [⟨true, d1, 0, v1, 24⟩, ⟨true, d, 0, v2, 24⟩]⟩ : Tbl).get 1 = some ⟨true, d, 0, v2, 24⟩ := fun q => rfl
  obtain ⟨a, q, ht⟩ : ∃ a q, (⟨[], es, 2⟩ : Orc).tok d mask = (a, q) := ⟨_, _, rfl⟩
  have hrs : q.rs.length ≤ 1 := by have := Orc.tok_rs (q := ⟨[], es, 2⟩) (s := d) (r := mask); rw [ht] at this; simpa using this
  have hes : q.es = es := by have := Orc.tok_es' (q := ⟨[], es, 2⟩) (s := d) (r := mask); rw [ht] at this; simpa using this
  have hat : q.at_ ≤ 3 := by have := (Orc.tok_at (q := ⟨[], es, 2⟩) (s := d) (r := mask)).1; rw [ht] at this; simpa using this
  have ha : ∃ y, a = some y ∧ y < w48 := by
    unfold Orc.tok at ht
    split at ht
    · cases ht; exact ⟨_, rfl, Nat.mod_lt _ (by decide)⟩
    · simp only [Orc.ask, Orc.known, List.find?_nil, Option.map_none, h2] at ht
      cases ht; exact ⟨_, rfl, hy⟩
  obtain ⟨y, rfl, hyw⟩ := ha
  refine ⟨y, q, ?_, hyw, hrs, hes, hat, fun need => ?_⟩
  · unfold Tbl.restrict
    rw [Tbl.check_ok (T := ⟨1, ⟨[], es, 2⟩, [⟨true, d1, 0, v1, 24⟩, ⟨true, d, 0, v2, 24⟩]⟩) (q := ⟨[], es, 2⟩) rfl (hg _) (by simp [Orc.tok, hdm])]
    simp only [Nat.and_zero, ne_eq, not_true_eq_false, if_false]
    rw [hg]
    simp only [and255 mask hm, ht]
  · exact Tbl.check_ok (T := ⟨1, q, [⟨true, d1, 0, v1, 24⟩, ⟨true, d, 0, v2, 24⟩]⟩) rfl (hg _) (Orc.tok_idem ht) need

def es4m : List Nat := [1048576, 2097152, 3145728, 4194304]
def tM (k : Nat) (all : List Ob) : Tbl := ⟨1, ⟨[], es4m, k⟩, all⟩
theorem tM_create0 : (tM 0 []).create (-1) = ((⟨1, 0, 255, 1048576⟩, none), tM 1 [⟨true, 1048576, 0, -1, 24⟩]) := rfl
theorem tM_create1 : (tM 1 [⟨true, 1048576, 0, -1, 24⟩]).create 0 = ((⟨1, 1, 255, 2097152⟩, none), tM 2 [⟨true, 1048576, 0, -1, 24⟩, ⟨true, 2097152, 0, 0, 24⟩]) := rfl
theorem tM_chk : (tM 1 [⟨true, 1048576, 0, -1, 24⟩]).check ⟨1, 0, 255, 1048576⟩ 4 = ((0, none), tM 1 [⟨true, 1048576, 0, -1, 24⟩]) := by kernel_rfl
def xD (l : List UInt8) : Fls := ⟨[(0, l)], 1, l.length⟩
theorem rights_run1 (l : List UInt8) (hl : l.length ≤ 100) : fileV.run (tM 1 [⟨true, 1048576, 0, -1, 24⟩]) ⟨[], 0, 0⟩ (rq 100 ⟨1, 0, 255, 1048576⟩ 0 l) = ((⟨⟨1, 1, 255, 2097152⟩, 0, []⟩, none), tM 2 [⟨true, 1048576, 0, -1, 24⟩, ⟨true, 2097152, 0, 0, 24⟩], xD l) := by
  have h := run_act fileV (T := tM 1 [⟨true, 1048576, 0, -1, 24⟩]) (T1 := tM 1 [⟨true, 1048576, 0, -1, 24⟩]) (x := ⟨[], 0, 0⟩) (m := rq 100 ⟨1, 0, 255, 1048576⟩ 0 l) (ob := ⟨true, 1048576, 0, -1, 24⟩) rfl (Nat.le_refl 100) (nd := 4) rfl (k := 0) tM_chk rfl
  rw [h]
  simp only [fileV, rq]
  simp
  rw [make_ok' (by simp; omega) tM_create1]
  simp [xD, setL, Rs.zero]

section
variable {q : Orc} {mask y : Nat} {l : List UInt8}
/-- The table behind. -/
def tQ (q : Orc) (all : List Ob) : Tbl := ⟨1, q, all⟩
def obs2 : List Ob := [⟨true, 1048576, 0, -1, 24⟩, ⟨true, 2097152, 0, 0, 24⟩]
theorem rights_size (hy : y < w48) (hc : ∀ need, (tQ q obs2).check ⟨1, 1, mask, y⟩ need = (if mask &&& need ≠ need then (0, some 2) else (1, none), tQ q obs2)) :
    fileV.run (tQ q obs2) (xD l) (rq 102 ⟨1, 1, mask, y⟩ 0 []) = (if mask &&& 1 ≠ 1 then (Rs.zero, some 2) else ({ Rs.zero with arg := l.length }, none), tQ q obs2, xD l) := by
  have hmay : (rq 102 ⟨1, 1, mask, y⟩ 0 []).cap.may = true := by simp [rq, Ms.cap, Cp.may, hy, show 1 < w48 by decide]
  by_cases h : mask &&& 1 ≠ 1
  · rw [if_pos h]
    exact run_refused fileV (T1 := tQ q obs2) (k := 0) hmay (by simp [rq]) (nd := 1) rfl (by rw [rq_cap, hc, if_pos h])
  · rw [if_neg h]
    rw [run_act fileV (T1 := tQ q obs2) (k := 1) (ob := ⟨true, 2097152, 0, 0, 24⟩) hmay (by simp [rq]) (nd := 1) rfl (by rw [rq_cap, hc, if_neg h]) rfl]
    simp [fileV, rq, xD, Fls.get, lkL]
theorem rights_edit (hy : y < w48) (hl : l.length ≤ 100) (he : q.es = es4m) (ha : q.at_ ≤ 3) (hc : ∀ need, (tQ q obs2).check ⟨1, 1, mask, y⟩ need = (if mask &&& need ≠ need then (0, some 2) else (1, none), tQ q obs2)) :
    ∃ r T' x', fileV.run (tQ q obs2) (xD l) (rq 103 ⟨1, 1, mask, y⟩ 0 l) = (r, T', x') ∧ (r.2 = if mask &&& 5 ≠ 5 then some 2 else none) := by
  have hmay : (rq 103 ⟨1, 1, mask, y⟩ 0 l).cap.may = true := by simp [rq, Ms.cap, Cp.may, hy, show 1 < w48 by decide]
  by_cases h : mask &&& 5 ≠ 5
  · rw [if_pos h]
    exact ⟨_, _, _, run_refused fileV (T1 := tQ q obs2) (k := 0) hmay (by simp [rq]) (nd := 5) rfl (by rw [rq_cap, hc, if_pos h]), rfl⟩
  · rw [if_neg h]
    rw [run_act fileV (T1 := tQ q obs2) (k := 1) (ob := ⟨true, 2097152, 0, 0, 24⟩) hmay (by simp [rq]) (nd := 5) rfl (by rw [rq_cap, hc, if_neg h]) rfl]
    have hel := editL_len ((xD l).get 0) 0 l
    have hgl : ((xD l).get 0).length = l.length := by simp [xD, Fls.get, lkL]
    have hcr : ((tQ q obs2).create 1).1.2 = none := by
      have hg : ∃ z, q.es[q.at_]? = some z := by
        rw [he]
        have : q.at_ < es4m.length := by simp [es4m]; omega
        exact ⟨_, List.getElem?_eq_getElem this⟩
      obtain ⟨z, hz⟩ := hg
      simp [Tbl.create, tQ, obs2, lowest, Orc.draw, hz]
    obtain ⟨a, T', hT⟩ : ∃ a T', (tQ q obs2).create (1 : Nat) = (a, T') := ⟨_, _, rfl⟩
    obtain ⟨c, e⟩ := a
    have he2 : e = none := by
      have := hcr
      rw [show (1 : Int) = ((1 : Nat) : Int) from rfl, hT] at this
      exact this
    subst he2
    have hact : fileV.act (tQ q obs2) (xD l) 103 0 (rq 103 ⟨1, 1, mask, y⟩ 0 l) = (xD l).make (tQ q obs2) (editL ((xD l).get 0) 0 l) := by
      simp [fileV, rq]
    have hmk := make_ok' (T := tQ q obs2) (x := xD l) (l := editL ((xD l).get 0) 0 l) (c := c) (T' := T') (by simp only [xD] at hel hgl ⊢; omega) hT
    exact ⟨_, _, _, hact.trans hmk, rfl⟩
end

theorem fileRights_ok (mask : Nat) (hm : mask < 256) (v : AV) (lv : List UInt8) (s : S) (hv : Bytes s v lv) (hlv : lv.length ≤ 140737488355328) : Ev tab 8 [.int .u8 mask, v] s fun u _ => u = .bool true := by
  refine Ev.intro rfl rfl rfl ?_
  simp [pf8, pf8_12, pf8_11, pf8_10]
  refine ev_awake27 ?_
  obtain ⟨s1, hs1⟩ : ∃ t, t = s.new (.cells (u64s es4m) 0 false) := ⟨_, rfl⟩
  have hN := numsLit es4m hs1
  have x1 : Ext s s1 := by rw [hs1]; simp
  have hs1m := hs1
  simp [u64s, es4m] at hs1m
  have hcut : es4m.map (· % w48) = es4m := by decide
  simp [pf8_8, ← hs1m]
  refine Ev.mono (tapeOf_ok hN (by decide)) ?_
  rintro v2 s2 ⟨x2, tp0, G0, rfl, hTp, hG0⟩
  simp
  refine Ev.mono (oracleOf_ok hTp) ?_
  rintro v3 s3 ⟨x3, op, G1, rfl, hO, hg1⟩
  rw [hcut] at hO
  simp
  refine Ev.mono (objectsOf_ok hO 1) ?_
  rintro v4 s4 ⟨x4, tp, rfl, htp, hT⟩
  have hT0 : Tb s4 tp (tM 0 []) (tp :: G1) := hT
  have ok0 : (tM 0 []).Ok := Tbl.Ok.fresh (by omega) (by decide)
  have ok1 : (tM 1 [⟨true, 1048576, 0, -1, 24⟩]).Ok := by
    have h := (Tbl.create_step (tM 0 []) (-1)).ok ok0
    rw [tM_create0] at h
    exact h
  have ok2 : (tM 2 obs2).Ok := by
    have h := (Tbl.create_step (tM 1 [⟨true, 1048576, 0, -1, 24⟩]) 0).ok ok1
    rw [tM_create1] at h
    exact h
  have k1 := x1.ctr
  have k2 := x2.ctr
  have k3 := x3.ctr
  have k4 := x4.ctr
  have hlow : ∀ y ∈ tp :: G1, s.ctr ≤ y := fun y hy => by
    rcases List.mem_cons.1 hy with rfl | hy
    · omega
    · rcases hg1 y hy with h | h
      · have := hG0 y h; omega
      · omega
  simp [pf8_7]
  refine Ev.mono (fileOf_ok hT0 ok0 _ _ tM_create0) ?_
  rintro v5 s5 ⟨hc5, sp, xp, F1, F2, rfl, hS, hg5⟩
  have hlow5 : ∀ y ∈ F1 ++ F2, s.ctr ≤ y := fun y hy => by
    rcases hg5 y hy with h | h
    · exact hlow y h
    · omega
  have x5 : Ext s s5 := ((x1.trans x2).trans (x3.trans x4)).then (hc5.keep hlow (by omega))
  have H := hS.start
  obtain ⟨c0, hc0⟩ : ∃ c : Cp, c = ⟨1, 0, 255, 1048576⟩ := ⟨_, rfl⟩
  have fc0 : c0.Fit := by rw [hc0]; exact ⟨by simp, by simp, by simp, by simp⟩
  rw [← hc0]
  obtain ⟨x6, b6, k6⟩ := box_new (F := F1 ++ F2) (s := s5) [.int .u64 0, .int .u32 0, .int .u8 0, .int .u64 0] c0 H.sy.flt
  simp [write_new]
  obtain ⟨t0, ht0⟩ : ∃ t, t = (s5.new (.cells [.int .u64 0, .int .u32 0, .int .u8 0, .int .u64 0] 0 false)).set s5.ctr (some (.cells c0.cells 0 false)) := ⟨_, rfl⟩
  rw [← ht0] at x6 b6 k6 ⊢
  replace H := H.ext x6
  have i0 : Bg t0 s5.ctr c0.cells (F1 ++ F2) := ⟨b6.get, b6.lt, b6.out⟩
  -- at most 100 bytes
  have hv0 := hv.ext (x5.trans x6)
  have wlv := hv0.wlen
  obtain ⟨n, hn⟩ : ∃ n, n = min lv.length 100 := ⟨_, rfl⟩
  have en : (if (100 : Int) < (lv.length : Int) then (100 : Int) else (lv.length : Int)) = (n : Int) := by split <;> omega
  obtain ⟨d, hd1, hd2, hd3, hd4⟩ := hv.head (hi := n) (k2 := .i64) (by omega)
  obtain ⟨l, hl⟩ : ∃ l, l = lv.take n := ⟨_, rfl⟩
  rw [← hl] at hd2
  have hll : l.length ≤ 100 := by rw [hl]; simp; omega
  have hdin : d.inS s.ctr := hd2.below
  have dout : ∀ F : List Nat, (∀ y ∈ F, s.ctr ≤ y) → d.out F := fun F hF => by
    cases d <;> first | trivial | (simp only [AV.inS] at hdin; intro hx; have := hF _ hx; omega)
  have k5 := x5.ctr
  have later : ∀ {t : S} {G1 G2 : List Nat} {T : Tbl} {x : Fls}, SyC fileB s5 t (F1 ++ F2) sp tp xp T x G1 G2 → Ext s t ∧ ∀ y ∈ G1 ++ G2, s.ctr ≤ y := fun hh => by
    refine ⟨x5.then (hh.chg.keep hlow5 (by omega)), fun y hy => ?_⟩
    rcases hh.grow y hy with h | h
    · exact hlow5 y h
    · omega
  simp [pf8_6, wlv, foldO, minV, en, hd1]
  have cd := hd2.cells1
  -- the file
  have i0r : t0.read s5.ctr 0 4 = some c0.cells := by rw [rd i0.get (by simp)]; rfl
  have r1 := rights_run1 l hll
  rw [← hc0] at r1
  simp [pf8_5, pf8_4, i0r, Cp.cells, cd]
  refine Ev.mono (serve_new H ok1 (by decide) (by simp [Fls.fits]) 100 c0 0 l (d := d) (by decide) fc0 (by decide) (by omega) (hd2.ext (later H).1) (dout _ (later H).2) r1) ?_
  rintro u s7 ⟨t1, G1', G2', wa, rfl, fa, hw1, H1, ba1, hB1, hk1, hk1', _, _⟩
  obtain ⟨Ma, hMa⟩ : ∃ M, M = (rq 100 c0 0 l).reply_ (⟨⟨1, 1, 255, 2097152⟩, 0, []⟩, none) := ⟨_, rfl⟩
  rw [← hMa] at hw1 ba1 ⊢
  have ca : Ma.p = 1 ∧ Ma.o = 1 ∧ Ma.r = 255 ∧ Ma.k = 2097152 ∧ Ma.st = 0 := by rw [hMa]; exact ⟨rfl, rfl, rfl, rfl, rfl⟩
  have rda : t1.read s7.ctr 5 4 = some (Cp.cells ⟨1, 1, 255, 2097152⟩) := by
    rw [rd ba1.get (by simp)]
    obtain ⟨q1, q2, q3, q4, _⟩ := ca
    simp [Ms.cells, q1, q2, q3, q4, Cp.cells]
  -- its capability, restricted
  obtain ⟨y, q, hres, hyw, hqr, hqe, hqa, hchk⟩ := rights2_run es4m 1048576 2097152 3145728 (-1) 0 (by decide) rfl (by decide) (by decide) mask hm
  have hres' : (tM 2 obs2).restrict ⟨1, 1, 255, 2097152⟩ mask = ((⟨1, 1, mask, y⟩, none), tQ q obs2) := hres
  have hchk' : ∀ need, (tQ q obs2).check ⟨1, 1, mask, y⟩ need = (if mask &&& need ≠ need then (0, some 2) else (1, none), tQ q obs2) := hchk
  have okq : (tQ q obs2).Ok := by
    have h := (Tbl.restrict_step (tM 2 obs2) ⟨1, 1, 255, 2097152⟩ mask).ok ok2
    rw [hres'] at h
    exact h
  simp [hw1, pf8_3, rda]
  refine Ev.mono (restrict_eq H1.sy.tb (by decide) ⟨by simp, by simp, by simp, by simp⟩ hm hres') ?_
  rintro u s8 ⟨hc8, G3, hg8, hT8, rfl⟩
  have H8 := H1.t hc8 hg8 hT8
  have ba8 := ba1.step hc8.l1 hg8.l1
  obtain ⟨c, hc⟩ : ∃ c : Cp, c = ⟨1, 1, mask, y⟩ := ⟨_, rfl⟩
  have fc : c.Fit := by rw [hc]; exact ⟨by simp, by simp, by simpa using hm, by unfold w48 at hyw; simp only; omega⟩
  rw [← hc]
  obtain ⟨x9, b9, k9⟩ := box_new (F := G3 ++ G2') (s := s8) [.int .u64 0, .int .u32 0, .int .u8 0, .int .u64 0] c H8.sy.flt
  simp [capE, errV, write_new]
  obtain ⟨t2, ht2⟩ : ∃ t, t = (s8.new (.cells [.int .u64 0, .int .u32 0, .int .u8 0, .int .u64 0] 0 false)).set s8.ctr (some (.cells c.cells 0 false)) := ⟨_, rfl⟩
  rw [← ht2] at x9 b9 k9 ⊢
  have H2 := H8.ext x9
  have ba2 := ba8.ext x9
  have i2 : Bg t2 s8.ctr c.cells (G3 ++ G2') := ⟨b9.get, b9.lt, b9.out⟩
  have i2r : t2.read s8.ctr 0 4 = some c.cells := by rw [rd i2.get (by simp)]; rfl
  have rsq : (tQ q obs2).orc.rs.length ≤ 1000 := by show q.rs.length ≤ 1000; omega
  have hxD : (xD l).fits := ⟨by simp [xD], by simp only [xD]; omega, by simp only [xD]; omega, by simp [xD]; omega⟩
  -- its size
  have r2 := rights_size (l := l) hyw hchk'
  rw [← hc] at r2
  simp [pf8_2, i2r, Cp.cells]
  refine Ev.mono (serve_new H2 okq rsq hxD 102 c 0 [] (d := .snil) (by decide) fc (by decide) (by simp) (Bytes.nil _) trivial r2) ?_
  rintro u s9 ⟨t3, G5, G6, wb, rfl, fb, hw3, H3, bb3, hB3, hk3, hk3', _, _⟩
  have ba3 := hB3 _ _ ba2
  have i3 := hB3 _ _ i2
  have i3r : t3.read s8.ctr 0 4 = some c.cells := by rw [rd i3.get (by simp)]; rfl
  obtain ⟨Mb, hMb⟩ : ∃ M, M = (rq 102 c 0 []).reply_ (if mask &&& 1 ≠ 1 then (Rs.zero, some 2) else ({ Rs.zero with arg := l.length }, none)) := ⟨_, rfl⟩
  rw [← hMb] at hw3 bb3 ⊢
  -- an edit
  obtain ⟨r, T4, x4', r3, hr3⟩ := rights_edit (l := l) hyw hll hqe hqa hchk'
  rw [← hc] at r3
  simp [hw3, pf8_1, i3r, Cp.cells, cd]
  refine Ev.mono (serve_new H3 okq rsq hxD 103 c 0 l (d := d) (by decide) fc (by decide) (by omega) (hd2.ext (later H3).1) (dout _ (later H3).2) r3) ?_
  rintro u s10 ⟨t4, G7, G8, wc, rfl, fc', hw4, H4, bc4, hB4, hk4, hk4', _, _⟩
  have ba4 := hB4 _ _ ba3
  have bb4 := hB4 _ _ bb3
  obtain ⟨Mc, hMc⟩ : ∃ M, M = (rq 103 c 0 l).reply_ r := ⟨_, rfl⟩
  rw [← hMc] at hw4 bc4 ⊢
  have sta : ∀ (i : Nat) (M : Ms) (w : AV), Bg t4 i (M.cells w) (G7 ++ G8) → t4.read i 4 1 = some [.int .u16 (M.st : Int)] := fun i M w hb => by rw [rd hb.get (by simp)]; rfl
  have ea := sta _ _ _ ba4
  have eb := sta _ _ _ bb4
  have ec := sta _ _ _ bc4
  have eg : t4.read s9.ctr 9 1 = some [.int .u64 (Mb.arg : Int)] := by rw [rd bb4.get (by simp)]; rfl
  have wl4 := (hd2.ext (later H4).1).wlen
  have wlen : IntKind.u64.wrap (l.length : Int) = (l.length : Int) := by rw [wrap_u64] <;> omega
  have hb1 : binV .and (.int .u8 (mask : Int)) (.int .u8 1) = some (.int .u8 ((mask &&& 1 : Nat) : Int)) := band8 mask 1 hm (by decide)
  have hb5 : binV .and (.int .u8 (mask : Int)) (.int .u8 5) = some (.int .u8 ((mask &&& 5 : Nat) : Int)) := band8 mask 5 hm (by decide)
  have m1 : mask &&& 1 = 0 ∨ mask &&& 1 = 1 := by
    have : mask &&& 1 = mask % 2 := Nat.and_one_is_mod mask
    omega
  obtain ⟨p1, hp1⟩ : ∃ p, p = mask &&& 1 := ⟨_, rfl⟩
  obtain ⟨p5, hp5⟩ : ∃ p, p = mask &&& 5 := ⟨_, rfl⟩
  rw [← hp1] at hb1 m1 hMb
  rw [← hp5] at hb5 hr3
  rw [show Ma.st = 0 by rw [hMa]; rfl] at ea
  have ecst : Mc.st = if p5 = 5 then 0 else 2 := by
    rw [hMc]
    by_cases h5 : p5 = 5
    · rw [if_pos h5]; rw [if_neg (by simpa using h5)] at hr3; simp [Ms.reply_, hr3, Ms.answer]
    · rw [if_neg h5]; rw [if_pos h5] at hr3; simp [Ms.reply_, hr3, Ms.answer]
  rw [ecst] at ec
  rcases m1 with h1 | h1
  · have e1 : Mb.st = 2 := by rw [hMb, h1]; rfl
    rw [e1] at eb
    by_cases h5 : p5 = 5
    · rw [if_pos h5] at ec
      simp [hw4, pf8_0, ea, eb, ec, hb1, hb5, h1, h5, -binV_and]
    · have h5i : ¬ (p5 : Int) = 5 := by omega
      rw [if_neg h5] at ec
      simp [hw4, pf8_0, ea, eb, ec, hb1, hb5, h1, h5, h5i, -binV_and]
  · have e1 : Mb.st = 0 := by rw [hMb, h1]; rfl
    have e2 : Mb.arg = l.length := by rw [hMb, h1]; rfl
    rw [e1] at eb
    rw [e2] at eg
    by_cases h5 : p5 = 5
    · rw [if_pos h5] at ec
      simp [hw4, pf8_0, ea, eb, ec, eg, hb1, hb5, h1, h5, wl4, wlen, -binV_and]
    · have h5i : ¬ (p5 : Int) = 5 := by omega
      rw [if_neg h5] at ec
      simp [hw4, pf8_0, ea, eb, ec, eg, hb1, hb5, h1, h5, h5i, wl4, wlen, -binV_and]
end Go.Ab
