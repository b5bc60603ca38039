/- Two messages are held against one another (layer 4's law) over the abstract machine. -/
import Derived.Test.YtekkglhoeaipbaaDoorTab
import Derived.Test.YtekkglhoeaipbaaDoorAbExt
import Derived.Test.YtekkglhoeaipbaaDoorAbOwn
import Derived.Test.YtekkglhoeaipbaaDoorObj
import Derived.Test.YtekkglhoeaipbaaDoorLaws
namespace Go.Ab
attribute [local simp] S.read S.write lenV

set_option maxRecDepth 10000 in
theorem same_ok (a0 a1 a2 a3 a4 a5 a6 a7 a8 a9 b0 b1 b2 b3 b4 b5 b6 b7 b8 b9 : Int) (da db : AV) (la lb : List UInt8) (s : S) (ha : Bytes s da la) (hb : Bytes s db lb) :
    Ev tab 25 [.agg [.int .u64 a0, .int .u64 a1, .int .u32 a2, .int .u16 a3, .int .u16 a4, .int .u64 a5, .int .u32 a6, .int .u8 a7, .int .u64 a8, .int .u64 a9, da],
      .agg [.int .u64 b0, .int .u64 b1, .int .u32 b2, .int .u16 b3, .int .u16 b4, .int .u64 b5, .int .u32 b6, .int .u8 b7, .int .u64 b8, .int .u64 b9, db]] s fun v s' =>
    Ext s s' ∧ v = .bool (decide (a0 = b0 ∧ a1 = b1 ∧ a2 = b2 ∧ a3 = b3 ∧ a4 = b4 ∧ (a5 = b5 ∧ a6 = b6 ∧ a7 = b7 ∧ a8 = b8) ∧ a9 = b9 ∧ la = lb)) := by
  refine Ev.intro rfl rfl rfl ?_
  have ca := ha.cells1
  have cb := hb.cells1
  have fa := ha.flat
  have fb := hb.flat
  have hca := fun s' (h : Ext s s') (T : Tab) (r : Regs) (x : Opd) (hx : x.ev r = da) (Q : AV → S → Prop) => WpI_cvbs (ha.ext h) T r x hx Q
  have hcb := fun s' (h : Ext s s') (T : Tab) (r : Regs) (x : Opd) (hx : x.ev r = db) (Q : AV → S → Prop) => WpI_cvbs (hb.ext h) T r x hx Q
  by_cases h0 : a0 = b0
  case neg => simp [pf25, pf25_1, pf25_0, ca, cb, fa, fb, h0]
  by_cases h1 : a1 = b1
  case neg => simp [pf25, pf25_1, pf25_0, ca, cb, fa, fb, h0, h1]
  by_cases h2 : a2 = b2
  case neg => simp [pf25, pf25_1, pf25_0, ca, cb, fa, fb, h0, h1, h2]
  by_cases h3 : a3 = b3
  case neg => simp [pf25, pf25_1, pf25_0, ca, cb, fa, fb, h0, h1, h2, h3]
  by_cases h4 : a4 = b4
  case neg => simp [pf25, pf25_1, pf25_0, ca, cb, fa, fb, h0, h1, h2, h3, h4]
  by_cases h5 : a5 = b5 ∧ a6 = b6 ∧ a7 = b7 ∧ a8 = b8
  case neg => simp [pf25, pf25_1, pf25_0, ca, cb, fa, fb, h0, h1, h2, h3, h4, h5]
  by_cases h9 : a9 = b9
  case neg => simp [pf25, pf25_1, pf25_0, ca, cb, fa, fb, h0, h1, h2, h3, h4, h5, h9]
  simp (maxDischargeDepth := 30) [pf25, pf25_1, pf25_0, ca, cb, fa, fb, h0, h1, h2, h3, h4, h5, h9, hca, hcb]
end Go.Ab
/-! Replies (layer 4) over the abstract machine. -/
namespace Go.Ab
attribute [local simp] S.read S.write

/-- A message's parts. -/
structure Ms where
  to : Nat
  reply : Nat
  id : Nat
  op : Nat
  st : Nat
  p : Nat
  o : Nat
  r : Nat
  k : Nat
  arg : Nat
  data : List UInt8
  deriving DecidableEq

def Ms.cells (m : Ms) (d : AV) : List AV := [.int .u64 m.to, .int .u64 m.reply, .int .u32 m.id, .int .u16 m.op, .int .u16 m.st, .int .u64 m.p, .int .u32 m.o, .int .u8 m.r, .int .u64 m.k, .int .u64 m.arg, d]
def Ms.fit (m : Ms) : Prop := m.to < 18446744073709551616 ∧ m.reply < 18446744073709551616 ∧ m.id < 4294967296 ∧ m.op < 65536 ∧ m.st < 65536 ∧ m.p < 18446744073709551616 ∧ m.o < 4294967296 ∧ m.r < 256 ∧ m.k < 18446744073709551616 ∧ m.arg < 18446744073709551616 ∧ m.data.length ≤ 140737488355328

theorem Own.setLow {n : Nat} {s : S} {v : AV} {l : List UInt8} {i : Nat} {o : Option AO} (h : Own n s v l) (hi : i < n) : Own n (s.set i o) v l := by
  rcases h with ⟨rfl, rfl⟩ | ⟨b, rfl, hg, hb, hn⟩
  · exact Own.nil _ _
  · exact Own.made (by rw [S.get_set, if_neg (by omega)]; exact hg) hb hn

theorem sameMs_ok (a b : Ms) {da db : AV} (s : S) (ha : Bytes s da a.data) (hb : Bytes s db b.data) : Ev tab 25 [.agg (a.cells da), .agg (b.cells db)] s fun v s' => Ext s s' ∧ v = .bool (decide (a = b)) := by
  refine Ev.mono (same_ok a.to a.reply a.id a.op a.st a.p a.o a.r a.k a.arg b.to b.reply b.id b.op b.st b.p b.o b.r b.k b.arg da db a.data b.data s ha hb) ?_
  rintro v s' ⟨hx, rfl⟩
  refine ⟨hx, ?_⟩
  congr 1
  apply decide_eq_decide.2
  cases a; cases b
  simp only [Ms.mk.injEq, Int.natCast_inj, and_assoc]

/-- A reply. -/
def Ms.answer (m : Ms) (st p o r k arg : Nat) (data : List UInt8) : Ms := ⟨m.reply, m.to, m.id, m.op, st, p, o, r, k, arg, data⟩

theorem answer_ok (m : Ms) {d e : AV} (st p o r k arg : Nat) (data : List UInt8) (hst : st < 65536) (hl : data.length ≤ 140737488355328) (s : S) (hd : Bytes s d m.data) (he : Bytes s e data) :
    Ev tab 57 [.agg (m.cells d), .int .i64 st, .agg [.int .u64 p, .int .u32 o, .int .u8 r, .int .u64 k], .int .u64 arg, e] s fun v s' => Ext s s' ∧ ∃ w, v = .agg ((m.answer st p o r k arg data).cells w) ∧ Own s.ctr s' w data := by
  refine Ev.intro rfl rfl rfl ?_
  have hc := hd.cells1
  have fl := hd.flat
  have w1 : IntKind.u16.wrap (st : Int) = st := by simp [IntKind.wrap, IntKind.signed, IntKind.bits]; omega
  simp (maxDischargeDepth := 30) [Ms.cells, pf57, pf57_1, pf57_0, fl, hc, Nat.add_assoc, w1]
  refine cont_app_nil (n := s.ctr + 1 + 1 + 1) (he.ext (by simp (maxDischargeDepth := 30))) (by simp) hl ?_
  intro w s2 hw hk
  have hx := Keep.ext (a := ((s.new _).new _).new _) hk
  have hg := hx.get
  have hc2 := hw.bytes.cells1
  have fl2 := hw.flat
  have hx0 : Ext s s2 := Ext.trans (by simp (maxDischargeDepth := 30)) hx
  simp (maxDischargeDepth := 30) [hg, Nat.add_assoc, hc2, fl2, hx0, Ms.answer]
  exact (hw.setLow (by omega)).le (by omega)

theorem fault_ok (m : Ms) {d : AV} (e : AV) (st : Nat) (hst : st < 65536) (hnum : ∀ (s : S) (Q : AV → S → Prop), Q (.int .i64 st) s → Ev tab 20 [e] s Q) (s : S) (hd : Bytes s d m.data) :
    Ev tab 55 [.agg (m.cells d), e] s fun v s' => Ext s s' ∧ ∃ w, v = .agg ((m.answer st 0 0 0 0 0 []).cells w) ∧ Own s.ctr s' w [] := by
  refine Ev.intro rfl rfl rfl ?_
  have hc := hd.cells1
  have fl := hd.flat
  simp (maxDischargeDepth := 30) [Ms.cells, pf55, pf55_1, pf55_0, fl, hc, Nat.add_assoc]
  refine hnum _ _ ?_
  simp (maxDischargeDepth := 30) [fl, hc, Nat.add_assoc]
  have hx0 : Ext s ((s.new (.cells (m.cells d) 0 false)).new (.cells [.int .u64 0, .int .u64 0, .int .u32 0, .int .u16 0, .int .u16 0, .int .u64 0, .int .u32 0, .int .u8 0, .int .u64 0, .int .u64 0, .snil] 0 false)) := by simp (maxDischargeDepth := 30)
  refine Ev.mono (answer_ok m st 0 0 0 0 0 [] hst (by simp) _ (hd.ext hx0) (Bytes.nil _)) ?_
  rintro v s2 ⟨hx, w, rfl, hw⟩
  have hg := hx.get
  have hc2 := hw.bytes.cells1
  have fl2 := hw.flat
  have hxx := hx0.trans hx
  simp only [Ms.cells, ctr_new_s] at hg hw hxx
  simp (maxDischargeDepth := 30) [Ms.cells, Ms.answer, hg, hc2, fl2, hxx, Nat.add_assoc]
  exact (hw.setLow (by omega)).le (by omega)
end Go.Ab
/-! Servers (layer 24): what a server is, and what it answers, in plain Lean. -/
namespace Go.Ab

/-- What an operation answers. -/
structure Rs where
  cap : Cp
  arg : Nat
  data : List UInt8
def Rs.zero : Rs := ⟨Cp.zero, 0, []⟩

/-- A server's own part: which rights an operation needs; what it does; that something is gone. -/
structure Sv (σ : Type) where
  need : Nat → Nat × Bool
  act : Tbl → σ → Nat → Int → Ms → (Rs × Option Int) × Tbl × σ
  gone : σ → Int → σ

def Ms.cap (m : Ms) : Cp := ⟨m.p, m.o, m.r, m.k⟩
/-- Do a capability's parts fit? -/
def Cp.may (c : Cp) : Bool := decide (c.p < w48) && decide (c.o < 16777216) && decide (c.k < w48)

/-- An object's end, but for the object 0. -/
def Sv.destroy {σ : Type} (V : Sv σ) (T : Tbl) (x : σ) (c : Cp) : Option Int × Tbl × σ :=
  if c.o = 0 then
    match T.check c 8 with
    | ((_, some e), T1) => (some e, T1, x)
    | ((_, Option.none), T1) => (some 15, T1, x)
  else
    match T.destroy c with
    | ((_, _, some e), T1) => (some e, T1, x)
    | ((_, v, Option.none), T1) => (Option.none, T1, V.gone x v)

/-- What a request asks for. -/
def Sv.run {σ : Type} (V : Sv σ) (T : Tbl) (x : σ) (m : Ms) : (Rs × Option Int) × Tbl × σ :=
  if !m.cap.may then ((Rs.zero, some 1), T, x)
  else if m.op = 1 then
    let r := T.info m.cap
    (({ Rs.zero with arg := (r.1.1.toNat * 4294967296 + r.1.2.1.toNat) % 18446744073709551616 }, r.1.2.2), r.2, x)
  else if m.op = 2 then
    let r := T.touch m.cap
    ((Rs.zero, r.1), r.2, x)
  else if m.op = 3 then
    let r := T.restrict m.cap (m.arg % 256)
    (({ Rs.zero with cap := r.1.1 }, r.1.2), r.2, x)
  else if m.op = 4 then
    let r := T.revoke m.cap
    (({ Rs.zero with cap := r.1.1 }, r.1.2), r.2, x)
  else if m.op = 5 then
    let r := V.destroy T x m.cap
    ((Rs.zero, r.1), r.2)
  else if (V.need m.op).2 = false ∨ m.op < 100 then ((Rs.zero, some 3), T, x)
  else match T.check m.cap (V.need m.op).1 with
    | ((_, some e), T1) => ((Rs.zero, some e), T1, x)
    | ((k, Option.none), T1) => V.act T1 x m.op (match T1.get k with | some o => o.value | Option.none => 0) m

/-- The reply. -/
def Ms.reply_ (m : Ms) (r : Rs × Option Int) : Ms :=
  match r.2 with
  | some e => m.answer e.toNat 0 0 0 0 0 []
  | Option.none => m.answer 0 r.1.cap.p r.1.cap.o r.1.cap.r r.1.cap.k r.1.arg r.1.data
end Go.Ab
/-! Servers (layer 24) over the abstract machine, for each service: what a service is; a server in memory; an object's end. -/
namespace Go.Ab

/-- An error's number is one of the program's. -/
def errOk (e : Option Int) : Prop := ∀ n, e = some n → 1 ≤ n ∧ n ≤ 15
/-- A result's cells. -/
def Rs.cells (r : Rs) (d : AV) : List AV := r.cap.cells ++ [.int .u64 (r.arg : Int), d]

/-- A service in memory, and what its methods do. -/
structure Svc (σ : Type) where
  V : Sv σ
  ty : TypeId
  Sx : S → Nat → Nat → σ → List Nat → Prop
  fits : σ → Prop
  okm : Ms → Prop
  fN : FuncId
  fD : FuncId
  fG : FuncId
  mN : tab.meth ty "Need" = some fN
  mD : tab.meth ty "Do" = some fD
  mG : tab.meth ty "Gone" = some fG
  lt : ∀ {s : S} {xp tp : Nat} {x : σ} {F : List Nat}, Sx s xp tp x F → ∀ y ∈ F, y < s.ctr
  chg : ∀ {s s' : S} {xp tp : Nat} {x : σ} {F l : List Nat}, Sx s xp tp x F → Chg l s s' → Apart F l → Sx s' xp tp x F
  ndl : ∀ op, (V.need op).1 < 256
  nd : ∀ (xp op : Nat) (s : S), op < 65536 → Ev tab fN [.ptr xp 0, .int .u16 (op : Int)] s fun v s' => s' = s ∧ v = .tuple [.int .u8 ((V.need op).1 : Nat), .bool (V.need op).2]
  gn : ∀ {s : S} {xp tp : Nat} {x : σ} {F : List Nat} (v : Int), Sx s xp tp x F → fits x → Ev tab fG [.ptr xp 0, .int .i64 v] s fun _ s' => Chg F s s' ∧ ∃ F', Grow F F' s.ctr ∧ Sx s' xp tp (V.gone x v) F'
  dv : ∀ {s : S} {xp tp : Nat} {T : Tbl} {x : σ} {F1 F2 : List Nat} {m : Ms} {d : AV} (v : Int), Tb s tp T F1 → Sx s xp tp x F2 → Apart F1 F2 → T.Ok → T.orc.rs.length + 1 ≤ 5000000000000 → fits x → m.fit → okm m → (V.need m.op).2 = true → 100 ≤ m.op → Bytes s d m.data → d.out (F1 ++ F2) →
    Ev tab fD [.ptr xp 0, .int .u16 (m.op : Int), .int .i64 v, .agg (m.cells d)] s fun u s' => Chg (F1 ++ F2) s s' ∧ ∃ F1' F2' dv, Grow (F1 ++ F2) (F1' ++ F2') s.ctr ∧ Tb s' tp (V.act T x m.op v m).2.1 F1' ∧ Sx s' xp tp (V.act T x m.op v m).2.2 F2' ∧ Apart F1' F2' ∧
      Bytes s' dv (V.act T x m.op v m).1.1.data ∧ (dv = d ∨ dv.since s.ctr) ∧ u = .tuple [.agg ((V.act T x m.op v m).1.1.cells dv), errV (V.act T x m.op v m).1.2]
  facts : ∀ (T : Tbl) (x : σ) (v : Int) (m : Ms), m.fit → errOk (V.act T x m.op v m).1.2 ∧ (V.act T x m.op v m).1.1.data.length ≤ 140737488355328

theorem wpI_inv' {T : Tab} {x : Opd} {mn : String} {args : List Opd} {r : Regs} {s : S} {Q : AV → S → Prop} {ty : TypeId} {v : AV} {f : FuncId} {a : List AV} (hx : x.ev r = .iface ty v) (hm : T.meth ty mn = some f) (ha : v :: args.map (·.ev r) = a) (h : Ev T f a s Q) : WpI T (.inv x mn args) r s Q := by
  subst ha
  simp only [WpI, hx, hm]
  exact h

theorem Svc.ext {σ : Type} (B : Svc σ) {s s' : S} {xp tp : Nat} {x : σ} {F : List Nat} (h : B.Sx s xp tp x F) (hx : Ext s s') : B.Sx s' xp tp x F := B.chg h (hx.chg []) (fun _ _ => by simp)

/-- Cells of a block of its own. -/
structure Bg (s : S) (i : Nat) (cs : List AV) (F : List Nat) : Prop where
  get : s.get i = some (.cells cs 0 false)
  lt : i < s.ctr
  out : i ∉ F
theorem Chg.l1 {l m : List Nat} {s s' : S} (h : Chg l s s') : Chg (l ++ m) s s' := h.sub (fun x hx => by simp [hx])
theorem Chg.l2 {l m : List Nat} {s s' : S} (h : Chg m s s') : Chg (l ++ m) s s' := h.sub (fun x hx => by simp [hx])
theorem Grow.l1 {f f' m : List Nat} {c : Nat} (h : Grow f f' c) : Grow (f ++ m) (f' ++ m) c := fun x hx => by
  rcases List.mem_append.1 hx with h1 | h1
  · rcases h x h1 with h2 | h2
    · exact .inl (by simp [h2])
    · exact .inr h2
  · exact .inl (by simp [h1])
theorem Grow.l2 {f f' m : List Nat} {c : Nat} (h : Grow f f' c) : Grow (m ++ f) (m ++ f') c := fun x hx => by
  rcases List.mem_append.1 hx with h1 | h1
  · exact .inl (by simp [h1])
  · rcases h x h1 with h2 | h2
    · exact .inl (by simp [h2])
    · exact .inr h2
section
variable {s s' : S} {i : Nat} {cs : List AV} {F F' G : List Nat}
theorem Bg.step (h : Bg s i cs F) (hc : Chg F s s') (hg : Grow F F' s.ctr) : Bg s' i cs F' :=
  ⟨by rw [hc.get i h.lt h.out, h.get], by have := hc.ctr; have := h.lt; omega, hg.mem h.lt h.out⟩
theorem Bg.ext (h : Bg s i cs F) (hx : Ext s s') : Bg s' i cs F := ⟨by rw [hx.get i h.lt, h.get], by have := hx.ctr; have := h.lt; omega, h.out⟩
theorem Bg.set (h : Bg s i cs F) {j : Nat} {o : Option AO} (hj : ¬ i = j) : Bg (s.set j o) i cs F := ⟨by rw [S.get_set, if_neg hj, h.get], by simpa using h.lt, h.out⟩
theorem Bg.put (h : Bg s i cs F) (c : List AV) : Bg (s.set i (some (.cells c 0 false))) i c F := ⟨by simp, by simpa using h.lt, h.out⟩
end

/-- A server in memory. -/
structure Sy {σ : Type} (B : Svc σ) (s : S) (sp tp xp : Nat) (T : Tbl) (x : σ) (F1 F2 : List Nat) : Prop where
  sv : s.get sp = some (.cells [.ptr tp 0, .iface B.ty (.ptr xp 0)] 0 false)
  lt : sp < s.ctr
  tb : Tb s tp T F1
  sx : B.Sx s xp tp x F2
  ap : Apart F1 F2
  out : sp ∉ F1 ++ F2

/-- A server since a state. -/
structure SyC {σ : Type} (B : Svc σ) (s0 s : S) (L : List Nat) (sp tp xp : Nat) (T : Tbl) (x : σ) (F1 F2 : List Nat) : Prop where
  chg : Chg L s0 s
  grow : Grow L (F1 ++ F2) s0.ctr
  sy : Sy B s sp tp xp T x F1 F2

section
variable {σ : Type} {B : Svc σ} {s0 s s' : S} {L : List Nat} {sp tp xp : Nat} {T T' : Tbl} {x x' : σ} {F1 F2 F' : List Nat}
theorem Sy.start (h : Sy B s sp tp xp T x F1 F2) : SyC B s s (F1 ++ F2) sp tp xp T x F1 F2 := ⟨Chg.refl _ _, Grow.refl _ _, h⟩
theorem Sy.flt (h : Sy B s sp tp xp T x F1 F2) : ∀ y ∈ F1 ++ F2, y < s.ctr := fun y hy => by
  rcases List.mem_append.1 hy with h1 | h1
  · exact h.tb.lt y h1
  · exact (B.lt h.sx) y h1
theorem Sy.ext (h : Sy B s sp tp xp T x F1 F2) (hx : Ext s s') : Sy B s' sp tp xp T x F1 F2 :=
  ⟨by rw [hx.get sp h.lt, h.sv], by have := hx.ctr; have := h.lt; omega, h.tb.ext hx, B.ext h.sx hx, h.ap, h.out⟩
theorem Sy.set (h : Sy B s sp tp xp T x F1 F2) {i : Nat} {o : Option AO} (hi : i ∉ F1 ++ F2) (hs : ¬ sp = i) : Sy B (s.set i o) sp tp xp T x F1 F2 :=
  ⟨by rw [S.get_set, if_neg hs, h.sv], by simpa using h.lt, h.tb.setOut (fun hx => hi (by simp [hx])), B.chg h.sx (l := [i]) (by simp) (fun y hy => by simp; rintro rfl; exact hi (by simp [hy])), h.ap, h.out⟩
theorem SyC.ext (h : SyC B s0 s L sp tp xp T x F1 F2) (hx : Ext s s') : SyC B s0 s' L sp tp xp T x F1 F2 := ⟨h.chg.trans (hx.chg _), h.grow, h.sy.ext hx⟩
theorem SyC.set (h : SyC B s0 s L sp tp xp T x F1 F2) {i : Nat} {o : Option AO} (hi : i ∉ F1 ++ F2) (hs : ¬ sp = i) (h0 : s0.ctr ≤ i) : SyC B s0 (s.set i o) L sp tp xp T x F1 F2 := ⟨Chg.set (.inl h0) h.chg, h.grow, h.sy.set hi hs⟩
/-- The table is changed. -/
theorem SyC.t (h : SyC B s0 s L sp tp xp T x F1 F2) (hc : Chg F1 s s') (hg : Grow F1 F' s.ctr) (hT : Tb s' tp T' F') : SyC B s0 s' L sp tp xp T' x F' F2 := by
  have hctr := h.chg.ctr
  refine ⟨h.chg.comp hc (fun y hy => h.grow y (by simp [hy])), h.grow.trans hg.l1 hctr, ⟨by rw [hc.get sp h.sy.lt (fun hx => h.sy.out (by simp [hx])), h.sy.sv], by have := hc.ctr; have := h.sy.lt; omega, hT, B.chg h.sy.sx hc h.sy.ap.symm, h.sy.ap.grow hg (B.lt h.sy.sx), hg.l1.mem h.sy.lt h.sy.out⟩⟩
/-- The service is changed. -/
theorem SyC.v (h : SyC B s0 s L sp tp xp T x F1 F2) (hc : Chg F2 s s') (hg : Grow F2 F' s.ctr) (hX : B.Sx s' xp tp x' F') : SyC B s0 s' L sp tp xp T x' F1 F' := by
  have hctr := h.chg.ctr
  refine ⟨h.chg.comp hc (fun y hy => h.grow y (by simp [hy])), h.grow.trans hg.l2 hctr, ⟨by rw [hc.get sp h.sy.lt (fun hx => h.sy.out (by simp [hx])), h.sy.sv], by have := hc.ctr; have := h.sy.lt; omega, h.sy.tb.chg hc h.sy.ap, hX, (h.sy.ap.symm.grow hg h.sy.tb.lt).symm, hg.l2.mem h.sy.lt h.sy.out⟩⟩

/-- Both are changed. -/
theorem SyC.both {F1' F2' : List Nat} (h : SyC B s0 s L sp tp xp T x F1 F2) (hc : Chg (F1 ++ F2) s s') (hg : Grow (F1 ++ F2) (F1' ++ F2') s.ctr) (hT : Tb s' tp T' F1') (hX : B.Sx s' xp tp x' F2') (ha : Apart F1' F2') : SyC B s0 s' L sp tp xp T' x' F1' F2' := by
  have hctr := h.chg.ctr
  exact ⟨h.chg.comp hc h.grow, h.grow.trans hg hctr, ⟨by rw [hc.get sp h.sy.lt h.sy.out, h.sy.sv], by have := hc.ctr; have := h.sy.lt; omega, hT, hX, ha, hg.mem h.sy.lt h.sy.out⟩⟩

theorem may_ok (c : Cp) (hc : c.Fit) (s : S) : Ev tab 71 [capA c] s fun v s' => Ext s s' ∧ v = .bool c.may := by
  refine Ev.intro rfl rfl rfl ?_
  obtain ⟨s0, hs0⟩ : ∃ s0, s0 = s.new (.cells c.cells 0 false) := ⟨_, rfl⟩
  have x0 : Ext s s0 := by rw [hs0]; simp
  have b0 : Bx s0 s.ctr c [] := ⟨by rw [hs0]; simp, by rw [hs0]; simp, by simp⟩
  simp [pf71, pf71_1, Cp.cells_flat, ← hs0, pf71_0, b0.rd0]
  unfold Cp.may
  by_cases hp : c.p < w48
  · have hp1 : (c.p : Int) ≤ 281474976710655 := by unfold w48 at hp; omega
    by_cases ho : c.o < 16777216
    · have ho1 : (c.o : Int) < 16777216 := by omega
      by_cases hk : c.k < w48
      · have hk1 : (c.k : Int) ≤ 281474976710655 := by unfold w48 at hk; omega
        simp [hp1, hp, b0.rd1, ho1, ho, b0.rd3, hk1, hk, x0]
      · have hk1 : ¬ (c.k : Int) ≤ 281474976710655 := by unfold w48 at hk; omega
        simp [hp1, hp, b0.rd1, ho1, ho, b0.rd3, hk1, hk, x0]
    · have ho1 : ¬ (c.o : Int) < 16777216 := by omega
      simp [hp1, hp, b0.rd1, ho1, ho, x0]
  · have hp1 : ¬ (c.p : Int) ≤ 281474976710655 := by unfold w48 at hp; omega
    simp [hp1, hp, x0]

/-- An object's end, but for the object 0. -/
theorem svDestroy_ok (h : Sy B s sp tp xp T x F1 F2) (hq : T.orc.rs.length ≤ 5000000000000) (hf : B.fits x) {c : Cp} (hc : c.Fit) : Ev tab 84 [.ptr sp 0, capA c] s fun u s' => ∃ F1' F2', SyC B s s' (F1 ++ F2) sp tp xp (B.V.destroy T x c).2.1 (B.V.destroy T x c).2.2 F1' F2' ∧ u = errV (B.V.destroy T x c).1 := by
  refine Ev.intro rfl rfl rfl ?_
  obtain ⟨s0, hs0⟩ : ∃ s0, s0 = s.new (.cells c.cells 0 false) := ⟨_, rfl⟩
  have x0 : Ext s s0 := by rw [hs0]; simp
  have b0 : Bx s0 s.ctr c (F1 ++ F2) := ⟨by rw [hs0]; simp, by rw [hs0]; simp, fun hx => by have := h.flt _ hx; omega⟩
  have H := h.start.ext x0
  simp [pf84, pf84_12, Cp.cells_flat, ← hs0, pf84_11, pf84_10, b0.rd1]
  unfold Sv.destroy
  by_cases h0 : c.o = 0
  · simp only [if_pos h0]
    simp [h0, pf84_9, pf84_8, rd H.sy.sv, b0.rd4]
    refine Ev.mono (check_ok H.sy.tb hq hc 8 (by omega)) ?_
    rintro v s1 ⟨hc1, F', hg1, hT1, rfl⟩
    cases hchk : T.check c 8 with
    | mk a T1 =>
      obtain ⟨k, e⟩ := a
      rw [hchk] at hT1
      have H1 := H.t hc1 hg1 hT1
      cases e with
      | some e => simp [idxE, errV, pf84_7, pf84_6]; exact ⟨_, _, H1⟩
      | none => simp [idxE, errV, pf84_7, pf84_5]; exact ⟨_, _, H1⟩
  · have h0i : ¬ (c.o : Int) = 0 := by omega
    simp only [if_neg h0]
    simp [h0, h0i, pf84_4, rd H.sy.sv, b0.rd4]
    refine Ev.mono (destroy_ok H.sy.tb hq hc) ?_
    rintro v s1 ⟨hc1, F', hg1, hT1, rfl⟩
    cases hd : T.destroy c with
    | mk a T1 =>
      obtain ⟨k, v, e⟩ := a
      rw [hd] at hT1
      have H1 := H.t hc1 hg1 hT1
      cases e with
      | some e => simp [errV, pf84_3, pf84_2, pf84_0]; exact ⟨_, _, H1⟩
      | none =>
        simp [errV, pf84_3, pf84_2, pf84_1, rd H1.sy.sv]
        refine wpI_inv' rfl B.mG rfl (Ev.mono (B.gn v H1.sy.sx hf) ?_)
        rintro u s2 ⟨hc2, F'', hg2, hX2⟩
        have H2 := H1.v hc2 hg2 hX2
        simp [pf84_0]
        exact ⟨_, _, H2⟩
end
end Go.Ab
/-! Servers (layer 24) over the abstract machine, for each service: what a request asks for. -/
namespace Go.Ab

section
variable {s : S} {i : Nat} {m : Ms} {d : AV} {F : List Nat}
theorem Bg.op (h : Bg s i (m.cells d) F) : s.read i 3 1 = some [.int .u16 (m.op : Int)] := by rw [rd h.get (by simp [Ms.cells])]; rfl
theorem Bg.cap (h : Bg s i (m.cells d) F) : s.read i 5 4 = some m.cap.cells := by rw [rd h.get (by simp [Ms.cells])]; rfl
theorem Bg.arg (h : Bg s i (m.cells d) F) : s.read i 9 1 = some [.int .u64 (m.arg : Int)] := by rw [rd h.get (by simp [Ms.cells])]; rfl
theorem Bg.all (h : Bg s i (m.cells d) F) : s.read i 0 11 = some (m.cells d) := by rw [rd h.get (by simp [Ms.cells])]; rfl
end
theorem Ms.cap_fit {m : Ms} (h : m.fit) : m.cap.Fit := ⟨h.2.2.2.2.2.1, h.2.2.2.2.2.2.1, h.2.2.2.2.2.2.2.1, h.2.2.2.2.2.2.2.2.1⟩
theorem Ms.cells_flat {m : Ms} {d : AV} (h : isFlat d = true) : (m.cells d).all isFlat = true := by simp [Ms.cells, h]
@[simp] theorem Ms.cells_length (m : Ms) (d : AV) : (m.cells d).length = 11 := rfl
@[simp] theorem Rs.cells_length (r : Rs) (d : AV) : (r.cells d).length = 6 := rfl
theorem Rs.cells_flat {r : Rs} {d : AV} (h : isFlat d = true) : (r.cells d).all isFlat = true := by simp [Rs.cells, Cp.cells, h]

theorem bor32 (a b : Nat) (hb : b < 4294967296) : binV .or (.int .u64 ((a * 4294967296 % 18446744073709551616 : Nat) : Int)) (.int .u64 (b : Int)) = some (.int .u64 (((a * 4294967296 + b) % 18446744073709551616 : Nat) : Int)) := by
  rw [binV_or]
  have e1 : (BitVec.ofInt IntKind.u64.bits ((a * 4294967296 % 18446744073709551616 : Nat) : Int)).toNat = (a % 4294967296) * 4294967296 := by
    simp only [IntKind.bits, BitVec.toNat_ofInt]; omega
  have e2 : (BitVec.ofInt IntKind.u64.bits (b : Int)).toNat = b := by
    simp only [IntKind.bits, BitVec.toNat_ofInt]; omega
  rw [BitVec.toNat_or, e1, e2]
  have h := Nat.shiftLeft_add_eq_or_of_lt (b := b) (i := 32) (by omega) (a % 4294967296)
  rw [Nat.shiftLeft_eq, show (2 : Nat) ^ 32 = 4294967296 from rfl] at h
  rw [← h]
  have e3 : (a * 4294967296 + b) % 18446744073709551616 = a % 4294967296 * 4294967296 + b := by omega
  rw [e3, wrap_u64 (by omega) (by omega)]

theorem Tbl.info_nat {T : Tbl} (ok : T.Ok) (c : Cp) : ∃ a b : Nat, (T.info c).1.1 = (a : Int) ∧ (T.info c).1.2.1 = (b : Int) ∧ b ≤ 24 ∧ a ≤ T.orc.at_ + 1 := by
  have hs := Tbl.check_step T c 0
  unfold Tbl.info
  cases hchk : T.check c 0 with
  | mk a T1 =>
    obtain ⟨k, e⟩ := a
    rw [hchk] at hs
    replace hs : Tbl.Step 1 T T1 := hs
    cases e with
    | some e => exact ⟨0, 0, rfl, rfl, by omega, by omega⟩
    | none =>
      obtain ⟨x, hgx, hax, hth, rfl, hall, hport⟩ := Tbl.check_facts hchk
      simp only [hgx]
      have hx := (hs.ok ok).all x (List.mem_of_getElem? hax)
      have h1 := hx.lives
      obtain ⟨b, hb⟩ := Int.eq_ofNat_of_zero_le h1.1
      have h2 := hx.epoch
      have h3 := hs.le
      exact ⟨x.epoch, b, rfl, hb, by omega, by omega⟩

theorem over6 (z : List AV) (r : Rs) (d : AV) (hz : z.length = 6) : over z 0 (r.cells d) = r.cells d := by
  unfold over
  simp [hz]
theorem AV.out_grow {d : AV} {L L' : List Nat} {n : Nat} (h : d.out L) (hb : d.inS n) (hg : Grow L L' n) : d.out L' := by
  cases d <;> first | trivial | exact hg.mem hb h

/-- What a request leaves. -/
def SvPost (s : S) (L : List Nat) (sp tp xp : Nat) {σ : Type} (B : Svc σ) (r : (Rs × Option Int) × Tbl × σ) : AV → S → Prop := fun u s' => ∃ F1' F2' dv, SyC B s s' L sp tp xp r.2.1 r.2.2 F1' F2' ∧ Bytes s' dv r.1.1.data ∧ u = .tuple [.agg (r.1.1.cells dv), errV r.1.2]

set_option maxRecDepth 10000 in
set_option maxHeartbeats 1000000 in
theorem svDo_ok {σ : Type} {B : Svc σ} {s : S} {sp tp xp : Nat} {T : Tbl} {x : σ} {F1 F2 : List Nat} (h : Sy B s sp tp xp T x F1 F2) (ok : T.Ok) (hq : T.orc.rs.length + 2 ≤ 5000000000000) (hf : B.fits x) {m : Ms} (hm : m.fit) (hmo : B.okm m) {d : AV} (hd : Bytes s d m.data) (ho : d.out (F1 ++ F2)) :
    Ev tab 56 [.ptr sp 0, .agg (m.cells d)] s (SvPost s (F1 ++ F2) sp tp xp B (B.V.run T x m)) := by
  refine Ev.intro rfl rfl rfl ?_
  have fl := hd.flat
  have hcl0 := hd.cells1
  have hcf := Ms.cap_fit hm
  obtain ⟨s0, hs0⟩ : ∃ s0, s0 = (s.new (.cells (m.cells d) 0 false)).new (.cells [.int .u64 0, .int .u32 0, .int .u8 0, .int .u64 0, .int .u64 0, .snil] 0 false) := ⟨_, rfl⟩
  have x0 : Ext s s0 := by rw [hs0]; simp (maxDischargeDepth := 30)
  have hflt := h.flt
  have b0 : Bg s0 s.ctr (m.cells d) (F1 ++ F2) := ⟨by rw [hs0]; simp, by rw [hs0]; simp; omega, fun hx => by have := hflt _ hx; omega⟩
  have r0 : Bg s0 (s.ctr + 1) [.int .u64 0, .int .u32 0, .int .u8 0, .int .u64 0, .int .u64 0, .snil] (F1 ++ F2) := ⟨by rw [hs0]; simp, by rw [hs0]; simp, fun hx => by have := hflt _ hx; omega⟩
  have c0 : s0.ctr = s.ctr + 2 := by rw [hs0]; rfl
  have H := h.start.ext x0
  have hsp := h.lt
  have hn1 : ¬ sp = s.ctr + 1 := by omega
  -- the end: the result is laid
  have fin : ∀ {st : S} {T' : Tbl} {x' : σ} {G1 G2 : List Nat}, SyC B s st (F1 ++ F2) sp tp xp T' x' G1 G2 → Bg st (s.ctr + 1) [.int .u64 0, .int .u32 0, .int .u8 0, .int .u64 0, .int .u64 0, .snil] (G1 ++ G2) → ∀ c, SyC B s (st.set (s.ctr + 1) c) (F1 ++ F2) sp tp xp T' x' G1 G2 :=
    fun hS hB c => hS.set hB.out hn1 (by omega)
  simp [pf56, pf56_32, fl, Ms.cells_flat, ← hs0, pf56_31, pf56_29, b0.cap]
  refine Ev.mono (may_ok m.cap hcf s0) ?_
  rintro v s1 ⟨hx1, rfl⟩
  replace H := H.ext hx1
  replace b0 := b0.ext hx1
  replace r0 := r0.ext hx1
  cases hmay : m.cap.may with
  | false =>
    have hrun : B.V.run T x m = ((Rs.zero, some 1), T, x) := by simp [Sv.run, hmay]
    rw [hrun]
    simp [pf56_28, wrc r0.get]
    exact ⟨_, _, .snil, fin H r0 _, Bytes.nil _, by simp [Rs.cells, Rs.zero, Cp.zero, Cp.cells, errV]⟩
  | true =>
    simp [pf56_30, pf56_27, b0.op]
    by_cases o1 : m.op = 1
    · have o1i : (m.op : Int) = 1 := by omega
      have hrun : B.V.run T x m = (({ Rs.zero with arg := ((T.info m.cap).1.1.toNat * 4294967296 + (T.info m.cap).1.2.1.toNat) % 18446744073709551616 }, (T.info m.cap).1.2.2), (T.info m.cap).2, x) := by simp [Sv.run, hmay, o1]
      rw [hrun]
      have hsm := H.sy.tb.small
      obtain ⟨a, b, ha, hb, hb24, haa⟩ := Tbl.info_nat ok m.cap
      simp [pf56_26, pf56_25, o1i, pf56_24, rd H.sy.sv, b0.cap]
      refine Ev.mono (info_ok H.sy.tb (by omega) hcf) ?_
      rintro v s2 ⟨hc2, F', hg2, hT2, rfl⟩
      replace r0 := r0.step hc2.l1 hg2.l1
      replace H := H.t hc2 hg2 hT2
      rw [ha, hb]
      have w1 : IntKind.u64.wrap (a : Int) = a := wrap_u64 (by omega) (by omega)
      have w2 : IntKind.u64.wrap ((a : Int) * 4294967296) = ((a * 4294967296 % 18446744073709551616 : Nat) : Int) := by simp [IntKind.wrap, IntKind.signed, IntKind.bits]
      have w3 : IntKind.u64.wrap (b : Int) = b := wrap_u64 (by omega) (by omega)
      have hbo := bor32 a b (by omega)
      obtain ⟨z, hz⟩ : ∃ z, z = a * 4294967296 % 18446744073709551616 := ⟨_, rfl⟩
      obtain ⟨y, hy⟩ : ∃ y, y = (a * 4294967296 + b) % 18446744073709551616 := ⟨_, rfl⟩
      rw [← hz] at w2 hbo
      rw [← hy] at hbo
      simp [pf56_23, w1, IntKind.bits, w2, w3, hbo, wrc r0.get, -binV_or]
      exact ⟨_, _, .snil, fin H r0 _, Bytes.nil _, by simp [Rs.cells, Rs.zero, Cp.zero, Cp.cells, hy]⟩
    have o1i : ¬ (m.op : Int) = 1 := by omega
    by_cases o2 : m.op = 2
    · have o2i : (m.op : Int) = 2 := by omega
      have hrun : B.V.run T x m = ((Rs.zero, (T.touch m.cap).1), (T.touch m.cap).2, x) := by simp [Sv.run, hmay, o2]
      rw [hrun]
      simp [pf56_26, pf56_25, o1i, pf56_22, pf56_21, o2i, pf56_20, rd H.sy.sv, b0.cap]
      refine Ev.mono (touch_ok H.sy.tb (by omega) hcf) ?_
      rintro v s2 ⟨hc2, F', hg2, hT2, rfl⟩
      replace r0 := r0.step hc2.l1 hg2.l1
      replace H := H.t hc2 hg2 hT2
      simp [wrc r0.get]
      exact ⟨_, _, .snil, fin H r0 _, Bytes.nil _, by simp [Rs.cells, Rs.zero, Cp.zero, Cp.cells]⟩
    have o2i : ¬ (m.op : Int) = 2 := by omega
    by_cases o3 : m.op = 3
    · have o3i : (m.op : Int) = 3 := by omega
      have hrun : B.V.run T x m = (({ Rs.zero with cap := (T.restrict m.cap (m.arg % 256)).1.1 }, (T.restrict m.cap (m.arg % 256)).1.2), (T.restrict m.cap (m.arg % 256)).2, x) := by simp [Sv.run, hmay, o3]
      rw [hrun]
      have w8 : IntKind.u8.wrap (m.arg : Int) = ((m.arg % 256 : Nat) : Int) := by simp [IntKind.wrap, IntKind.signed, IntKind.bits]
      obtain ⟨z, hz⟩ : ∃ z, z = m.arg % 256 := ⟨_, rfl⟩
      have hz2 : z < 256 := by omega
      rw [← hz] at w8 ⊢
      obtain ⟨sa, hsa⟩ : ∃ t, t = s1.new (.cells [.int .u64 0, .int .u32 0, .int .u8 0, .int .u64 0] 0 false) := ⟨_, rfl⟩
      have xa : Ext s1 sa := by rw [hsa]; simp
      have hns : ¬ s.ctr = s1.ctr := by have := b0.lt; omega
      have hns2 : s.ctr + 1 < s1.ctr := r0.lt
      have ba : Bg sa s1.ctr [.int .u64 0, .int .u32 0, .int .u8 0, .int .u64 0] (F1 ++ F2) := ⟨by rw [hsa]; simp, by rw [hsa]; simp, fun hx => by have := H.sy.flt _ hx; omega⟩
      have Ha := H.ext xa
      have ra := r0.ext xa
      simp [pf56_26, pf56_25, o1i, pf56_22, pf56_21, o2i, pf56_19, o3i, pf56_18, pf56_17, rd H.sy.sv, b0.cap, b0.arg, w8, ← hsa]
      refine Ev.mono (tblRestrict_ok Ha.sy.tb (by omega) hcf z hz2) ?_
      rintro v s2 ⟨hc2, F', hg2, hT2, rfl⟩
      replace ra := ra.step hc2.l1 hg2.l1
      replace ba := ba.step hc2.l1 hg2.l1
      replace Ha := Ha.t hc2 hg2 hT2
      obtain ⟨c', hc'⟩ : ∃ c', c' = (T.restrict m.cap z).1.1 := ⟨_, rfl⟩
      rw [← hc']
      have wb := wrc (o := 0) (v := c'.cells) ba.get (by simp) (Cp.cells_flat _)
      rw [over4 _ _ rfl] at wb
      have hs1 : s.ctr ≤ s1.ctr := by omega
      have Hb := Ha.set (i := s1.ctr) (o := some (.cells c'.cells 0 false)) ba.out (by omega) hs1
      have rb := ra.set (j := s1.ctr) (o := some (.cells c'.cells 0 false)) (by omega)
      obtain ⟨s3, hs3⟩ : ∃ t, t = s2.set s1.ctr (some (.cells c'.cells 0 false)) := ⟨_, rfl⟩
      have r9 : s3.read s1.ctr 0 4 = some c'.cells := by
        rw [hs3, read_set_self, if_pos (by simp)]; rfl
      rw [← hs3] at Hb rb wb
      simp [capE, wb, pf56_16, r9]
      simp [wrc rb.get, Cp.cells]
      exact ⟨_, _, .snil, fin Hb rb _, Bytes.nil _, by simp [Rs.cells, Rs.zero, Cp.cells]⟩
    have o3i : ¬ (m.op : Int) = 3 := by omega
    by_cases o4 : m.op = 4
    · have o4i : (m.op : Int) = 4 := by omega
      have hrun : B.V.run T x m = (({ Rs.zero with cap := (T.revoke m.cap).1.1 }, (T.revoke m.cap).1.2), (T.revoke m.cap).2, x) := by simp [Sv.run, hmay, o4]
      rw [hrun]
      obtain ⟨sa, hsa⟩ : ∃ t, t = s1.new (.cells [.int .u64 0, .int .u32 0, .int .u8 0, .int .u64 0] 0 false) := ⟨_, rfl⟩
      have xa : Ext s1 sa := by rw [hsa]; simp
      have hns2 : s.ctr + 1 < s1.ctr := r0.lt
      have ba : Bg sa s1.ctr [.int .u64 0, .int .u32 0, .int .u8 0, .int .u64 0] (F1 ++ F2) := ⟨by rw [hsa]; simp, by rw [hsa]; simp, fun hx => by have := H.sy.flt _ hx; omega⟩
      have Ha := H.ext xa
      have ra := r0.ext xa
      simp [pf56_26, pf56_25, o1i, pf56_22, pf56_21, o2i, pf56_19, o3i, pf56_18, pf56_15, o4i, pf56_14, pf56_13, rd H.sy.sv, b0.cap, ← hsa]
      refine Ev.mono (revoke_ok Ha.sy.tb ok (by omega) hcf) ?_
      rintro v s2 ⟨hc2, F', hg2, hT2, rfl⟩
      replace ra := ra.step hc2.l1 hg2.l1
      replace ba := ba.step hc2.l1 hg2.l1
      replace Ha := Ha.t hc2 hg2 hT2
      obtain ⟨c', hc'⟩ : ∃ c', c' = (T.revoke m.cap).1.1 := ⟨_, rfl⟩
      rw [← hc']
      have wb := wrc (o := 0) (v := c'.cells) ba.get (by simp) (Cp.cells_flat _)
      rw [over4 _ _ rfl] at wb
      have hs1 : s.ctr ≤ s1.ctr := by omega
      have Hb := Ha.set (i := s1.ctr) (o := some (.cells c'.cells 0 false)) ba.out (by omega) hs1
      have rb := ra.set (j := s1.ctr) (o := some (.cells c'.cells 0 false)) (by omega)
      obtain ⟨s3, hs3⟩ : ∃ t, t = s2.set s1.ctr (some (.cells c'.cells 0 false)) := ⟨_, rfl⟩
      have r9 : s3.read s1.ctr 0 4 = some c'.cells := by
        rw [hs3, read_set_self, if_pos (by simp)]; rfl
      rw [← hs3] at Hb rb wb
      simp [capE, wb, pf56_12, r9]
      simp [wrc rb.get, Cp.cells]
      exact ⟨_, _, .snil, fin Hb rb _, Bytes.nil _, by simp [Rs.cells, Rs.zero, Cp.cells]⟩
    have o4i : ¬ (m.op : Int) = 4 := by omega
    by_cases o5 : m.op = 5
    · have o5i : (m.op : Int) = 5 := by omega
      have hrun : B.V.run T x m = ((Rs.zero, (B.V.destroy T x m.cap).1), (B.V.destroy T x m.cap).2) := by simp [Sv.run, hmay, o5]
      rw [hrun]
      simp [pf56_26, pf56_25, o1i, pf56_22, pf56_21, o2i, pf56_19, o3i, pf56_18, pf56_15, o4i, pf56_14, pf56_11, o5i, pf56_10, b0.cap]
      refine Ev.mono (svDestroy_ok H.sy (by omega) hf hcf) ?_
      rintro v s2 ⟨G1, G2, HS, rfl⟩
      replace r0 := r0.step HS.chg HS.grow
      have H2 : SyC B s s2 (F1 ++ F2) sp tp xp (B.V.destroy T x m.cap).2.1 (B.V.destroy T x m.cap).2.2 G1 G2 := ⟨H.chg.trans HS.chg, HS.grow.le H.chg.ctr, HS.sy⟩
      simp [wrc r0.get]
      exact ⟨_, _, .snil, fin H2 r0 _, Bytes.nil _, by simp [Rs.cells, Rs.zero, Cp.zero, Cp.cells]⟩
    have o5i : ¬ (m.op : Int) = 5 := by omega
    simp [pf56_26, pf56_25, o1i, pf56_22, pf56_21, o2i, pf56_19, o3i, pf56_18, pf56_15, o4i, pf56_14, pf56_11, o5i, pf56_9, rd H.sy.sv, b0.op]
    refine wpI_inv' rfl B.mN rfl (Ev.mono (B.nd xp m.op s1 hm.2.2.2.1) ?_)
    rintro v s2 ⟨rfl, rfl⟩
    have hndl := B.ndl m.op
    obtain ⟨nd, is, hnd⟩ : ∃ nd is, B.V.need m.op = (nd, is) := ⟨_, _, rfl⟩
    rw [hnd] at hndl ⊢
    replace hndl : nd < 256 := hndl
    by_cases hno : is = false ∨ m.op < 100
    · have hrun : B.V.run T x m = ((Rs.zero, some 3), T, x) := by simp [Sv.run, hmay, o1, o2, o3, o4, o5, hnd, hno]
      rw [hrun]
      cases is with
      | false =>
        simp [pf56_8, pf56_7, pf56_6, wrc r0.get]
        exact ⟨_, _, .snil, fin H r0 _, Bytes.nil _, by simp [Rs.cells, Rs.zero, Cp.zero, Cp.cells, errV]⟩
      | true =>
        have h100 : m.op < 100 := by simpa using hno
        have h100i : (m.op : Int) < 100 := by omega
        simp [pf56_8, pf56_7, b0.op, h100i, h100, pf56_6, wrc r0.get]
        exact ⟨_, _, .snil, fin H r0 _, Bytes.nil _, by simp [Rs.cells, Rs.zero, Cp.zero, Cp.cells, errV]⟩
    · have his : is = true := by
        cases is with
        | false => exact absurd (.inl rfl) hno
        | true => rfl
      subst his
      have h100 : ¬ m.op < 100 := fun h => hno (.inr h)
      have h100i : ¬ (m.op : Int) < 100 := by omega
      simp [pf56_8, pf56_7, b0.op, h100i, h100, pf56_5, rd H.sy.sv, b0.cap]
      refine Ev.mono (check_ok H.sy.tb (by omega) hcf nd hndl) ?_
      rintro v s3 ⟨hc3, F', hg3, hT3, rfl⟩
      replace r0 := r0.step hc3.l1 hg3.l1
      replace b0 := b0.step hc3.l1 hg3.l1
      replace H := H.t hc3 hg3 hT3
      have st := Tbl.check_step T m.cap nd
      cases hchk : T.check m.cap nd with
      | mk a T1 =>
        obtain ⟨k, e⟩ := a
        rw [hchk] at H st
        replace H : SyC B s s3 (F1 ++ F2) sp tp xp T1 x F' F2 := H
        cases e with
        | some e =>
          have hrun : B.V.run T x m = ((Rs.zero, some e), T1, x) := by simp [Sv.run, hmay, o1, o2, o3, o4, o5, hnd, h100, hchk]
          rw [hrun]
          simp [idxE, errV, pf56_4, pf56_3, pf56_2, wrc r0.get]
          exact ⟨_, _, .snil, fin H r0 _, Bytes.nil _, by simp [Rs.cells, Rs.zero, Cp.zero, Cp.cells, errV]⟩
        | none =>
          obtain ⟨ob, hgx, hax, hth, rfl, hall, hport⟩ := Tbl.check_facts hchk
          have hrun : B.V.run T x m = B.V.act T1 x m.op ob.value m := by simp [Sv.run, hmay, o1, o2, o3, o4, o5, hnd, h100, hchk, hgx]
          rw [hrun]
          simp [idxE, errV, pf56_4, pf56_3, pf56_1, rd H.sy.sv]
          refine Ev.mono (value_ok H.sy.tb (m.cap.o : Nat)) ?_
          rintro v s4 ⟨rfl, rfl⟩
          have h0 : (0 : Int) ≤ (m.cap.o : Nat) := by omega
          simp [hgx, pf56_0, rd H.sy.sv, b0.op, b0.all]
          have hout : d.out (F' ++ F2) := AV.out_grow ho hd.below H.grow
          have hs4 : s.ctr + 1 < s4.ctr := r0.lt
          have hT4 : Tb s4 tp T1 F' := H.sy.tb
          have ok1 : T1.Ok := by exact st.ok ok
          refine wpI_inv' rfl B.mD rfl (Ev.mono (B.dv (m := m) (d := d) ob.value hT4 H.sy.sx H.sy.ap ok1 (by have := st.rs; simp only at this; omega) hf hm hmo (by rw [hnd]) (by omega) (hd.chg H.chg ho) hout) ?_)
          rintro u s5 ⟨hc5, F1', F2', dv, hg5, hTb5, hX5, hap5, hdv, hdo, rfl⟩
          replace r0 := r0.step hc5 hg5
          replace H := H.both hc5 hg5 hTb5 hX5 hap5
          have hdf := hdv.flat
          have wr6 := wrc (o := 0) (v := (B.V.act T1 x m.op ob.value m).1.1.cells dv) r0.get (by simp) (Rs.cells_flat hdf)
          have hov : dv.out [s.ctr + 1] := by
            rcases hdo with rfl | hsi
            · have hb := hd.below
              cases dv <;> first | trivial | (simp only [AV.inS] at hb; simp only [AV.out, List.mem_singleton]; omega)
            · cases dv <;> first | trivial | (simp only [AV.since] at hsi; simp only [AV.out, List.mem_singleton]; omega)
          rw [over6 _ _ _ rfl] at wr6
          obtain ⟨rr, hrr⟩ : ∃ rr, rr = (B.V.act T1 x m.op ob.value m).1.1 := ⟨_, rfl⟩
          have hfin := fin H r0 (some (.cells (rr.cells dv) 0 false))
          rw [← hrr] at wr6 hdv ⊢
          simp [wr6]
          refine ⟨F1', F2', dv, hfin, ?_, ?_⟩
          · rw [← hrr]
            exact hdv.chg (l := [s.ctr + 1]) (by simp) hov
          · rw [← hrr]; rfl
end Go.Ab
/-! Servers (layer 24) over the abstract machine, for each service: the reply. -/
namespace Go.Ab

theorem errOk_none : errOk none := fun _ h => by cases h
theorem errOk_some {n : Int} (h1 : 1 ≤ n) (h2 : n ≤ 15) : errOk (some n) := fun _ h => by cases h; exact ⟨h1, h2⟩
theorem Tbl.check_err (T : Tbl) (c : Cp) (need : Nat) : errOk (T.check c need).1.2 := by
  unfold Tbl.check
  split
  · exact errOk_some (by omega) (by omega)
  · cases T.get c.o with
    | none => exact errOk_some (by omega) (by omega)
    | some x =>
      simp only
      cases T.orc.tok x.secret c.r with
      | mk a q =>
        cases a with
        | none => exact errOk_some (by omega) (by omega)
        | some y =>
          simp only
          split
          · exact errOk_some (by omega) (by omega)
          · split
            · exact errOk_some (by omega) (by omega)
            · exact errOk_none
theorem Tbl.create_err (T : Tbl) (v : Int) : errOk (T.create v).1.2 := by
  unfold Tbl.create
  simp only
  split
  · exact errOk_some (by omega) (by omega)
  · cases T.orc.draw with
    | mk a q => cases a with
      | none => exact errOk_some (by omega) (by omega)
      | some s => exact errOk_none
theorem Tbl.restrict_err (T : Tbl) (c : Cp) (m : Nat) : errOk (T.restrict c m).1.2 := by
  have h := Tbl.check_err T c 0
  unfold Tbl.restrict
  cases hc : T.check c 0 with
  | mk a T1 =>
    obtain ⟨k, e⟩ := a
    rw [hc] at h
    cases e with
    | some e => exact h
    | none =>
      simp only
      cases T1.get k with
      | none => exact errOk_none
      | some x =>
        simp only
        cases T1.orc.tok x.secret (c.r &&& m) with
        | mk a q => cases a with
          | none => exact errOk_some (by omega) (by omega)
          | some y => exact errOk_none
theorem Tbl.revoke_err (T : Tbl) (c : Cp) : errOk (T.revoke c).1.2 := by
  have h := Tbl.check_err T c 255
  unfold Tbl.revoke
  cases hc : T.check c 255 with
  | mk a T1 =>
    obtain ⟨k, e⟩ := a
    rw [hc] at h
    cases e with
    | some e => exact h
    | none =>
      simp only
      cases T1.get k with
      | none => exact errOk_none
      | some x =>
        simp only
        cases T1.orc.draw with
        | mk a q => cases a with
          | none => exact errOk_some (by omega) (by omega)
          | some y => exact errOk_none
theorem Tbl.destroy_err (T : Tbl) (c : Cp) : errOk (T.destroy c).1.2.2 := by
  have h := Tbl.check_err T c 8
  unfold Tbl.destroy
  cases hc : T.check c 8 with
  | mk a T1 =>
    obtain ⟨k, e⟩ := a
    rw [hc] at h
    cases e with
    | some e => exact h
    | none =>
      simp only
      cases T1.get k <;> exact errOk_none
theorem Tbl.touch_err (T : Tbl) (c : Cp) : errOk (T.touch c).1 := by
  have h := Tbl.check_err T c 0
  unfold Tbl.touch
  cases hc : T.check c 0 with
  | mk a T1 =>
    obtain ⟨k, e⟩ := a
    rw [hc] at h
    cases e with
    | some e => exact h
    | none =>
      simp only
      cases T1.get k <;> exact errOk_none
theorem Tbl.info_err (T : Tbl) (c : Cp) : errOk (T.info c).1.2.2 := by
  have h := Tbl.check_err T c 0
  unfold Tbl.info
  cases hc : T.check c 0 with
  | mk a T1 =>
    obtain ⟨k, e⟩ := a
    rw [hc] at h
    cases e with
    | some e => exact h
    | none =>
      simp only
      cases T1.get k <;> exact errOk_none
theorem svc_destroy_err {σ : Type} (V : Sv σ) (T : Tbl) (x : σ) (c : Cp) : errOk (V.destroy T x c).1 := by
  unfold Sv.destroy
  split
  · have h := Tbl.check_err T c 8
    cases hc : T.check c 8 with
    | mk a T1 =>
      obtain ⟨k, e⟩ := a
      rw [hc] at h
      cases e with
      | some e => exact h
      | none => exact errOk_some (by omega) (by omega)
  · have h := Tbl.destroy_err T c
    cases hc : T.destroy c with
    | mk a T1 =>
      obtain ⟨k, v, e⟩ := a
      rw [hc] at h
      cases e with
      | some e => exact h
      | none => exact errOk_none
/-- What a request leaves: errors are the program's; not too many data. -/
theorem svc_run_facts {σ : Type} (B : Svc σ) (T : Tbl) (x : σ) (m : Ms) (hm : m.fit) : errOk (B.V.run T x m).1.2 ∧ (B.V.run T x m).1.1.data.length ≤ 140737488355328 := by
  have h0 : ([] : List UInt8).length ≤ 140737488355328 := by simp
  unfold Sv.run
  split
  · exact ⟨errOk_some (by omega) (by omega), h0⟩
  · split
    · exact ⟨Tbl.info_err T m.cap, h0⟩
    · split
      · exact ⟨Tbl.touch_err T m.cap, h0⟩
      · split
        · exact ⟨Tbl.restrict_err T m.cap _, h0⟩
        · split
          · exact ⟨Tbl.revoke_err T m.cap, h0⟩
          · split
            · exact ⟨svc_destroy_err B.V T x m.cap, h0⟩
            · split
              · exact ⟨errOk_some (by omega) (by omega), h0⟩
              · have h := Tbl.check_err T m.cap (B.V.need m.op).1
                cases hc : T.check m.cap (B.V.need m.op).1 with
                | mk a T1 =>
                  obtain ⟨k, e⟩ := a
                  rw [hc] at h
                  cases e with
                  | some e => exact ⟨h, h0⟩
                  | none => exact B.facts T1 x _ m hm

theorem over11 (z : List AV) (m : Ms) (d : AV) (hz : z.length = 11) : over z 0 (m.cells d) = m.cells d := by
  unfold over
  simp [hz]
theorem Own.out {n : Nat} {s : S} {v : AV} {l : List UInt8} {i : Nat} (h : Own n s v l) (hi : i < n) : v.out [i] := by
  rcases h with ⟨rfl, _⟩ | ⟨b, rfl, _, _, hb⟩
  · trivial
  · simp only [AV.out, List.mem_singleton]; omega

set_option maxRecDepth 10000 in
set_option maxHeartbeats 1000000 in
theorem svServe_ok {σ : Type} {B : Svc σ} {s : S} {sp tp xp : Nat} {T : Tbl} {x : σ} {F1 F2 : List Nat} (h : Sy B s sp tp xp T x F1 F2) (ok : T.Ok) (hq : T.orc.rs.length + 2 ≤ 5000000000000) (hf : B.fits x) {m : Ms} (hm : m.fit) (hmo : B.okm m) {d : AV} (hd : Bytes s d m.data) (ho : d.out (F1 ++ F2)) :
    Ev tab 24 [.ptr sp 0, .agg (m.cells d)] s fun u s' => ∃ F1' F2' w, SyC B s s' (F1 ++ F2) sp tp xp (B.V.run T x m).2.1 (B.V.run T x m).2.2 F1' F2' ∧ Own s.ctr s' w (m.reply_ (B.V.run T x m).1).data ∧ w.out (F1' ++ F2') ∧ u = .agg ((m.reply_ (B.V.run T x m).1).cells w) := by
  refine Ev.intro rfl rfl rfl ?_
  have fl := hd.flat
  have hcl0 := hd.cells1
  obtain ⟨s0, hs0⟩ : ∃ s0, s0 = (s.new (.cells (m.cells d) 0 false)).new (.cells [.int .u64 0, .int .u64 0, .int .u32 0, .int .u16 0, .int .u16 0, .int .u64 0, .int .u32 0, .int .u8 0, .int .u64 0, .int .u64 0, .snil] 0 false) := ⟨_, rfl⟩
  have x0 : Ext s s0 := by rw [hs0]; simp (maxDischargeDepth := 30)
  have hflt := h.flt
  have b0 : Bg s0 s.ctr (m.cells d) (F1 ++ F2) := ⟨by rw [hs0]; simp, by rw [hs0]; simp; omega, fun hx => by have := hflt _ hx; omega⟩
  have r0 : Bg s0 (s.ctr + 1) [.int .u64 0, .int .u64 0, .int .u32 0, .int .u16 0, .int .u16 0, .int .u64 0, .int .u32 0, .int .u8 0, .int .u64 0, .int .u64 0, .snil] (F1 ++ F2) := ⟨by rw [hs0]; simp, by rw [hs0]; simp, fun hx => by have := hflt _ hx; omega⟩
  have c0 : s0.ctr = s.ctr + 2 := by rw [hs0]; rfl
  have H := h.start.ext x0
  have hsp := h.lt
  have hn1 : ¬ sp = s.ctr + 1 := by omega
  simp [pf24, pf24_8, Ms.cells_flat, fl, ← hs0, pf24_7, pf24_6, rd H.sy.sv, pf24_4, b0.all]
  refine Ev.mono (svDo_ok H.sy ok hq hf hm hmo (hd.ext x0) ho) ?_
  rintro u s1 ⟨G1, G2, dv, HS, hdv, rfl⟩
  have H1 : SyC B s s1 (F1 ++ F2) sp tp xp (B.V.run T x m).2.1 (B.V.run T x m).2.2 G1 G2 := ⟨H.chg.trans HS.chg, HS.grow.le H.chg.ctr, HS.sy⟩
  replace b0 := b0.step HS.chg HS.grow
  replace r0 := r0.step HS.chg HS.grow
  obtain ⟨hr1, hr2⟩ := svc_run_facts B T x m hm
  obtain ⟨R, hR⟩ : ∃ R, R = B.V.run T x m := ⟨_, rfl⟩
  rw [← hR] at H1 hdv hr1 hr2 ⊢
  have hdf := hdv.flat
  have hdc := hdv.cells1
  obtain ⟨s2, hs2⟩ : ∃ t, t = (s1.new (.cells [.int .u64 0, .int .u32 0, .int .u8 0, .int .u64 0, .int .u64 0, .snil] 0 false)).set s1.ctr (some (.cells (R.1.1.cells dv) 0 false)) := ⟨_, rfl⟩
  have x2 : Ext s1 s2 := by rw [hs2]; simp
  have g5 : Bg s2 s1.ctr (R.1.1.cells dv) (G1 ++ G2) := ⟨by rw [hs2]; simp, by rw [hs2]; simp, fun hx => by have := H1.sy.flt _ hx; omega⟩
  have wn : (s1.new (.cells [.int .u64 0, .int .u32 0, .int .u8 0, .int .u64 0, .int .u64 0, .snil] 0 false)).write s1.ctr 0 (R.1.1.cells dv) = some s2 := by
    rw [wrc (sz := 0) (c := [.int .u64 0, .int .u32 0, .int .u8 0, .int .u64 0, .int .u64 0, .snil]) (by simp) (by simp) (Rs.cells_flat hdf), over6 _ _ _ rfl, hs2]
  replace H1 := H1.ext x2
  replace b0 := b0.ext x2
  replace r0 := r0.ext x2
  have hd2 : Bytes s2 d m.data := hd.chg H1.chg ho
  have hdv2 := hdv.ext x2
  have hs1 : s.ctr + 1 < s2.ctr := r0.lt
  have hmf := hm.2.2.2.2.2.2.2.2.2.2
  simp [wn]
  -- the end
  have fin : ∀ {s3 : S} {w : AV} {M : Ms}, Ext s2 s3 → Own s2.ctr s3 w M.data → M = m.reply_ R.1 → ∀ c, s.ctr + 1 < s3.ctr ∧ SyC B s (s3.set (s.ctr + 1) c) (F1 ++ F2) sp tp xp R.2.1 R.2.2 G1 G2 ∧ Own s.ctr (s3.set (s.ctr + 1) c) w (m.reply_ R.1).data ∧ w.out (G1 ++ G2) := by
    intro s3 w M hx hw hM c
    have hc := hx.ctr
    refine ⟨by omega, (H1.ext hx).set r0.out hn1 (by omega), ?_, ?_⟩
    · rw [← hM]
      exact (hw.setLow hs1).le (by omega)
    · have hlt := H1.sy.flt
      rcases hw with ⟨rfl, _⟩ | ⟨b, rfl, _, _, hb⟩
      · trivial
      · exact fun hx => by have := hlt _ hx; omega
  cases he : R.1.2 with
  | some e =>
    obtain ⟨e1, e2⟩ := hr1 e he
    obtain ⟨n, rfl⟩ := Int.eq_ofNat_of_zero_le (show 0 ≤ e by omega)
    have hrep : m.reply_ R.1 = m.answer n 0 0 0 0 0 [] := by simp [Ms.reply_, he]
    simp [errV, pf24_3, pf24_2, pf24_1, b0.all]
    refine Ev.mono (fault_ok m (errV (some (n : Int))) n (by omega) (fun t Q hQ => ev_num hQ) s2 hd2) ?_
    rintro u s3 ⟨hx3, w, rfl, hw⟩
    obtain ⟨f1, f2, f3, f4⟩ := fin hx3 hw hrep.symm (some (.cells ((m.answer n 0 0 0 0 0 []).cells w) 0 false))
    have hwf := hw.flat
    have r3 := r0.ext hx3
    have ww := wrc (o := 0) (v := (m.answer n 0 0 0 0 0 []).cells w) r3.get (by simp) (Ms.cells_flat hwf)
    rw [over11 _ _ _ rfl] at ww
    simp [ww]
    exact ⟨G1, G2, f2, w, f3, f4, by rw [hrep]; rfl⟩
  | none =>
    have hdl : R.1.1.data.length ≤ 140737488355328 := hr2
    have hrep : m.reply_ R.1 = m.answer 0 R.1.1.cap.p R.1.1.cap.o R.1.1.cap.r R.1.1.cap.k R.1.1.arg R.1.1.data := by simp [Ms.reply_, he]
    have q1 : s2.read s1.ctr 0 4 = some R.1.1.cap.cells := by rw [rd g5.get (by simp)]; rfl
    have q2 : s2.read s1.ctr 4 1 = some [.int .u64 (R.1.1.arg : Int)] := by rw [rd g5.get (by simp)]; rfl
    have q3 : s2.read s1.ctr 5 1 = some [dv] := by rw [rd g5.get (by simp)]; rfl
    simp [errV, pf24_3, pf24_2, pf24_0, b0.all, q1, q2, q3]
    refine Ev.mono (answer_ok m 0 R.1.1.cap.p R.1.1.cap.o R.1.1.cap.r R.1.1.cap.k R.1.1.arg R.1.1.data (by omega) hdl s2 hd2 hdv2) ?_
    rintro u s3 ⟨hx3, w, rfl, hw⟩
    obtain ⟨f1, f2, f3, f4⟩ := fin hx3 hw hrep.symm (some (.cells ((m.answer 0 R.1.1.cap.p R.1.1.cap.o R.1.1.cap.r R.1.1.cap.k R.1.1.arg R.1.1.data).cells w) 0 false))
    have hwf := hw.flat
    have r3 := r0.ext hx3
    have ww := wrc (o := 0) (v := (m.answer 0 R.1.1.cap.p R.1.1.cap.o R.1.1.cap.r R.1.1.cap.k R.1.1.arg R.1.1.data).cells w) r3.get (by simp) (Ms.cells_flat hwf)
    rw [over11 _ _ _ rfl] at ww
    simp [ww]
    exact ⟨G1, G2, f2, w, f3, f4, by rw [hrep]; rfl⟩
end Go.Ab
