/- The abstract machine: states that grow; bytes; what simp needs. -/
import Derived.Test.YtekkglhoeaipbaaDoorAbClosed
namespace Go.Ab

/-- Nothing that there was has changed; more may have been made. -/
structure Ext (s s' : S) : Prop where
  ctr : s.ctr ≤ s'.ctr
  get : ∀ id, id < s.ctr → s'.get id = s.get id

theorem Ext.refl (s : S) : Ext s s := ⟨Nat.le_refl _, fun _ _ => rfl⟩
theorem Ext.trans {a b c : S} (h : Ext a b) (k : Ext b c) : Ext a c := ⟨Nat.le_trans h.ctr k.ctr, fun id hid => by rw [k.get id (Nat.lt_of_lt_of_le hid h.ctr), h.get id hid]⟩
@[simp] theorem Ext.refl_simp (s : S) : Ext s s ↔ True := ⟨fun _ => trivial, fun _ => Ext.refl s⟩
@[simp] theorem Ext.new {s s' : S} {o : AO} (h : Ext s s') : Ext s (s'.new o) :=
  ⟨Nat.le_succ_of_le h.ctr, fun id hid => by rw [S.get_new, if_neg (by have := h.ctr; omega)]; exact h.get id hid⟩
@[simp] theorem Ext.set {s s' : S} {i : Nat} {o : Option AO} (hi : s.ctr ≤ i) (h : Ext s s') : Ext s (s'.set i o) :=
  ⟨h.ctr, fun id hid => by rw [S.get_set, if_neg (by omega)]; exact h.get id hid⟩

/-- What stands in blocks below this number. -/
def AV.inS (n : Nat) : AV → Prop
  | .ptr b _ | .slice b _ _ _ _ | .map b | .chan b => b < n
  | _ => True

/-- Not in a block below this number. -/
def AV.since (n : Nat) : AV → Prop
  | .ptr b _ | .slice b _ _ _ _ | .map b | .chan b => n ≤ b
  | _ => True
@[simp] theorem since_snil (n : Nat) : AV.since n .snil := trivial
@[simp] theorem since_slice (n b o m c : Nat) (opn : Bool) : AV.since n (.slice b o m c opn) = (n ≤ b) := Eq.trans rfl rfl
@[simp] theorem since_ptr (n b o : Nat) : AV.since n (.ptr b o) = (n ≤ b) := Eq.trans rfl rfl

theorem since_le {n m : Nat} (h : n ≤ m) {v : AV} (hv : v.since m) : v.since n := by
  cases v <;> first | trivial | exact Nat.le_trans h hv

/-- These bytes. -/
def u8s (l : List UInt8) : List AV := l.map fun x => .int .u8 x.toNat

@[simp] theorem u8s_length (l : List UInt8) : (u8s l).length = l.length := by simp [u8s]
@[simp] theorem u8s_nil : u8s [] = [] := Eq.trans rfl rfl
@[simp] theorem u8s_flat (l : List UInt8) : (u8s l).all isFlat = true := by simp [u8s, isFlat]
@[simp] theorem bytesOf_u8s : ∀ l : List UInt8, bytesOf (u8s l) = some l
  | [] => rfl
  | x :: l => by
    have := bytesOf_u8s l
    simp only [u8s, List.map_cons, bytesOf] at this ⊢
    rw [this]
    simp
theorem u8s_append (a b : List UInt8) : u8s (a ++ b) = u8s a ++ u8s b := by simp [u8s]
theorem u8s_take (a : List UInt8) (n : Nat) : (u8s a).take n = u8s (a.take n) := by simp [u8s, List.map_take]
theorem u8s_drop (a : List UInt8) (n : Nat) : (u8s a).drop n = u8s (a.drop n) := by simp [u8s, List.map_drop]
theorem u8s_inj {a b : List UInt8} (h : u8s a = u8s b) : a = b := by
  have := congrArg bytesOf h
  simpa using this

/-- As many cells as there is room for. -/
def AV.roomy : AV → Prop
  | .slice _ _ n c false => n ≤ c
  | _ => True
/-- A slice of bytes: what it holds. -/
structure Bytes (s : S) (v : AV) (l : List UInt8) : Prop where
  len : lenV v = some l.length
  cells : s.cellsOf 1 v = some (u8s l)
  below : v.inS s.ctr
  sort : v = .snil ∨ (∃ a, v = .zsl a) ∨ (∃ b o n c opn, v = .slice b o n c opn) ∨ ∃ b o1 o2 st, v = .esl b o1 o2 st
  room : v.roomy

theorem read_ext {s s' : S} (h : Ext s s') {b : Nat} (hb : b < s.ctr) (o n : Nat) : s'.read b o n = s.read b o n := by
  unfold S.read
  rw [h.get b hb]

theorem Bytes.ext {s s' : S} {v : AV} {l : List UInt8} (hb : Bytes s v l) (h : Ext s s') : Bytes s' v l := by
  refine ⟨hb.len, ?_, ?_, hb.sort, hb.room⟩
  · have hc := hb.cells
    have hbl := hb.below
    rcases hb.sort with rfl | ⟨za, rfl⟩ | ⟨b, o, n, c, opn, rfl⟩ | ⟨eb, eo1, eo2, est, rfl⟩
    · exact hc
    · exact hc
    · simp only [S.cellsOf] at hc ⊢
      rw [read_ext h hbl]
      exact hc
    · exact hc
  · have hbl := hb.below
    rcases hb.sort with rfl | ⟨za, rfl⟩ | ⟨b, o, n, c, opn, rfl⟩ | ⟨eb, eo1, eo2, est, rfl⟩
    · trivial
    · trivial
    · exact Nat.lt_of_lt_of_le hbl h.ctr
    · trivial

theorem Bytes.set {s : S} {v : AV} {l : List UInt8} {n i : Nat} {o : Option AO} (h : Bytes s v l) (hv : v.since n) (hi : i < n) : Bytes (s.set i o) v l := by
  refine ⟨h.len, ?_, h.below, h.sort, h.room⟩
  have hc := h.cells
  rcases h.sort with rfl | ⟨za, rfl⟩ | ⟨b, x, m, c, opn, rfl⟩ | ⟨eb, eo1, eo2, est, rfl⟩
  · exact hc
  · exact hc
  · simp only [S.cellsOf, S.read] at hc ⊢
    rw [S.get_set, if_neg (by have : n ≤ b := hv; omega)]
    exact hc
  · exact hc

theorem Bytes.nil (s : S) : Bytes s .snil [] := ⟨rfl, rfl, trivial, .inl rfl, trivial⟩

/-- A fresh block of bytes. -/
theorem Bytes.made {s : S} {b : Nat} {l : List UInt8} {n : Nat} (h : s.get b = some (.cells (u8s l) n false)) (hb : b < s.ctr) (c : Nat) (opn : Bool) (hr : (AV.slice b 0 l.length c opn).roomy := by trivial) : Bytes s (.slice b 0 l.length c opn) l :=
  ⟨rfl, by simp only [S.cellsOf, S.read, h, Nat.mul_one, Nat.zero_add, u8s_length, Nat.le_refl, if_true, List.drop_zero]; rw [List.take_of_length_le (by simp)], hb, .inr (.inr (.inl ⟨_, _, _, _, _, rfl⟩)), hr⟩

theorem app_copy {s : S} {v : AV} {l : List UInt8} (h : Bytes s v l) (hl : l.length ≤ 140737488355328) :
    s.app 1 1 .snil v = if l = [] then some (.snil, s) else some (.slice s.ctr 0 l.length 0 true, s.new (.cells (u8s l) 1 false)) := by
  have h1 := h.len
  have h2 := h.cells
  have h3 := u8s_flat l
  have hr : roomA l.length 1 = true := by simp [roomA]; omega
  simp only [S.app, Option.bind_eq_bind, h1, h2, Option.bind_some]
  by_cases he : l = []
  · subst he; simp
  · have : ¬ l.length = 0 := by simpa using he
    simp [he, hr, h3]

theorem cvbs_bytes {s : S} {v : AV} {l : List UInt8} (h : Bytes s v l) (E : Env) (r : Regs) (x : Opd) (hx : x.ev r = v) : evI E (.cvbs x) r s = some (.str l, s) := by
  rcases h.sort with rfl | ⟨za, rfl⟩ | ⟨b, o, n, c, opn, rfl⟩ | ⟨eb, eo1, eo2, est, rfl⟩
  · have := h.len
    simp only [lenV, Option.some.injEq] at this
    have : l = [] := List.length_eq_zero_iff.1 this.symm
    simp [evI, hx, this]
  · have := h.len
    simp only [lenV, Option.some.injEq] at this
    have : l = [] := List.length_eq_zero_iff.1 this.symm
    simp [evI, hx, this]
  · have h1 := h.len
    have h2 := h.cells
    simp only [lenV, Option.some.injEq] at h1
    simp only [S.cellsOf, Nat.mul_one] at h2
    simp [evI, hx, h2]
  · have := h.len
    simp only [lenV, Option.some.injEq] at this
    have : l = [] := List.length_eq_zero_iff.1 this.symm
    simp [evI, hx, this]

@[simp] theorem upd_apply (r : Regs) (i : Nat) (v : AV) (j : Nat) : upd r i v j = if j = i then v else r j := Eq.trans rfl rfl
@[simp] theorem updO_some (r : Regs) (i : Nat) (v : AV) : updO r (some i) v = upd r i v := Eq.trans rfl rfl
@[simp] theorem updO_none (r : Regs) (v : AV) : updO r none v = r := Eq.trans rfl rfl
@[simp] theorem initA_apply (l : List AV) (t : Nat) : initA l t = l.getD t .undef := Eq.trans rfl rfl
/-- What goes on with an answer. -/
def cont (o : Option (AV × S)) (K : AV → S → Prop) : Prop := match o with
  | some (v, s') => K v s'
  | none => False
@[simp] theorem cont_some (v : AV) (s : S) (K : AV → S → Prop) : cont (some (v, s)) K = K v s := Eq.trans rfl rfl
@[simp] theorem cont_none (K : AV → S → Prop) : cont none K = False := Eq.trans rfl rfl


@[simp] theorem WpO_nil (T : Tab) (r : Regs) (s : S) (Q : Regs → S → Prop) : WpO T [] r s Q = Q r s := Eq.trans rfl rfl
/-- What goes on behind an operation. -/
def kO (T : Tab) (l : List PI) (d : Option Nat) (c : List (Option (Nat × Bool) × I × Nat)) (r : Regs) (Q : Regs → S → Prop) : AV → S → Prop := fun v s' => ChkP (updO r d v) s' c ∧ WpO T l (updO r d v) s' Q
@[simp] theorem kO_nil (T : Tab) (l : List PI) (d : Option Nat) (r : Regs) (Q : Regs → S → Prop) (v : AV) (s : S) : kO T l d [] r Q v s = WpO T l (updO r d v) s Q := by simp [kO, ChkP]
@[simp] theorem kO_cons (T : Tab) (l : List PI) (d : Option Nat) (c : Option (Nat × Bool) × I × Nat) (cs : List (Option (Nat × Bool) × I × Nat)) (r : Regs) (Q : Regs → S → Prop) (v : AV) (s : S) :
    kO T l d (c :: cs) r Q v s = (ChkP (updO r d v) s (c :: cs) ∧ WpO T l (updO r d v) s Q) := Eq.trans rfl rfl
def gK (w : Bool) (T : Tab) (d : Option Nat) (i : I) (c : List (Option (Nat × Bool) × I × Nat)) (l : List PI) (r : Regs) (s : S) (Q : Regs → S → Prop) : Prop :=
  if w then WpI T i r s (kO T l d c r Q) else kO T l d c r Q .undef s
@[simp] theorem gK_true (T : Tab) (d : Option Nat) (i : I) (c : List (Option (Nat × Bool) × I × Nat)) (l : List PI) (r : Regs) (s : S) (Q : Regs → S → Prop) : gK true T d i c l r s Q = WpI T i r s (kO T l d c r Q) := Eq.trans rfl rfl
@[simp] theorem gK_false (T : Tab) (d : Option Nat) (i : I) (c : List (Option (Nat × Bool) × I × Nat)) (l : List PI) (r : Regs) (s : S) (Q : Regs → S → Prop) : gK false T d i c l r s Q = kO T l d c r Q .undef s := Eq.trans rfl rfl
@[simp] theorem WpO_free (T : Tab) (n : Nat) (d : Option Nat) (i : I) (c : List (Option (Nat × Bool) × I × Nat)) (l : List PI) (r : Regs) (s : S) (Q : Regs → S → Prop) :
    WpO T (⟨n, d, none, i, c⟩ :: l) r s Q = WpI T i r s (kO T l d c r Q) := Eq.trans rfl rfl
@[simp] theorem WpO_guard (T : Tab) (n : Nat) (d : Option Nat) (t : Nat) (b : Bool) (i : I) (c : List (Option (Nat × Bool) × I × Nat)) (l : List PI) (r : Regs) (s : S) (Q : Regs → S → Prop) :
    WpO T (⟨n, d, some (t, b), i, c⟩ :: l) r s Q = gK (wantedA (some (t, b)) r) T d i c l r s Q := Eq.trans rfl rfl

theorem WpI_cont {T : Tab} {i : I} (h : i.calls = false) (r : Regs) (s : S) (Q : AV → S → Prop) : WpI T i r s Q = cont (evI E₀ i r s) Q := by
  cases i <;> first | rfl | cases h

section
variable (T : Tab) (r : Regs) (s : S) (Q : AV → S → Prop)
@[simp] theorem wpI_mov (x : Opd) : WpI T (.mov x) r s Q = cont (some (x.ev r, s)) Q := Eq.trans rfl rfl
@[simp] theorem wpI_pick (c : Opd) (a : Opd) (b : Opd) : WpI T (.pick c a b) r s Q = cont (match c.ev r with | .bool t => some (if t then a.ev r else b.ev r, s) | _ => none) Q := Eq.trans rfl rfl
@[simp] theorem wpI_new (z : List AV) : WpI T (.new z) r s Q = cont (if z.all isFlat = true then some (.ptr s.ctr 0, s.new (.cells z 0 false)) else none) Q := Eq.trans rfl rfl
@[simp] theorem wpI_box (x : Opd) : WpI T (.box x) r s Q = cont (if (x.ev r).cells.all isFlat = true then some (.ptr s.ctr 0, s.new (.cells (x.ev r).cells 0 false)) else none) Q := Eq.trans rfl rfl
@[simp] theorem wpI_build (z : List AV) (ps : List (Nat × Nat × Opd)) : WpI T (.build z ps) r s Q = cont ((fillA r ps z).map fun c => (.agg c, s)) Q := Eq.trans rfl rfl
@[simp] theorem wpI_buildSl (sz : Nat) (len : Nat) (z : List AV) (ps : List (Nat × Nat × Opd)) : WpI T (.buildSl sz len z ps) r s Q = cont (do
          let c ← fillA r ps z
          if c.length = len * sz ∧ c.all isFlat = true then some (.slice s.ctr 0 len len false, s.new (.cells c 0 false)) else none) Q := Eq.trans rfl rfl
@[simp] theorem wpI_load (n : Nat) (agg : Bool) (x : Opd) : WpI T (.load n agg x) r s Q = cont (match x.ev r with
          | .ptr b o => match s.read b o n with
            | some c => if agg then some (.agg c, s) else match c with | [v] => some (v, s) | _ => none
            | none => none
          | _ => none) Q := Eq.trans rfl rfl
@[simp] theorem wpI_store (n : Nat) (x : Opd) (v : Opd) : WpI T (.store n x v) r s Q = cont (match x.ev r with
          | .ptr b o => if (v.ev r).cells.length = n then (s.write b o (v.ev r).cells).map fun s' => (.undef, s') else none
          | _ => none) Q := Eq.trans rfl rfl
@[simp] theorem wpI_nilck (x : Opd) : WpI T (.nilck x) r s Q = cont (match x.ev r with
          | .ptr b o => some (.ptr b o, s)
          | .func (.func f) a b => some (.func (.func f) a b, s)
          | _ => none) Q := Eq.trans rfl rfl
@[simp] theorem wpI_bin (op : BinOp) (x : Opd) (y : Opd) : WpI T (.bin op x y) r s Q = cont ((binV op (x.ev r) (y.ev r)).map fun v => (v, s)) Q := Eq.trans rfl rfl
@[simp] theorem wpI_eqv (neg : Bool) (k : EqK) (x : Opd) (y : Opd) : WpI T (.eqv neg k x y) r s Q = cont ((eqV k (x.ev r) (y.ev r)).map fun b => (.bool (b != neg), s)) Q := Eq.trans rfl rfl
@[simp] theorem wpI_un (op : UnOp) (x : Opd) : WpI T (.un op x) r s Q = cont (match op, x.ev r with
          | .not, .bool b => some (.bool (!b), s)
          | .neg, .int k n => some (.int k (k.wrap (0 - n)), s)
          | .xor, .int k n => (binInt .xor k (if k.signed then -1 else k.max) n).map fun v => (v, s)
          | _, _ => none) Q := Eq.trans rfl rfl
@[simp] theorem wpI_cvi (k : IntKind) (x : Opd) : WpI T (.cvi k x) r s Q = cont (match x.ev r with | .int _ n => some (.int k (k.wrap n), s) | _ => none) Q := Eq.trans rfl rfl
@[simp] theorem wpI_cvsb (x : Opd) : WpI T (.cvsb x) r s Q = cont (match x.ev r with
          | .str l => if l.length < 9223372036854775807 then some (.slice s.ctr 0 l.length 0 true, s.new (.cells (l.map fun b => .int .u8 b.toNat) 1 false)) else none
          | _ => none) Q := Eq.trans rfl rfl
@[simp] theorem wpI_cvbs (x : Opd) : WpI T (.cvbs x) r s Q = cont (match x.ev r with
          | .snil => some (.str [], s)
          | .zsl _ => some (.str [], s)
          | .esl .. => some (.str [], s)
          | .slice b o n _ _ => match s.read b o n with
            | some c => (bytesOf c).map fun l => (.str l, s)
            | none => none
          | _ => none) Q := Eq.trans rfl rfl
@[simp] theorem wpI_cvis (x : Opd) : WpI T (.cvis x) r s Q = cont (match x.ev r with | .int _ n => some (.str (Utf8.encode n).data.toList, s) | _ => none) Q := Eq.trans rfl rfl
@[simp] theorem wpI_cvbb (x : Opd) : WpI T (.cvbb x) r s Q = cont (match x.ev r with
          | .slice b o n c opn => match s.get b with
            | some (.cells _ _ false) => some (.slice b o n c opn, s)
            | _ => none
          | _ => none) Q := Eq.trans rfl rfl
@[simp] theorem wpI_cvss (x : Opd) : WpI T (.cvss x) r s Q = cont (match x.ev r with | .str l => some (.str l, s) | _ => none) Q := Eq.trans rfl rfl
@[simp] theorem wpI_ifc (t : TypeId) (x : Opd) : WpI T (.ifc t x) r s Q = cont (some (.iface t (x.ev r), s)) Q := Eq.trans rfl rfl
@[simp] theorem wpI_mkf (fn : Fn) (first : List Opd) (caps : List Opd) : WpI T (.mkf fn first caps) r s Q = cont (some (.func fn (first.map (·.ev r)) (caps.map (·.ev r)), s)) Q := Eq.trans rfl rfl
@[simp] theorem wpI_mkm  : WpI T (.mkm ) r s Q = cont (some (.map s.ctr, s.new (.map []))) Q := Eq.trans rfl rfl
@[simp] theorem wpI_mkc (bytes : Nat) (x : Opd) : WpI T (.mkc bytes x) r s Q = cont (match x.ev r with
          | .int .i64 n => if 0 ≤ n ∧ n ≤ 65536 ∧ bytes ≤ 65536 then some (.chan s.ctr, s.new (.chan n.toNat [])) else none
          | _ => none) Q := Eq.trans rfl rfl
@[simp] theorem wpI_mks (sz : Nat) (bytes : Nat) (z : List AV) (l : Opd) (c : Opd) : WpI T (.mks sz bytes z l c) r s Q = cont (match l.ev r, c.ev r with
          | .int .i64 l, .int .i64 c =>
            if 0 ≤ l ∧ l ≤ c ∧ bytes * c ≤ 281474976710656 ∧ c ≤ 281474976710656 ∧ z.length = sz ∧ z.all isFlat = true then
              some (.slice s.ctr 0 l.toNat c.toNat false, s.new (.cells (List.replicate c.toNat z).flatten 0 false))
            else none
          | _, _ => none) Q := Eq.trans rfl rfl
@[simp] theorem wpI_slice (sz : Nat) (x : Opd) (lo : Option Opd) (hi : Option Opd) (mx : Option Opd) : WpI T (.slice sz x lo hi mx) r s Q = cont ((S.slice sz (x.ev r) (lo.map (·.ev r)) (hi.map (·.ev r)) (mx.map (·.ev r))).map fun v => (v, s)) Q := Eq.trans rfl rfl
@[simp] theorem wpI_sstr (x : Opd) (lo : Option Opd) (hi : Option Opd) : WpI T (.sstr x lo hi) r s Q = cont (match x.ev r with
          | .str l => do
            let h := (← asBound l.length (hi.map (·.ev r))).getD l.length
            let a := (← asBound h (lo.map (·.ev r))).getD 0
            some (.str ((l.take h).drop a), s)
          | _ => none) Q := Eq.trans rfl rfl
@[simp] theorem wpI_faddr (off : Nat) (x : Opd) : WpI T (.faddr off x) r s Q = cont (match x.ev r with | .ptr b o => some (.ptr b (o + off), s) | _ => none) Q := Eq.trans rfl rfl
@[simp] theorem wpI_fld (off : Nat) (n : Nat) (agg : Bool) (x : Opd) : WpI T (.fld off n agg x) r s Q = cont (match x.ev r with
          | .agg c => if off + n ≤ c.length then (if agg then some (.agg ((c.drop off).take n), s) else match c[off]? with | some v => some (v, s) | none => none) else none
          | _ => none) Q := Eq.trans rfl rfl
@[simp] theorem wpI_iaddr (sz : Nat) (x : Opd) (i : Opd) : WpI T (.iaddr sz x i) r s Q = cont (match x.ev r, i.ev r with
          | .slice b o len _ _, .int _ i => if 0 ≤ i ∧ i < len then some (.ptr b (o + i.toNat * sz), s) else none
          | _, _ => none) Q := Eq.trans rfl rfl
@[simp] theorem wpI_iaddrA (len : Nat) (sz : Nat) (x : Opd) (i : Opd) : WpI T (.iaddrA len sz x i) r s Q = cont (match x.ev r, i.ev r with
          | .ptr b o, .int _ i => if 0 ≤ i ∧ i < len then some (.ptr b (o + i.toNat * sz), s) else none
          | _, _ => none) Q := Eq.trans rfl rfl
@[simp] theorem wpI_idxs (x : Opd) (i : Opd) : WpI T (.idxs x i) r s Q = cont (match x.ev r, i.ev r with
          | .str l, .int _ i => if 0 ≤ i then (l[i.toNat]?).map fun b => (.int .u8 b.toNat, s) else none
          | _, _ => none) Q := Eq.trans rfl rfl
@[simp] theorem wpI_lkup (z : AV) (x : Opd) (k : Opd) (ok : Bool) : WpI T (.lkup z x k ok) r s Q = cont (match k.ev r with
          | .int j a =>
            match s.entries (x.ev r) with
            | some es => match findA (.int j a) es with
              | some (some v) => some (if ok then .tuple [v, .bool true] else v, s)
              | some none => some (if ok then .tuple [z, .bool false] else z, s)
              | none => none
            | none => none
          | _ => none) Q := Eq.trans rfl rfl
@[simp] theorem wpI_mupd (x : Opd) (k : Opd) (v : Opd) : WpI T (.mupd x k v) r s Q = cont (match x.ev r, k.ev r with
          | .map m, .int j a => match s.get m with
            | some (.map es) => (findA (.int j a) es).map fun _ => (.undef, s.set m (some (.map (setA (.int j a) (v.ev r) a es))))
            | _ => none
          | _, _ => none) Q := Eq.trans rfl rfl
@[simp] theorem wpI_ext (x : Opd) (i : Nat) : WpI T (.ext x i) r s Q = cont (match x.ev r with | .tuple vs => (vs[i]?).map fun v => (v, s) | _ => none) Q := Eq.trans rfl rfl
@[simp] theorem wpI_len (str : Bool) (x : Opd) : WpI T (.len str x) r s Q = cont (match str, x.ev r with
          | false, .snil => some (.int .i64 0, s)
          | false, .zsl _ => some (.int .i64 0, s)
          | false, .esl .. => some (.int .i64 0, s)
          | false, .slice _ _ n _ _ => some (.int .i64 n, s)
          | true, .str l => some (.int .i64 l.length, s)
          | _, _ => none) Q := Eq.trans rfl rfl
@[simp] theorem wpI_app (sz : Nat) (bytes : Nat) (x : Opd) (y : Opd) : WpI T (.app sz bytes x y) r s Q = cont (s.app sz bytes (x.ev r) (y.ev r)) Q := Eq.trans rfl rfl
@[simp] theorem wpI_copy (sz : Nat) (x : Opd) (y : Opd) : WpI T (.copy sz x y) r s Q = cont (match x.ev r, lenV (y.ev r) with
          | .slice b o len _ _, some n => match s.cellsOf sz (y.ev r) with
            | some c => (s.write b o (c.take (min n len * sz))).map fun s' => (.int .i64 (min n len : Nat), s')
            | none => none
          | .snil, some n => (s.cellsOf sz (y.ev r)).map fun _ => (.int .i64 (min n 0 : Nat), s)
          | _, _ => none) Q := Eq.trans rfl rfl
@[simp] theorem wpI_clear (z : List AV) (x : Opd) : WpI T (.clear z x) r s Q = cont (match x.ev r with
          | .snil => some (.undef, s)
          | .slice b o len _ _ => if len = 0 then some (.undef, s) else (s.write b o (List.replicate len z).flatten).map fun s' => (.undef, s')
          | _ => none) Q := Eq.trans rfl rfl
@[simp] theorem wpI_del (x : Opd) (k : Opd) : WpI T (.del x k) r s Q = cont (match x.ev r, k.ev r with
          | .map m, .int j a => match s.get m with
            | some (.map es) => (findA (.int j a) es).map fun _ => (.undef, s.set m (some (.map (delA a es))))
            | _ => none
          | _, _ => none) Q := Eq.trans rfl rfl
@[simp] theorem wpI_mn (xs : List Opd) : WpI T (.mn xs) r s Q = cont (match xs.map (·.ev r) with | x :: rest => (foldO minV x rest).map fun v => (v, s) | [] => none) Q := Eq.trans rfl rfl
@[simp] theorem wpI_mx (xs : List Opd) : WpI T (.mx xs) r s Q = cont (match xs.map (·.ev r) with | x :: rest => (foldO maxV x rest).map fun v => (v, s) | [] => none) Q := Eq.trans rfl rfl
@[simp] theorem wpI_sel (x : Opd) (snd : Option Opd) (z : AV) : WpI T (.sel x snd z) r s Q = cont (selA s (x.ev r) (snd.map (·.ev r)) z) Q := Eq.trans rfl rfl
@[simp] theorem wpI_call (f : FuncId) (a : List Opd) : WpI T (.call f a) r s Q = Ev T f (a.map (·.ev r)) s Q := Eq.trans rfl rfl
@[simp] theorem wpC_skip (K : KP) : WpC T .skip r s K = K .normal r s := Eq.trans rfl rfl
@[simp] theorem wpC_ops (n : Nat) (l : List PI) (K : KP) : WpC T (.ops n l) r s K = WpO T l r s (K .normal) := Eq.trans rfl rfl
@[simp] theorem wpC_exit (n : Nat) (K : KP) : WpC T (.exit n) r s K = K (.exit n) r s := Eq.trans rfl rfl
@[simp] theorem wpC_ret (K : KP) : WpC T .ret r s K = K .ret r s := Eq.trans rfl rfl
def condK (v : AV) (T : Tab) (a b : PC) (r : Regs) (s : S) (K : KP) : Prop := match v with | .bool t => if t then WpC T a r s K else WpC T b r s K | _ => False
@[simp] theorem condK_true (a b : PC) (K : KP) : condK (.bool true) T a b r s K = WpC T a r s K := Eq.trans rfl rfl
@[simp] theorem condK_false (a b : PC) (K : KP) : condK (.bool false) T a b r s K = WpC T b r s K := Eq.trans rfl rfl
@[simp] theorem wpC_cond (c : Opd) (a b : PC) (K : KP) : WpC T (.cond c a b) r s K = condK (c.ev r) T a b r s K := by
  simp only [WpC, condK]; cases c.ev r <;> rfl
def seqK (T : Tab) (b : PC) (K : KP) : KP := fun e r s => match e with | .normal => WpC T b r s K | e => K e r s
@[simp] theorem seqK_normal (b : PC) (K : KP) : seqK T b K .normal r s = WpC T b r s K := Eq.trans rfl rfl
@[simp] theorem seqK_exit (n : Nat) (b : PC) (K : KP) : seqK T b K (.exit n) r s = K (.exit n) r s := Eq.trans rfl rfl
@[simp] theorem seqK_ret (b : PC) (K : KP) : seqK T b K .ret r s = K .ret r s := Eq.trans rfl rfl
@[simp] theorem wpC_seq (a b : PC) (K : KP) : WpC T (.seq a b) r s K = WpC T a r s (seqK T b K) := Eq.trans rfl rfl
def blockK (id : Nat) (K : KP) : KP := fun e r s => match e with | .exit i => if i = id then K .normal r s else K (.exit i) r s | e => K e r s
@[simp] theorem blockK_normal (n : Nat) (K : KP) : blockK n K .normal r s = K .normal r s := Eq.trans rfl rfl
@[simp] theorem blockK_exit (n m : Nat) (K : KP) : blockK n K (.exit m) r s = if m = n then K .normal r s else K (.exit m) r s := Eq.trans rfl rfl
@[simp] theorem blockK_ret (n : Nat) (K : KP) : blockK n K .ret r s = K .ret r s := Eq.trans rfl rfl
@[simp] theorem wpC_block (n : Nat) (b : PC) (K : KP) : WpC T (.block n b) r s K = WpC T b r s (blockK n K) := Eq.trans rfl rfl
def fin (o : Option (List AV)) (s : S) (Q : AV → S → Prop) : Prop := match o with | some l => Q (packA l) s | none => False
@[simp] theorem fin_some (l : List AV) : fin (some l) s Q = Q (packA l) s := Eq.trans rfl rfl
@[simp] theorem FinP_normal (l : List PR) : FinP l Q .normal r s = fin (resA r s l) s Q := Eq.trans rfl rfl
@[simp] theorem FinP_ret (l : List PR) : FinP l Q .ret r s = fin (resA r s l) s Q := Eq.trans rfl rfl
end

@[simp] theorem wantedA_none (r : Regs) : wantedA none r = true := Eq.trans rfl rfl
@[simp] theorem wantedA_some (t : Nat) (b : Bool) (r : Regs) : wantedA (some (t, b)) r = match r t with | .bool c => c == b | _ => false := Eq.trans rfl rfl
@[simp] theorem ev_r (r : Regs) (t : Nat) : Opd.ev r (.r t) = r t := Eq.trans rfl rfl
@[simp] theorem ev_c (r : Regs) (v : AV) : Opd.ev r (.c v) = v := Eq.trans rfl rfl
@[simp] theorem cells_agg (l : List AV) : (AV.agg l).cells = l := Eq.trans rfl rfl
@[simp] theorem cells_int (k : IntKind) (n : Int) : (AV.int k n).cells = [.int k n] := Eq.trans rfl rfl
@[simp] theorem cells_bool (b : Bool) : (AV.bool b).cells = [.bool b] := Eq.trans rfl rfl
@[simp] theorem cells_str (l : List UInt8) : (AV.str l).cells = [.str l] := Eq.trans rfl rfl
@[simp] theorem cells_snil : AV.snil.cells = [.snil] := Eq.trans rfl rfl
@[simp] theorem cells_pnil : AV.pnil.cells = [.pnil] := Eq.trans rfl rfl
@[simp] theorem cells_zsl (a : Addr) : (AV.zsl a).cells = [.zsl a] := Eq.trans rfl rfl
@[simp] theorem cells_esl (b o1 o2 st : Nat) : (AV.esl b o1 o2 st).cells = [.esl b o1 o2 st] := Eq.trans rfl rfl
@[simp] theorem cells_mnil : AV.mnil.cells = [.mnil] := Eq.trans rfl rfl
@[simp] theorem cells_cnil : AV.cnil.cells = [.cnil] := Eq.trans rfl rfl
@[simp] theorem cells_nilIface : AV.nilIface.cells = [.nilIface] := Eq.trans rfl rfl
@[simp] theorem cells_nilFunc : AV.nilFunc.cells = [.nilFunc] := Eq.trans rfl rfl
@[simp] theorem cells_ptr (b o : Nat) : (AV.ptr b o).cells = [.ptr b o] := Eq.trans rfl rfl
@[simp] theorem cells_slice (b o n c : Nat) (opn : Bool) : (AV.slice b o n c opn).cells = [.slice b o n c opn] := Eq.trans rfl rfl
@[simp] theorem cells_map (m : Nat) : (AV.map m).cells = [.map m] := Eq.trans rfl rfl
@[simp] theorem cells_chan (m : Nat) : (AV.chan m).cells = [.chan m] := Eq.trans rfl rfl
@[simp] theorem cells_iface (t : TypeId) (v : AV) : (AV.iface t v).cells = [.iface t v] := Eq.trans rfl rfl
@[simp] theorem cells_func (f : Fn) (a b : List AV) : (AV.func f a b).cells = [.func f a b] := Eq.trans rfl rfl
/-- The reads that race, looked at again. -/
def chkK (o : Option (AV × S)) (v : AV) : Prop := match o with | some (u, _) => u = v | none => False
@[simp] theorem chkK_some (u : AV) (s : S) (v : AV) : chkK (some (u, s)) v = (u = v) := Eq.trans rfl rfl
@[simp] theorem ChkP_nil (r : Regs) (s : S) : ChkP r s [] = True := Eq.trans rfl rfl
@[simp] theorem ChkP_free (r : Regs) (s : S) (i : I) (t : Nat) (c : List (Option (Nat × Bool) × I × Nat)) : ChkP r s ((none, i, t) :: c) = (i.calls = false ∧ chkK (evI E₀ i r s) (r t) ∧ ChkP r s c) := by
  simp only [ChkP, wantedA, if_true, chkK]; congr 1
@[simp] theorem ChkP_guard (r : Regs) (s : S) (g : Nat) (b : Bool) (i : I) (t : Nat) (c : List (Option (Nat × Bool) × I × Nat)) : ChkP r s ((some (g, b), i, t) :: c) = (i.calls = false ∧ chkK (if wantedA (some (g, b)) r then evI E₀ i r s else some (.undef, s)) (r t) ∧ ChkP r s c) := by
  simp only [ChkP, chkK]; congr 1
@[simp] theorem evI_load (E : Env) (r : Regs) (s : S) (n : Nat) (g : Bool) (x : Opd) : evI E (.load n g x) r s = match x.ev r with
    | .ptr b o => match s.read b o n with
      | some c => if g then some (.agg c, s) else match c with | [v] => some (v, s) | _ => none
      | none => none
    | _ => none := Eq.trans rfl rfl
@[simp] theorem evI_lkup (E : Env) (r : Regs) (s : S) (z : AV) (x k : Opd) (ok : Bool) : evI E (.lkup z x k ok) r s = match k.ev r with
    | .int j a =>
      match s.entries (x.ev r) with
      | some es => match findA (.int j a) es with
        | some (some v) => some (if ok then .tuple [v, .bool true] else v, s)
        | some none => some (if ok then .tuple [z, .bool false] else z, s)
        | none => none
      | none => none
    | _ => none := Eq.trans rfl rfl
@[simp] theorem evI_cvbb (E : Env) (r : Regs) (s : S) (x : Opd) : evI E (.cvbb x) r s = match x.ev r with
    | .slice b o n c opn => match s.get b with
      | some (.cells _ _ false) => some (.slice b o n c opn, s)
      | _ => none
    | _ => none := Eq.trans rfl rfl
@[simp] theorem evI_cvbs (E : Env) (r : Regs) (s : S) (x : Opd) : evI E (.cvbs x) r s = match x.ev r with
    | .snil => some (.str [], s)
    | .zsl _ => some (.str [], s)
    | .esl .. => some (.str [], s)
    | .slice b o n _ _ => match s.read b o n with
      | some c => (bytesOf c).map fun l => (.str l, s)
      | none => none
    | _ => none := Eq.trans rfl rfl
@[simp] theorem ctr_new_s (s : S) (o : AO) : (s.new o).ctr = s.ctr + 1 := Eq.trans rfl rfl
@[simp] theorem ctr_set_s (s : S) (i : Nat) (o : Option AO) : (s.set i o).ctr = s.ctr := Eq.trans rfl rfl
attribute [simp] S.get_new S.get_set over I.calls packA resA fillA
@[simp] theorem binV_add (k : IntKind) (a b : Int) : binV .add (.int k a) (.int k b) = some (.int k (k.wrap (a + b))) := by simp [binV, binInt]
@[simp] theorem binV_sub (k : IntKind) (a b : Int) : binV .sub (.int k a) (.int k b) = some (.int k (k.wrap (a - b))) := by simp [binV, binInt]
@[simp] theorem binV_mul (k : IntKind) (a b : Int) : binV .mul (.int k a) (.int k b) = some (.int k (k.wrap (a * b))) := by simp [binV, binInt]
@[simp] theorem binV_and (k : IntKind) (a b : Int) : binV .and (.int k a) (.int k b) = some (.int k (k.wrap (BitVec.ofInt k.bits a &&& BitVec.ofInt k.bits b).toNat)) := by simp [binV, binInt]
@[simp] theorem binV_or (k : IntKind) (a b : Int) : binV .or (.int k a) (.int k b) = some (.int k (k.wrap (BitVec.ofInt k.bits a ||| BitVec.ofInt k.bits b).toNat)) := by simp [binV, binInt]
@[simp] theorem binV_xor (k : IntKind) (a b : Int) : binV .xor (.int k a) (.int k b) = some (.int k (k.wrap (BitVec.ofInt k.bits a ^^^ BitVec.ofInt k.bits b).toNat)) := by simp [binV, binInt]
@[simp] theorem binV_andNot (k : IntKind) (a b : Int) : binV .andNot (.int k a) (.int k b) = some (.int k (k.wrap (BitVec.ofInt k.bits a &&& ~~~BitVec.ofInt k.bits b).toNat)) := by simp [binV, binInt]
@[simp] theorem binV_lss (k : IntKind) (a b : Int) : binV .lss (.int k a) (.int k b) = some (.bool (decide (a < b))) := by simp [binV, binInt]
@[simp] theorem binV_leq (k : IntKind) (a b : Int) : binV .leq (.int k a) (.int k b) = some (.bool (decide (a ≤ b))) := by simp [binV, binInt]
@[simp] theorem binV_gtr (k : IntKind) (a b : Int) : binV .gtr (.int k a) (.int k b) = some (.bool (decide (b < a))) := by simp [binV, binInt]
@[simp] theorem binV_geq (k : IntKind) (a b : Int) : binV .geq (.int k a) (.int k b) = some (.bool (decide (b ≤ a))) := by simp [binV, binInt]
@[simp] theorem binV_eql (k : IntKind) (a b : Int) : binV .eql (.int k a) (.int k b) = some (.bool (decide (a = b))) := by simp [binV, binInt]; rfl
@[simp] theorem binV_neq (k : IntKind) (a b : Int) : binV .neq (.int k a) (.int k b) = some (.bool (!decide (a = b))) := by simp [binV, binInt]; rfl
@[simp] theorem binV_quo (k : IntKind) (a b : Int) : binV .quo (.int k a) (.int k b) = if b = 0 then none else some (.int k (k.wrap (a.tdiv b))) := by simp [binV, binInt]
@[simp] theorem binV_rem (k : IntKind) (a b : Int) : binV .rem (.int k a) (.int k b) = if b = 0 then none else some (.int k (a.tmod b)) := by simp [binV, binInt]
@[simp] theorem binV_shl (k l : IntKind) (a b : Int) : binV .shl (.int k a) (.int l b) = if b < 0 then none else some (.int k (k.wrap (a * 2 ^ min b.toNat k.bits))) := by simp [binV, shInt]
@[simp] theorem binV_shr (k l : IntKind) (a b : Int) : binV .shr (.int k a) (.int l b) = if b < 0 then none else some (.int k (a.fdiv (2 ^ min b.toNat k.bits))) := by simp [binV, shInt]
@[simp] theorem binV_eqlS (a b : List UInt8) : binV .eql (.str a) (.str b) = some (.bool (decide (a = b))) := Eq.trans rfl rfl
@[simp] theorem binV_neqS (a b : List UInt8) : binV .neq (.str a) (.str b) = some (.bool (!decide (a = b))) := Eq.trans rfl rfl
@[simp] theorem binV_addS (a b : List UInt8) : binV .add (.str a) (.str b) = if a.length + b.length ≤ 140737488355328 then some (.str (a ++ b)) else none := Eq.trans rfl rfl
@[simp] theorem eqV_st (k0 k1 k2 k3 : IntKind) (a0 a1 a2 a3 b0 b1 b2 b3 : Int) : eqV .st (.agg [.int k0 a0, .int k1 a1, .int k2 a2, .int k3 a3]) (.agg [.int k0 b0, .int k1 b1, .int k2 b2, .int k3 b3]) = some (decide (a0 = b0 ∧ a1 = b1 ∧ a2 = b2 ∧ a3 = b3)) := by simp [eqV]
@[simp] theorem flat_int (k : IntKind) (n : Int) : isFlat (.int k n) = true := Eq.trans rfl rfl
@[simp] theorem flat_bool (b : Bool) : isFlat (.bool b) = true := Eq.trans rfl rfl
@[simp] theorem flat_str (l : List UInt8) : isFlat (.str l) = true := Eq.trans rfl rfl
@[simp] theorem flat_snil : isFlat .snil = true := Eq.trans rfl rfl
@[simp] theorem flat_pnil : isFlat .pnil = true := Eq.trans rfl rfl
@[simp] theorem flat_zsl (a : Addr) : isFlat (.zsl a) = true := Eq.trans rfl rfl
@[simp] theorem flat_esl (b o1 o2 st : Nat) : isFlat (.esl b o1 o2 st) = true := Eq.trans rfl rfl
@[simp] theorem flat_mnil : isFlat .mnil = true := Eq.trans rfl rfl
@[simp] theorem flat_cnil : isFlat .cnil = true := Eq.trans rfl rfl
@[simp] theorem flat_ptr (b o : Nat) : isFlat (.ptr b o) = true := Eq.trans rfl rfl
@[simp] theorem flat_slice (b o n c : Nat) (opn : Bool) : isFlat (.slice b o n c opn) = true := Eq.trans rfl rfl
@[simp] theorem flat_map (m : Nat) : isFlat (.map m) = true := Eq.trans rfl rfl
@[simp] theorem flat_chan (m : Nat) : isFlat (.chan m) = true := Eq.trans rfl rfl
@[simp] theorem flat_nilIface : isFlat .nilIface = true := Eq.trans rfl rfl
@[simp] theorem flat_iface (t : TypeId) (v : AV) : isFlat (.iface t v) = true := Eq.trans rfl rfl
@[simp] theorem flat_nilFunc : isFlat .nilFunc = true := Eq.trans rfl rfl
@[simp] theorem flat_func (f : Fn) (a b : List AV) : isFlat (.func f a b) = true := Eq.trans rfl rfl
theorem Bytes.flat {s : S} {v : AV} {l : List UInt8} (h : Bytes s v l) : isFlat v = true := by
  rcases h.sort with rfl | ⟨za, rfl⟩ | ⟨b, o, n, c, opn, rfl⟩ | ⟨eb, eo1, eo2, est, rfl⟩ <;> rfl
theorem Bytes.cells1 {s : S} {v : AV} {l : List UInt8} (h : Bytes s v l) : v.cells = [v] := by
  rcases h.sort with rfl | ⟨za, rfl⟩ | ⟨b, o, n, c, opn, rfl⟩ | ⟨eb, eo1, eo2, est, rfl⟩ <;> rfl
theorem WpI_cvbs {s : S} {v : AV} {l : List UInt8} (h : Bytes s v l) (T : Tab) (r : Regs) (x : Opd) (hx : x.ev r = v) (Q : AV → S → Prop) : WpI T (.cvbs x) r s Q = Q (.str l) s := by
  show cont (evI E₀ (.cvbs x) r s) Q = _
  rw [cvbs_bytes h E₀ r x hx]
  rfl
end Go.Ab
