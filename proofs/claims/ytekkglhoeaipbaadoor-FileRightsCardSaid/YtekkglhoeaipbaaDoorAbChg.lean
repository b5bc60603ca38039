/- The abstract machine: states of which some blocks change; bytes that are laid into others. -/
import Derived.Test.YtekkglhoeaipbaaDoorAbExt
namespace Go.Ab

/-- All but these blocks are as they were; more may have been made. -/
structure Chg (l : List Nat) (s s' : S) : Prop where
  ctr : s.ctr ≤ s'.ctr
  get : ∀ id, id < s.ctr → id ∉ l → s'.get id = s.get id

theorem Ext.chg {s s' : S} (h : Ext s s') (l : List Nat) : Chg l s s' := ⟨h.ctr, fun id hid _ => h.get id hid⟩
theorem Chg.refl (l : List Nat) (s : S) : Chg l s s := ⟨Nat.le_refl _, fun _ _ _ => rfl⟩
theorem Chg.trans {l : List Nat} {a b c : S} (h : Chg l a b) (k : Chg l b c) : Chg l a c :=
  ⟨Nat.le_trans h.ctr k.ctr, fun id hid hn => by rw [k.get id (Nat.lt_of_lt_of_le hid h.ctr) hn, h.get id hid hn]⟩
theorem Chg.mono {l m : List Nat} {a b : S} (h : Chg l a b) (hm : ∀ x ∈ l, x ∈ m) : Chg m a b := ⟨h.ctr, fun id hid hn => h.get id hid fun hx => hn (hm _ hx)⟩
@[simp] theorem Chg.refl_simp (l : List Nat) (s : S) : Chg l s s ↔ True := ⟨fun _ => trivial, fun _ => Chg.refl l s⟩
@[simp] theorem Chg.new {l : List Nat} {s s' : S} {o : AO} (h : Chg l s s') : Chg l s (s'.new o) :=
  ⟨Nat.le_succ_of_le h.ctr, fun id hid hn => by rw [S.get_new, if_neg (by have := h.ctr; omega)]; exact h.get id hid hn⟩
@[simp] theorem Chg.set {l : List Nat} {s s' : S} {i : Nat} {o : Option AO} (hi : s.ctr ≤ i ∨ i ∈ l) (h : Chg l s s') : Chg l s (s'.set i o) :=
  ⟨h.ctr, fun id hid hn => by
    rw [S.get_set]
    split
    · rename_i he; subst he
      rcases hi with hi | hi
      · omega
      · exact (hn hi).elim
    · exact h.get id hid hn⟩
/-- Blocks that were made behind a state, changed: the state is as it was. -/
theorem Ext.chg_trans {l : List Nat} {a b c : S} (h : Ext a b) (k : Chg l b c) (hl : ∀ x ∈ l, a.ctr ≤ x) : Ext a c :=
  ⟨Nat.le_trans h.ctr k.ctr, fun id hid => by rw [k.get id (Nat.lt_of_lt_of_le hid h.ctr) (fun hx => by have := hl _ hx; omega), h.get id hid]⟩

def AV.out (l : List Nat) : AV → Prop
  | .ptr b _ | .slice b _ _ _ _ | .map b | .chan b => b ∉ l
  | _ => True

theorem AV.out_sub {l m : List Nat} {v : AV} (h : v.out l) (hm : ∀ x ∈ m, x ∈ l) : v.out m := by
  cases v <;> first | trivial | exact fun hx => h (hm _ hx)

theorem Bytes.cvbs_all {s : S} {v : AV} {l : List UInt8} (h : Bytes s v l) : (∀ s', Ext s s' → ∀ (T : Tab) (r : Regs) (x : Opd), x.ev r = v → ∀ (Q : AV → S → Prop), WpI T (.cvbs x) r s' Q = Q (.str l) s') ∧
    (∀ s', Ext s s' → ∀ (E : Env) (r : Regs) (x : Opd), x.ev r = v → evI E (.cvbs x) r s' = some (.str l, s')) :=
  ⟨fun s' hx T r x hv Q => WpI_cvbs (h.ext hx) T r x hv Q, fun s' hx E r x hv => cvbs_bytes (h.ext hx) E r x hv⟩
/-- Here and now. -/
theorem Bytes.cvbs_at {s : S} {v : AV} {l : List UInt8} (h : Bytes s v l) : (∀ (T : Tab) (r : Regs) (x : Opd), x.ev r = v → ∀ (Q : AV → S → Prop), WpI T (.cvbs x) r s Q = Q (.str l) s) ∧
    (∀ (E : Env) (r : Regs) (x : Opd), x.ev r = v → evI E (.cvbs x) r s = some (.str l, s)) :=
  ⟨fun T r x hv Q => WpI_cvbs h T r x hv Q, fun E r x hv => cvbs_bytes h E r x hv⟩

theorem inS_out {n : Nat} {l : List Nat} {v : AV} (h : v.inS n) (hl : ∀ x ∈ l, n ≤ x) : v.out l := by
  cases v <;> first | trivial | exact fun hx => by have := hl _ hx; simp only [AV.inS] at h; omega

theorem Bytes.chg {l : List Nat} {s s' : S} {v : AV} {x : List UInt8} (hb : Bytes s v x) (h : Chg l s s') (ho : v.out l) : Bytes s' v x := by
  refine ⟨hb.len, ?_, ?_, hb.sort, hb.room⟩
  · have hc := hb.cells
    have hbl := hb.below
    rcases hb.sort with rfl | ⟨za, rfl⟩ | ⟨b, o, n, c, opn, rfl⟩ | ⟨eb, eo1, eo2, est, rfl⟩
    · exact hc
    · exact hc
    · simp only [S.cellsOf, S.read] at hc ⊢
      rw [h.get b hbl ho]
      exact hc
    · exact hc
  · have hbl := hb.below
    rcases hb.sort with rfl | ⟨za, rfl⟩ | ⟨b, o, n, c, opn, rfl⟩ | ⟨eb, eo1, eo2, est, rfl⟩
    · trivial
    · trivial
    · exact Nat.lt_of_lt_of_le hbl h.ctr
    · trivial

@[simp] theorem undef_eq : AV.undef = .tuple [] := Eq.trans rfl rfl
@[simp] theorem eqV_ifc (t : TypeId) (v : AV) : eqV .ifc (.iface t v) .nilIface = some false := Eq.trans rfl rfl
@[simp] theorem eqV_ifc_n : eqV .ifc .nilIface .nilIface = some true := Eq.trans rfl rfl
@[simp] theorem eqV_ptr (b o : Nat) : eqV .ptr (.ptr b o) .pnil = some false := Eq.trans rfl rfl
@[simp] theorem eqV_ptr_n : eqV .ptr .pnil .pnil = some true := Eq.trans rfl rfl
@[simp] theorem eqV_mp (m : Nat) : eqV .mp (.map m) .mnil = some false := Eq.trans rfl rfl
@[simp] theorem eqV_mp_n : eqV .mp .mnil .mnil = some true := Eq.trans rfl rfl
@[simp] theorem eqV_sl (b o n c : Nat) (opn : Bool) : eqV .sl (.slice b o n c opn) .snil = some false := Eq.trans rfl rfl
@[simp] theorem eqV_sl_z (a : Addr) : eqV .sl (.zsl a) .snil = some false := Eq.trans rfl rfl
@[simp] theorem eqV_sl_e (b o1 o2 st : Nat) : eqV .sl (.esl b o1 o2 st) .snil = some false := Eq.trans rfl rfl
@[simp] theorem eqV_sl_n : eqV .sl .snil .snil = some true := Eq.trans rfl rfl
@[simp] theorem eqV_bool (a b : Bool) : eqV .bool (.bool a) (.bool b) = some (a == b) := Eq.trans rfl rfl

theorem wrap_i64 {m : Int} (h : -9223372036854775808 ≤ m) (h2 : m < 9223372036854775808) : IntKind.i64.wrap m = m := by
  simp [IntKind.wrap, IntKind.signed, IntKind.bits]; omega

/-- These bytes over others, from a place on. -/
def lay (l : List UInt8) (o : Nat) (v : List UInt8) : List UInt8 := l.take o ++ v ++ l.drop (o + v.length)
theorem lay_length {l v : List UInt8} {o : Nat} (h : o + v.length ≤ l.length) : (lay l o v).length = l.length := by
  simp [lay]; omega
theorem over_u8s (l v : List UInt8) (o : Nat) : (u8s l).take o ++ (u8s v ++ (u8s l).drop (o + v.length)) = u8s (lay l o v) := by
  simp [lay, u8s_append, u8s_take, u8s_drop]
theorem lay_nil (l : List UInt8) (o : Nat) : lay l o [] = l := by simp [lay]

theorem u8s_replicate (n : Nat) (x : UInt8) : u8s (List.replicate n x) = List.replicate n (.int .u8 x.toNat) := by simp [u8s]
theorem flat_replicate (n : Nat) (v : AV) : (List.replicate n [v]).flatten = List.replicate n v := by
  induction n with
  | zero => rfl
  | succ n ih => simp [List.replicate_succ, ih]
theorem zeros (n : Nat) : (List.replicate n [AV.int .u8 0]).flatten = u8s (List.replicate n 0) := by
  rw [flat_replicate, u8s_replicate]; rfl

theorem write_u8 {s : S} {b o opn : Nat} {l v : List UInt8} (h : s.get b = some (.cells (u8s l) opn false)) (hl : o + v.length ≤ l.length) :
    s.write b o (u8s v) = some (s.set b (some (.cells (u8s (lay l o v)) opn false))) := by
  have := u8s_flat v
  simp only [S.write, h]
  rw [if_pos ⟨by simpa using hl, this⟩]
  rw [← over_u8s]
  simp [over]
theorem read_u8 {s : S} {b o n opn : Nat} {l : List UInt8} {ro : Bool} (h : s.get b = some (.cells (u8s l) opn ro)) (hl : o + n ≤ l.length) :
    s.read b o n = some (u8s ((l.drop o).take n)) := by
  simp only [S.read, h]
  rw [if_pos (by simpa using hl), u8s_drop, u8s_take]
theorem read_one {s : S} {b o opn : Nat} {l : List AV} {ro : Bool} {x : AV} (h : s.get b = some (.cells l opn ro)) (hx : l[o]? = some x) : s.read b o 1 = some [x] := by
  obtain ⟨hl, he⟩ := List.getElem?_eq_some_iff.1 hx
  simp only [S.read, h]
  rw [if_pos (by omega), List.drop_eq_getElem_cons hl, he]
  rfl
theorem write_one {s : S} {b o opn : Nat} {l : List AV} {x : AV} (h : s.get b = some (.cells l opn false)) (hl : o < l.length) (hx : isFlat x = true) : s.write b o [x] = some (s.set b (some (.cells (l.set o x) opn false))) := by
  have : over l o [x] = l.set o x := by
    simp only [over]
    rw [List.set_eq_take_append_cons_drop, if_pos hl]
    simp
  simp only [S.write, h]
  rw [if_pos ⟨by simp; omega, by simp [hx]⟩, this]

theorem Bytes.wlen {s : S} {v : AV} {l : List UInt8} (hb : Bytes s v l) : ∀ (T : Tab) (r : Regs) (s' : S) (x : Opd) (Q : AV → S → Prop), x.ev r = v → WpI T (.len false x) r s' Q = Q (.int .i64 l.length) s' := by
  intro T r s' x Q hx
  have h := hb.len
  rcases hb.sort with rfl | ⟨za, rfl⟩ | ⟨b, o, n, c, opn, rfl⟩ | ⟨eb, eo1, eo2, est, rfl⟩ <;> simp only [lenV, Option.some.injEq] at h <;> simp [hx, ← h]

/-- A part of a slice whose room is known. -/
theorem slice_lh {sz b o len cap lo hi : Nat} {k k2 : IntKind} (h1 : lo ≤ hi) (h2 : hi ≤ cap) : S.slice sz (.slice b o len cap false) (some (.int k (lo : Int))) (some (.int k2 (hi : Int))) none = some (.slice b (if cap = lo then o else o + lo * sz) (hi - lo) (cap - lo) false) := by
  have e1 : (lo : Int) ≤ (hi : Int) := by omega
  have e2 : (hi : Int) ≤ (cap : Int) := by omega
  simp [S.slice, S.slice2, asBound, e1, e2, h1, h2]
theorem slice_l {sz b o len cap lo : Nat} {k : IntKind} (h1 : lo ≤ len) (h2 : len ≤ cap) : S.slice sz (.slice b o len cap false) (some (.int k (lo : Int))) none none = some (.slice b (if cap = lo then o else o + lo * sz) (len - lo) (cap - lo) false) := by
  have e1 : (lo : Int) ≤ (len : Int) := by omega
  simp [S.slice, S.slice2, asBound, e1, h1, h2]
end Go.Ab
