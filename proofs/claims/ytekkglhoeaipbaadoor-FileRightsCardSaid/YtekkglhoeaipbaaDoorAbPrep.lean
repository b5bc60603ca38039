/- The abstract machine: from the program's operations to instructions. -/
import Derived.Test.YtekkglhoeaipbaaDoorAbWorld
namespace Go.Ab

mutual
def absC : Nat → Value → Option AV
  | 0, _ => none
  | n + 1, v => match v with
    | .bool b => some (.bool b)
    | .int k x => some (.int k x)
    | .string s => some (.str s.data.toList)
    | .pointer none => some .pnil
    | .slice none 0 0 => some .snil
    | .map none => some .mnil
    | .chan none => some .cnil
    | .nilFunc => some .nilFunc
    | .nilIface => some .nilIface
    | .iface t v => (absC n v).map (.iface t)
    | .agg cs => (absL n cs.toList).map .agg
    | _ => none
def absL : Nat → List Value → Option (List AV)
  | 0, _ => none
  | n + 1, l => match l with
    | [] => some []
    | v :: r => (absC n v).bind fun a => (absL n r).map (a :: ·)
end

theorem abs_conc (ν : Nu) : ∀ n, (∀ v a, absC n v = some a → conc ν a = some v) ∧ (∀ l m, absL n l = some m → concs ν m = some l) := by
  intro n
  induction n with
  | zero => exact ⟨fun v a h => by simp [absC] at h, fun l m h => by simp [absL] at h⟩
  | succ n ih =>
    constructor
    · intro v a h
      unfold absC at h
      split at h <;> first
        | (simp only [Option.some.injEq] at h; subst h; rfl)
        | (cases h; done)
        | (simp only [Option.map_eq_some_iff] at h; obtain ⟨x, hx, rfl⟩ := h; have hh := ih.1 _ _ hx; simp only [conc, hh, Option.map_some]; done)
        | (simp only [Option.map_eq_some_iff] at h; obtain ⟨x, hx, rfl⟩ := h; have hh := ih.2 _ _ hx; simp only [conc, hh, Option.map_some]; done)
    · intro l m h
      unfold absL at h
      split at h
      · simp only [Option.some.injEq] at h; subst h; rfl
      · simp only [Option.bind_eq_some_iff, Option.map_eq_some_iff] at h
        obtain ⟨a, ha, r, hr, rfl⟩ := h
        exact concs_cons.2 ⟨_, _, ih.1 _ _ ha, ih.2 _ _ hr, rfl⟩

def prepOpd : Operand → Option Opd
  | .tmp t => some (.r t)
  | .const v => (absC 2000 v).map .c
  | .func f => some (.c (.func (.func f) [] []))
  | .global _ => none

def RR (ν : Nu) (r : Regs) (a : Act) : Prop := ∀ t, conc ν (r t) = some (a.tmps.getD t Go.undef)

theorem prepOpd_ev {ν : Nu} {r : Regs} {ρ : Operand → Value} {x : Operand} {y : Opd} (h : prepOpd x = some y) (hr : ∀ t, x = .tmp t → conc ν (r t) = some (ρ (.tmp t)))
    (hc : ∀ v, ρ (.const v) = v) (hf : ∀ f, ρ (.func f) = .func (.func f) #[] #[]) : conc ν (y.ev r) = some (ρ x) := by
  cases x with
  | tmp t => simp only [prepOpd, Option.some.injEq] at h; subst h; exact hr t rfl
  | const v =>
    simp only [prepOpd, Option.map_eq_some_iff] at h
    obtain ⟨a, ha, rfl⟩ := h
    rw [hc]
    exact (abs_conc ν 2000).1 _ _ ha
  | func f => simp only [prepOpd, Option.some.injEq] at h; subst h; rw [hf]; rfl
  | global g => cases h

def tsize (P : Program) (t : TypeId) : Option Nat := (P.info? t).map (·.size)
def tbytes (P : Program) (t : TypeId) : Option Nat := (P.info? t).map (·.bytes)
def tagg (P : Program) (t : TypeId) : Option Bool := (P.underlying t).map fun | .struct _ | .array _ _ => true | _ => false
def tzero (P : Program) (t : TypeId) : Option AV := (P.info? t).bind fun i => i.zero.bind fun z => absC 2000 z

def prepOpds (l : List Operand) : Option (List Opd) := l.mapM prepOpd
def prepO : Option Operand → Option (Option Opd)
  | none => some none
  | some x => (prepOpd x).map some

def isConstO : Operand → Bool
  | .const _ => true
  | _ => false

/-- Parts of a struct: each field's place and size. -/
def placesS (P : Program) : List Field → Option (List (Nat × Nat))
  | [] => some []
  | f :: fs => (tsize P f.type).bind fun n => (placesS P fs).map ((f.offset, n) :: ·)

def partsAt (place : Nat → Option (Nat × Nat)) : List (Nat × Operand) → Option (List (Nat × Nat × Opd))
  | [] => some []
  | (i, x) :: ps => (place i).bind fun q => (prepOpd x).bind fun y => (partsAt place ps).map ((q.1, q.2, y) :: ·)

def intFields (P : Program) : Nat → List Field → Bool
  | _, [] => true
  | k, f :: fs => f.offset == k && f.name != "_" && (match P.underlying f.type with | some (.int _) => true | _ => false) && intFields P (k + 1) fs

/-- How values of this type are compared by 'eqV'. -/
def eqKind (P : Program) (t : TypeId) (x y : Operand) : Option EqK :=
  match P.underlying t with
  | some .bool => some .bool
  | some (.pointer _) => some .ptr
  | some (.slice _) => some .sl
  | some (.map _ _) => some .mp
  | some (.func _ _ _) => some .fn
  | some (.interface _) => if isConstO x || isConstO y then some .ifc else none
  | some (.struct fs) => if fs.size == 4 && intFields P 0 fs.toList && !P.stoodInHeld t && !P.eqGuardType P.depth t then some .st else none
  | _ => none

def prepBuiltin (P : Program) (b : Builtin) (c : Call) : Option I := do
  match b, c.argTypes.toList, c.args.toList with
  | .len, [t], [x] =>
    match ← P.underlying t with
    | .string => (prepOpd x).map (.len true)
    | .slice _ => (prepOpd x).map (.len false)
    | _ => none
  | .append, [t, u], [x, y] =>
    let .slice e ← P.underlying t | none
    let .slice _ ← P.underlying u | none
    let n ← tsize P e
    let b ← tbytes P e
    let z ← tzero P e
    if z.cells.length = n then some (.app n b (← prepOpd x) (← prepOpd y)) else none
  | .copy, [t, u], [x, y] =>
    let .slice e ← P.underlying t | none
    let .slice _ ← P.underlying u | none
    some (.copy (← tsize P e) (← prepOpd x) (← prepOpd y))
  | .clear, [t], [x] =>
    let .slice e ← P.underlying t | none
    let z ← tzero P e
    some (.clear z.cells (← prepOpd x))
  | .delete, [t, _], [x, k] =>
    let .map kt _ ← P.underlying t | none
    let .int _ ← P.underlying kt | none
    some (.del (← prepOpd x) (← prepOpd k))
  | .min, _, xs => (prepOpds xs).map .mn
  | .max, _, xs => (prepOpds xs).map .mx
  | _, _, _ => none

def prepOp (P : Program) (o : Oper) : Option I := do
  match o.op with
  | .move x | .assign x => (prepOpd x).map .mov
  | .pick c a b => some (.pick (← prepOpd c) (← prepOpd a) (← prepOpd b))
  | .alloc t => (tzero P t).map fun z => .new z.cells
  | .box _ x => (prepOpd x).map .box
  | .build t ps =>
    let z ← tzero P t
    match ← P.underlying t with
    | .struct fs => do
      let pl ← placesS P fs.toList
      some (.build z.cells (← partsAt (pl[·]?) ps.toList))
    | _ => none
  | .buildSlice t len ps =>
    let .slice e ← P.underlying t | none
    let n ← tsize P e
    let z ← tzero P e
    if len * n ≤ 65536 ∧ z.cells.length = n ∧ 0 < n then
      some (.buildSl n len (List.replicate len z.cells).flatten (← partsAt (fun i => some (i * n, n)) ps.toList))
    else none
  | .load t x => some (.load (← tsize P t) (← tagg P t) (← prepOpd x))
  | .store t x v => some (.store (← tsize P t) (← prepOpd x) (← prepOpd v))
  | .nilCheck x => (prepOpd x).map .nilck
  | .binOp op t x y _ =>
    match ← P.underlying t with
    | .int _ | .string => some (.bin op (← prepOpd x) (← prepOpd y))
    | _ =>
      let k ← eqKind P t x y
      match op with
      | .eql => some (.eqv false k (← prepOpd x) (← prepOpd y))
      | .neq => some (.eqv true k (← prepOpd x) (← prepOpd y))
      | _ => none
  | .unOp op _ x => (prepOpd x).map (.un op)
  | .convert src dst x =>
    match ← P.underlying src, ← P.underlying dst with
    | .int _, .int k => (prepOpd x).map (.cvi k)
    | .int _, .string => (prepOpd x).map .cvis
    | .string, .string => (prepOpd x).map .cvss
    | .string, .slice e => do
      let .int .u8 ← P.underlying e | none
      (prepOpd x).map .cvsb
    | .slice e, .string => do
      let .int .u8 ← P.underlying e | none
      (prepOpd x).map .cvbs
    | .slice _, .slice e => do
      let .int .u8 ← P.underlying e | none
      if src = dst then (prepOpd x).map .cvbb else none
    | _, _ => none
  | .makeInterface t x =>
    match ← P.underlying t with
    | .interface _ => none
    | _ => (prepOpd x).map (.ifc t)
  | .makeFunc fn first caps => some (.mkf fn (← prepOpds first.toList) (← prepOpds caps.toList))
  | .makeMap _ none => some .mkm
  | .makeChan t x =>
    let .chan _ e ← P.underlying t | none
    some (.mkc (← tbytes P e) (← prepOpd x))
  | .makeSlice t l c =>
    let .slice e ← P.underlying t | none
    let n ← tsize P e
    let z ← tzero P e
    if z.cells.length = n ∧ 0 < n then some (.mks n (← tbytes P e) z.cells (← prepOpd l) (← prepOpd c)) else none
  | .slice t x lo hi mx =>
    match ← P.underlying t with
    | .string => if mx.isNone then some (.sstr (← prepOpd x) (← prepO lo) (← prepO hi)) else none
    | .slice e => some (.slice (← tsize P e) (← prepOpd x) (← prepO lo) (← prepO hi) (← prepO mx))
    | _ => none
  | .fieldAddr t x f =>
    let .struct fs ← P.underlying t | none
    let f ← fs[f]?
    let n ← tsize P f.type
    if n = 0 then none else some (.faddr f.offset (← prepOpd x))
  | .field t x f =>
    let .struct fs ← P.underlying t | none
    let f ← fs[f]?
    some (.fld f.offset (← tsize P f.type) (← tagg P f.type) (← prepOpd x))
  | .indexAddr t x i =>
    match ← P.underlying t with
    | .slice e => some (.iaddr (← tsize P e) (← prepOpd x) (← prepOpd i))
    | .array n e => some (.iaddrA n (← tsize P e) (← prepOpd x) (← prepOpd i))
    | _ => none
  | .index t x i =>
    match ← P.underlying t with
    | .string => some (.idxs (← prepOpd x) (← prepOpd i))
    | _ => none
  | .lookup t x k ok =>
    let .map kt e ← P.underlying t | none
    let .int _ ← P.underlying kt | none
    some (.lkup (← tzero P e) (← prepOpd x) (← prepOpd k) ok)
  | .mapUpdate t x k v | .insert t x k v =>
    let .map kt _ ← P.underlying t | none
    let .int _ ← P.underlying kt | none
    some (.mupd (← prepOpd x) (← prepOpd k) (← prepOpd v))
  | .extract x i => (prepOpd x).map (.ext · i)
  | .call c =>
    match c.callee with
    | .value (.func f) => (prepOpds c.args.toList).map (.call f)
    | .value x => some (.callv (← prepOpd x) (← prepOpds c.args.toList))
    | .invoke x m => some (.inv (← prepOpd x) m (← prepOpds c.args.toList))
    | .builtin b => prepBuiltin P b c
  | .select cs false =>
    match cs.toList with
    | [s] => some (.sel (← prepOpd s.chan) (← prepO s.send) (← tzero P s.elem))
    | _ => none
  | _ => none

end Go.Ab
