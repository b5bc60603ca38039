/- The abstract machine: values, heap, instructions, evaluator. -/
import Derived.Orders
import Derived.LoopN
import Derived.Below
namespace Go.Ab

inductive AV where
  | bool (b : Bool)
  | int (k : IntKind) (n : Int)
  | str (s : List UInt8)
  | pnil
  | ptr (b o : Nat)
  | snil
  | slice (b o len cap : Nat) (opn : Bool)
  | zsl (a : Addr)
  | esl (b o1 o2 st : Nat)
  | mnil
  | map (r : Nat)
  | cnil
  | chan (r : Nat)
  | func (fn : Fn) (first captured : List AV)
  | nilFunc
  | iface (t : TypeId) (v : AV)
  | nilIface
  | agg (cs : List AV)
  | tuple (vs : List AV)
  deriving Inhabited

inductive AO where
  | cells (c : List AV) (opn : Nat) (ro : Bool)
  | map (es : List (AV × AV))
  | chan (cap : Nat) (buf : List AV)
  deriving Inhabited

/-! ### the heap: a trie by the number's bits -/
inductive T where
  | leaf
  | node (o : Option AO) (l r : T)

def T.get : T → Nat → Option AO
  | .leaf, _ => none
  | .node o l r, i => if i = 0 then o else if i % 2 = 1 then l.get (i / 2) else r.get (i / 2 - 1)

def T.put (o : Option AO) : (fuel : Nat) → T → Nat → T
  | 0, t, _ => t
  | f + 1, .leaf, i => if i = 0 then .node o .leaf .leaf else if i % 2 = 1 then .node none (T.put o f .leaf (i / 2)) .leaf else .node none .leaf (T.put o f .leaf (i / 2 - 1))
  | f + 1, .node p l r, i => if i = 0 then .node o l r else if i % 2 = 1 then .node p (T.put o f l (i / 2)) r else .node p l (T.put o f r (i / 2 - 1))

def T.set (t : T) (i : Nat) (o : Option AO) : T := T.put o (i + 1) t i

theorem T.get_put (o : Option AO) : ∀ (f : Nat) (t : T) (i j : Nat), i < f → (T.put o f t i).get j = if j = i then o else t.get j := by
  intro f
  induction f with
  | zero => intro t i j h; omega
  | succ f ih =>
    intro t i j h
    cases t with
    | leaf =>
      simp only [T.put]
      by_cases h0 : i = 0
      · subst h0
        simp only [if_true]
        by_cases hj : j = 0
        · simp [T.get, hj]
        · simp [T.get, hj]
      · simp only [h0, if_false]
        by_cases h1 : i % 2 = 1
        · simp only [h1, if_true, T.get]
          by_cases hj : j = 0
          · subst hj; simp; omega
          · simp only [hj, if_false]
            by_cases hj1 : j % 2 = 1
            · simp only [hj1, if_true, ih .leaf (i / 2) (j / 2) (by omega), T.get]
              by_cases he : j = i
              · subst he; simp
              · rw [if_neg (by omega), if_neg he]
            · simp only [hj1, if_false]
              rw [if_neg (by rintro rfl; exact hj1 h1)]
        · simp only [h1, if_false, T.get]
          by_cases hj : j = 0
          · subst hj; simp; omega
          · simp only [hj, if_false]
            by_cases hj1 : j % 2 = 1
            · simp only [hj1, if_true]
              rw [if_neg (by rintro rfl; exact h1 hj1)]
            · simp only [hj1, if_false, ih .leaf (i / 2 - 1) (j / 2 - 1) (by omega), T.get]
              by_cases he : j = i
              · subst he; simp
              · rw [if_neg (by omega), if_neg he]
    | node p l r =>
      simp only [T.put]
      by_cases h0 : i = 0
      · subst h0
        simp only [if_true]
        by_cases hj : j = 0
        · simp [T.get, hj]
        · simp [T.get, hj]
      · simp only [h0, if_false]
        by_cases h1 : i % 2 = 1
        · simp only [h1, if_true, T.get]
          by_cases hj : j = 0
          · subst hj; simp; intro hh; omega
          · simp only [hj, if_false]
            by_cases hj1 : j % 2 = 1
            · simp only [hj1, if_true, ih l (i / 2) (j / 2) (by omega)]
              by_cases he : j = i
              · subst he; simp
              · rw [if_neg (by omega), if_neg he]
            · simp only [hj1, if_false]
              rw [if_neg (by rintro rfl; exact hj1 h1)]
        · simp only [h1, if_false, T.get]
          by_cases hj : j = 0
          · subst hj; simp; intro hh; omega
          · simp only [hj, if_false]
            by_cases hj1 : j % 2 = 1
            · simp only [hj1, if_true]
              rw [if_neg (by rintro rfl; exact h1 hj1)]
            · simp only [hj1, if_false, ih r (i / 2 - 1) (j / 2 - 1) (by omega)]
              by_cases he : j = i
              · subst he; simp
              · rw [if_neg (by omega), if_neg he]

theorem T.get_set (t : T) (i j : Nat) (o : Option AO) : (t.set i o).get j = if j = i then o else t.get j := T.get_put o (i + 1) t i j (by omega)

structure S where
  ctr : Nat
  h : T

def S.get (s : S) (i : Nat) : Option AO := s.h.get i
def S.set (s : S) (i : Nat) (o : Option AO) : S := { s with h := s.h.set i o }
def S.new (s : S) (o : AO) : S := { ctr := s.ctr + 1, h := s.h.set s.ctr (some o) }

theorem S.get_set (s : S) (i j : Nat) (o : Option AO) : (s.set i o).get j = if j = i then o else s.get j := T.get_set _ _ _ _
theorem S.get_new (s : S) (j : Nat) (o : AO) : (s.new o).get j = if j = s.ctr then some o else s.get j := T.get_set _ _ _ _
theorem S.ctr_set (s : S) (i : Nat) (o : Option AO) : (s.set i o).ctr = s.ctr := rfl
theorem S.ctr_new (s : S) (o : AO) : (s.new o).ctr = s.ctr + 1 := rfl

/-! ### instructions -/
inductive Opd where
  | r (t : Nat)
  | c (v : AV)
  deriving Inhabited

inductive EqK where
  | bool | ptr | sl | mp | fn | ifc | st
  deriving DecidableEq, Inhabited

inductive I where
  | mov (x : Opd)
  | pick (c a b : Opd)
  | new (z : List AV)
  | box (x : Opd)
  | build (z : List AV) (ps : List (Nat × Nat × Opd))
  | buildSl (sz len : Nat) (z : List AV) (ps : List (Nat × Nat × Opd))
  | load (n : Nat) (agg : Bool) (x : Opd)
  | store (n : Nat) (x v : Opd)
  | nilck (x : Opd)
  | bin (op : BinOp) (x y : Opd)
  | eqv (neg : Bool) (k : EqK) (x y : Opd)
  | un (op : UnOp) (x : Opd)
  | cvi (k : IntKind) (x : Opd)
  | cvsb (x : Opd)
  | cvbs (x : Opd)
  | cvis (x : Opd)
  | cvbb (x : Opd)
  | cvss (x : Opd)
  | ifc (t : TypeId) (x : Opd)
  | mkf (fn : Fn) (first caps : List Opd)
  | mkm
  | mkc (bytes : Nat) (x : Opd)
  | mks (sz bytes : Nat) (z : List AV) (l c : Opd)
  | slice (sz : Nat) (x : Opd) (lo hi mx : Option Opd)
  | sstr (x : Opd) (lo hi : Option Opd)
  | faddr (off : Nat) (x : Opd)
  | fld (off n : Nat) (agg : Bool) (x : Opd)
  | iaddr (sz : Nat) (x i : Opd)
  | iaddrA (len sz : Nat) (x i : Opd)
  | idxs (x i : Opd)
  | lkup (z : AV) (x k : Opd) (ok : Bool)
  | mupd (x k v : Opd)
  | ext (x : Opd) (i : Nat)
  | call (f : FuncId) (args : List Opd)
  | callv (x : Opd) (args : List Opd)
  | inv (x : Opd) (m : String) (args : List Opd)
  | len (str : Bool) (x : Opd)
  | app (sz bytes : Nat) (x y : Opd)
  | copy (sz : Nat) (x y : Opd)
  | clear (z : List AV) (x : Opd)
  | del (x k : Opd)
  | mn (xs : List Opd)
  | mx (xs : List Opd)
  | sel (x : Opd) (snd : Option Opd) (z : AV)
  deriving Inhabited

abbrev Regs := Nat → AV
def AV.undef : AV := .tuple []
def upd (r : Regs) (i : Nat) (v : AV) : Regs := fun j => if j = i then v else r j
def updO (r : Regs) (i : Option Nat) (v : AV) : Regs := match i with | some i => upd r i v | none => r
def Opd.ev (r : Regs) : Opd → AV
  | .r t => r t
  | .c v => v

def AV.cells : AV → List AV
  | .agg cs => cs
  | v => [v]

/-! the same value -/
mutual
def AV.same : AV → AV → Bool
  | .bool a, .bool b => a == b
  | .int k a, .int l b => k == l && a == b
  | .str a, .str b => a == b
  | .pnil, .pnil | .snil, .snil | .mnil, .mnil | .cnil, .cnil | .nilFunc, .nilFunc | .nilIface, .nilIface => true
  | .ptr a b, .ptr c d => a == c && b == d
  | .zsl a, .zsl b => decide (a = b)
  | .esl a b c d, .esl a' b' c' d' => a == a' && b == b' && c == c' && d == d'
  | .slice a b c d e, .slice a' b' c' d' e' => a == a' && b == b' && c == c' && d == d' && e == e'
  | .map a, .map b => a == b
  | .chan a, .chan b => a == b
  | .func f x y, .func g x' y' => decide (f = g) && AV.sames x x' && AV.sames y y'
  | .iface t v, .iface u w => t == u && AV.same v w
  | .agg a, .agg b => AV.sames a b
  | .tuple a, .tuple b => AV.sames a b
  | _, _ => false
def AV.sames : List AV → List AV → Bool
  | [], [] => true
  | a :: x, b :: y => AV.same a b && AV.sames x y
  | _, _ => false
end

mutual
theorem AV.same_eq : ∀ (a b : AV), AV.same a b = true → a = b
  | .bool a, b, h => by cases b <;> simp [AV.same] at h; rw [h]
  | .int k a, b, h => by cases b <;> simp [AV.same] at h; rw [h.1, h.2]
  | .str a, b, h => by cases b <;> simp [AV.same] at h; rw [h]
  | .pnil, b, h => by cases b <;> simp [AV.same] at h; rfl
  | .snil, b, h => by cases b <;> simp [AV.same] at h; rfl
  | .mnil, b, h => by cases b <;> simp [AV.same] at h; rfl
  | .cnil, b, h => by cases b <;> simp [AV.same] at h; rfl
  | .nilFunc, b, h => by cases b <;> simp [AV.same] at h; rfl
  | .nilIface, b, h => by cases b <;> simp [AV.same] at h; rfl
  | .ptr a c, b, h => by cases b <;> simp [AV.same] at h; rw [h.1, h.2]
  | .zsl a, b, h => by cases b <;> simp [AV.same] at h; rw [h]
  | .esl a c d e, b, h => by
    cases b <;> simp [AV.same] at h
    obtain ⟨⟨⟨h1, h2⟩, h3⟩, h4⟩ := h
    subst h1 h2 h3 h4; rfl
  | .slice a c d e f, b, h => by
    cases b <;> simp [AV.same] at h
    obtain ⟨⟨⟨⟨h1, h2⟩, h3⟩, h4⟩, h5⟩ := h
    subst h1 h2 h3 h4 h5; rfl
  | .map a, b, h => by cases b <;> simp [AV.same] at h; rw [h]
  | .chan a, b, h => by cases b <;> simp [AV.same] at h; rw [h]
  | .func f x y, b, h => by
    cases b <;> simp [AV.same] at h
    obtain ⟨⟨h1, h2⟩, h3⟩ := h
    rw [h1, AV.sames_eq _ _ h2, AV.sames_eq _ _ h3]
  | .iface t v, b, h => by
    cases b <;> simp [AV.same] at h
    rw [h.1, AV.same_eq _ _ h.2]
  | .agg a, b, h => by cases b <;> simp [AV.same] at h; rw [AV.sames_eq _ _ h]
  | .tuple a, b, h => by cases b <;> simp [AV.same] at h; rw [AV.sames_eq _ _ h]
theorem AV.sames_eq : ∀ (a b : List AV), AV.sames a b = true → a = b
  | [], [], _ => rfl
  | [], _ :: _, h => by simp [AV.sames] at h
  | _ :: _, [], h => by simp [AV.sames] at h
  | a :: x, b :: y, h => by
    simp [AV.sames] at h
    rw [AV.same_eq _ _ h.1, AV.sames_eq _ _ h.2]
end
mutual
theorem AV.same_refl : ∀ (a : AV), AV.same a a = true
  | .bool a => by simp [AV.same]
  | .int k a => by simp [AV.same]
  | .str a => by simp [AV.same]
  | .pnil | .snil | .mnil | .cnil | .nilFunc | .nilIface => by simp [AV.same]
  | .ptr a c => by simp [AV.same]
  | .zsl a => by simp [AV.same]
  | .esl a c d e => by simp [AV.same]
  | .slice a c d e f => by simp [AV.same]
  | .map a => by simp [AV.same]
  | .chan a => by simp [AV.same]
  | .func f x y => by simp [AV.same, AV.sames_refl x, AV.sames_refl y]
  | .iface t v => by simp [AV.same, AV.same_refl v]
  | .agg a => by simp [AV.same, AV.sames_refl a]
  | .tuple a => by simp [AV.same, AV.sames_refl a]
theorem AV.sames_refl : ∀ (a : List AV), AV.sames a a = true
  | [] => by simp [AV.sames]
  | a :: x => by simp [AV.sames, AV.same_refl a, AV.sames_refl x]
end

/-! ### what single instructions do -/
def binInt (op : BinOp) (k : IntKind) (a b : Int) : Option AV :=
  match op with
  | .add => some (.int k (k.wrap (a + b)))
  | .sub => some (.int k (k.wrap (a - b)))
  | .mul => some (.int k (k.wrap (a * b)))
  | .quo => if b = 0 then none else some (.int k (k.wrap (a.tdiv b)))
  | .rem => if b = 0 then none else some (.int k (a.tmod b))
  | .and => some (.int k (k.wrap (BitVec.ofInt k.bits a &&& BitVec.ofInt k.bits b).toNat))
  | .or => some (.int k (k.wrap (BitVec.ofInt k.bits a ||| BitVec.ofInt k.bits b).toNat))
  | .xor => some (.int k (k.wrap (BitVec.ofInt k.bits a ^^^ BitVec.ofInt k.bits b).toNat))
  | .andNot => some (.int k (k.wrap (BitVec.ofInt k.bits a &&& ~~~BitVec.ofInt k.bits b).toNat))
  | .eql => some (.bool (a == b))
  | .neq => some (.bool (a != b))
  | .lss => some (.bool (decide (a < b)))
  | .leq => some (.bool (decide (a ≤ b)))
  | .gtr => some (.bool (decide (a > b)))
  | .geq => some (.bool (decide (a ≥ b)))
  | _ => none

def shInt (op : BinOp) (k : IntKind) (a b : Int) : Option AV :=
  if b < 0 then none else
  match op with
  | .shl => some (.int k (k.wrap (a * 2 ^ min b.toNat k.bits)))
  | .shr => some (.int k (a.fdiv (2 ^ min b.toNat k.bits)))
  | _ => none

def binV (op : BinOp) (x y : AV) : Option AV :=
  match op, x, y with
  | .shl, .int k a, .int _ b => shInt .shl k a b
  | .shr, .int k a, .int _ b => shInt .shr k a b
  | op, .int k a, .int l b => if k = l then binInt op k a b else none
  | .eql, .str a, .str b => some (.bool (decide (a = b)))
  | .neq, .str a, .str b => some (.bool (!decide (a = b)))
  | .add, .str a, .str b => if a.length + b.length ≤ 140737488355328 then some (.str (a ++ b)) else none
  | _, _, _ => none

/-- '==' of bools, of structs of four whole numbers, of anything with nil. -/
def eqV : EqK → AV → AV → Option Bool
  | .bool, .bool a, .bool b => some (a == b)
  | .ptr, .pnil, .pnil | .sl, .snil, .snil | .mp, .mnil, .mnil | .fn, .nilFunc, .nilFunc | .ifc, .nilIface, .nilIface => some true
  | .ptr, .pnil, .ptr _ _ | .ptr, .ptr _ _, .pnil | .sl, .snil, .slice .. | .sl, .slice .., .snil | .sl, .snil, .zsl _ | .sl, .zsl _, .snil | .sl, .snil, .esl .. | .sl, .esl .., .snil | .mp, .mnil, .map _ | .mp, .map _, .mnil
  | .fn, .nilFunc, .func .. | .fn, .func .., .nilFunc | .ifc, .nilIface, .iface .. | .ifc, .iface .., .nilIface => some false
  | .st, .agg [.int k0 a0, .int k1 a1, .int k2 a2, .int k3 a3], .agg [.int l0 b0, .int l1 b1, .int l2 b2, .int l3 b3] =>
    if k0 = l0 ∧ k1 = l1 ∧ k2 = l2 ∧ k3 = l3 then some (decide (a0 = b0 ∧ a1 = b1 ∧ a2 = b2 ∧ a3 = b3)) else none
  | _, _, _ => none

/-- Cells laid over others, from a place on. -/
def over (c : List AV) (off : Nat) (v : List AV) : List AV := c.take off ++ v ++ c.drop (off + v.length)

def fillA (r : Regs) : List (Nat × Nat × Opd) → List AV → Option (List AV)
  | [], cs => some cs
  | (off, n, x) :: ps, cs =>
    let v := (x.ev r).cells
    if v.length = n ∧ off + n ≤ cs.length then fillA r ps (over cs off v) else none

def S.read (s : S) (b o n : Nat) : Option (List AV) :=
  match s.get b with
  | some (.cells c _ _) => if o + n ≤ c.length then some ((c.drop o).take n) else none
  | _ => none

def isFlat : AV → Bool
  | .agg _ | .tuple _ => false
  | _ => true

def S.write (s : S) (b o : Nat) (v : List AV) : Option S :=
  match s.get b with
  | some (.cells c opn false) => if o + v.length ≤ c.length ∧ v.all isFlat = true then some (s.set b (some (.cells (over c o v) opn false))) else none
  | _ => none

def asBound (y : Nat) : Option AV → Option (Option Nat)
  | none => some none
  | some (.int _ i) => if 0 ≤ i ∧ i ≤ y then some (some i.toNat) else none
  | _ => none

/-- The cells of a slice or the bytes of a string. -/
def S.cellsOf (s : S) (sz : Nat) : AV → Option (List AV)
  | .snil => some []
  | .zsl _ => some []
  | .esl .. => some []
  | .slice b o len _ _ => s.read b o (len * sz)
  | .str l => if sz = 1 then some (l.map fun x => .int .u8 x.toNat) else none
  | _ => none

def lenV : AV → Option Nat
  | .snil => some 0
  | .zsl _ => some 0
  | .esl .. => some 0
  | .slice _ _ n _ _ => some n
  | .str l => some l.length
  | _ => none

def bytesOf : List AV → Option (List UInt8)
  | [] => some []
  | .int .u8 n :: r => (bytesOf r).map (UInt8.ofNat n.toNat :: ·)
  | _ :: _ => none

def roomA (need bytes : Nat) : Bool := decide (2 * need * bytes ≤ 281474976710656)

def S.app (s : S) (sz bytes : Nat) (x y : AV) : Option (AV × S) := do
  let n ← lenV y
  let new ← s.cellsOf sz y
  match x with
  | .snil =>
    if n = 0 then some (.snil, s)
    else if 0 < sz ∧ 0 < bytes ∧ roomA n bytes = true ∧ new.all isFlat = true then some (.slice s.ctr 0 n 0 true, s.new (.cells new sz false)) else none
  | .zsl a =>
    if n = 0 then some (.zsl a, s)
    else if 0 < sz ∧ 0 < bytes ∧ roomA n bytes = true ∧ new.all isFlat = true then some (.slice s.ctr 0 n 0 true, s.new (.cells new sz false)) else none
  | .slice b o len cap false =>
    if n = 0 ∧ len ≤ cap then some (x, s)
    else if len + n ≤ cap then do
      let s' ← s.write b (o + len * sz) new
      some (.slice b o (len + n) cap false, s')
    else do
      let old ← s.read b o (len * sz)
      if 0 < sz ∧ 0 < bytes ∧ roomA (len + n) bytes = true ∧ (old ++ new).all isFlat = true then some (.slice s.ctr 0 (len + n) 0 true, s.new (.cells (old ++ new) sz false)) else none
  | .slice b o len st true =>
    match s.get b with
    | some (.cells c osz false) =>
      if osz ≠ sz ∨ sz = 0 then none
      else if n = 0 then some (x, s)
      else if o = st * sz ∧ o + (len + n) * sz ≤ c.length then do
        let s' ← s.write b (o + len * sz) new
        some (.slice b o (len + n) st true, s')
      else if o = 0 ∧ st = 0 ∧ c.length = len * sz ∧ 0 < bytes ∧ roomA (len + n) bytes = true ∧ (c ++ new).all isFlat = true then
        some (.slice s.ctr 0 (len + n) 0 true, (s.set b none).new (.cells (c ++ new) sz false))
      else none
    | _ => none
  | _ => none

def S.slice2 (sz : Nat) (x : AV) (lo hi : Option AV) : Option AV :=
  match x with
  | .snil => (asBound 0 hi).bind fun h => (asBound (h.getD 0) lo).bind fun _ => some .snil
  | .zsl a => (asBound 0 hi).bind fun h => (asBound (h.getD 0) lo).bind fun _ => some (.zsl a)
  | .esl b o1 o2 st => (asBound 0 hi).bind fun h => (asBound (h.getD 0) lo).bind fun _ => some (.esl b o1 o2 st)
  | .slice b o len cap false => (asBound cap hi).bind fun h => (asBound (h.getD len) lo).bind fun l =>
    if h.getD len ≤ cap then some (.slice b (if cap = l.getD 0 then o else o + l.getD 0 * sz) (h.getD len - l.getD 0) (cap - l.getD 0) false) else none
  | .slice b o len st true => (asBound len hi).bind fun h => (asBound (h.getD len) lo).bind fun l =>
    if l.getD 0 < len ∨ l.getD 0 = 0 then some (.slice b (o + l.getD 0 * sz) (h.getD len - l.getD 0) (st + l.getD 0) true) else some (.esl b o (o + l.getD 0 * sz) (st + l.getD 0))
  | _ => none

def S.slice3 (sz : Nat) (x : AV) (lo : Option AV) (hi mx : AV) : Option AV :=
  match x with
  | .snil => (asBound 0 (some mx)).bind fun m => (asBound (m.getD 0) (some hi)).bind fun h => (asBound (h.getD 0) lo).bind fun _ => some .snil
  | .zsl a => (asBound 0 (some mx)).bind fun m => (asBound (m.getD 0) (some hi)).bind fun h => (asBound (h.getD 0) lo).bind fun _ => some (.zsl a)
  | .slice b o len cap opn => (asBound (if opn then len else cap) (some mx)).bind fun m => (asBound (m.getD 0) (some hi)).bind fun h => (asBound (h.getD 0) lo).bind fun l =>
    some (.slice b (if m.getD 0 = l.getD 0 then o else o + l.getD 0 * sz) (h.getD 0 - l.getD 0) (m.getD 0 - l.getD 0) false)
  | _ => none

def S.slice (sz : Nat) (x : AV) (lo hi mx : Option AV) : Option AV :=
  match mx with
  | none => S.slice2 sz x lo hi
  | some m => match hi with
    | none => none
    | some h => S.slice3 sz x lo h m

def findA (k : AV) : List (AV × AV) → Option (Option AV)
  | [] => some none
  | (.int j a, v) :: es =>
    match k with
    | .int i b => if i = j then (if b = a then some (some v) else findA k es) else none
    | _ => none
  | _ :: _ => none

def setA (k v : AV) (b : Int) : List (AV × AV) → List (AV × AV)
  | [] => [(k, v)]
  | (.int j a, u) :: es => if b = a then (.int j a, v) :: es else (.int j a, u) :: setA k v b es
  | e :: es => e :: setA k v b es

def delA (b : Int) : List (AV × AV) → List (AV × AV)
  | [] => []
  | (.int j a, u) :: es => if b = a then es else (.int j a, u) :: delA b es
  | e :: es => e :: delA b es

def S.entries (s : S) : AV → Option (List (AV × AV))
  | .mnil => some []
  | .map m => match s.get m with | some (.map es) => some es | _ => none
  | _ => none

def minV : AV → AV → Option AV
  | .int k x, .int l y => if k = l then some (.int k (if y < x then y else x)) else none
  | _, _ => none
def maxV : AV → AV → Option AV
  | .int k x, .int l y => if k = l then some (.int k (if y > x then y else x)) else none
  | _, _ => none
def foldO (f : AV → AV → Option AV) : AV → List AV → Option AV
  | x, [] => some x
  | x, y :: r => (f x y).bind fun z => foldO f z r

/-- The environment: what a called function does; which method a dynamic type has. -/
structure Env where
  fn : FuncId → List AV → S → Option (AV × S)
  meth : TypeId → String → Option FuncId

def selA (s : S) (ch : AV) (snd : Option AV) (z : AV) : Option (AV × S) :=
  match ch with
  | .chan c =>
    match s.get c with
    | some (.chan cap buf) =>
      match snd with
      | some v => if buf.length < cap then some (.tuple [.int .i64 0, .bool false], s.set c (some (.chan cap (buf ++ [v])))) else some (.tuple [.int .i64 (-1), .bool false], s)
      | none => match buf with
        | v :: rest => some (.tuple [.int .i64 0, .bool true, v], s.set c (some (.chan cap rest)))
        | [] => some (.tuple [.int .i64 (-1), .bool false, z], s)
    | _ => none
  | _ => none

def evI (E : Env) (i : I) (r : Regs) (s : S) : Option (AV × S) :=
  match i with
  | .mov x => some (x.ev r, s)
  | .pick c a b => match c.ev r with | .bool t => some (if t then a.ev r else b.ev r, s) | _ => none
  | .new z => if z.all isFlat = true then some (.ptr s.ctr 0, s.new (.cells z 0 false)) else none
  | .box x => if (x.ev r).cells.all isFlat = true then some (.ptr s.ctr 0, s.new (.cells (x.ev r).cells 0 false)) else none
  | .build z ps => (fillA r ps z).map fun c => (.agg c, s)
  | .buildSl sz len z ps => do
    let c ← fillA r ps z
    if c.length = len * sz ∧ c.all isFlat = true then some (.slice s.ctr 0 len len false, s.new (.cells c 0 false)) else none
  | .load n agg x => match x.ev r with
    | .ptr b o => match s.read b o n with
      | some c => if agg then some (.agg c, s) else match c with | [v] => some (v, s) | _ => none
      | none => none
    | _ => none
  | .store n x v => match x.ev r with
    | .ptr b o => if (v.ev r).cells.length = n then (s.write b o (v.ev r).cells).map fun s' => (.undef, s') else none
    | _ => none
  | .nilck x => match x.ev r with
    | .ptr b o => some (.ptr b o, s)
    | .func (.func f) a b => some (.func (.func f) a b, s)
    | _ => none
  | .bin op x y => (binV op (x.ev r) (y.ev r)).map fun v => (v, s)
  | .eqv neg k x y => (eqV k (x.ev r) (y.ev r)).map fun b => (.bool (b != neg), s)
  | .un op x => match op, x.ev r with
    | .not, .bool b => some (.bool (!b), s)
    | .neg, .int k n => some (.int k (k.wrap (0 - n)), s)
    | .xor, .int k n => (binInt .xor k (if k.signed then -1 else k.max) n).map fun v => (v, s)
    | _, _ => none
  | .cvi k x => match x.ev r with | .int _ n => some (.int k (k.wrap n), s) | _ => none
  | .cvsb x => match x.ev r with
    | .str l => if l.length < 9223372036854775807 then some (.slice s.ctr 0 l.length 0 true, s.new (.cells (l.map fun b => .int .u8 b.toNat) 1 false)) else none
    | _ => none
  | .cvbs x => match x.ev r with
    | .snil => some (.str [], s)
    | .zsl _ => some (.str [], s)
    | .esl .. => some (.str [], s)
    | .slice b o n _ _ => match s.read b o n with
      | some c => (bytesOf c).map fun l => (.str l, s)
      | none => none
    | _ => none
  | .cvis x => match x.ev r with | .int _ n => some (.str (Utf8.encode n).data.toList, s) | _ => none
  | .cvss x => match x.ev r with | .str l => some (.str l, s) | _ => none
  | .cvbb x => match x.ev r with
    | .slice b o n c opn => match s.get b with
      | some (.cells _ _ false) => some (.slice b o n c opn, s)
      | _ => none
    | _ => none
  | .ifc t x => some (.iface t (x.ev r), s)
  | .mkf fn first caps => some (.func fn (first.map (·.ev r)) (caps.map (·.ev r)), s)
  | .mkm => some (.map s.ctr, s.new (.map []))
  | .mkc bytes x => match x.ev r with
    | .int .i64 n => if 0 ≤ n ∧ n ≤ 65536 ∧ bytes ≤ 65536 then some (.chan s.ctr, s.new (.chan n.toNat [])) else none
    | _ => none
  | .mks sz bytes z l c => match l.ev r, c.ev r with
    | .int .i64 l, .int .i64 c =>
      if 0 ≤ l ∧ l ≤ c ∧ bytes * c ≤ 281474976710656 ∧ c ≤ 281474976710656 ∧ z.length = sz ∧ z.all isFlat = true then
        some (.slice s.ctr 0 l.toNat c.toNat false, s.new (.cells (List.replicate c.toNat z).flatten 0 false))
      else none
    | _, _ => none
  | .slice sz x lo hi mx => (S.slice sz (x.ev r) (lo.map (·.ev r)) (hi.map (·.ev r)) (mx.map (·.ev r))).map fun v => (v, s)
  | .sstr x lo hi => match x.ev r with
    | .str l => do
      let h := (← asBound l.length (hi.map (·.ev r))).getD l.length
      let a := (← asBound h (lo.map (·.ev r))).getD 0
      some (.str ((l.take h).drop a), s)
    | _ => none
  | .faddr off x => match x.ev r with | .ptr b o => some (.ptr b (o + off), s) | _ => none
  | .fld off n agg x => match x.ev r with
    | .agg c => if off + n ≤ c.length then (if agg then some (.agg ((c.drop off).take n), s) else match c[off]? with | some v => some (v, s) | none => none) else none
    | _ => none
  | .iaddr sz x i => match x.ev r, i.ev r with
    | .slice b o len _ _, .int _ i => if 0 ≤ i ∧ i < len then some (.ptr b (o + i.toNat * sz), s) else none
    | _, _ => none
  | .iaddrA len sz x i => match x.ev r, i.ev r with
    | .ptr b o, .int _ i => if 0 ≤ i ∧ i < len then some (.ptr b (o + i.toNat * sz), s) else none
    | _, _ => none
  | .idxs x i => match x.ev r, i.ev r with
    | .str l, .int _ i => if 0 ≤ i then (l[i.toNat]?).map fun b => (.int .u8 b.toNat, s) else none
    | _, _ => none
  | .lkup z x k ok => match k.ev r with
    | .int j a =>
      match s.entries (x.ev r) with
      | some es => match findA (.int j a) es with
        | some (some v) => some (if ok then .tuple [v, .bool true] else v, s)
        | some none => some (if ok then .tuple [z, .bool false] else z, s)
        | none => none
      | none => none
    | _ => none
  | .mupd x k v => match x.ev r, k.ev r with
    | .map m, .int j a => match s.get m with
      | some (.map es) => (findA (.int j a) es).map fun _ => (.undef, s.set m (some (.map (setA (.int j a) (v.ev r) a es))))
      | _ => none
    | _, _ => none
  | .ext x i => match x.ev r with | .tuple vs => (vs[i]?).map fun v => (v, s) | _ => none
  | .call f args => E.fn f (args.map (·.ev r)) s
  | .callv x args => match x.ev r with
    | .func (.func f) first caps => E.fn f (first ++ args.map (·.ev r) ++ caps) s
    | _ => none
  | .inv x m args => match x.ev r with
    | .iface t v => match E.meth t m with | some f => E.fn f (v :: args.map (·.ev r)) s | none => none
    | _ => none
  | .len str x => match str, x.ev r with
    | false, .snil => some (.int .i64 0, s)
    | false, .zsl _ => some (.int .i64 0, s)
    | false, .esl .. => some (.int .i64 0, s)
    | false, .slice _ _ n _ _ => some (.int .i64 n, s)
    | true, .str l => some (.int .i64 l.length, s)
    | _, _ => none
  | .app sz bytes x y => s.app sz bytes (x.ev r) (y.ev r)
  | .copy sz x y => match x.ev r, lenV (y.ev r) with
    | .slice b o len _ _, some n => match s.cellsOf sz (y.ev r) with
      | some c => (s.write b o (c.take (min n len * sz))).map fun s' => (.int .i64 (min n len : Nat), s')
      | none => none
    | .snil, some n => (s.cellsOf sz (y.ev r)).map fun _ => (.int .i64 (min n 0 : Nat), s)
    | _, _ => none
  | .clear z x => match x.ev r with
    | .snil => some (.undef, s)
    | .slice b o len _ _ => if len = 0 then some (.undef, s) else (s.write b o (List.replicate len z).flatten).map fun s' => (.undef, s')
    | _ => none
  | .del x k => match x.ev r, k.ev r with
    | .map m, .int j a => match s.get m with
      | some (.map es) => (findA (.int j a) es).map fun _ => (.undef, s.set m (some (.map (delA a es))))
      | _ => none
    | _, _ => none
  | .mn xs => match xs.map (·.ev r) with | x :: rest => (foldO minV x rest).map fun v => (v, s) | [] => none
  | .mx xs => match xs.map (·.ev r) with | x :: rest => (foldO maxV x rest).map fun v => (v, s) | [] => none
  | .sel x snd z => selA s (x.ev r) (snd.map (·.ev r)) z

/-! ### regions, code, functions -/
structure PI where
  idx : Nat
  dst : Option Nat
  guard : Option (Nat × Bool)
  i : I
  chk : List (Option (Nat × Bool) × I × Nat)
  deriving Inhabited

def wantedA (g : Option (Nat × Bool)) (r : Regs) : Bool :=
  match g with
  | none => true
  | some (t, b) => match r t with | .bool c => c == b | _ => false

def evP (E : Env) (p : PI) (r : Regs) (s : S) : Option (AV × S) := if wantedA p.guard r then evI E p.i r s else some (.undef, s)

def chkA (E : Env) (r : Regs) (s : S) : List (Option (Nat × Bool) × I × Nat) → Bool
  | [] => true
  | (g, i, t) :: c => (match (if wantedA g r then evI E i r s else some (.undef, s)) with
    | some (v, _) => AV.same v (r t)
    | none => false) && chkA E r s c

abbrev R := Option (AV × S)

def evOps (E : Env) : List PI → Regs → S → (Regs → S → R) → R
  | [], r, s, k => k r s
  | p :: ps, r, s, k => match evP E p r s with
    | some (v, s') => if chkA E (updO r p.dst v) s' p.chk then evOps E ps (updO r p.dst v) s' k else none
    | none => none

inductive Ex where
  | normal | exit (id : Nat) | ret
  deriving Inhabited

inductive PC where
  | skip
  | ops (id : Nat) (l : List PI)
  | seq (a b : PC)
  | cond (c : Opd) (a b : PC)
  | block (id : Nat) (b : PC)
  | loop (b : PC)
  | exit (id : Nat)
  | ret
  deriving Inhabited

abbrev K := Ex → Regs → S → R

def loopN (body : Regs → S → K → R) : Nat → Regs → S → K → R
  | 0, _, _, _ => none
  | n + 1, r, s, k => body r s fun e r s => match e with | .normal => loopN body n r s k | e => k e r s

def evC (E : Env) (n : Nat) : PC → Regs → S → K → R
  | .skip, r, s, k => k .normal r s
  | .ops _ l, r, s, k => evOps E l r s (k .normal)
  | .seq a b, r, s, k => evC E n a r s fun e r s => match e with | .normal => evC E n b r s k | e => k e r s
  | .cond c a b, r, s, k => match c.ev r with | .bool t => if t then evC E n a r s k else evC E n b r s k | _ => none
  | .block id b, r, s, k => evC E n b r s fun e r s => match e with | .exit i => if i = id then k .normal r s else k (.exit i) r s | e => k e r s
  | .loop b, r, s, k => loopN (fun r s k => evC E n b r s k) n r s k
  | .exit id, r, s, k => k (.exit id) r s
  | .ret, r, s, k => k .ret r s

inductive PR where
  | tmp (t : Nat)
  | cell (t n : Nat) (agg : Bool)
  deriving Inhabited

structure PF where
  nargs : Nat
  ntmps : Nat
  results : List PR
  body : PC
  deriving Inhabited

def resA (r : Regs) (s : S) : List PR → Option (List AV)
  | [] => some []
  | .tmp t :: l => (resA r s l).map (r t :: ·)
  | .cell t n agg :: l => match r t with
    | .ptr b o => match s.read b o n with
      | some c => if agg then (resA r s l).map (.agg c :: ·) else match c with | [v] => (resA r s l).map (v :: ·) | _ => none
      | none => none
    | _ => none

def packA : List AV → AV
  | [v] => v
  | l => .tuple l

def finA (pf : PF) : K := fun e r s => match e with
  | .normal | .ret => (resA r s pf.results).map fun l => (packA l, s)
  | .exit _ => none

def initA (args : List AV) : Regs := fun t => args.getD t .undef

structure Tab where
  fn : FuncId → Option PF
  prim : FuncId → Option (List AV → S → Option (AV × S))
  meth : TypeId → String → Option FuncId

def evFn (T : Tab) : Nat → FuncId → List AV → S → R
  | 0, _, _, _ => none
  | n + 1, f, args, s =>
    match T.prim f with
    | some p => p args s
    | none => match T.fn f with
      | some pf => if args.length = pf.nargs then evC ⟨evFn T n, T.meth⟩ n pf.body (initA args) s (finA pf) else none
      | none => none

end Go.Ab
