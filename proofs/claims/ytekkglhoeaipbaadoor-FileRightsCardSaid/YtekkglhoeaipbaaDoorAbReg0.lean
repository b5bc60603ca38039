/- The abstract machine: what instructions look at. -/
import Derived.Test.YtekkglhoeaipbaaDoorAbSel
namespace Go.Ab

def I.opds : I → List Opd
  | .mov x | .box x | .load _ _ x | .nilck x | .un _ x | .cvi _ x | .cvsb x | .cvbs x | .cvis x | .cvbb x | .cvss x | .ifc _ x | .mkc _ x | .faddr _ x | .fld _ _ _ x | .ext x _ | .len _ x | .clear _ x => [x]
  | .pick c a b => [c, a, b]
  | .new _ | .mkm => []
  | .build _ ps | .buildSl _ _ _ ps => ps.map (·.2.2)
  | .store _ x v | .bin _ x v | .eqv _ _ x v | .mks _ _ _ x v | .iaddr _ x v | .iaddrA _ _ x v | .idxs x v | .lkup _ x v _ | .app _ _ x v | .copy _ x v | .del x v => [x, v]
  | .mkf _ a b => a ++ b
  | .slice _ x a b c => [x] ++ a.toList ++ b.toList ++ c.toList
  | .sstr x a b => [x] ++ a.toList ++ b.toList
  | .mupd x k v => [x, k, v]
  | .call _ xs | .mn xs | .mx xs => xs
  | .callv x xs => x :: xs
  | .inv x _ xs => x :: xs
  | .sel x y _ => [x] ++ y.toList

def Opd.tmps : Opd → List Nat
  | .r t => [t]
  | .c _ => []

/-- Two files of registers are alike at what these operands name. -/
def Alike (l : List Opd) (r r' : Regs) : Prop := ∀ x ∈ l, x.ev r = x.ev r'

theorem Opd.ev_eq {x : Opd} {r r' : Regs} (h : ∀ t ∈ x.tmps, r t = r' t) : x.ev r = x.ev r' := by
  cases x with
  | r t => exact h t (by simp [Opd.tmps])
  | c v => rfl

theorem map_alike {l : List Opd} {r r' : Regs} (h : Alike l r r') : l.map (·.ev r) = l.map (·.ev r') := List.map_congr_left h

theorem fillA_congr {r r' : Regs} : ∀ (ps : List (Nat × Nat × Opd)) (cs : List AV), Alike (ps.map (·.2.2)) r r' → fillA r ps cs = fillA r' ps cs
  | [], cs, _ => rfl
  | (off, n, x) :: ps, cs, h => by
    have hx : x.ev r = x.ev r' := h x (by simp)
    simp only [fillA, hx]
    split
    · exact fillA_congr ps _ (fun y hy => h y (by simp at hy ⊢; exact .inr hy))
    · rfl

theorem opt_alike {x : Option Opd} {r r' : Regs} (h : Alike x.toList r r') : x.map (·.ev r) = x.map (·.ev r') := by
  cases x with
  | none => rfl
  | some x => simp [h x (by simp)]

theorem evI_congr (E : Env) (i : I) {r r' : Regs} (s : S) (h : Alike i.opds r r') : evI E i r s = evI E i r' s := by
  cases i with
  | build z ps => simp only [evI, fillA_congr ps z h]
  | buildSl sz len z ps => simp only [evI, fillA_congr ps z h]
  | mkf fn a b =>
    have h1 := map_alike (l := a) (r := r) (r' := r') (fun x hx => h x (by simp [I.opds, hx]))
    have h2 := map_alike (l := b) (r := r) (r' := r') (fun x hx => h x (by simp [I.opds, hx]))
    simp only [evI, h1, h2]
  | slice sz x a b c =>
    have h0 := h x (by simp [I.opds])
    have h1 := opt_alike (x := a) (r := r) (r' := r') (fun y hy => h y (by simp only [I.opds, List.mem_append]; exact .inl (.inl (.inr hy))))
    have h2 := opt_alike (x := b) (r := r) (r' := r') (fun y hy => h y (by simp only [I.opds, List.mem_append]; exact .inl (.inr hy)))
    have h3 := opt_alike (x := c) (r := r) (r' := r') (fun y hy => h y (by simp only [I.opds, List.mem_append]; exact .inr hy))
    simp only [evI, h0, h1, h2, h3]
  | sstr x a b =>
    have h0 := h x (by simp [I.opds])
    have h1 := opt_alike (x := a) (r := r) (r' := r') (fun y hy => h y (by simp only [I.opds, List.mem_append]; exact .inl (.inr hy)))
    have h2 := opt_alike (x := b) (r := r) (r' := r') (fun y hy => h y (by simp only [I.opds, List.mem_append]; exact .inr hy))
    simp only [evI, h0, h1, h2]
  | call f xs => simp only [evI, map_alike (l := xs) h]
  | mn xs => simp only [evI, map_alike (l := xs) h]
  | mx xs => simp only [evI, map_alike (l := xs) h]
  | callv x xs =>
    have h0 := h x (by simp [I.opds])
    have h1 := map_alike (l := xs) (r := r) (r' := r') (fun y hy => h y (by simp [I.opds, hy]))
    simp only [evI, h0, h1]
  | inv x m xs =>
    have h0 := h x (by simp [I.opds])
    have h1 := map_alike (l := xs) (r := r) (r' := r') (fun y hy => h y (by simp [I.opds, hy]))
    simp only [evI, h0, h1]
  | sel x y z =>
    have h0 := h x (by simp [I.opds])
    have h1 := opt_alike (x := y) (r := r) (r' := r') (fun u hu => h u (by simp only [I.opds, List.mem_append]; exact .inr hu))
    simp only [evI, h0, h1]
  | new z => rfl
  | mkm => rfl
  | mov x | box x | load _ _ x | nilck x | un _ x | cvi _ x | cvsb x | cvbs x | cvis x | cvbb x | cvss x | ifc _ x | mkc _ x | faddr _ x | fld _ _ _ x | ext x _ | len _ x | clear _ x =>
    have h0 := h x (by simp [I.opds])
    simp only [evI, h0]
  | pick x y z =>
    have h0 := h x (by simp [I.opds])
    have h1 := h y (by simp [I.opds])
    have h2 := h z (by simp [I.opds])
    simp only [evI, h0, h1, h2]
  | mupd x y z =>
    have h0 := h x (by simp [I.opds])
    have h1 := h y (by simp [I.opds])
    have h2 := h z (by simp [I.opds])
    simp only [evI, h0, h1, h2]
  | store _ x y | bin _ x y | eqv _ _ x y | mks _ _ _ x y | iaddr _ x y | iaddrA _ _ x y | idxs x y | lkup _ x y _ | app _ _ x y | copy _ x y | del x y =>
    have h0 := h x (by simp [I.opds])
    have h1 := h y (by simp [I.opds])
    simp only [evI, h0, h1]

/-- It may change what there was. -/
def I.eff : I → Bool
  | .store .. | .mupd .. | .call .. | .callv .. | .inv .. | .app .. | .copy .. | .clear .. | .del .. | .sel .. => true
  | _ => false
/-- It makes a new object. -/
def I.alc : I → Bool
  | .new .. | .box .. | .buildSl .. | .mkm | .mkc .. | .mks .. | .cvsb .. => true
  | _ => false
/-- It reads what there is. -/
def I.rd : I → Bool
  | .load .. | .cvbs .. | .cvbb .. | .lkup .. => true
  | _ => false

def Sub (s s' : S) : Prop := ∀ id o, s.get id = some o → s'.get id = some o

theorem read_sub {s s' : S} (h : Sub s s') {b o n : Nat} {l : List AV} (hr : s.read b o n = some l) : s'.read b o n = some l := by
  obtain ⟨c, opn, ro, hg, hle, rfl, _⟩ := read_some hr
  unfold S.read
  rw [h _ _ hg]
  simp only
  rw [if_pos hle]

theorem entries_sub {s s' : S} (h : Sub s s') {x : AV} {es : List (AV × AV)} (hr : s.entries x = some es) : s'.entries x = some es := by
  unfold S.entries at hr ⊢
  split at hr
  · exact hr
  · split at hr
    · rename_i hg
      simp only [h _ _ hg]
      exact hr
    · cases hr
  · cases hr

/-- Those that neither change nor make anything: what they give, they give in every greater state. -/
theorem quiet_ext {E : Env} {i : I} {r : Regs} {s s' : S} {v : AV} (he : i.eff = false) (ha : i.alc = false) (h : evI E i r s = some (v, s')) : s' = s ∧ ∀ s2, (i.rd = true → Sub s s2) → evI E i r s2 = some (v, s2) := by
  cases i <;> first
    | (cases he; done)
    | (cases ha; done)
    | skip
  case load n g x =>
    simp only [evI] at h ⊢
    split at h
    · rename_i b o hx
      split at h
      · rename_i c hr
        cases g with
        | true =>
          simp only [if_true, Option.some.injEq, Prod.mk.injEq] at h
          obtain ⟨rfl, rfl⟩ := h
          refine ⟨rfl, fun s2 hs => ?_⟩
          rw [read_sub (hs rfl) hr]
          rfl
        | false =>
          simp only [Bool.false_eq_true, if_false] at h
          split at h
          · simp only [Option.some.injEq, Prod.mk.injEq] at h
            obtain ⟨rfl, rfl⟩ := h
            refine ⟨rfl, fun s2 hs => ?_⟩
            rw [read_sub (hs rfl) hr]
            rfl
          · cases h
      · cases h
    · cases h
  case cvbs x =>
    simp only [evI] at h ⊢
    split at h
    · simp only [Option.some.injEq, Prod.mk.injEq] at h
      obtain ⟨rfl, rfl⟩ := h
      exact ⟨rfl, fun s2 _ => rfl⟩
    · simp only [Option.some.injEq, Prod.mk.injEq] at h
      obtain ⟨rfl, rfl⟩ := h
      exact ⟨rfl, fun s2 _ => rfl⟩
    · simp only [Option.some.injEq, Prod.mk.injEq] at h
      obtain ⟨rfl, rfl⟩ := h
      exact ⟨rfl, fun s2 _ => rfl⟩
    · split at h
      · rename_i hr
        simp only [Option.map_eq_some_iff, Prod.mk.injEq] at h
        obtain ⟨l, hl, rfl, rfl⟩ := h
        refine ⟨rfl, fun s2 hs => ?_⟩
        rw [read_sub (hs rfl) hr]
        simp [hl]
      · cases h
    · cases h
  case cvbb x =>
    simp only [evI] at h ⊢
    split at h
    · split at h
      · rename_i hg
        simp only [Option.some.injEq, Prod.mk.injEq] at h
        obtain ⟨rfl, rfl⟩ := h
        refine ⟨rfl, fun s2 hs => ?_⟩
        rw [hs rfl _ _ hg]
      · cases h
    · cases h
  case lkup z x k ok =>
    simp only [evI] at h ⊢
    split at h
    · split at h
      · rename_i es hes
        split at h
        · rename_i v1 hf
          simp only [Option.some.injEq, Prod.mk.injEq] at h
          obtain ⟨rfl, rfl⟩ := h
          refine ⟨rfl, fun s2 hs => ?_⟩
          rw [entries_sub (hs rfl) hes]
          simp [hf]
        · rename_i hf
          simp only [Option.some.injEq, Prod.mk.injEq] at h
          obtain ⟨rfl, rfl⟩ := h
          refine ⟨rfl, fun s2 hs => ?_⟩
          rw [entries_sub (hs rfl) hes]
          simp [hf]
        · cases h
      · cases h
    · cases h
  case sstr x a b =>
    simp only [evI] at h ⊢
    split at h
    · simp only [Option.bind_eq_bind, Option.bind_eq_some_iff, Option.some.injEq, Prod.mk.injEq] at h ⊢
      obtain ⟨p, hp, q, hq, rfl, rfl⟩ := h
      exact ⟨rfl, fun s2 _ => ⟨p, hp, q, hq, rfl, trivial⟩⟩
    · cases h
  case fld o n g x =>
    simp only [evI] at h ⊢
    split at h
    · split at h
      · rename_i hle
        cases g with
        | true =>
          simp only [if_true, Option.some.injEq, Prod.mk.injEq] at h
          obtain ⟨rfl, rfl⟩ := h
          exact ⟨rfl, fun s2 _ => by simp [hle]⟩
        | false =>
          simp only [Bool.false_eq_true, if_false] at h
          split at h
          · rename_i hx
            simp only [Option.some.injEq, Prod.mk.injEq] at h
            obtain ⟨rfl, rfl⟩ := h
            exact ⟨rfl, fun s2 _ => by simp [hle, hx]⟩
          · cases h
      · cases h
    · cases h
  all_goals
    simp only [evI] at h ⊢
    first
      | (simp only [Option.some.injEq, Prod.mk.injEq] at h; obtain ⟨rfl, rfl⟩ := h; exact ⟨rfl, fun _ _ => rfl⟩)
      | (simp only [Option.map_eq_some_iff, Prod.mk.injEq] at h; obtain ⟨x, hx, rfl, rfl⟩ := h; exact ⟨rfl, fun _ _ => by simp [hx]⟩)
      | (split at h <;> first | (cases h; done) | (simp only [Option.some.injEq, Prod.mk.injEq] at h; obtain ⟨rfl, rfl⟩ := h; refine ⟨rfl, fun _ _ => ?_⟩; simp_all; done) | (simp only [Option.map_eq_some_iff, Prod.mk.injEq] at h; obtain ⟨x, hx, rfl, rfl⟩ := h; refine ⟨rfl, fun _ _ => ?_⟩; simp_all; done) | (split at h <;> first | (cases h; done) | (simp only [Option.some.injEq, Prod.mk.injEq] at h; obtain ⟨rfl, rfl⟩ := h; refine ⟨rfl, fun _ _ => ?_⟩; simp_all; done) | (simp only [Option.map_eq_some_iff, Prod.mk.injEq] at h; obtain ⟨x, hx, rfl, rfl⟩ := h; refine ⟨rfl, fun _ _ => ?_⟩; simp_all; done) | (split at h <;> first | (cases h; done) | (simp only [Option.some.injEq, Prod.mk.injEq] at h; obtain ⟨rfl, rfl⟩ := h; refine ⟨rfl, fun _ _ => ?_⟩; simp_all; done))))
      | skip

/-- What a made thing is called. -/
inductive MkForm : (Nat → AV) → Prop where
  | ptr : MkForm fun id => .ptr id 0
  | slice (l c : Nat) (opn : Bool) : MkForm fun id => .slice id 0 l c opn
  | map : MkForm .map
  | chan : MkForm .chan

theorem MkForm.conc_eq {mk : Nat → AV} (h : MkForm mk) {ν ν' : Nu} {i j : Nat} (e : ν i = ν' j) : conc ν (mk i) = conc ν' (mk j) := by
  cases h with
  | ptr => simp [conc, e]
  | slice l c opn => cases opn <;> simp [conc, e]
  | map => simp [conc, e]
  | chan => simp [conc, e]

theorem alc_form {E : Env} {i : I} {r : Regs} {s s' : S} {v : AV} (ha : i.alc = true) (h : evI E i r s = some (v, s')) : ∃ mk obj, MkForm mk ∧ obj.rw = true ∧ v = mk s.ctr ∧ s' = s.new obj ∧ ∀ s2, evI E i r s2 = some (mk s2.ctr, s2.new obj) := by
  cases i <;> first | (cases ha; done) | skip
  case new z =>
    simp only [evI] at h
    split at h
    · rename_i hc
      simp only [Option.some.injEq, Prod.mk.injEq] at h
      obtain ⟨rfl, rfl⟩ := h
      exact ⟨_, _, .ptr, rfl, rfl, rfl, fun s2 => by simp only [evI]; rw [if_pos hc]⟩
    · cases h
  case box x =>
    simp only [evI] at h
    split at h
    · rename_i hc
      simp only [Option.some.injEq, Prod.mk.injEq] at h
      obtain ⟨rfl, rfl⟩ := h
      exact ⟨_, _, .ptr, rfl, rfl, rfl, fun s2 => by simp only [evI]; rw [if_pos hc]⟩
    · cases h
  case buildSl sz len z ps =>
    simp only [evI, Option.bind_eq_bind, Option.bind_eq_some_iff] at h
    obtain ⟨c, hc, h⟩ := h
    split at h
    · rename_i hc2
      simp only [Option.some.injEq, Prod.mk.injEq] at h
      obtain ⟨rfl, rfl⟩ := h
      exact ⟨_, _, .slice len len false, rfl, rfl, rfl, fun s2 => by simp only [evI, Option.bind_eq_bind, hc, Option.bind_some]; rw [if_pos hc2]⟩
    · cases h
  case cvsb x =>
    simp only [evI] at h
    split at h
    · rename_i l hx
      split at h
      · rename_i hc
        simp only [Option.some.injEq, Prod.mk.injEq] at h
        obtain ⟨rfl, rfl⟩ := h
        exact ⟨_, _, .slice l.length 0 true, rfl, rfl, rfl, fun s2 => by simp only [evI, hx]; rw [if_pos hc]⟩
      · cases h
    · cases h
  case mkm =>
    simp only [evI, Option.some.injEq, Prod.mk.injEq] at h
    obtain ⟨rfl, rfl⟩ := h
    exact ⟨_, _, .map, rfl, rfl, rfl, fun s2 => rfl⟩
  case mkc b x =>
    simp only [evI] at h
    split at h
    · rename_i n hx
      split at h
      · rename_i hc
        simp only [Option.some.injEq, Prod.mk.injEq] at h
        obtain ⟨rfl, rfl⟩ := h
        exact ⟨_, _, .chan, rfl, rfl, rfl, fun s2 => by simp only [evI, hx]; rw [if_pos hc]⟩
      · cases h
    · cases h
  case mks sz b z l c =>
    simp only [evI] at h
    split at h
    · rename_i n1 n2 hl hcx
      split at h
      · rename_i hc
        simp only [Option.some.injEq, Prod.mk.injEq] at h
        obtain ⟨rfl, rfl⟩ := h
        exact ⟨_, _, .slice n1.toNat n2.toNat false, rfl, rfl, rfl, fun s2 => by simp only [evI, hl, hcx]; rw [if_pos hc]⟩
      · cases h
    · cases h
end Go.Ab
