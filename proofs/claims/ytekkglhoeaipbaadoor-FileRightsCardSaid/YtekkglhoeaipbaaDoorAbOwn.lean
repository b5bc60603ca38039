/- The abstract machine: a slice of bytes of one's own, that grows. -/
import Derived.Test.YtekkglhoeaipbaaDoorAbChg
namespace Go.Ab

/-- What stands below a number is as it was. -/
structure Keep (n : Nat) (s s' : S) : Prop where
  ctr : s.ctr ≤ s'.ctr
  get : ∀ id, id < n → s'.get id = s.get id
theorem Keep.refl (n : Nat) (s : S) : Keep n s s := ⟨Nat.le_refl _, fun _ _ => rfl⟩
theorem Keep.trans {n : Nat} {a b c : S} (h : Keep n a b) (k : Keep n b c) : Keep n a c := ⟨Nat.le_trans h.ctr k.ctr, fun id hid => by rw [k.get id hid, h.get id hid]⟩
theorem Keep.le {n m : Nat} {a b : S} (h : Keep n a b) (hm : m ≤ n) : Keep m a b := ⟨h.ctr, fun id hid => h.get id (by omega)⟩
theorem Ext.keep {n : Nat} {a b : S} (h : Ext a b) (hn : n ≤ a.ctr) : Keep n a b := ⟨h.ctr, fun id hid => h.get id (by omega)⟩
theorem Keep.ext {a b : S} (h : Keep a.ctr a b) : Ext a b := ⟨h.ctr, h.get⟩
theorem Ext.then {a b c : S} (h : Ext a b) (k : Keep a.ctr b c) : Ext a c := ⟨Nat.le_trans h.ctr k.ctr, fun id hid => by rw [k.get id hid, h.get id hid]⟩
@[simp] theorem Keep.refl_simp (n : Nat) (s : S) : Keep n s s ↔ True := ⟨fun _ => trivial, fun _ => Keep.refl n s⟩
@[simp] theorem Keep.new {n : Nat} {s s' : S} {o : AO} (hn : n ≤ s'.ctr) (h : Keep n s s') : Keep n s (s'.new o) :=
  ⟨Nat.le_succ_of_le h.ctr, fun id hid => by rw [S.get_new, if_neg (by omega)]; exact h.get id hid⟩
@[simp] theorem Keep.set {n : Nat} {s s' : S} {i : Nat} {o : Option AO} (hi : n ≤ i) (h : Keep n s s') : Keep n s (s'.set i o) :=
  ⟨h.ctr, fun id hid => by rw [S.get_set, if_neg (by omega)]; exact h.get id hid⟩

theorem Bytes.keep {n : Nat} {s s' : S} {v : AV} {x : List UInt8} (hb : Bytes s v x) (h : Keep n s s') (hv : v.inS n) : Bytes s' v x := by
  refine ⟨hb.len, ?_, ?_, hb.sort, hb.room⟩
  · have hc := hb.cells
    rcases hb.sort with rfl | ⟨za, rfl⟩ | ⟨b, o, n, c, opn, rfl⟩ | ⟨eb, eo1, eo2, est, rfl⟩
    · exact hc
    · exact hc
    · simp only [S.cellsOf, S.read] at hc ⊢
      rw [h.get b hv]
      exact hc
    · exact hc
  · have hbl := hb.below
    have := h.ctr
    rcases hb.sort with rfl | ⟨za, rfl⟩ | ⟨b, o, n, c, opn, rfl⟩ | ⟨eb, eo1, eo2, est, rfl⟩
    · trivial
    · trivial
    · exact Nat.lt_of_lt_of_le hbl this
    · trivial

/-- Bytes of one's own, in no block below a number. -/
def Own (n : Nat) (s : S) (v : AV) (l : List UInt8) : Prop :=
  (v = .snil ∧ l = []) ∨ ∃ b, v = .slice b 0 l.length 0 true ∧ s.get b = some (.cells (u8s l) 1 false) ∧ b < s.ctr ∧ n ≤ b

theorem Own.nil (n : Nat) (s : S) : Own n s .snil [] := .inl ⟨rfl, rfl⟩
theorem Own.bytes {n : Nat} {s : S} {v : AV} {l : List UInt8} (h : Own n s v l) : Bytes s v l := by
  rcases h with ⟨rfl, rfl⟩ | ⟨b, rfl, h1, h2, h3⟩
  · exact Bytes.nil s
  · exact Bytes.made h1 h2 0 true
theorem Own.since {n : Nat} {s : S} {v : AV} {l : List UInt8} (h : Own n s v l) : v.since n := by
  rcases h with ⟨rfl, rfl⟩ | ⟨b, rfl, h1, h2, h3⟩
  · trivial
  · exact h3
theorem Own.le {n m : Nat} {s : S} {v : AV} {l : List UInt8} (h : Own n s v l) (hm : m ≤ n) : Own m s v l := by
  rcases h with ⟨rfl, rfl⟩ | ⟨b, rfl, h1, h2, h3⟩
  · exact .inl ⟨rfl, rfl⟩
  · exact .inr ⟨b, rfl, h1, h2, by omega⟩
theorem Own.ext {n : Nat} {s s' : S} {v : AV} {l : List UInt8} (h : Own n s v l) (hx : Ext s s') : Own n s' v l := by
  rcases h with ⟨rfl, rfl⟩ | ⟨b, rfl, h1, h2, h3⟩
  · exact .inl ⟨rfl, rfl⟩
  · exact .inr ⟨b, rfl, by rw [hx.get b h2, h1], by have := hx.ctr; omega, h3⟩
theorem Own.made {n : Nat} {s : S} {b : Nat} {l : List UInt8} (h : s.get b = some (.cells (u8s l) 1 false)) (hb : b < s.ctr) (hn : n ≤ b) : Own n s (.slice b 0 l.length 0 true) l := .inr ⟨b, rfl, h, hb, hn⟩
theorem Own.flat {n : Nat} {s : S} {v : AV} {l : List UInt8} (h : Own n s v l) : isFlat v = true := h.bytes.flat

/-- Bytes are laid behind one's own. -/
theorem app_own {n : Nat} {s : S} {v w : AV} {l m : List UInt8} (h : Own n s v l) (hw : Bytes s w m) (hn : n ≤ s.ctr) (hl : l.length + m.length ≤ 140737488355328) : ∃ v' s', s.app 1 1 v w = some (v', s') ∧ Own n s' v' (l ++ m) ∧ Keep n s s' := by
  have h1 := hw.len
  have h2 := hw.cells
  have h3 := u8s_flat m
  have h4 := u8s_flat l
  rcases h with ⟨rfl, rfl⟩ | ⟨b, rfl, g1, g2, g3⟩
  · rw [app_copy hw (by simpa using hl)]
    by_cases he : m = []
    · subst he; rw [if_pos rfl]; exact ⟨_, _, rfl, Own.nil n s, Keep.refl n s⟩
    · rw [if_neg he]
      exact ⟨_, _, rfl, Own.made (by simp) (by simp) hn, by simp [hn]⟩
  · have hr : roomA (l.length + m.length) 1 = true := by simp [roomA]; omega
    by_cases he : m = []
    · subst he
      refine ⟨.slice b 0 l.length 0 true, s, ?_, ?_, Keep.refl n s⟩
      · simp only [S.app, Option.bind_eq_bind, h1, h2, Option.bind_some, g1]
        simp
      · rw [List.append_nil]; exact Own.made g1 g2 g3
    · have hm0 : ¬ m.length = 0 := by simpa using he
      refine ⟨.slice s.ctr 0 (l ++ m).length 0 true, (s.set b none).new (.cells (u8s (l ++ m)) 1 false), ?_, ?_, ?_⟩
      · simp only [S.app, Option.bind_eq_bind, h1, h2, Option.bind_some, g1]
        simp [hm0, hr, h3, h4, u8s_append, show ¬ (l.length + m.length ≤ l.length) by omega]
      · exact .inr ⟨s.ctr, rfl, by simp [S.get_new], by simp, hn⟩
      · exact Keep.new hn (Keep.set g3 (Keep.refl n s))

theorem cont_app_own {n : Nat} {s : S} {v w : AV} {l m : List UInt8} {Q : AV → S → Prop} (h : Own n s v l) (hw : Bytes s w m) (hn : n ≤ s.ctr) (hl : l.length + m.length ≤ 140737488355328) (hq : ∀ v' s', Own n s' v' (l ++ m) → Keep n s s' → Q v' s') : cont (s.app 1 1 v w) Q := by
  obtain ⟨v', s', h1, h2, h3⟩ := app_own h hw hn hl
  rw [h1]
  exact hq v' s' h2 h3

/-- A copy of bytes. -/
theorem cont_app_nil {n : Nat} {s : S} {w : AV} {m : List UInt8} {Q : AV → S → Prop} (hw : Bytes s w m) (hn : n ≤ s.ctr) (hl : m.length ≤ 140737488355328) (hq : ∀ v' s', Own n s' v' m → Keep n s s' → Q v' s') : cont (s.app 1 1 .snil w) Q :=
  cont_app_own (Own.nil n s) hw hn (by simpa using hl) (by simpa using hq)
/-- A slice of one's own, in no block below a number: so many elements, their cells. -/
def OwnL (sz n : Nat) (s : S) (v : AV) (k : Nat) (cs : List AV) : Prop :=
  cs.length = k * sz ∧ ((v = .snil ∧ k = 0) ∨ ∃ b, v = .slice b 0 k 0 true ∧ s.get b = some (.cells cs sz false) ∧ b < s.ctr ∧ n ≤ b)
theorem OwnL.nil (sz n : Nat) (s : S) : OwnL sz n s .snil 0 [] := ⟨by simp, .inl ⟨rfl, rfl⟩⟩
theorem OwnL.since {sz n : Nat} {s : S} {v : AV} {k : Nat} {cs : List AV} (h : OwnL sz n s v k cs) : v.since n := by
  rcases h.2 with ⟨rfl, rfl⟩ | ⟨b, rfl, h1, h2, h3⟩
  · trivial
  · exact h3
theorem OwnL.ext {sz n : Nat} {s s' : S} {v : AV} {k : Nat} {cs : List AV} (h : OwnL sz n s v k cs) (hx : Ext s s') : OwnL sz n s' v k cs := by
  refine ⟨h.1, ?_⟩
  rcases h.2 with ⟨rfl, rfl⟩ | ⟨b, rfl, h1, h2, h3⟩
  · exact .inl ⟨rfl, rfl⟩
  · exact .inr ⟨b, rfl, by rw [hx.get b h2, h1], by have := hx.ctr; omega, h3⟩
theorem OwnL.flat {sz n : Nat} {s : S} {v : AV} {k : Nat} {cs : List AV} (h : OwnL sz n s v k cs) : isFlat v = true := by
  rcases h.2 with ⟨rfl, rfl⟩ | ⟨b, rfl, h1, h2, h3⟩ <;> rfl
theorem OwnL.cells1 {sz n : Nat} {s : S} {v : AV} {k : Nat} {cs : List AV} (h : OwnL sz n s v k cs) : v.cells = [v] := by
  rcases h.2 with ⟨rfl, rfl⟩ | ⟨b, rfl, h1, h2, h3⟩ <;> rfl
theorem OwnL.len {sz n : Nat} {s : S} {v : AV} {k : Nat} {cs : List AV} (h : OwnL sz n s v k cs) : lenV v = some k := by
  rcases h.2 with ⟨rfl, rfl⟩ | ⟨b, rfl, h1, h2, h3⟩ <;> rfl
theorem OwnL.wlen {sz n : Nat} {s : S} {v : AV} {k : Nat} {cs : List AV} (hb : OwnL sz n s v k cs) : ∀ (T : Tab) (r : Regs) (s' : S) (x : Opd) (Q : AV → S → Prop), x.ev r = v → WpI T (.len false x) r s' Q = Q (.int .i64 k) s' := by
  intro T r s' x Q hx
  rcases hb.2 with ⟨rfl, rfl⟩ | ⟨b, rfl, h1, h2, h3⟩ <;> simp [hx]
/-- An element of one's own. -/
theorem OwnL.elem {sz n : Nat} {s : S} {v : AV} {k : Nat} {cs : List AV} (h : OwnL sz n s v k cs) {i : Nat} (hi : i < k) : ∃ b, v = .slice b 0 k 0 true ∧ s.read b (0 + i * sz) sz = some ((cs.drop (i * sz)).take sz) := by
  rcases h.2 with ⟨rfl, rfl⟩ | ⟨b, rfl, h1, h2, h3⟩
  · omega
  · refine ⟨b, rfl, ?_⟩
    have : (i + 1) * sz ≤ k * sz := Nat.mul_le_mul_right _ hi
    rw [Nat.add_mul, Nat.one_mul] at this
    have := h.1
    simp only [S.read, h1, Nat.zero_add]
    rw [if_pos (by omega)]

theorem cont_app_ownL {sz bytes n : Nat} {s : S} {v w : AV} {k m : Nat} {cs ds : List AV} {Q : AV → S → Prop} (h : OwnL sz n s v k cs) (hlen : lenV w = some m) (hds : s.cellsOf sz w = some ds) (hdl : ds.length = m * sz) (hfl : ds.all isFlat = true) (hfc : cs.all isFlat = true)
    (hsz : 0 < sz) (hby : 0 < bytes) (hroom : 2 * (k + m) * bytes ≤ 281474976710656) (hn : n ≤ s.ctr) (hq : ∀ v' s', OwnL sz n s' v' (k + m) (cs ++ ds) → Keep n s s' → Q v' s') : cont (s.app sz bytes v w) Q := by
  have hr : roomA (k + m) bytes = true := by simpa [roomA] using hroom
  have hcl := h.1
  rcases h.2 with ⟨rfl, rfl⟩ | ⟨b, rfl, g1, g2, g3⟩
  · have hc0 : cs = [] := List.length_eq_zero_iff.1 (by simpa using hcl)
    subst hc0
    simp only [Nat.zero_add] at hr hq
    by_cases hm : m = 0
    · subst hm
      have hd0 : ds = [] := List.length_eq_zero_iff.1 (by simpa using hdl)
      subst hd0
      simp only [S.app, Option.bind_eq_bind, hlen, hds, Option.bind_some, if_true]
      exact hq _ _ (OwnL.nil sz n s) (Keep.refl n s)
    · simp only [S.app, Option.bind_eq_bind, hlen, hds, Option.bind_some, if_neg hm]
      rw [if_pos ⟨hsz, hby, hr, hfl⟩]
      exact hq _ _ ⟨by simpa using hdl, .inr ⟨s.ctr, rfl, by simp, by simp, hn⟩⟩ (by simp [hn])
  · by_cases hm : m = 0
    · subst hm
      have hd0 : ds = [] := List.length_eq_zero_iff.1 (by simpa using hdl)
      subst hd0
      simp only [S.app, Option.bind_eq_bind, hlen, hds, Option.bind_some, g1]
      rw [if_neg (by simp; omega), if_pos trivial]
      exact hq _ _ (by simpa using h) (Keep.refl n s)
    · have hne : ¬ (k + m) * sz ≤ cs.length := by
        rw [hcl, Nat.add_mul]
        have : 0 < m * sz := Nat.mul_pos (by omega) hsz
        omega
      simp only [S.app, Option.bind_eq_bind, hlen, hds, Option.bind_some, g1]
      rw [if_neg (by omega), if_neg hm, if_neg (by simp; omega), if_pos ⟨trivial, trivial, hcl, hby, hr, by rw [List.all_append, hfc, hfl]; rfl⟩]
      refine hq _ _ ⟨by rw [List.length_append, hcl, hdl, Nat.add_mul], .inr ⟨s.ctr, rfl, by simp [S.get_new], by simp, hn⟩⟩ (Keep.new hn (Keep.set g3 (Keep.refl n s)))

/-- A byte of bytes. -/
theorem Bytes.elem {s : S} {v : AV} {l : List UInt8} (h : Bytes s v l) {i : Nat} {x : UInt8} (hi : l[i]? = some x) : ∃ b o c opn, v = .slice b o l.length c opn ∧ s.read b (o + i * 1) 1 = some [.int .u8 x.toNat] := by
  have hil := (List.getElem?_eq_some_iff.1 hi).1
  have hl := h.len
  have hc := h.cells
  rcases h.sort with rfl | ⟨za, rfl⟩ | ⟨b, o, n, c, opn, rfl⟩ | ⟨eb, eo1, eo2, est, rfl⟩ <;> simp only [lenV, Option.some.injEq] at hl
  · omega
  · omega
  · subst hl
    refine ⟨b, o, c, opn, rfl, ?_⟩
    simp only [S.cellsOf, Nat.mul_one] at hc ⊢
    unfold S.read at hc ⊢
    cases hg : s.get b with
    | none => rw [hg] at hc; cases hc
    | some ob =>
      rw [hg] at hc
      cases ob with
      | cells cs osz ro =>
        simp only at hc ⊢
        split at hc
        · rename_i hlen
          simp only [Option.some.injEq] at hc
          rw [if_pos (by omega)]
          have e : (u8s l)[i]? = some (.int .u8 x.toNat) := by simp [u8s, hi]
          rw [← hc, List.getElem?_take, if_pos hil, List.getElem?_drop] at e
          obtain ⟨q1, q2⟩ := List.getElem?_eq_some_iff.1 e
          rw [List.drop_eq_getElem_cons q1, q2]
          rfl
        · cases hc
      | _ => simp at hc
  · omega

/-- A part of bytes. -/
theorem Bytes.sub {s : S} {b o n c : Nat} {opn : Bool} {l : List UInt8} (h : Bytes s (.slice b o n c opn) l) {lo hi c2 : Nat} (h1 : lo ≤ hi) (h2 : hi ≤ l.length) (h3 : opn = true ∨ hi - lo ≤ c2) : Bytes s (.slice b (o + lo) (hi - lo) c2 opn) ((l.drop lo).take (hi - lo)) := by
  have hl := h.len
  have hc := h.cells
  simp only [lenV, Option.some.injEq] at hl
  have hle : ((l.drop lo).take (hi - lo)).length = hi - lo := by simp; omega
  refine ⟨by simp [lenV, hle], ?_, h.below, .inr (.inr (.inl ⟨_, _, _, _, _, rfl⟩)), ?_⟩
  · simp only [S.cellsOf, Nat.mul_one] at hc ⊢
    unfold S.read at hc ⊢
    cases hg : s.get b with
    | none => rw [hg] at hc; cases hc
    | some ob =>
      rw [hg] at hc
      cases ob with
      | cells cs osz ro =>
        simp only at hc ⊢
        split at hc
        · rename_i hlen
          simp only [Option.some.injEq] at hc
          rw [if_pos (by omega)]
          rw [← u8s_take, ← u8s_drop, ← hc]
          congr 1
          simp only [List.drop_take, List.drop_drop, List.take_take]
          congr 1
          omega
        · cases hc
      | _ => simp at hc
  · cases opn with
    | true => trivial
    | false => simpa [AV.roomy] using h3

theorem Bytes.empty {s : S} {b o1 o2 st : Nat} : Bytes s (.esl b o1 o2 st) [] := ⟨rfl, rfl, trivial, .inr (.inr (.inr ⟨_, _, _, _, rfl⟩)), trivial⟩

theorem Bytes.part {s : S} {v : AV} {l : List UInt8} (h : Bytes s v l) {lo hi : Nat} {k k2 : IntKind} (h1 : lo ≤ hi) (h2 : hi ≤ l.length) : ∃ u, S.slice 1 v (some (.int k (lo : Int))) (some (.int k2 (hi : Int))) none = some u ∧ Bytes s u ((l.drop lo).take (hi - lo)) ∧ (∀ n, v.inS n → u.inS n) ∧ (∀ n, v.since n → u.since n) := by
  have hl := h.len
  have i1 : (lo : Int) ≤ (hi : Int) := by omega
  rcases h.sort with rfl | ⟨za, rfl⟩ | ⟨b, o, n, c, opn, rfl⟩ | ⟨eb, eo1, eo2, est, rfl⟩
  · simp only [lenV, Option.some.injEq] at hl
    obtain rfl : hi = 0 := by omega
    obtain rfl : lo = 0 := by omega
    exact ⟨.snil, by simp [S.slice, S.slice2, asBound], by simpa using Bytes.nil s, fun _ h => h, fun _ h => h⟩
  · simp only [lenV, Option.some.injEq] at hl
    obtain rfl : hi = 0 := by omega
    obtain rfl : lo = 0 := by omega
    obtain rfl : l = [] := List.length_eq_zero_iff.1 hl.symm
    exact ⟨.zsl za, by simp [S.slice, S.slice2, asBound], by simpa using h, fun _ h => h, fun _ h => h⟩
  · simp only [lenV, Option.some.injEq] at hl
    subst hl
    cases opn with
    | false =>
      have hr := h.room
      simp only [AV.roomy] at hr
      refine ⟨_, slice_lh h1 (by omega), ?_, fun _ h => h, fun _ h => h⟩
      split
      · rename_i he
        have := h.sub (lo := 0) (hi := 0) (c2 := c - lo) (by omega) (by omega) (.inr (by omega))
        obtain rfl : hi = lo := by omega
        simpa using this
      · have := h.sub (lo := lo) (hi := hi) (c2 := c - lo) h1 h2 (.inr (by omega))
        simpa using this
    | true =>
      by_cases hlo : lo < l.length ∨ lo = 0
      · refine ⟨.slice b (o + lo * 1) (hi - lo) (c + lo) true, ?_, ?_, fun _ h => h, fun _ h => h⟩
        · have e2 : (hi : Int) ≤ (l.length : Int) := by omega
          rcases hlo with hlo | rfl
          · simp [S.slice, S.slice2, asBound, h1, h2, hlo]
          · simp [S.slice, S.slice2, asBound, h2]
        · have := h.sub (lo := lo) (hi := hi) (c2 := c + lo) h1 h2 (.inl rfl)
          simpa using this
      · obtain rfl : lo = l.length := by omega
        obtain rfl : hi = l.length := by omega
        refine ⟨.esl b o (o + l.length * 1) (c + l.length), ?_, ?_, fun _ _ => trivial, fun _ _ => trivial⟩
        · have : ¬ l = [] := by intro he; subst he; simp at hlo
          simp [S.slice, S.slice2, asBound, this]
        · simpa using Bytes.empty
  · simp only [lenV, Option.some.injEq] at hl
    obtain rfl : hi = 0 := by omega
    obtain rfl : lo = 0 := by omega
    exact ⟨.esl eb eo1 eo2 est, by simp [S.slice, S.slice2, asBound], by simpa using Bytes.empty, fun _ h => h, fun _ h => h⟩

/-- The rest of bytes. -/
theorem Bytes.rest {s : S} {v : AV} {l : List UInt8} (h : Bytes s v l) {lo : Nat} {k : IntKind} (h1 : lo ≤ l.length) : ∃ u, S.slice 1 v (some (.int k (lo : Int))) none none = some u ∧ Bytes s u (l.drop lo) ∧ (∀ n, v.inS n → u.inS n) ∧ (∀ n, v.since n → u.since n) := by
  have hl := h.len
  have ht : ((l.drop lo).take (l.length - lo)) = l.drop lo := by rw [List.take_of_length_le]; simp
  rcases h.sort with rfl | ⟨za, rfl⟩ | ⟨b, o, n, c, opn, rfl⟩ | ⟨eb, eo1, eo2, est, rfl⟩
  · simp only [lenV, Option.some.injEq] at hl
    obtain rfl : lo = 0 := by omega
    obtain rfl : l = [] := List.length_eq_zero_iff.1 hl.symm
    exact ⟨.snil, by simp [S.slice, S.slice2, asBound], by simpa using Bytes.nil s, fun _ h => h, fun _ h => h⟩
  · simp only [lenV, Option.some.injEq] at hl
    obtain rfl : lo = 0 := by omega
    obtain rfl : l = [] := List.length_eq_zero_iff.1 hl.symm
    exact ⟨.zsl za, by simp [S.slice, S.slice2, asBound], by simpa using h, fun _ h => h, fun _ h => h⟩
  · simp only [lenV, Option.some.injEq] at hl
    subst hl
    cases opn with
    | false =>
      have hr := h.room
      simp only [AV.roomy] at hr
      refine ⟨_, slice_l h1 hr, ?_, fun _ h => h, fun _ h => h⟩
      split
      · rename_i he
        have := h.sub (lo := 0) (hi := 0) (c2 := c - lo) (by omega) (by omega) (.inr (by omega))
        obtain rfl : lo = l.length := by omega
        simpa using this
      · have := h.sub (lo := lo) (hi := l.length) (c2 := c - lo) h1 (Nat.le_refl _) (.inr (by omega))
        rw [ht] at this
        simpa using this
    | true =>
      by_cases hlo : lo < l.length ∨ lo = 0
      · refine ⟨.slice b (o + lo * 1) (l.length - lo) (c + lo) true, ?_, ?_, fun _ h => h, fun _ h => h⟩
        · rcases hlo with hlo | rfl
          · simp [S.slice, S.slice2, asBound, h1, hlo]
          · simp [S.slice, S.slice2, asBound]
        · have := h.sub (lo := lo) (hi := l.length) (c2 := c + lo) h1 (Nat.le_refl _) (.inl rfl)
          rw [ht] at this
          simpa using this
      · obtain rfl : lo = l.length := by omega
        refine ⟨.esl b o (o + l.length * 1) (c + l.length), ?_, ?_, fun _ _ => trivial, fun _ _ => trivial⟩
        · have : ¬ l = [] := by intro he; subst he; simp at hlo
          simp [S.slice, S.slice2, asBound, this]
        · simpa using Bytes.empty
  · simp only [lenV, Option.some.injEq] at hl
    obtain rfl : lo = 0 := by omega
    obtain rfl : l = [] := List.length_eq_zero_iff.1 hl.symm
    exact ⟨.esl eb eo1 eo2 est, by simp [S.slice, S.slice2, asBound], by simpa using Bytes.empty, fun _ h => h, fun _ h => h⟩
end Go.Ab
