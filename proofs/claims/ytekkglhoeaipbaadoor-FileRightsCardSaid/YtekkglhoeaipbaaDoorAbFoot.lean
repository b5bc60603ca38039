/- The abstract machine: things in memory and the blocks that they stand in. -/
import Derived.Test.YtekkglhoeaipbaaDoorAbOwn
namespace Go.Ab

/-- Blocks that there were, or new ones. -/
def Grow (f f' : List Nat) (c : Nat) : Prop := ∀ x ∈ f', x ∈ f ∨ c ≤ x
theorem Grow.refl (f : List Nat) (c : Nat) : Grow f f c := fun _ h => .inl h
theorem Grow.trans {f g h : List Nat} {c d : Nat} (h1 : Grow f g c) (h2 : Grow g h d) (hc : c ≤ d) : Grow f h c := fun x hx => by
  rcases h2 x hx with h | h
  · exact h1 x h
  · exact .inr (by omega)
def Apart (f g : List Nat) : Prop := ∀ x ∈ f, x ∉ g
theorem Apart.symm {f g : List Nat} (h : Apart f g) : Apart g f := fun x hx hf => h x hf hx
theorem Apart.grow {f f' g : List Nat} {c : Nat} (h : Apart f g) (hg : Grow f f' c) (hl : ∀ x ∈ g, x < c) : Apart f' g := fun x hx hxg => by
  rcases hg x hx with h1 | h1
  · exact h x h1 hxg
  · have := hl x hxg; omega

theorem Chg.sub {l m : List Nat} {a b : S} (h : Chg l a b) (hm : ∀ x ∈ l, x ∈ m) : Chg m a b := h.mono hm
/-- First these blocks, then those and new ones. -/
theorem Chg.comp {l m : List Nat} {a b c : S} (h : Chg l a b) (k : Chg m b c) (hm : ∀ x ∈ m, x ∈ l ∨ a.ctr ≤ x) : Chg l a c :=
  ⟨Nat.le_trans h.ctr k.ctr, fun id hid hn => by
    rw [k.get id (Nat.lt_of_lt_of_le hid h.ctr) (fun hx => by rcases hm id hx with h1 | h1; exact hn h1; omega), h.get id hid hn]⟩
theorem Chg.ext0 {a b : S} (h : Chg [] a b) : Ext a b := ⟨h.ctr, fun id hid => h.get id hid (by simp)⟩

/-- A slice of one's own and its block. -/
def OwnF (sz : Nat) (s : S) (v : AV) (k : Nat) (cs : List AV) (f : List Nat) : Prop :=
  cs.length = k * sz ∧ ((v = .snil ∧ k = 0 ∧ f = []) ∨ ∃ b, v = .slice b 0 k 0 true ∧ s.get b = some (.cells cs sz false) ∧ b < s.ctr ∧ f = [b])
theorem OwnF.nil (sz : Nat) (s : S) : OwnF sz s .snil 0 [] [] := ⟨by simp, .inl ⟨rfl, rfl, rfl⟩⟩
section
variable {sz : Nat} {s s' : S} {v : AV} {k : Nat} {cs : List AV} {f : List Nat}
theorem OwnF.lt (h : OwnF sz s v k cs f) : ∀ x ∈ f, x < s.ctr := by
  rcases h.2 with ⟨_, _, rfl⟩ | ⟨b, _, _, h2, rfl⟩
  · simp
  · simpa using h2
theorem OwnF.chg {l : List Nat} (h : OwnF sz s v k cs f) (hc : Chg l s s') (hd : Apart f l) : OwnF sz s' v k cs f := by
  refine ⟨h.1, ?_⟩
  rcases h.2 with ⟨rfl, rfl, rfl⟩ | ⟨b, rfl, h1, h2, rfl⟩
  · exact .inl ⟨rfl, rfl, rfl⟩
  · exact .inr ⟨b, rfl, by rw [hc.get b h2 (hd b (by simp)), h1], by have := hc.ctr; omega, rfl⟩
theorem OwnF.ext (h : OwnF sz s v k cs f) (hx : Ext s s') : OwnF sz s' v k cs f := h.chg (hx.chg []) (fun _ _ => by simp)
theorem OwnF.flat (h : OwnF sz s v k cs f) : isFlat v = true := by
  rcases h.2 with ⟨rfl, _⟩ | ⟨b, rfl, _⟩ <;> rfl
theorem OwnF.cells1 (h : OwnF sz s v k cs f) : v.cells = [v] := by
  rcases h.2 with ⟨rfl, _⟩ | ⟨b, rfl, _⟩ <;> rfl
theorem OwnF.wlen (hb : OwnF sz s v k cs f) : ∀ (T : Tab) (r : Regs) (s' : S) (x : Opd) (Q : AV → S → Prop), x.ev r = v → WpI T (.len false x) r s' Q = Q (.int .i64 k) s' := by
  intro T r s' x Q hx
  rcases hb.2 with ⟨rfl, rfl, _⟩ | ⟨b, rfl, _⟩ <;> simp [hx]
/-- An element. -/
theorem OwnF.elem (h : OwnF sz s v k cs f) {i : Nat} (hi : i < k) : ∃ b, v = .slice b 0 k 0 true ∧ s.read b (0 + i * sz) sz = some ((cs.drop (i * sz)).take sz) := by
  rcases h.2 with ⟨rfl, rfl, _⟩ | ⟨b, rfl, h1, h2, _⟩
  · omega
  · refine ⟨b, rfl, ?_⟩
    have : (i + 1) * sz ≤ k * sz := Nat.mul_le_mul_right _ hi
    rw [Nat.add_mul, Nat.one_mul] at this
    have := h.1
    simp only [S.read, h1, Nat.zero_add]
    rw [if_pos (by omega)]
/-- A block of another sort is not its block. -/
theorem OwnF.other (h : OwnF sz s v k cs f) {i : Nat} {c : List AV} {osz : Nat} {ro : Bool} (hi : s.get i = some (.cells c osz ro)) (hne : osz ≠ sz) : i ∉ f := by
  rcases h.2 with ⟨rfl, rfl, rfl⟩ | ⟨b, rfl, h1, h2, rfl⟩
  · simp
  · simp only [List.mem_cons, List.not_mem_nil, or_false]
    rintro rfl
    rw [h1] at hi
    simp at hi
    exact hne hi.2.1.symm

theorem cont_app_ownF {bytes : Nat} {w : AV} {m : Nat} {ds : List AV} {Q : AV → S → Prop} (h : OwnF sz s v k cs f) (hlen : lenV w = some m) (hds : s.cellsOf sz w = some ds) (hdl : ds.length = m * sz) (hfl : ds.all isFlat = true) (hfc : cs.all isFlat = true)
    (hsz : 0 < sz) (hby : 0 < bytes) (hroom : 2 * (k + m) * bytes ≤ 281474976710656) (hq : ∀ v' s' f', OwnF sz s' v' (k + m) (cs ++ ds) f' → Chg f s s' → Grow f f' s.ctr → Q v' s') : cont (s.app sz bytes v w) Q := by
  have hr : roomA (k + m) bytes = true := by simpa [roomA] using hroom
  have hcl := h.1
  rcases h.2 with ⟨rfl, rfl, rfl⟩ | ⟨b, rfl, g1, g2, rfl⟩
  · have hc0 : cs = [] := List.length_eq_zero_iff.1 (by simpa using hcl)
    subst hc0
    simp only [Nat.zero_add] at hr hq
    by_cases hm : m = 0
    · subst hm
      have hd0 : ds = [] := List.length_eq_zero_iff.1 (by simpa using hdl)
      subst hd0
      simp only [S.app, Option.bind_eq_bind, hlen, hds, Option.bind_some, if_true]
      exact hq _ _ _ (OwnF.nil sz s) (Chg.refl _ s) (Grow.refl _ _)
    · simp only [S.app, Option.bind_eq_bind, hlen, hds, Option.bind_some, if_neg hm]
      rw [if_pos ⟨hsz, hby, hr, hfl⟩]
      exact hq _ _ [s.ctr] ⟨by simpa using hdl, .inr ⟨s.ctr, rfl, by simp, by simp, rfl⟩⟩ (by simp) (fun x hx => .inr (by simp at hx; omega))
  · by_cases hm : m = 0
    · subst hm
      have hd0 : ds = [] := List.length_eq_zero_iff.1 (by simpa using hdl)
      subst hd0
      simp only [S.app, Option.bind_eq_bind, hlen, hds, Option.bind_some, g1]
      rw [if_neg (by simp; omega), if_pos trivial]
      exact hq _ _ _ (by simpa using h) (Chg.refl _ s) (Grow.refl _ _)
    · have hne : ¬ (k + m) * sz ≤ cs.length := by
        rw [hcl, Nat.add_mul]
        have : 0 < m * sz := Nat.mul_pos (by omega) hsz
        omega
      simp only [S.app, Option.bind_eq_bind, hlen, hds, Option.bind_some, g1]
      rw [if_neg (by omega), if_neg hm, if_neg (by simp; omega), if_pos ⟨trivial, trivial, hcl, hby, hr, by rw [List.all_append, hfc, hfl]; rfl⟩]
      refine hq _ _ [s.ctr] ⟨by rw [List.length_append, hcl, hdl, Nat.add_mul], .inr ⟨s.ctr, rfl, by simp [S.get_new], by simp, rfl⟩⟩ ?_ (fun x hx => .inr (by simp at hx; omega))
      exact Chg.new (Chg.set (.inr (by simp)) (Chg.refl _ s))
end
end Go.Ab
