/- The abstract machine: a map from numbers to things that are never changed. -/
import Derived.Test.YtekkglhoeaipbaaDoorAbRows
namespace Go.Ab

/-- A list as a map. -/
def lkL {α : Type} (k : Int) : List (Int × α) → Option α
  | [] => none
  | (j, a) :: r => if k = j then some a else lkL k r
def setL {α : Type} (k : Int) (a : α) : List (Int × α) → List (Int × α)
  | [] => [(k, a)]
  | (j, b) :: r => if k = j then (j, a) :: r else (j, b) :: setL k a r
def delL {α : Type} (k : Int) : List (Int × α) → List (Int × α)
  | [] => []
  | (j, b) :: r => if k = j then r else (j, b) :: delL k r

/-- The blocks that a value stands in. -/
def AV.inF (v : AV) (F : List Nat) : Prop := match v with
  | .ptr b _ | .slice b _ _ _ _ | .map b | .chan b => b ∈ F
  | _ => True
theorem AV.inF.out {v : AV} {F l : List Nat} (h : v.inF F) (hd : Apart F l) : v.out l := by
  cases v <;> first | trivial | exact hd _ h
theorem AV.inF.mono {v : AV} {F G : List Nat} (h : v.inF F) (hs : ∀ y ∈ F, y ∈ G) : v.inF G := by
  cases v <;> first | trivial | exact hs _ h

/-- Entries whose values are things, in blocks of a list. -/
def Ents {α : Type} (R : S → AV → α → Prop) (s : S) (F : List Nat) : List (AV × AV) → List (Int × α) → Prop
  | [], [] => True
  | (k, v) :: es, (i, l) :: fs => k = .int .i64 i ∧ R s v l ∧ v.inF F ∧ Ents R s F es fs
  | _, _ => False

section
variable {α : Type} {R : S → AV → α → Prop}
theorem Ents.chg {s s' : S} {F m : List Nat} (hR : ∀ {v : AV} {a : α}, R s v a → v.out m → R s' v a) (hd : Apart F m) : ∀ {es : List (AV × AV)} {fs : List (Int × α)}, Ents R s F es fs → Ents R s' F es fs
  | [], [], _ => trivial
  | (_, _) :: _, (_, _) :: _, ⟨h1, h2, h3, h4⟩ => ⟨h1, hR h2 (h3.out hd), h3, Ents.chg hR hd h4⟩
  | [], _ :: _, h => h.elim
  | _ :: _, [], h => h.elim
theorem Ents.mono {s : S} {F G : List Nat} (hs : ∀ y ∈ F, y ∈ G) : ∀ {es : List (AV × AV)} {fs : List (Int × α)}, Ents R s F es fs → Ents R s G es fs
  | [], [], _ => trivial
  | (_, _) :: _, (_, _) :: _, ⟨h1, h2, h3, h4⟩ => ⟨h1, h2, h3.mono hs, Ents.mono hs h4⟩
  | [], _ :: _, h => h.elim
  | _ :: _, [], h => h.elim
theorem Ents.find {s : S} {F : List Nat} (k : Int) : ∀ {es : List (AV × AV)} {fs : List (Int × α)}, Ents R s F es fs →
    (findA (.int .i64 k) es = some none ∧ lkL k fs = none) ∨ ∃ v l, findA (.int .i64 k) es = some (some v) ∧ lkL k fs = some l ∧ R s v l ∧ v.inF F
  | [], [], _ => .inl ⟨rfl, rfl⟩
  | (_, v) :: es, (i, l) :: fs, ⟨h1, h2, h3, h4⟩ => by
    subst h1
    by_cases hk : k = i
    · subst hk
      right
      exact ⟨v, l, by simp [findA], by simp [lkL], h2, h3⟩
    · rcases Ents.find k h4 with ⟨q1, q2⟩ | ⟨u, m, q1, q2, q3⟩
      · left; exact ⟨by simp [findA, hk, q1], by simp [lkL, hk, q2]⟩
      · right; exact ⟨u, m, by simp [findA, hk, q1], by simp [lkL, hk, q2], q3⟩
  | [], _ :: _, h => h.elim
  | _ :: _, [], h => h.elim
theorem Ents.found {s : S} {F : List Nat} (k : Int) {es : List (AV × AV)} {fs : List (Int × α)} (h : Ents R s F es fs) : ∃ r, findA (.int .i64 k) es = some r := by
  rcases h.find k with ⟨q, _⟩ | ⟨v, l, q, _⟩ <;> exact ⟨_, q⟩
theorem Ents.set {s : S} {F : List Nat} (k : Int) {v : AV} {l : α} (hv : R s v l) (hi : v.inF F) : ∀ {es : List (AV × AV)} {fs : List (Int × α)}, Ents R s F es fs → Ents R s F (setA (.int .i64 k) v k es) (setL k l fs)
  | [], [], _ => ⟨rfl, hv, hi, trivial⟩
  | (_, u) :: es, (i, m) :: fs, ⟨h1, h2, h3, h4⟩ => by
    subst h1
    by_cases hk : k = i
    · subst hk
      simp only [setA, setL, if_true]
      exact ⟨rfl, hv, hi, h4⟩
    · simp only [setA, setL, if_neg hk]
      exact ⟨rfl, h2, h3, Ents.set k hv hi h4⟩
  | [], _ :: _, h => h.elim
  | _ :: _, [], h => h.elim
theorem Ents.del {s : S} {F : List Nat} (k : Int) : ∀ {es : List (AV × AV)} {fs : List (Int × α)}, Ents R s F es fs → Ents R s F (delA k es) (delL k fs)
  | [], [], _ => trivial
  | (_, u) :: es, (i, m) :: fs, ⟨h1, h2, h3, h4⟩ => by
    subst h1
    by_cases hk : k = i
    · subst hk
      simp only [delA, delL, if_true]
      exact h4
    · simp only [delA, delL, if_neg hk]
      exact ⟨rfl, h2, h3, Ents.del k h4⟩
  | [], _ :: _, h => h.elim
  | _ :: _, [], h => h.elim
end
theorem lkL_set {α : Type} (k : Int) (a : α) : ∀ l : List (Int × α), lkL k (setL k a l) = some a
  | [] => by simp [setL, lkL]
  | (j, b) :: r => by
    by_cases h : k = j
    · subst h; simp [setL, lkL]
    · simp [setL, lkL, h, lkL_set k a r]
theorem lkL_set_ne {α : Type} {k i : Int} (h : i ≠ k) (a : α) : ∀ l : List (Int × α), lkL i (setL k a l) = lkL i l
  | [] => by simp [setL, lkL, h]
  | (j, b) :: r => by
    by_cases hk : k = j
    · subst hk; simp [setL, lkL, h]
    · by_cases hi : i = j
      · simp [setL, lkL, hk, hi]
      · simp [setL, lkL, hk, hi, lkL_set_ne h a r]
end Go.Ab
