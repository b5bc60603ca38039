/- The abstract machine: slices of one's own whose elements are rows of cells. -/
import Derived.Test.YtekkglhoeaipbaaDoorAbFoot
namespace Go.Ab

def rowsOf {α : Type} (f : α → List AV) (l : List α) : List AV := (l.map f).flatten

section
variable {α : Type} {f : α → List AV} {sz : Nat}
@[simp] theorem rowsOf_nil : rowsOf f [] = [] := rfl
theorem rowsOf_cons (a : α) (l : List α) : rowsOf f (a :: l) = f a ++ rowsOf f l := rfl
theorem rowsOf_append (a b : List α) : rowsOf f (a ++ b) = rowsOf f a ++ rowsOf f b := by simp [rowsOf]
theorem rowsOf_length (hf : ∀ x, (f x).length = sz) : ∀ l : List α, (rowsOf f l).length = l.length * sz
  | [] => by simp
  | a :: l => by
    rw [rowsOf_cons, List.length_append, rowsOf_length hf l, hf, List.length_cons, Nat.add_mul, Nat.one_mul, Nat.add_comm]
theorem rowsOf_flat (hf : ∀ x, (f x).all isFlat = true) : ∀ l : List α, (rowsOf f l).all isFlat = true
  | [] => rfl
  | a :: l => by rw [rowsOf_cons, List.all_append, hf, rowsOf_flat hf l]; rfl
theorem rowsOf_drop (hf : ∀ x, (f x).length = sz) : ∀ (l : List α) (i : Nat), (rowsOf f l).drop (i * sz) = rowsOf f (l.drop i)
  | [], i => by simp
  | a :: l, 0 => by simp
  | a :: l, i + 1 => by
    rw [rowsOf_cons, Nat.add_mul, Nat.one_mul, Nat.add_comm, ← List.drop_drop, List.drop_succ_cons, ← rowsOf_drop hf l i, List.drop_left' (hf a)]
theorem rowsOf_take (hf : ∀ x, (f x).length = sz) : ∀ (l : List α) (i : Nat), (rowsOf f l).take (i * sz) = rowsOf f (l.take i)
  | [], i => by simp
  | a :: l, 0 => by simp
  | a :: l, i + 1 => by
    rw [rowsOf_cons, Nat.add_mul, Nat.one_mul, Nat.add_comm, List.take_succ_cons, rowsOf_cons, List.take_append, hf, List.take_of_length_le (by rw [hf]; omega), Nat.add_sub_cancel_left, rowsOf_take hf l i]
theorem rowsOf_part (hf : ∀ x, (f x).length = sz) {l : List α} {i : Nat} {a : α} (hi : l[i]? = some a) : ((rowsOf f l).drop (i * sz)).take sz = f a := by
  obtain ⟨h1, h2⟩ := List.getElem?_eq_some_iff.1 hi
  rw [rowsOf_drop hf, List.drop_eq_getElem_cons h1, h2, rowsOf_cons, List.take_left' (hf a)]
theorem rowsOf_get (hf : ∀ x, (f x).length = sz) {l : List α} {i j : Nat} {a : α} (hi : l[i]? = some a) (hj : j < sz) : (rowsOf f l)[i * sz + j]? = (f a)[j]? := by
  have h := rowsOf_part hf hi
  rw [← h, List.getElem?_take, if_pos hj, List.getElem?_drop]
theorem over_mid (A m B v : List AV) (j : Nat) (hj : j + v.length ≤ m.length) : over (A ++ (m ++ B)) (A.length + j) v = A ++ (over m j v ++ B) := by
  unfold over
  rw [List.take_length_add_append, Nat.add_assoc, List.drop_length_add_append, List.take_append_of_le_length (by omega), List.drop_append_of_le_length hj]
  simp only [List.append_assoc]
theorem rowsOf_over (hf : ∀ x, (f x).length = sz) {l : List α} {i j n : Nat} {a y : α} {v : List AV} (hi : l[i]? = some a) (hv : v.length = n) (hj : j + n ≤ sz) (hy : f y = over (f a) j v) : over (rowsOf f l) (i * sz + j) v = rowsOf f (l.set i y) := by
  obtain ⟨h1, h2⟩ := List.getElem?_eq_some_iff.1 hi
  have hl : l = l.take i ++ a :: l.drop (i + 1) := by rw [← h2, ← List.drop_eq_getElem_cons h1, List.take_append_drop]
  have hs : l.set i y = l.take i ++ y :: l.drop (i + 1) := by
    rw [List.set_eq_take_append_cons_drop, if_pos h1]
  have hti : (rowsOf f (l.take i)).length = i * sz := by rw [rowsOf_length hf, List.length_take, Nat.min_eq_left (by omega)]
  rw [hs, rowsOf_append, rowsOf_cons, hy]
  conv => lhs; rw [hl, rowsOf_append, rowsOf_cons]
  rw [← hti, over_mid _ _ _ _ _ (by rw [hf]; omega)]
theorem rowsOf_over1 (hf : ∀ x, (f x).length = sz) {l : List α} {i j : Nat} {a y : α} {x : AV} (hi : l[i]? = some a) (hj : j < sz) (hy : f y = (f a).set j x) : over (rowsOf f l) (i * sz + j) [x] = rowsOf f (l.set i y) := by
  refine rowsOf_over hf hi (n := 1) rfl (by omega) ?_
  rw [hy]
  unfold over
  have : j < (f a).length := by rw [hf]; exact hj
  rw [List.set_eq_take_append_cons_drop, if_pos this]
  simp

/-- Rows of one's own. -/
def OwnR (f : α → List AV) (sz : Nat) (s : S) (v : AV) (l : List α) (F : List Nat) : Prop := OwnF sz s v l.length (rowsOf f l) F

variable {s : S} {v : AV} {l : List α} {F : List Nat}
theorem OwnR.blk (h : OwnR f sz s v l F) {i : Nat} (hi : i < l.length) : ∃ b, v = .slice b 0 l.length 0 true ∧ s.get b = some (.cells (rowsOf f l) sz false) ∧ b < s.ctr ∧ F = [b] := by
  rcases h.2 with ⟨_, h0, _⟩ | h
  · omega
  · exact h
theorem OwnR.load (h : OwnR f sz s v l F) (hf : ∀ x, (f x).length = sz) {i : Nat} {a : α} (hi : l[i]? = some a) : ∃ b, v = .slice b 0 l.length 0 true ∧ F = [b] ∧ s.read b (i * sz) sz = some (f a) ∧ ∀ j x, (f a)[j]? = some x → s.read b (i * sz + j) 1 = some [x] := by
  have hil := (List.getElem?_eq_some_iff.1 hi).1
  obtain ⟨b, rfl, hg, hb, rfl⟩ := h.blk hil
  have hlen := rowsOf_length hf l
  have hle : (i + 1) * sz ≤ l.length * sz := Nat.mul_le_mul_right _ hil
  rw [Nat.add_mul, Nat.one_mul] at hle
  refine ⟨b, rfl, rfl, ?_, fun j x hx => ?_⟩
  · simp only [S.read, hg]
    rw [if_pos (by omega), rowsOf_part hf hi]
  · have hj : j < sz := by have := (List.getElem?_eq_some_iff.1 hx).1; rwa [hf] at this
    have hg2 := rowsOf_get hf hi hj
    rw [hx] at hg2
    simp only [S.read, hg]
    rw [if_pos (by omega)]
    obtain ⟨q1, q2⟩ := List.getElem?_eq_some_iff.1 hg2
    rw [List.drop_eq_getElem_cons q1, q2]
    rfl
theorem OwnR.store (h : OwnR f sz s v l F) (hf : ∀ x, (f x).length = sz) {i j : Nat} {a y : α} {w : List AV} (hi : l[i]? = some a) (hj : j + w.length ≤ sz) (hw : w.all isFlat = true) (hy : f y = over (f a) j w) :
    ∃ b s', v = .slice b 0 l.length 0 true ∧ F = [b] ∧ s.write b (i * sz + j) w = some s' ∧ OwnR f sz s' v (l.set i y) F ∧ Chg F s s' ∧ s'.ctr = s.ctr := by
  have hil := (List.getElem?_eq_some_iff.1 hi).1
  obtain ⟨b, rfl, hg, hb, rfl⟩ := h.blk hil
  have hlen := rowsOf_length hf l
  have hle : (i + 1) * sz ≤ l.length * sz := Nat.mul_le_mul_right _ hil
  rw [Nat.add_mul, Nat.one_mul] at hle
  have ho := rowsOf_over hf hi rfl hj hy
  refine ⟨b, s.set b (some (.cells (rowsOf f (l.set i y)) sz false)), rfl, rfl, ?_, ?_, by simp, rfl⟩
  · unfold S.write
    simp only [hg]
    rw [if_pos ⟨by omega, hw⟩, ho]
  · refine ⟨rowsOf_length hf _, .inr ⟨b, by simp, ?_, hb, rfl⟩⟩
    rw [S.get_set, if_pos rfl]
end
end Go.Ab
