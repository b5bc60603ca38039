/- The abstract machine: a block of few cells and rows behind them. -/
import Derived.Test.YtcdkkdnpphkieaaDoorAbRows
namespace Go.Ab
section
variable {α : Type} {f : α → List AV} {sz : Nat} {s : S} {b : Nat} {hd : List AV} {l : List α}
theorem hd_read (hf : ∀ x, (f x).length = sz) (hg : s.get b = some (.cells (hd ++ rowsOf f l) 0 false)) {i j : Nat} {a : α} {x : AV} (hi : l[i]? = some a) (hx : (f a)[j]? = some x) : s.read b (hd.length + i * sz + j) 1 = some [x] := by
  have hil := (List.getElem?_eq_some_iff.1 hi).1
  have hj : j < sz := by have := (List.getElem?_eq_some_iff.1 hx).1; rwa [hf] at this
  have hlen := rowsOf_length hf l
  have hle : (i + 1) * sz ≤ l.length * sz := Nat.mul_le_mul_right _ hil
  rw [Nat.add_mul, Nat.one_mul] at hle
  have hg2 := rowsOf_get hf hi hj
  rw [hx] at hg2
  simp only [S.read, hg]
  rw [if_pos (by rw [List.length_append]; omega), Nat.add_assoc, List.drop_length_add_append]
  obtain ⟨q1, q2⟩ := List.getElem?_eq_some_iff.1 hg2
  rw [List.drop_eq_getElem_cons q1, q2]
  rfl
theorem hd_write (hf : ∀ x, (f x).length = sz) (hg : s.get b = some (.cells (hd ++ rowsOf f l) 0 false)) {i j n : Nat} {a y : α} {w : List AV} (hi : l[i]? = some a) (hn : w.length = n) (hj : j + n ≤ sz) (hw : w.all isFlat = true) (hy : f y = over (f a) j w) :
    s.write b (hd.length + i * sz + j) w = some (s.set b (some (.cells (hd ++ rowsOf f (l.set i y)) 0 false))) := by
  have hil := (List.getElem?_eq_some_iff.1 hi).1
  have hlen := rowsOf_length hf l
  have hle : (i + 1) * sz ≤ l.length * sz := Nat.mul_le_mul_right _ hil
  rw [Nat.add_mul, Nat.one_mul] at hle
  have ho := rowsOf_over hf hi hn hj hy
  have h2 : over (hd ++ rowsOf f l) (hd.length + i * sz + j) w = hd ++ over (rowsOf f l) (i * sz + j) w := by
    unfold over
    rw [Nat.add_assoc, List.take_length_add_append, Nat.add_assoc, List.drop_length_add_append]
    simp only [List.append_assoc]
  unfold S.write
  simp only [hg]
  rw [if_pos ⟨by rw [List.length_append]; omega, hw⟩, h2, ho]
end
end Go.Ab
