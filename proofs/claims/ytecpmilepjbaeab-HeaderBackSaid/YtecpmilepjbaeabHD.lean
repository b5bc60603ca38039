/- A message of its bytes: the plain law. -/
import Derived.Test.YtecpmilepjbaeabH3
namespace Go.Ab

/-- The message of bytes. -/
def Ms.of (l : List UInt8) : Ms := ⟨num (l.take 6), num ((l.drop 6).take 6), num ((l.drop 12).take 4), num ((l.drop 16).take 2), num ((l.drop 18).take 2), num ((l.drop 20).take 6), num ((l.drop 26).take 3), num ((l.drop 29).take 1), num ((l.drop 30).take 6), num ((l.drop 36).take 8), l.drop 46⟩

theorem num_take_lt (l : List UInt8) (n : Nat) : num (l.take n) < 256 ^ n :=
  Nat.lt_of_lt_of_le (num_lt _) (Nat.pow_le_pow_right (by decide) (by simp; omega))

theorem Ms.of_bytes {m : Ms} (hf : m.fit) (hm : m.may = true) : Ms.of m.bytes = m := by
  obtain ⟨f1, f2, f3, f4, f5, f6, f7, f8, f9, f10, f11⟩ := hf
  simp only [Ms.may, capMay_iff, Bool.and_eq_true, decide_eq_true_eq] at hm
  obtain ⟨⟨⟨m1, m2⟩, ⟨m3, m4⟩, m5⟩, m6⟩ := hm
  have e : ∀ (n v : Nat), v < 256 ^ n → num (be n v) = v := fun n v h => by rw [num_be, Nat.mod_eq_of_lt h]
  cases m
  simp only at m1 m2 m3 m4 m5 f3 f4 f5 f8 f10
  simp only [Ms.of, Ms.bytes, Ms.mk.injEq]
  refine ⟨?_, ?_, ?_, ?_, ?_, ?_, ?_, ?_, ?_, ?_, ?_⟩
  · simp [List.take_append, List.drop_append]; exact e 6 _ m1
  · simp [List.take_append, List.drop_append]; exact e 6 _ m2
  · simp [List.take_append, List.drop_append]; exact e 4 _ f3
  · simp [List.take_append, List.drop_append]; exact e 2 _ f4
  · simp [List.take_append, List.drop_append]; exact e 2 _ f5
  · simp [List.take_append, List.drop_append]; exact e 6 _ m3
  · simp [List.take_append, List.drop_append]; exact e 3 _ m4
  · simp [List.take_append, List.drop_append]; exact e 1 _ f8
  · simp [List.take_append, List.drop_append]; exact e 6 _ m5
  · simp [List.take_append, List.drop_append]; exact e 8 _ f10
  · simp [List.drop_append, List.drop_eq_nil_of_le]

theorem be_take (l : List UInt8) (n : Nat) (h : n ≤ l.length) : be n (num (l.take n)) = l.take n := by
  have := be_num (l.take n)
  rwa [List.length_take, Nat.min_eq_left h] at this

theorem Ms.bytes_of {l : List UInt8} {n : Nat} (hn : n = num ((l.drop 44).take 2)) (hl : l.length = 46 + n) : (Ms.of l).bytes = l := by
  have b : ∀ a k, a + k ≤ l.length → be k (num ((l.drop a).take k)) = (l.drop a).take k := fun a k h => be_take _ _ (by simp; omega)
  have h1 : be 6 (num (l.take 6)) = l.take 6 := be_take _ _ (by omega)
  have h2 : be 2 (l.drop 46).length = (l.drop 44).take 2 := by
    rw [← b 44 2 (by omega), ← hn]
    congr 1
    simp; omega
  simp only [Ms.bytes, Ms.of]
  rw [h1, b 6 6 (by omega), b 12 4 (by omega), b 16 2 (by omega), b 18 2 (by omega), b 20 6 (by omega), b 26 3 (by omega), b 29 1 (by omega), b 30 6 (by omega), b 36 8 (by omega), h2]
  have join : ∀ a k (r : List UInt8), r = l.drop (a + k) → (l.drop a).take k ++ r = l.drop a := by
    intro a k r hr
    rw [hr, ← List.drop_drop, List.take_append_drop]
  simp only [List.append_assoc]
  rw [join 44 2 _ rfl, join 36 8 _ rfl, join 30 6 _ rfl, join 29 1 _ rfl, join 26 3 _ rfl, join 20 6 _ rfl, join 18 2 _ rfl, join 16 2 _ rfl, join 12 4 _ rfl, join 6 6 _ rfl, List.take_append_drop]

theorem Ms.of_may {l : List UInt8} {n : Nat} (hn : n = num ((l.drop 44).take 2)) (hl : l.length = 46 + n) (h4 : n ≤ 4096) : (Ms.of l).may = true := by
  simp only [Ms.may, Ms.of, capMay_iff, Bool.and_eq_true, decide_eq_true_eq]
  refine ⟨⟨⟨?_, ?_⟩, ⟨?_, ?_⟩, ?_⟩, ?_⟩
  · exact decide_eq_true (num_take_lt _ 6)
  · exact decide_eq_true (num_take_lt _ 6)
  · exact num_take_lt _ 6
  · exact num_take_lt _ 3
  · exact num_take_lt _ 6
  · simp; omega
theorem Ms.of_fit {l : List UInt8} (hl : l.length ≤ 140737488355328) : (Ms.of l).fit := by
  have p6 : ∀ (x : List UInt8), num (x.take 6) < 18446744073709551616 := fun x => Nat.lt_of_lt_of_le (num_take_lt x 6) (by decide)
  have p3 : ∀ (x : List UInt8), num (x.take 3) < 4294967296 := fun x => Nat.lt_of_lt_of_le (num_take_lt x 3) (by decide)
  refine ⟨p6 _, p6 _, num_take_lt _ 4, num_take_lt _ 2, num_take_lt _ 2, p6 _, p3 _, num_take_lt _ 1, p6 _, num_take_lt _ 8, ?_⟩
  simp [Ms.of]; omega
theorem Ms.bytes_inj {m k : Ms} (hf : m.fit) (hm : m.may = true) (hf2 : k.fit) (hm2 : k.may = true) : m.bytes = k.bytes ↔ m = k :=
  ⟨fun h => by rw [← Ms.of_bytes hf hm, h, Ms.of_bytes hf2 hm2], fun h => by rw [h]⟩
end Go.Ab
