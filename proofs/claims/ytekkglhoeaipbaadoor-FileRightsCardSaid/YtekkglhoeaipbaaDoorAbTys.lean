/- Arguments of plain kinds, as they are read. -/
import Derived.Test.YtekkglhoeaipbaaDoorAbLaw2
namespace Go.Ab
open Go.ChangeShapes Go.WideShapes

section
variable {H : Type} {s : S} {d : DataW H} {cs : List AV}
theorem Has.u8 (h : Has s (.int .u8) d cs) : ∃ n : Int, cs = [.int .u8 n] ∧ 0 ≤ n ∧ n < 256 := by
  cases h with
  | int h =>
    simp [Lit.wf, IntKind.min, IntKind.max, IntKind.signed, IntKind.bits] at h
    exact ⟨_, rfl, by omega, by omega⟩
theorem Has.u16 (h : Has s (.int .u16) d cs) : ∃ n : Int, cs = [.int .u16 n] ∧ 0 ≤ n ∧ n < 65536 := by
  cases h with
  | int h =>
    simp [Lit.wf, IntKind.min, IntKind.max, IntKind.signed, IntKind.bits] at h
    exact ⟨_, rfl, by omega, by omega⟩
theorem Has.u32 (h : Has s (.int .u32) d cs) : ∃ n : Int, cs = [.int .u32 n] ∧ 0 ≤ n ∧ n < 4294967296 := by
  cases h with
  | int h =>
    simp [Lit.wf, IntKind.min, IntKind.max, IntKind.signed, IntKind.bits] at h
    exact ⟨_, rfl, by omega, by omega⟩
theorem Has.u64 (h : Has s (.int .u64) d cs) : ∃ n : Int, cs = [.int .u64 n] ∧ 0 ≤ n ∧ n < 18446744073709551616 := by
  cases h with
  | int h =>
    simp [Lit.wf, IntKind.min, IntKind.max, IntKind.signed, IntKind.bits] at h
    exact ⟨_, rfl, by omega, by omega⟩
theorem Has.i8 (h : Has s (.int .i8) d cs) : ∃ n : Int, cs = [.int .i8 n] ∧ -128 ≤ n ∧ n < 128 := by
  cases h with
  | int h =>
    simp [Lit.wf, IntKind.min, IntKind.max, IntKind.signed, IntKind.bits] at h
    exact ⟨_, rfl, by omega, by omega⟩
theorem Has.i64 (h : Has s (.int .i64) d cs) : ∃ n : Int, cs = [.int .i64 n] ∧ -9223372036854775808 ≤ n ∧ n < 9223372036854775808 := by
  cases h with
  | int h =>
    simp [Lit.wf, IntKind.min, IntKind.max, IntKind.signed, IntKind.bits] at h
    exact ⟨_, rfl, by omega, by omega⟩
theorem Has.boolean (h : Has s .bool d cs) : ∃ b : Bool, cs = [.bool b] := by
  cases h with
  | bool b => exact ⟨b, rfl⟩
theorem Has.string (h : Has s .str d cs) : ∃ l : List UInt8, cs = [.str l] ∧ l.length ≤ maxLen := by
  cases h with
  | str h => exact ⟨_, rfl, by simpa using h⟩
end

/-- A slice of bytes is as long as its data. -/
theorem bytes_short {H : Type} {P : Program} {ts : List TypeId} {ds : List (DataW H)} (hz : (DataW.weightsEach P ts ds).all (· ≤ reachBytes) = true) {j : Nat} {t : TypeId} {es rest : List (DataW H)} (ht : ts[j]? = some t) (hd : ds[j]? = some (.slice es rest)) {e : TypeId}
    (hu : P.underlying t = some (.slice e)) (hb1 : P.bytesOf e = 1) : es.length ≤ 140737488355328 := by
  have := sized_slice hz ht hd hu
  rw [hb1, Nat.mul_one] at this
  have := Nat.le_of_lt reachBytes_lt
  omega

/-! ### what is read is of few bytes, inside too -/
def Small {H : Type} (P : Program) (t : TypeId) (d : DataW H) : Prop := ∀ n ∈ d.weights P t, n ≤ reachBytes
section
variable {H : Type} {P : Program}

theorem Small.of_each {ts : List TypeId} {ds : List (DataW H)} (h : (DataW.weightsEach P ts ds).all (· ≤ reachBytes) = true) {j : Nat} {t : TypeId} {d : DataW H} (ht : ts[j]? = some t) (hd : ds[j]? = some d) : Small P t d := by
  intro n hn
  have := List.all_eq_true.1 h n (DataW.weights_mem_each ht hd n hn)
  simpa using this

theorem weights_mem_all {e : TypeId} : ∀ {ds : List (DataW H)} {d : DataW H}, d ∈ ds → ∀ n ∈ d.weights P e, n ∈ DataW.weightsAll P e ds
  | x :: ds, d, hd, n, hn => by
    simp only [DataW.weightsAll, List.mem_append]
    rcases List.mem_cons.1 hd with rfl | hd
    · exact .inl hn
    · exact .inr (weights_mem_all hd n hn)

theorem Small.elem {t e : TypeId} {es rest : List (DataW H)} (h : Small P t (.slice es rest)) (hu : P.underlying t = some (.slice e)) {d : DataW H} (hd : d ∈ es) : Small P e d := by
  intro n hn
  refine h n ?_
  simp only [DataW.weights, hu, List.mem_cons, List.mem_append]
  exact .inr (.inl (weights_mem_all hd n hn))

theorem Small.field {t : TypeId} {parts : List (DataW H)} {fs : Array Field} (h : Small P t (.agg parts)) (hu : P.underlying t = some (.struct fs)) {j : Nat} {u : TypeId} {d : DataW H} (hf : (fs.toList.map (·.type))[j]? = some u) (hd : parts[j]? = some d) : Small P u d := by
  intro n hn
  refine h n ?_
  simp only [DataW.weights, hu]
  exact DataW.weights_mem_each hf hd n hn

theorem Small.len {t e : TypeId} {es rest : List (DataW H)} (h : Small P t (.slice es rest)) (hu : P.underlying t = some (.slice e)) : (es.length + rest.length) * P.bytesOf e ≤ reachBytes :=
  h _ (by simp [DataW.weights, hu])

theorem Small.bytes {t e : TypeId} {s : S} {d : DataW H} {c : List AV} (h : Small P t d) (hu : P.underlying t = some (.slice e)) (hb : P.bytesOf e = 1) (hd : Has s (.slice (.int .u8)) d c) : ∃ v l, c = [v] ∧ Bytes s v l ∧ l.length ≤ 140737488355328 := by
  obtain ⟨v, l, rfl, hv, _, hdl⟩ := hd.bytes
  refine ⟨v, l, rfl, hv, ?_⟩
  rcases hdl with ⟨_, rfl⟩ | ⟨es, rest, rfl, hl⟩
  · simp
  · have := h.len hu
    rw [hb, Nat.mul_one] at this
    have := Nat.le_of_lt reachBytes_lt
    omega

theorem Small.string {t : TypeId} {s : S} {d : DataW H} {c : List AV} (h : Small P t d) (hd : Has s .str d c) : ∃ l, c = [.str l] ∧ l.length ≤ 140737488355328 := by
  cases hd with
  | str hl =>
    refine ⟨_, rfl, ?_⟩
    have := h _ (by simp [DataW.weights]; rfl)
    have := Nat.le_of_lt reachBytes_lt
    omega

theorem HasAll.get {s : S} {y : Ty} : ∀ {ds : List (DataW H)} {es : List (List AV)}, HasAll s y ds es → ∀ {i : Nat} {c : List AV}, es[i]? = some c → ∃ d, ds[i]? = some d ∧ Has s y d c ∧ c.length = y.size
  | _, _, .nil, i, c, h => by simp at h
  | _, _, .cons h1 hl h2, i, c, h => by
    cases i with
    | zero =>
      simp only [List.getElem?_cons_zero, Option.some.injEq] at h
      subst h
      exact ⟨_, rfl, h1, hl⟩
    | succ i =>
      simp only [List.getElem?_cons_succ] at h ⊢
      exact h2.get h

theorem HasAll.length {s : S} {y : Ty} : ∀ {ds : List (DataW H)} {es : List (List AV)}, HasAll s y ds es → ds.length = es.length
  | _, _, .nil => rfl
  | _, _, .cons _ _ h2 => by simp [h2.length]

theorem HasAll.part {s : S} {y : Ty} : ∀ {ds : List (DataW H)} {es : List (List AV)}, HasAll s y ds es → ∀ {i : Nat} {c : List AV}, es[i]? = some c → (es.flatten.drop (i * y.size)).take y.size = c ∧ i * y.size + y.size ≤ es.flatten.length
  | _, _, .nil, i, c, h => by simp at h
  | _, _, .cons (c := c0) (cs := cs) h1 hl h2, i, c, h => by
    cases i with
    | zero =>
      simp only [List.getElem?_cons_zero, Option.some.injEq] at h
      subst h
      simp only [List.flatten_cons, Nat.zero_mul, List.drop_zero, List.length_append]
      exact ⟨by rw [List.take_append_of_le_length (by omega), List.take_of_length_le (by omega)], by omega⟩
    | succ i =>
      simp only [List.getElem?_cons_succ] at h
      obtain ⟨q1, q2⟩ := h2.part h
      simp only [List.flatten_cons, List.length_append]
      have e : (i + 1) * y.size = c0.length + i * y.size := by rw [hl, Nat.add_mul, Nat.one_mul, Nat.add_comm]
      rw [e, ← List.drop_drop, List.drop_left]
      exact ⟨q1, by omega⟩

/-- An element of a slice, read. -/
theorem HasAll.read {s : S} {y : Ty} {ds : List (DataW H)} {es : List (List AV)} (h : HasAll s y ds es) {b : Nat} {opn : Nat} {ro : Bool} (hg : s.get b = some (.cells es.flatten opn ro)) {i : Nat} {c : List AV} (hc : es[i]? = some c) : s.read b (0 + i * y.size) y.size = some c := by
  obtain ⟨h1, h2⟩ := h.part hc
  simp only [S.read, hg, Nat.zero_add]
  rw [if_pos h2, h1]
end
end Go.Ab
