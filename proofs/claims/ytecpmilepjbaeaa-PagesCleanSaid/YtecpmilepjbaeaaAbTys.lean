/- Arguments of plain kinds, as they are read. -/
import Derived.Test.YtecpmilepjbaeaaAbLaw2
namespace Go.Ab
open Go.ChangeShapes Go.WideShapes

section
variable {H : Type} {s : S} {d : DataW H} {cs : List AV}
theorem Has.u8 (h : Has s (.int .u8) d cs) : ∃ n : Int, cs = [.int .u8 n] ∧ 0 ≤ n ∧ n < 256 := by
  cases h with
  | int h =>
    simp [Lit.wf, IntKind.min, IntKind.max, IntKind.signed, IntKind.bits] at h
    exact ⟨_, rfl, by omega, by omega⟩
theorem Has.u16 (h : Has s (.int .u16) d cs) : ∃ n : Int, cs = [.int .u16 n] ∧ 0 ≤ n ∧ n < 65536 := by
  cases h with
  | int h =>
    simp [Lit.wf, IntKind.min, IntKind.max, IntKind.signed, IntKind.bits] at h
    exact ⟨_, rfl, by omega, by omega⟩
theorem Has.u32 (h : Has s (.int .u32) d cs) : ∃ n : Int, cs = [.int .u32 n] ∧ 0 ≤ n ∧ n < 4294967296 := by
  cases h with
  | int h =>
    simp [Lit.wf, IntKind.min, IntKind.max, IntKind.signed, IntKind.bits] at h
    exact ⟨_, rfl, by omega, by omega⟩
theorem Has.u64 (h : Has s (.int .u64) d cs) : ∃ n : Int, cs = [.int .u64 n] ∧ 0 ≤ n ∧ n < 18446744073709551616 := by
  cases h with
  | int h =>
    simp [Lit.wf, IntKind.min, IntKind.max, IntKind.signed, IntKind.bits] at h
    exact ⟨_, rfl, by omega, by omega⟩
theorem Has.i8 (h : Has s (.int .i8) d cs) : ∃ n : Int, cs = [.int .i8 n] ∧ -128 ≤ n ∧ n < 128 := by
  cases h with
  | int h =>
    simp [Lit.wf, IntKind.min, IntKind.max, IntKind.signed, IntKind.bits] at h
    exact ⟨_, rfl, by omega, by omega⟩
theorem Has.i64 (h : Has s (.int .i64) d cs) : ∃ n : Int, cs = [.int .i64 n] ∧ -9223372036854775808 ≤ n ∧ n < 9223372036854775808 := by
  cases h with
  | int h =>
    simp [Lit.wf, IntKind.min, IntKind.max, IntKind.signed, IntKind.bits] at h
    exact ⟨_, rfl, by omega, by omega⟩
theorem Has.boolean (h : Has s .bool d cs) : ∃ b : Bool, cs = [.bool b] := by
  cases h with
  | bool b => exact ⟨b, rfl⟩
theorem Has.string (h : Has s .str d cs) : ∃ l : List UInt8, cs = [.str l] ∧ l.length ≤ maxLen := by
  cases h with
  | str h => exact ⟨_, rfl, by simpa using h⟩
end

/-- A slice of bytes is as long as its data. -/
theorem bytes_short {H : Type} {P : Program} {ts : List TypeId} {ds : List (DataW H)} (hz : (DataW.weightsEach P ts ds).all (· ≤ reachBytes) = true) {j : Nat} {t : TypeId} {es rest : List (DataW H)} (ht : ts[j]? = some t) (hd : ds[j]? = some (.slice es rest)) {e : TypeId}
    (hu : P.underlying t = some (.slice e)) (hb1 : P.bytesOf e = 1) : es.length ≤ 140737488355328 := by
  have := sized_slice hz ht hd hu
  rw [hb1, Nat.mul_one] at this
  have := Nat.le_of_lt reachBytes_lt
  omega
end Go.Ab
