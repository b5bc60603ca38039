/- 'sigillumlaw28.StubSegments' returns true for every capability, place, number and bytes, and leaves what it was given as it was: no condition. -/
import Derived.Test.YtecpmilepjbaeaaStubE
import Derived.Test.YtecpmilepjbaeaaAbLaw2
import Derived.Test.YtecpmilepjbaeaaRows
import Derived.WalkKit
import Derived.ProofKit
import Derived.OpenShut
import Derived.JoinedCond
namespace Go.Proofs.Ytecpmilepjbaeaa.stubSegments
open Go.ChangeShapes Go.WideShapes Go.ChangeAt Go.RowKit Go.Ab
set_option linter.unusedVariables false

theorem own : ownKnob Try.prog.godebug = none := by kernel_rfl
theorem laidOut : laidOutB Try.prog = true := by kernel_rfl

theorem cap_ty : TyOk Try.prog 51 (.struct [.int .u64, .int .u32, .int .u8, .int .u64]) :=
  .struct Try.underlying51 (by kernel_rfl) (.cons rfl (by kernel_rfl) (.int Try.underlying48) (.cons rfl (by kernel_rfl) (.int Try.underlying49) (.cons rfl (by kernel_rfl) (.int Try.underlying5) (.cons rfl (by kernel_rfl) (.int Try.underlying48) .nil))))
theorem bytes_ty : TyOk Try.prog 22 (.slice (.int .u8)) := .slice Try.underlying22 (by kernel_rfl) (by decide) (.int Try.underlying5)

theorem cap_of {H : Type} {s : S} {d : DataW H} {cs : List AV} (h : Has s (.struct [.int .u64, .int .u32, .int .u8, .int .u64]) d cs) : ∃ p o r k : Int, cs = [.int .u64 p, .int .u32 o, .int .u8 r, .int .u64 k] := by
  cases h with
  | struct h =>
    cases h with | cons h1 _ h => cases h with | cons h2 _ h => cases h with | cons h3 _ h => cases h with | cons h4 _ h => cases h with | nil =>
    cases h1; cases h2; cases h3; cases h4
    exact ⟨_, _, _, _, rfl⟩

theorem u32_of {H : Type} {s : S} {d : DataW H} {cs : List AV} (h : Has s (.int .u32) d cs) : ∃ n : Int, cs = [.int .u32 n] ∧ 0 ≤ n ∧ n < 4294967296 := by
  cases h with
  | int h =>
    simp [Lit.wf, IntKind.min, IntKind.max, IntKind.signed, IntKind.bits] at h
    exact ⟨_, rfl, by omega, by omega⟩

set_option maxRecDepth 100000 in
theorem lifted (os : Os) (started : os.Started) (H : Type) (enc : TypeId × Value → H) :
    ReturnsInHanded {} Try.checked os 8 .any (Rows.stubSegmentsSpec.pre6 enc Try.prog Try.f8 Rows.stubSegmentsRow.domain false) (Rows.stubSegmentsSpec.post enc Try.prog Try.f8 false true false false) := by
  refine returnsInHanded_of_change_sized (C := Try.checked) own started (by kernel_rfl) Try.func8
    (ChangeSpec.witness6 (enc := enc) (C := Try.checked) false ⟨#[], #[.agg #[.int .u64 0, .int .u32 0, .int .u8 0, .int .u64 0], .int .u32 0, .int .u32 0, .slice none 0 0], []⟩ 8 (by kernel_rfl) (by kernel_rfl) (by kernel_rfl) (by kernel_rfl)) ?_
  intro W base args ds gs before hval hW _ hz _
  refine law_contract tab_ok (ys := [.struct [.int .u64, .int .u32, .int .u8, .int .u64], .int .u32, .int .u32, .slice (.int .u8)]) (tb := 4) ?_ rfl ?_ rfl Try.underlying4 laidOut (by kernel_rfl) hval hW ?_
  · show TysOk Try.prog Try.f8.params.toList _
    rw [Try.params8]
    exact .cons cap_ty (.cons (.int Try.underlying49) (.cons (.int Try.underlying49) (.cons bytes_ty .nil)))
  · intro ds hds
    have hds : ds.length = 4 := hds
    match ds, hds with
    | [d1, d2, d3, d4], _ => exact ⟨rfl, rfl, rfl⟩
  · intro s avs hargs hgs
    subst hgs
    cases hargs with | cons h1 h => cases h with | cons h2 h => cases h with | cons h3 h => cases h with | cons h4 h => cases h with | nil =>
    obtain ⟨p, o, r, k, rfl⟩ := cap_of h1
    obtain ⟨a, rfl, ha⟩ := u32_of h2
    obtain ⟨n, rfl, hn⟩ := u32_of h3
    obtain ⟨b, l, rfl, hb, hm, hd⟩ := h4.bytes
    refine stubSegments_ok p o r k a n ha hn b l s hb ?_
    rcases hd with ⟨_, rfl⟩ | ⟨es, rest, rfl, hl⟩
    · simp
    · have hz' : (DataW.weightsEach Try.prog (Try.f8.params.toList ++ Rows.stubSegmentsSpec.plain.varTypes Try.prog) ([_, _, _, DataW.slice es rest] ++ [])).all (· ≤ reachBytes) = true := hz
      have := sized_slice hz' (j := 3) (t := 22) (by rw [Try.params8]; rfl) rfl Try.underlying22
      have hb1 : Try.prog.bytesOf 5 = 1 := by kernel_rfl
      rw [hb1, Nat.mul_one] at this
      have := Nat.le_of_lt reachBytes_lt
      omega

theorem proved : Rows.StubSegmentsSaid :=
  OpenClaim.holds_of_wide 8 Try.f8 rfl rfl rfl rfl rfl rfl rfl ⟨rfl, rfl, rfl, rfl, rfl⟩ rfl rfl rfl rfl rfl (by kernel_rfl) Try.func8 (by kernel_rfl)
    (of_decide_eq_true (by kernel_rfl)) (by unfold Func.isWrapper; first | (rw [if_pos (by decide +kernel)]; kernel_rfl) | (rw [if_neg (by decide +kernel)]; exact ⟨rfl, rfl⟩))
    (fun os started H enc _ => lifted os started H enc)
end Go.Proofs.Ytecpmilepjbaeaa.stubSegments
