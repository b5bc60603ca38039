/- 'sigillumlaw08.PagesCount' returns true for every number: no condition. -/
import Derived.Test.YtecpmilepjbaeaaP8
import Derived.Test.YtecpmilepjbaeaaAbTys
import Derived.Test.YtecpmilepjbaeaaRows
import Derived.WalkKit
import Derived.ProofKit
import Derived.OpenShut
import Derived.JoinedCond
namespace Go.Proofs.Ytecpmilepjbaeaa.pagesCount
open Go.ChangeShapes Go.WideShapes Go.ChangeAt Go.RowKit Go.Ab
set_option linter.unusedVariables false

theorem own : ownKnob Try.prog.godebug = none := by kernel_rfl
theorem laidOut : laidOutB Try.prog = true := by kernel_rfl

set_option maxRecDepth 100000 in
theorem lifted (os : Os) (started : os.Started) (H : Type) (enc : TypeId × Value → H) :
    ReturnsInHanded {} Try.checked os 6 .any (Rows.pagesCountSpec.pre6 enc Try.prog Try.f6 Rows.pagesCountRow.domain false) (Rows.pagesCountSpec.post enc Try.prog Try.f6 false true false false) := by
  refine returnsInHanded_of_change_sized (C := Try.checked) own started (by kernel_rfl) Try.func6
    (ChangeSpec.witness6 (enc := enc) (C := Try.checked) false ⟨#[], #[.int .i64 0], []⟩ 8 (by kernel_rfl) (by kernel_rfl) (by kernel_rfl) (by kernel_rfl)) ?_
  intro W base args ds gs before hval hW _ hz _
  refine law_contract tab_ok (ys := [.int .i64]) (tb := 4) ?_ rfl ?_ rfl Try.underlying4 laidOut (by kernel_rfl) hval hW ?_
  · show TysOk Try.prog Try.f6.params.toList _
    rw [Try.params6]
    exact .cons (.int Try.underlying3) (.nil)
  · intro ds hds
    have hds : ds.length = 1 := hds
    match ds, hds with
    | [d1], _ => exact ⟨rfl, rfl, rfl⟩
  · intro s avs hargs hgs
    subst hgs
    cases hargs with | cons h1 hargs => cases hargs with | nil =>
    obtain ⟨n, rfl, hn⟩ := h1.i64
    exact pagesCount_ok n hn s

theorem proved : Rows.PagesCountSaid :=
  OpenClaim.holds_of_wide 6 Try.f6 rfl rfl rfl rfl rfl rfl rfl ⟨rfl, rfl, rfl, rfl, rfl⟩ rfl rfl rfl rfl rfl (by kernel_rfl) Try.func6 (by kernel_rfl)
    (of_decide_eq_true (by kernel_rfl)) (by unfold Func.isWrapper; first | (rw [if_pos (by decide +kernel)]; kernel_rfl) | (rw [if_neg (by decide +kernel)]; exact ⟨rfl, rfl⟩))
    (fun os started H enc _ => lifted os started H enc)
end Go.Proofs.Ytecpmilepjbaeaa.pagesCount
