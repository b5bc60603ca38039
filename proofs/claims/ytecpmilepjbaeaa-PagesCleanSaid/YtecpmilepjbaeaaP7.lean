/- 'sigillumlaw08.PagesClean' returns true for every bytes and every place, and leaves what it was given as it was: no condition. -/
import Derived.Test.YtecpmilepjbaeaaP6
import Derived.Test.YtecpmilepjbaeaaAbTys
import Derived.Test.YtecpmilepjbaeaaRows
import Derived.WalkKit
import Derived.ProofKit
import Derived.OpenShut
import Derived.JoinedCond
namespace Go.Proofs.Ytecpmilepjbaeaa.pagesClean
open Go.ChangeShapes Go.WideShapes Go.ChangeAt Go.RowKit Go.Ab
set_option linter.unusedVariables false

theorem own : ownKnob Try.prog.godebug = none := by kernel_rfl
theorem laidOut : laidOutB Try.prog = true := by kernel_rfl

set_option maxRecDepth 100000 in
theorem lifted (os : Os) (started : os.Started) (H : Type) (enc : TypeId × Value → H) :
    ReturnsInHanded {} Try.checked os 5 .any (Rows.pagesCleanSpec.pre6 enc Try.prog Try.f5 Rows.pagesCleanRow.domain false) (Rows.pagesCleanSpec.post enc Try.prog Try.f5 false true false false) := by
  refine returnsInHanded_of_change_sized (C := Try.checked) own started (by kernel_rfl) Try.func5
    (ChangeSpec.witness6 (enc := enc) (C := Try.checked) false ⟨#[], #[.slice none 0 0, .int .u8 0], []⟩ 8 (by kernel_rfl) (by kernel_rfl) (by kernel_rfl) (by kernel_rfl)) ?_
  intro W base args ds gs before hval hW _ hz _
  refine law_contract tab_ok (ys := [.slice (.int .u8), .int .u8]) (tb := 4) ?_ rfl ?_ rfl Try.underlying4 laidOut (by kernel_rfl) hval hW ?_
  · show TysOk Try.prog Try.f5.params.toList _
    rw [Try.params5]
    exact .cons (.slice Try.underlying22 (by kernel_rfl) (by decide) (.int Try.underlying5)) (.cons (.int Try.underlying5) (.nil))
  · intro ds hds
    have hds : ds.length = 2 := hds
    match ds, hds with
    | [d1, d2], _ => exact ⟨rfl, rfl, rfl⟩
  · intro s avs hargs hgs
    subst hgs
    cases hargs with | cons h1 hargs => cases hargs with | cons h2 hargs => cases hargs with | nil =>
    obtain ⟨b, l, rfl, hbb, hmb, hdb⟩ := h1.bytes
    have hlb : l.length ≤ 140737488355328 := by
      rcases hdb with ⟨_, rfl⟩ | ⟨es, rest, rfl, hl⟩
      · simp
      · have hz' : (DataW.weightsEach Try.prog (Try.f5.params.toList ++ Rows.pagesCleanSpec.plain.varTypes Try.prog) ([DataW.slice es rest, _] ++ [])).all (· ≤ reachBytes) = true := hz
        have := bytes_short hz' (j := 0) (t := 22) (by rw [Try.params5]; rfl) rfl Try.underlying22 (by kernel_rfl)
        omega
    obtain ⟨a, rfl, ha⟩ := h2.u8
    exact pagesClean_ok b l a ha s hbb hlb

theorem proved : Rows.PagesCleanSaid :=
  OpenClaim.holds_of_wide 5 Try.f5 rfl rfl rfl rfl rfl rfl rfl ⟨rfl, rfl, rfl, rfl, rfl⟩ rfl rfl rfl rfl rfl (by kernel_rfl) Try.func5 (by kernel_rfl)
    (of_decide_eq_true (by kernel_rfl)) (by unfold Func.isWrapper; first | (rw [if_pos (by decide +kernel)]; kernel_rfl) | (rw [if_neg (by decide +kernel)]; exact ⟨rfl, rfl⟩))
    (fun os started H enc _ => lifted os started H enc)
end Go.Proofs.Ytecpmilepjbaeaa.pagesClean
