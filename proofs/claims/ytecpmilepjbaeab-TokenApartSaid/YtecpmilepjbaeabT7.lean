/- 'sigillumlaw07.TokenApart' returns true for every secret, draws and rights: no condition. -/
import Derived.Test.YtecpmilepjbaeabT5
import Derived.Test.YtecpmilepjbaeabAbTys
import Derived.Test.YtecpmilepjbaeabRows
import Derived.WalkKit
import Derived.ProofKit
import Derived.OpenShut
import Derived.JoinedCond
namespace Go.Proofs.Ytecpmilepjbaeab.tokenApart
open Go.ChangeShapes Go.WideShapes Go.ChangeAt Go.RowKit Go.Ab
set_option linter.unusedVariables false

theorem own : ownKnob Try.prog.godebug = none := by kernel_rfl
theorem laidOut : laidOutB Try.prog = true := by kernel_rfl

set_option maxRecDepth 100000 in
theorem lifted (os : Os) (started : os.Started) (H : Type) (enc : TypeId × Value → H) :
    ReturnsInHanded {} Try.checked os 6 .any (Rows.tokenApartSpec.pre6 enc Try.prog Try.f6 Rows.tokenApartRow.domain false) (Rows.tokenApartSpec.post enc Try.prog Try.f6 false true false false) := by
  refine returnsInHanded_of_change_sized (C := Try.checked) own started (by kernel_rfl) Try.func6
    (ChangeSpec.witness6 (enc := enc) (C := Try.checked) false ⟨#[], #[.int .u64 0, .int .u8 0, .int .u8 0, .int .u8 0, .int .u8 0], []⟩ 8 (by kernel_rfl) (by kernel_rfl) (by kernel_rfl) (by kernel_rfl)) ?_
  intro W base args ds gs before hval hW _ hz _
  refine law_contract tab_ok (ys := [.int .u64, .int .u8, .int .u8, .int .u8, .int .u8]) (tb := 4) ?_ rfl ?_ rfl Try.underlying4 laidOut (by kernel_rfl) hval hW ?_
  · show TysOk Try.prog Try.f6.params.toList _
    rw [Try.params6]
    exact .cons ((.int Try.underlying22)) (.cons ((.int Try.underlying5)) (.cons ((.int Try.underlying5)) (.cons ((.int Try.underlying5)) (.cons ((.int Try.underlying5)) (.nil)))))
  · intro ds hds
    have hds : ds.length = 5 := hds
    match ds, hds with
    | [d1, d2, d3, d4, d5], _ => exact ⟨rfl, rfl, rfl⟩
  · intro s avs hargs hgs
    subst hgs
    cases hargs with | cons h1 hargs => cases hargs with | cons h2 hargs => cases hargs with | cons h3 hargs => cases hargs with | cons h4 hargs => cases hargs with | cons h5 hargs => cases hargs with | nil =>
    obtain ⟨x, rfl, hx, hx2⟩ := h1.u64
    obtain ⟨x, rfl⟩ := Int.eq_ofNat_of_zero_le hx
    obtain ⟨f, rfl, hf, hf2⟩ := h2.u8
    obtain ⟨f, rfl⟩ := Int.eq_ofNat_of_zero_le hf
    obtain ⟨g, rfl, hg, hg2⟩ := h3.u8
    obtain ⟨g, rfl⟩ := Int.eq_ofNat_of_zero_le hg
    obtain ⟨r, rfl, hr, hr2⟩ := h4.u8
    obtain ⟨r, rfl⟩ := Int.eq_ofNat_of_zero_le hr
    obtain ⟨o, rfl, ho, ho2⟩ := h5.u8
    obtain ⟨o, rfl⟩ := Int.eq_ofNat_of_zero_le ho
    exact tokenApart_ok x f g r o (by omega) (by omega) (by omega) (by omega) (by omega) s

theorem proved : Rows.TokenApartSaid :=
  OpenClaim.holds_of_wide 6 Try.f6 rfl rfl rfl rfl rfl rfl rfl ⟨rfl, rfl, rfl, rfl, rfl⟩ rfl rfl rfl rfl rfl (by kernel_rfl) Try.func6 (by kernel_rfl)
    (of_decide_eq_true (by kernel_rfl)) (by unfold Func.isWrapper; first | (rw [if_pos (by decide +kernel)]; kernel_rfl) | (rw [if_neg (by decide +kernel)]; exact ⟨rfl, rfl⟩))
    (fun os started H enc _ => lifted os started H enc)
end Go.Proofs.Ytecpmilepjbaeab.tokenApart
