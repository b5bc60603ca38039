/- 'sigillumlaw08.PagesScript' returns true for every number and every script of deeds, and leaves what it was given as it was: no condition. -/
import Derived.Test.YtecpmilepjbaeaaP15
import Derived.Test.YtecpmilepjbaeaaAbTys
import Derived.Test.YtecpmilepjbaeaaRows
import Derived.WalkKit
import Derived.ProofKit
import Derived.OpenShut
import Derived.JoinedCond
namespace Go.Proofs.Ytecpmilepjbaeaa.pagesScript
open Go.ChangeShapes Go.WideShapes Go.ChangeAt Go.RowKit Go.Ab
set_option linter.unusedVariables false

theorem own : ownKnob Try.prog.godebug = none := by kernel_rfl
theorem laidOut : laidOutB Try.prog = true := by kernel_rfl

theorem act_ty : TyOk Try.prog 41 (.struct [.int .u8, .int .i8, .int .i8, .slice (.int .u8)]) :=
  .struct Try.underlying41 (by kernel_rfl) (.cons rfl (by kernel_rfl) (.int Try.underlying5) (.cons rfl (by kernel_rfl) (.int Try.underlying39) (.cons rfl (by kernel_rfl) (.int Try.underlying39) (.cons rfl (by kernel_rfl) (.slice Try.underlying22 (by kernel_rfl) (by decide) (.int Try.underlying5)) .nil))))
theorem acts_ty : TyOk Try.prog 34 (.slice (.struct [.int .u8, .int .i8, .int .i8, .slice (.int .u8)])) := .slice Try.underlying34 (by kernel_rfl) (by decide) act_ty

theorem act_of {H : Type} {s : S} {d : DataW H} {c : List AV} (hs : Small Try.prog 41 d) (h : Has s (.struct [.int .u8, .int .i8, .int .i8, .slice (.int .u8)]) d c) : ∃ (op pg a : Int) (data : AV) (l : List UInt8), c = [.int .u8 op, .int .i8 pg, .int .i8 a, data] ∧ (0 ≤ op ∧ op < 256) ∧ (-128 ≤ pg ∧ pg < 128) ∧ (-128 ≤ a ∧ a < 128) ∧ Bytes s data l ∧ l.length ≤ 140737488355328 := by
  cases h with
  | struct h =>
    cases h with | cons h1 _ h => cases h with | cons h2 _ h => cases h with | cons h3 _ h => cases h with | cons h4 _ h => cases h with | nil =>
    obtain ⟨op, rfl, hop⟩ := h1.u8
    obtain ⟨pg, rfl, hpg⟩ := h2.i8
    obtain ⟨a, rfl, ha⟩ := h3.i8
    obtain ⟨v, l, rfl, hv, hl⟩ := Small.bytes (hs.field Try.underlying41 (j := 3) (u := 22) rfl rfl) Try.underlying22 (by kernel_rfl) h4
    exact ⟨op, pg, a, v, l, rfl, hop, hpg, ha, hv, hl⟩

theorem acts_of {H : Type} {s : S} {d : DataW H} {c : List AV} (hs : Small Try.prog 34 d) (h : Has s (.slice (.struct [.int .u8, .int .i8, .int .i8, .slice (.int .u8)])) d c) : ∃ v, c = [v] ∧ Acts s v := by
  cases h with
  | nil => exact ⟨_, rfl, .nil⟩
  | zero a => exact ⟨_, rfl, .zsl a⟩
  | slice hg hb hl hc hm he =>
    refine ⟨_, rfl, .some hb ?_ ?_⟩
    · have : maxLen = 9223372036854775807 := rfl
      have h2 := hs.len Try.underlying34
      have hb1 : Try.prog.bytesOf 41 = 32 := by kernel_rfl
      rw [hb1] at h2
      have h3 := he.length
      have := Nat.le_of_lt reachBytes_lt
      omega
    · intro i hi
      obtain ⟨c, hci⟩ : ∃ c, _ = some c := ⟨_, List.getElem?_eq_getElem (by rw [hl]; exact hi)⟩
      obtain ⟨d, hd, hh, _⟩ := he.get hci
      obtain ⟨op, pg, a, data, l, rfl, h1, h2, h3, h4, h5⟩ := act_of (hs.elem Try.underlying34 (List.mem_of_getElem? hd)) hh
      exact ⟨op, pg, a, data, l, he.read hg hci, h1, h2, h3, h4, h5⟩

set_option maxRecDepth 100000 in
theorem lifted (os : Os) (started : os.Started) (H : Type) (enc : TypeId × Value → H) :
    ReturnsInHanded {} Try.checked os 4 .any (Rows.pagesScriptSpec.pre6 enc Try.prog Try.f4 Rows.pagesScriptRow.domain false) (Rows.pagesScriptSpec.post enc Try.prog Try.f4 false true false false) := by
  refine returnsInHanded_of_change_sized (C := Try.checked) own started (by kernel_rfl) Try.func4
    (ChangeSpec.witness6 (enc := enc) (C := Try.checked) false ⟨#[], #[.int .u8 0, .slice none 0 0], []⟩ 8 (by kernel_rfl) (by kernel_rfl) (by kernel_rfl) (by kernel_rfl)) ?_
  intro W base args ds gs before hval hW _ hz _
  refine law_contract tab_ok (ys := [.int .u8, .slice (.struct [.int .u8, .int .i8, .int .i8, .slice (.int .u8)])]) (tb := 4) ?_ rfl ?_ rfl Try.underlying4 laidOut (by kernel_rfl) hval hW ?_
  · show TysOk Try.prog Try.f4.params.toList _
    rw [Try.params4]
    exact .cons (.int Try.underlying5) (.cons (acts_ty) (.nil))
  · intro ds hds
    have hds : ds.length = 2 := hds
    match ds, hds with
    | [d1, d2], _ => exact ⟨rfl, rfl, rfl⟩
  · intro s avs hargs hgs
    subst hgs
    cases hargs with | cons h1 hargs => cases hargs with | cons h2 hargs => cases hargs with | nil =>
    obtain ⟨n, rfl, hn⟩ := h1.u8
    have hz' : (DataW.weightsEach Try.prog (Try.f4.params.toList ++ Rows.pagesScriptSpec.plain.varTypes Try.prog) ([_, _] ++ [])).all (· ≤ reachBytes) = true := hz
    obtain ⟨v, rfl, hacts⟩ := acts_of (Small.of_each hz' (j := 1) (by rw [Try.params4]; rfl) rfl) h2
    exact pagesScript_ok n hn v s hacts

theorem proved : Rows.PagesScriptSaid :=
  OpenClaim.holds_of_wide 4 Try.f4 rfl rfl rfl rfl rfl rfl rfl ⟨rfl, rfl, rfl, rfl, rfl⟩ rfl rfl rfl rfl rfl (by kernel_rfl) Try.func4 (by kernel_rfl)
    (of_decide_eq_true (by kernel_rfl)) (by unfold Func.isWrapper; first | (rw [if_pos (by decide +kernel)]; kernel_rfl) | (rw [if_neg (by decide +kernel)]; exact ⟨rfl, rfl⟩))
    (fun os started H enc _ => lifted os started H enc)
end Go.Proofs.Ytecpmilepjbaeaa.pagesScript
