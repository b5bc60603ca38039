/- 'sigillumlaw04.HeaderBack' returns true for every message and bytes, and leaves them as they were: no condition. -/
import Derived.Test.YtecpmilepjbaeabL3
import Derived.Test.YtecpmilepjbaeabAbTys
import Derived.Test.YtecpmilepjbaeabRows
import Derived.WalkKit
import Derived.ProofKit
import Derived.OpenShut
import Derived.JoinedCond
namespace Go.Proofs.Ytecpmilepjbaeab.headerBack
open Go.ChangeShapes Go.WideShapes Go.ChangeAt Go.RowKit Go.Ab
set_option linter.unusedVariables false

theorem own : ownKnob Try.prog.godebug = none := by kernel_rfl
theorem laidOut : laidOutB Try.prog = true := by kernel_rfl

theorem cap_ty : TyOk Try.prog 26 (.struct [.int .u64, .int .u32, .int .u8, .int .u64]) :=
  .struct Try.underlying26 (by kernel_rfl) (.cons rfl (by kernel_rfl) (.int Try.underlying22) (.cons rfl (by kernel_rfl) (.int Try.underlying23) (.cons rfl (by kernel_rfl) (.int Try.underlying5) (.cons rfl (by kernel_rfl) (.int Try.underlying22) .nil))))
theorem bytes_ty : TyOk Try.prog 27 (.slice (.int .u8)) := .slice Try.underlying27 (by kernel_rfl) (by decide) (.int Try.underlying5)
theorem msg_ty : TyOk Try.prog 29 (.struct [.int .u64, .int .u64, .int .u32, .int .u16, .int .u16, .struct [.int .u64, .int .u32, .int .u8, .int .u64], .int .u64, .slice (.int .u8)]) :=
  .struct Try.underlying29 (by kernel_rfl) (.cons rfl (by kernel_rfl) (.int Try.underlying22) (.cons rfl (by kernel_rfl) (.int Try.underlying22) (.cons rfl (by kernel_rfl) (.int Try.underlying23) (.cons rfl (by kernel_rfl) (.int Try.underlying24) (.cons rfl (by kernel_rfl) (.int Try.underlying24) (.cons rfl (by kernel_rfl) cap_ty (.cons rfl (by kernel_rfl) (.int Try.underlying22) (.cons rfl (by kernel_rfl) bytes_ty .nil))))))))
theorem cap_of {H : Type} {s : S} {d : DataW H} {cs : List AV} (h : Has s (.struct [.int .u64, .int .u32, .int .u8, .int .u64]) d cs) : ∃ p o r k : Nat, cs = [.int .u64 p, .int .u32 o, .int .u8 r, .int .u64 k] ∧ p < 18446744073709551616 ∧ o < 4294967296 ∧ r < 256 ∧ k < 18446744073709551616 := by
  cases h with
  | struct h =>
    cases h with | cons h1 _ h => cases h with | cons h2 _ h => cases h with | cons h3 _ h => cases h with | cons h4 _ h => cases h with | nil =>
    obtain ⟨p, rfl, hp, hp2⟩ := h1.u64
    obtain ⟨o, rfl, ho, ho2⟩ := h2.u32
    obtain ⟨r, rfl, hr, hr2⟩ := h3.u8
    obtain ⟨k, rfl, hk, hk2⟩ := h4.u64
    obtain ⟨p, rfl⟩ := Int.eq_ofNat_of_zero_le hp
    obtain ⟨o, rfl⟩ := Int.eq_ofNat_of_zero_le ho
    obtain ⟨r, rfl⟩ := Int.eq_ofNat_of_zero_le hr
    obtain ⟨k, rfl⟩ := Int.eq_ofNat_of_zero_le hk
    exact ⟨p, o, r, k, rfl, by omega, by omega, by omega, by omega⟩
theorem msg_of {H : Type} {s : S} {d : DataW H} {cs : List AV} (hs : Small Try.prog 29 d) (h : Has s (.struct [.int .u64, .int .u64, .int .u32, .int .u16, .int .u16, .struct [.int .u64, .int .u32, .int .u8, .int .u64], .int .u64, .slice (.int .u8)]) d cs) : ∃ (m : Ms) (v : AV), cs = m.cells v ∧ m.fit ∧ Bytes s v m.data := by
  cases h with
  | struct h =>
    cases h with | cons h1 _ h => cases h with | cons h2 _ h => cases h with | cons h3 _ h => cases h with | cons h4 _ h => cases h with | cons h5 _ h => cases h with | cons h6 _ h => cases h with | cons h7 _ h => cases h with | cons h8 _ h => cases h with | nil =>
    obtain ⟨to, rfl, a1, b1⟩ := h1.u64
    obtain ⟨reply, rfl, a2, b2⟩ := h2.u64
    obtain ⟨id, rfl, a3, b3⟩ := h3.u32
    obtain ⟨op, rfl, a4, b4⟩ := h4.u16
    obtain ⟨st, rfl, a5, b5⟩ := h5.u16
    obtain ⟨p, o, r, k, rfl, hp, ho, hr, hk⟩ := cap_of h6
    obtain ⟨arg, rfl, a7, b7⟩ := h7.u64
    obtain ⟨v, l, rfl, hv, hl⟩ := Small.bytes (hs.field Try.underlying29 (j := 7) (u := 27) rfl rfl) Try.underlying27 (by kernel_rfl) h8
    obtain ⟨to, rfl⟩ := Int.eq_ofNat_of_zero_le a1
    obtain ⟨reply, rfl⟩ := Int.eq_ofNat_of_zero_le a2
    obtain ⟨id, rfl⟩ := Int.eq_ofNat_of_zero_le a3
    obtain ⟨op, rfl⟩ := Int.eq_ofNat_of_zero_le a4
    obtain ⟨st, rfl⟩ := Int.eq_ofNat_of_zero_le a5
    obtain ⟨arg, rfl⟩ := Int.eq_ofNat_of_zero_le a7
    exact ⟨⟨to, reply, id, op, st, p, o, r, k, arg, l⟩, v, rfl, ⟨Int.ofNat_lt.1 b1, Int.ofNat_lt.1 b2, Int.ofNat_lt.1 b3, Int.ofNat_lt.1 b4, Int.ofNat_lt.1 b5, hp, ho, hr, hk, Int.ofNat_lt.1 b7, hl⟩, hv⟩

set_option maxRecDepth 100000 in
theorem lifted (os : Os) (started : os.Started) (H : Type) (enc : TypeId × Value → H) :
    ReturnsInHanded {} Try.checked os 3 .any (Rows.headerBackSpec.pre6 enc Try.prog Try.f3 Rows.headerBackRow.domain false) (Rows.headerBackSpec.post enc Try.prog Try.f3 false true false false) := by
  refine returnsInHanded_of_change_sized (C := Try.checked) own started (by kernel_rfl) Try.func3
    (ChangeSpec.witness6 (enc := enc) (C := Try.checked) false ⟨#[], #[.agg #[.int .u64 0, .int .u64 0, .int .u32 0, .int .u16 0, .int .u16 0, .int .u64 0, .int .u32 0, .int .u8 0, .int .u64 0, .int .u64 0, .slice none 0 0], .slice none 0 0], []⟩ 8 (by kernel_rfl) (by kernel_rfl) (by kernel_rfl) (by kernel_rfl)) ?_
  intro W base args ds gs before hval hW _ hz _
  refine law_contract tab_ok (ys := [.struct [.int .u64, .int .u64, .int .u32, .int .u16, .int .u16, .struct [.int .u64, .int .u32, .int .u8, .int .u64], .int .u64, .slice (.int .u8)], .slice (.int .u8)]) (tb := 4) ?_ rfl ?_ rfl Try.underlying4 laidOut (by kernel_rfl) hval hW ?_
  · show TysOk Try.prog Try.f3.params.toList _
    rw [Try.params3]
    exact .cons (msg_ty) (.cons (bytes_ty) (.nil))
  · intro ds hds
    have hds : ds.length = 2 := hds
    match ds, hds with
    | [d1, d2], _ => exact ⟨rfl, rfl, rfl⟩
  · intro s avs hargs hgs
    subst hgs
    cases hargs with | cons h1 hargs => cases hargs with | cons h2 hargs => cases hargs with | nil =>
    have hz' : (DataW.weightsEach Try.prog (Try.f3.params.toList ++ Rows.headerBackSpec.plain.varTypes Try.prog) ([_, _] ++ [])).all (· ≤ reachBytes) = true := hz
    obtain ⟨m, v, rfl, hfm, hbm⟩ := msg_of (Small.of_each hz' (j := 0) (by rw [Try.params3]; rfl) rfl) h1
    have hz' : (DataW.weightsEach Try.prog (Try.f3.params.toList ++ Rows.headerBackSpec.plain.varTypes Try.prog) ([_, _] ++ [])).all (· ≤ reachBytes) = true := hz
    obtain ⟨b, l, rfl, hbb, hlb⟩ := Small.bytes (Small.of_each hz' (j := 1) (by rw [Try.params3]; rfl) rfl) Try.underlying27 (by kernel_rfl) h2
    exact headerBack_ok m hfm s hbm hbb hlb

theorem proved : Rows.HeaderBackSaid :=
  OpenClaim.holds_of_wide 3 Try.f3 rfl rfl rfl rfl rfl rfl rfl ⟨rfl, rfl, rfl, rfl, rfl⟩ rfl rfl rfl rfl rfl (by kernel_rfl) Try.func3 (by kernel_rfl)
    (of_decide_eq_true (by kernel_rfl)) (by unfold Func.isWrapper; first | (rw [if_pos (by decide +kernel)]; kernel_rfl) | (rw [if_neg (by decide +kernel)]; exact ⟨rfl, rfl⟩))
    (fun os started H enc _ => lifted os started H enc)
end Go.Proofs.Ytecpmilepjbaeab.headerBack
