/- 'sigillumlaw07.TokenRestrict' returns true for every draws, secret, capability and mask, and leaves what it was given as it was: no condition. -/
import Derived.Test.YtecpmilepjbaeabT6
import Derived.Test.YtecpmilepjbaeabAbTys
import Derived.Test.YtecpmilepjbaeabRows
import Derived.WalkKit
import Derived.ProofKit
import Derived.OpenShut
import Derived.JoinedCond
namespace Go.Proofs.Ytecpmilepjbaeab.tokenRestrict
open Go.ChangeShapes Go.WideShapes Go.ChangeAt Go.RowKit Go.Ab
set_option linter.unusedVariables false

theorem own : ownKnob Try.prog.godebug = none := by kernel_rfl
theorem laidOut : laidOutB Try.prog = true := by kernel_rfl

theorem cap_ty : TyOk Try.prog 26 (.struct [.int .u64, .int .u32, .int .u8, .int .u64]) :=
  .struct Try.underlying26 (by kernel_rfl) (.cons rfl (by kernel_rfl) (.int Try.underlying22) (.cons rfl (by kernel_rfl) (.int Try.underlying23) (.cons rfl (by kernel_rfl) (.int Try.underlying5) (.cons rfl (by kernel_rfl) (.int Try.underlying22) .nil))))
theorem cap_of {H : Type} {s : S} {d : DataW H} {cs : List AV} (h : Has s (.struct [.int .u64, .int .u32, .int .u8, .int .u64]) d cs) : ∃ p o r k : Nat, cs = [.int .u64 p, .int .u32 o, .int .u8 r, .int .u64 k] ∧ p < 18446744073709551616 ∧ o < 4294967296 ∧ r < 256 ∧ k < 18446744073709551616 := by
  cases h with
  | struct h =>
    cases h with | cons h1 _ h => cases h with | cons h2 _ h => cases h with | cons h3 _ h => cases h with | cons h4 _ h => cases h with | nil =>
    obtain ⟨p, rfl, hp, hp2⟩ := h1.u64
    obtain ⟨o, rfl, ho, ho2⟩ := h2.u32
    obtain ⟨r, rfl, hr, hr2⟩ := h3.u8
    obtain ⟨k, rfl, hk, hk2⟩ := h4.u64
    obtain ⟨p, rfl⟩ := Int.eq_ofNat_of_zero_le hp
    obtain ⟨o, rfl⟩ := Int.eq_ofNat_of_zero_le ho
    obtain ⟨r, rfl⟩ := Int.eq_ofNat_of_zero_le hr
    obtain ⟨k, rfl⟩ := Int.eq_ofNat_of_zero_le hk
    exact ⟨p, o, r, k, rfl, by omega, by omega, by omega, by omega⟩

theorem nums_ty : TyOk Try.prog 54 (.slice (.int .u64)) := .slice Try.underlying54 (by kernel_rfl) (by decide) (.int Try.underlying22)
theorem nums_all {H : Type} {s : S} : ∀ {ds : List (DataW H)} {es : List (List AV)}, HasAll s (.int .u64) ds es → ∃ ns : List Nat, es = ns.map (fun (n : Nat) => [AV.int .u64 (n : Int)]) ∧ ∀ n ∈ ns, n < 18446744073709551616
  | _, _, .nil => ⟨[], rfl, by simp⟩
  | _, _, .cons h1 _ h2 => by
    obtain ⟨n, rfl, hn, hn2⟩ := h1.u64
    obtain ⟨ns, rfl, h3⟩ := nums_all h2
    obtain ⟨n, rfl⟩ := Int.eq_ofNat_of_zero_le hn
    refine ⟨n :: ns, rfl, ?_⟩
    intro m hm
    rcases List.mem_cons.1 hm with rfl | hm
    · omega
    · exact h3 m hm
theorem nums_of {H : Type} {s : S} {d : DataW H} {cs : List AV} (hs : Small Try.prog 54 d) (h : Has s (.slice (.int .u64)) d cs) : ∃ v ns, cs = [v] ∧ NumsAt s v ns ∧ ns.length ≤ 17592186044416 ∧ ∀ n ∈ ns, n < 18446744073709551616 := by
  cases h with
  | nil => exact ⟨_, [], rfl, ⟨rfl, .inl rfl⟩, by simp, by simp⟩
  | zero a => exact ⟨_, [], rfl, ⟨rfl, .inr (.inl ⟨a, rfl⟩)⟩, by simp, by simp⟩
  | slice hg hb hl hc hm he =>
    have h2 := hs.len Try.underlying54
    have hb1 : Try.prog.bytesOf 22 = 8 := by kernel_rfl
    rw [hb1] at h2
    have h4 := he.length
    obtain ⟨ns, rfl, h3⟩ := nums_all he
    rw [List.length_map] at hl h4
    subst hl
    refine ⟨_, ns, rfl, ⟨rfl, .inr (.inr ⟨_, _, rfl, hb, ?_⟩)⟩, ?_, h3⟩
    · intro i n hi
      exact he.read hg (by simp [hi])
    · have : reachBytes = 140737488351232 := rfl
      omega

set_option maxRecDepth 100000 in
theorem lifted (os : Os) (started : os.Started) (H : Type) (enc : TypeId × Value → H) :
    ReturnsInHanded {} Try.checked os 7 .any (Rows.tokenRestrictSpec.pre6 enc Try.prog Try.f7 Rows.tokenRestrictRow.domain false) (Rows.tokenRestrictSpec.post enc Try.prog Try.f7 false true false false) := by
  refine returnsInHanded_of_change_sized (C := Try.checked) own started (by kernel_rfl) Try.func7
    (ChangeSpec.witness6 (enc := enc) (C := Try.checked) false ⟨#[], #[.slice none 0 0, .int .u64 0, .agg #[.int .u64 0, .int .u32 0, .int .u8 0, .int .u64 0], .int .u8 0], []⟩ 8 (by kernel_rfl) (by kernel_rfl) (by kernel_rfl) (by kernel_rfl)) ?_
  intro W base args ds gs before hval hW _ hz _
  refine law_contract tab_ok (ys := [.slice (.int .u64), .int .u64, .struct [.int .u64, .int .u32, .int .u8, .int .u64], .int .u8]) (tb := 4) ?_ rfl ?_ rfl Try.underlying4 laidOut (by kernel_rfl) hval hW ?_
  · show TysOk Try.prog Try.f7.params.toList _
    rw [Try.params7]
    exact .cons (nums_ty) (.cons ((.int Try.underlying22)) (.cons (cap_ty) (.cons ((.int Try.underlying5)) (.nil))))
  · intro ds hds
    have hds : ds.length = 4 := hds
    match ds, hds with
    | [d1, d2, d3, d4], _ => exact ⟨rfl, rfl, rfl⟩
  · intro s avs hargs hgs
    subst hgs
    cases hargs with | cons h1 hargs => cases hargs with | cons h2 hargs => cases hargs with | cons h3 hargs => cases hargs with | cons h4 hargs => cases hargs with | nil =>
    have hz' : (DataW.weightsEach Try.prog (Try.f7.params.toList ++ Rows.tokenRestrictSpec.plain.varTypes Try.prog) ([_, _, _, _] ++ [])).all (· ≤ reachBytes) = true := hz
    obtain ⟨v, ns, rfl, hv, hlns, hbns⟩ := nums_of (Small.of_each hz' (j := 0) (by rw [Try.params7]; rfl) rfl) h1
    obtain ⟨x, rfl, hx, hx2⟩ := h2.u64
    obtain ⟨x, rfl⟩ := Int.eq_ofNat_of_zero_le hx
    obtain ⟨p, o, r, k, rfl, hp, ho, hr, hk⟩ := cap_of h3
    obtain ⟨m, rfl, hm, hm2⟩ := h4.u8
    obtain ⟨m, rfl⟩ := Int.eq_ofNat_of_zero_le hm
    exact tokenRestrict_ok v ns x p o r k m (by omega) (by omega) s hv hlns

theorem proved : Rows.TokenRestrictSaid :=
  OpenClaim.holds_of_wide 7 Try.f7 rfl rfl rfl rfl rfl rfl rfl ⟨rfl, rfl, rfl, rfl, rfl⟩ rfl rfl rfl rfl rfl (by kernel_rfl) Try.func7 (by kernel_rfl)
    (of_decide_eq_true (by kernel_rfl)) (by unfold Func.isWrapper; first | (rw [if_pos (by decide +kernel)]; kernel_rfl) | (rw [if_neg (by decide +kernel)]; exact ⟨rfl, rfl⟩))
    (fun os started H enc _ => lifted os started H enc)
end Go.Proofs.Ytecpmilepjbaeab.tokenRestrict
