/- 'sigillumlaw28.StubNames' returns true for every capabilities, names and mask, and leaves what it was given as it was, where these are of bulk at most 1048576: no other condition. -/
import Derived.Test.YtecpmilepjbaeaaK5
import Derived.Test.YtecpmilepjbaeaaAbTys
import Derived.Test.YtecpmilepjbaeaaRows
import Derived.WalkKit
import Derived.ProofKit
import Derived.OpenShut
import Derived.JoinedCond
namespace Go.Proofs.Ytecpmilepjbaeaa.stubNamesUpto
open Go.ChangeShapes Go.WideShapes Go.ChangeAt Go.RowKit Go.Ab
set_option linter.unusedVariables false

theorem own : ownKnob Try.prog.godebug = none := by kernel_rfl
theorem laidOut : laidOutB Try.prog = true := by kernel_rfl

theorem cap_ty : TyOk Try.prog 51 (.struct [.int .u64, .int .u32, .int .u8, .int .u64]) :=
  .struct Try.underlying51 (by kernel_rfl) (.cons rfl (by kernel_rfl) (.int Try.underlying48) (.cons rfl (by kernel_rfl) (.int Try.underlying49) (.cons rfl (by kernel_rfl) (.int Try.underlying5) (.cons rfl (by kernel_rfl) (.int Try.underlying48) .nil))))
theorem cap_of {H : Type} {s : S} {d : DataW H} {cs : List AV} (h : Has s (.struct [.int .u64, .int .u32, .int .u8, .int .u64]) d cs) : ∃ p o r k : Nat, cs = [.int .u64 p, .int .u32 o, .int .u8 r, .int .u64 k] ∧ p < 18446744073709551616 ∧ o < 4294967296 ∧ r < 256 ∧ k < 18446744073709551616 := by
  cases h with
  | struct h =>
    cases h with | cons h1 _ h => cases h with | cons h2 _ h => cases h with | cons h3 _ h => cases h with | cons h4 _ h => cases h with | nil =>
    obtain ⟨p, rfl, hp, hp2⟩ := h1.u64
    obtain ⟨o, rfl, ho, ho2⟩ := h2.u32
    obtain ⟨r, rfl, hr, hr2⟩ := h3.u8
    obtain ⟨k, rfl, hk, hk2⟩ := h4.u64
    obtain ⟨p, rfl⟩ := Int.eq_ofNat_of_zero_le hp
    obtain ⟨o, rfl⟩ := Int.eq_ofNat_of_zero_le ho
    obtain ⟨r, rfl⟩ := Int.eq_ofNat_of_zero_le hr
    obtain ⟨k, rfl⟩ := Int.eq_ofNat_of_zero_le hk
    exact ⟨p, o, r, k, rfl, by omega, by omega, by omega, by omega⟩

theorem str_of {H : Type} {s : S} {d : DataW H} {cs : List AV} (h : Has s .str d cs) : ∃ l, cs = [.str l] ∧ l.length + 1 = Rows.uptoBulk d := by
  cases h with
  | str h => exact ⟨_, rfl, by simp [Rows.uptoBulk]⟩

theorem strs_all {H : Type} {s : S} : ∀ {ds : List (DataW H)} {es : List (List AV)}, HasAll s .str ds es → ∃ ns : List (List UInt8), es = ns.map (fun n => [AV.str n]) ∧ (flat ns).length ≤ 2 * Rows.uptoBulkAll ds ∧ ∀ n ∈ ns, n.length ≤ Rows.uptoBulkAll ds
  | _, _, .nil => ⟨[], rfl, by simp [flat], by simp⟩
  | _, _, .cons h1 _ h2 => by
    obtain ⟨n, rfl, hn⟩ := str_of h1
    obtain ⟨ns, rfl, h3, h4⟩ := strs_all h2
    refine ⟨n :: ns, rfl, ?_, ?_⟩
    · rw [flat_cons, List.length_append, enc_length]
      simp only [Rows.uptoBulkAll]
      omega
    · intro m hm
      simp only [Rows.uptoBulkAll]
      rcases List.mem_cons.1 hm with rfl | hm
      · omega
      · have := h4 m hm
        omega

theorem strs_of {H : Type} {s : S} {d : DataW H} {cs : List AV} (h : Has s (.slice .str) d cs) : ∃ v ns, cs = [v] ∧ StrsAt s v ns ∧ (flat ns).length ≤ 2 * Rows.uptoBulk d ∧ ∀ n ∈ ns, n.length ≤ Rows.uptoBulk d := by
  cases h with
  | nil => exact ⟨_, [], rfl, ⟨rfl, .inl rfl⟩, by simp [flat], by simp⟩
  | zero a => exact ⟨_, [], rfl, ⟨rfl, .inr (.inl ⟨a, rfl⟩)⟩, by simp [flat], by simp⟩
  | slice hg hb hl hc hm he =>
    obtain ⟨ns, rfl, h3, h4⟩ := strs_all he
    rw [List.length_map] at hl
    subst hl
    refine ⟨_, ns, rfl, ⟨rfl, .inr (.inr ⟨_, _, rfl, hb, ?_⟩)⟩, ?_, ?_⟩
    · intro i n hi
      exact he.read hg (by simp [hi])
    · simp only [Rows.uptoBulk]; omega
    · intro n hn
      have := h4 n hn
      simp only [Rows.uptoBulk]; omega

set_option maxRecDepth 100000 in
theorem lifted (os : Os) (started : os.Started) (H : Type) (enc : TypeId × Value → H) (F : Stop.Interp) :
    ReturnsInHanded {} Try.checked os 9 .any ((Rows.OpenSpec.upto Rows.stubNamesSpec).pre6 enc Try.prog Try.f9 Rows.stubNamesUptoRow.domain false) (((Rows.OpenSpec.upto Rows.stubNamesSpec).at F).post enc Try.prog Try.f9 false true false false) := by
  refine returnsInHanded_of_cond (C := Try.checked) (s := Rows.OpenSpec.upto Rows.stubNamesSpec) (k := Rows.uptoSmall) rfl own started (by kernel_rfl) Try.func9
    (OpenSpec.witness (enc := enc) (C := Try.checked) (s := Rows.OpenSpec.upto Rows.stubNamesSpec) (k := Rows.uptoSmall) rfl false ⟨#[], #[.agg #[.int .u64 0, .int .u32 0, .int .u8 0, .int .u64 0], .string .empty, .agg #[.int .u64 0, .int .u32 0, .int .u8 0, .int .u64 0], .int .u8 0, .slice none 0 0], []⟩ 8 (by kernel_rfl) (by kernel_rfl) (by kernel_rfl)
      (x := ([.agg [.lit (.int .u64 0), .lit (.int .u32 0), .lit (.int .u8 0), .lit (.int .u64 0)], .lit (.string []), .agg [.lit (.int .u64 0), .lit (.int .u32 0), .lit (.int .u8 0), .lit (.int .u64 0)], .lit (.int .u8 0), .nil], [], [])) (by kernel_rfl) rfl (by kernel_rfl)) ?_
  intro W base args ds gs before hval hW _ hk _
  refine law_contract tab_ok (s := Rows.stubNamesSpec) (ys := [.struct [.int .u64, .int .u32, .int .u8, .int .u64], .str, .struct [.int .u64, .int .u32, .int .u8, .int .u64], .int .u8, .slice .str]) (tb := 4) ?_ rfl ?_ rfl Try.underlying4 laidOut (by kernel_rfl) hval hW ?_
  · show TysOk Try.prog Try.f9.params.toList _
    rw [Try.params9]
    exact .cons (cap_ty) (.cons (.str Try.underlying9) (.cons (cap_ty) (.cons (.int Try.underlying5) (.cons (.slice Try.underlying64 (by kernel_rfl) (by decide) (.str Try.underlying9)) (.nil)))))
  · intro ds hds
    have hds : ds.length = 5 := hds
    match ds, hds with
    | [d1, d2, d3, d4, d5], _ => exact ⟨rfl, rfl, rfl⟩
  · intro s avs hargs hgs
    subst hgs
    have hk2 := of_decide_eq_true hk
    cases hargs with | cons h1 hargs => cases hargs with | cons h2 hargs => cases hargs with | cons h3 hargs => cases hargs with | cons h4 hargs => cases hargs with | cons h5 hargs => cases hargs with | nil =>
    simp only [List.append_nil, Rows.uptoBulkAll] at hk2
    obtain ⟨p, o, r, k, rfl, hp, ho, hr, hk⟩ := cap_of h1
    obtain ⟨n, rfl, hn⟩ := str_of h2
    obtain ⟨p2, o2, r2, k2, rfl, hp2, ho2, hr2, hk2⟩ := cap_of h3
    obtain ⟨m, rfl, hm⟩ := h4.u8
    obtain ⟨v, ns, rfl, hns, hf1, hf2⟩ := strs_of h5
    exact stubNames_ok p o r k n (by omega) p2 o2 r2 k2 hp2 ho2 hr2 m hm s v ns hns (by omega) (fun x hx => by have := hf2 x hx; omega)

theorem proved : Rows.StubNamesUptoSaid :=
  OpenClaim.holds_of_cond 9 Try.f9 rfl rfl rfl rfl rfl rfl rfl ⟨rfl, rfl, rfl, rfl, rfl⟩ rfl rfl rfl rfl rfl (by kernel_rfl) Try.func9 (by kernel_rfl)
    (of_decide_eq_true (by kernel_rfl)) (by unfold Func.isWrapper; first | (rw [if_pos (by decide +kernel)]; kernel_rfl) | (rw [if_neg (by decide +kernel)]; exact ⟨rfl, rfl⟩))
    (fun os started H enc _ F => lifted os started H enc F)
end Go.Proofs.Ytecpmilepjbaeaa.stubNamesUpto
