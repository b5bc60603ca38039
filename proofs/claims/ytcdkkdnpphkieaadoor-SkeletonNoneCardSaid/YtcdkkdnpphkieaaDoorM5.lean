/- 'sigillumlaw24.SkeletonNone' returns true for every message, where errors.errorType starts as the program's text lays it (the card ties that): no other condition. -/
import Derived.Test.YtcdkkdnpphkieaaDoorN1
import Derived.Test.YtcdkkdnpphkieaaDoorAbTys
import Derived.Test.YtcdkkdnpphkieaaDoorCards
import Derived.Test.YtcdkkdnpphkieaaDoorTie
import Derived.WalkKit
import Derived.ProofKit
import Derived.OpenShut
import Derived.LaidHandle
import Derived.Deep.DeepHandedRow
namespace Go.Proofs.YtcdkkdnpphkieaaDoor.skeletonNone
open Go.ChangeShapes Go.WideShapes Go.ChangeAt Go.RowKit Go.Ab
set_option linter.unusedVariables false

theorem own : ownKnob Tryd.prog.godebug = none := by kernel_rfl
theorem laidOut : laidOutB Tryd.prog = true := by kernel_rfl
theorem et : Tryd.prog.globalNamed "errors.errorType" = some 0 := by kernel_rfl
theorem rt : (Tryd.prog.cutTypes.find? (·.1 == "internal/reflectlite.rtype")).map (·.2) = some 156 := by kernel_rfl
theorem oneRow : ((List.range 196).filter fun t => Tryd.prog.rowNamed t [101, 114, 114, 111, 114]) = [36] := by kernel_rfl
theorem size : Tryd.prog.types.size = 196 := by kernel_rfl

/-- What the row's list gives: the variable's one cell. -/
theorem glob {W : World} (h : laidMetH Tryd.prog Rows.skeletonNoneRow.laid W) : Gl W fun _ => False := by
  have h' : laidMet Tryd.prog [] W ∧ handlesMet Tryd.prog Rows.skeletonNoneRow.laid W := h
  obtain ⟨name, u, ty, e1, e2, e3, e4, e5⟩ := h'.2 _ (List.mem_singleton.2 rfl)
  have en : name = [101, 114, 114, 111, 114] := (Option.some.inj e1).symm
  subst en
  obtain rfl := Option.some.inj (rt.symm.trans e2)
  have hm : ty ∈ (List.range 196).filter fun t => Tryd.prog.rowNamed t [101, 114, 114, 111, 114] := List.mem_filter.2 ⟨List.mem_range.2 (by rw [← size]; exact e3), e4⟩
  rw [oneRow] at hm
  obtain rfl := List.mem_singleton.1 hm
  have hh : typeHandle Tryd.prog 36 = .pointer (some ⟨1, 36, none⟩) := by kernel_rfl
  rw [hh] at e5
  exact ⟨by simpa [gcell] using World.var?_cell et e5 0, id⟩

/-- A world that meets the row's list: the settled one, the variable's cell laid. -/
noncomputable def laidWorld (os : Os) : World :=
  let w0 := World.holding Tryd.prog os ⟨#[], #[], []⟩
  { w0 with heap := w0.heap.modify 0 fun
      | .cells _ t frozen => .cells #[gcell] t frozen
      | o => o }
theorem laidWorld_met (os : Os) (args : Array Value) : laidMetH Tryd.prog Rows.skeletonNoneRow.laid ((laidWorld os).forCall (fun _ _ => 0) ⟨#[], args, []⟩).memory :=
  laidMetH_of_parts (laidMet_nil _ _) (by kernel_rfl)
theorem reads (os : Os) {H : Type} (enc : TypeId × Value → H) : DataW.whole enc Tryd.prog ((laidWorld os).forCall (fun _ _ => 0) ⟨#[], #[.agg #[.int .u64 0, .int .u64 0, .int .u32 0, .int .u16 0, .int .u16 0, .int .u64 0, .int .u32 0, .int .u8 0, .int .u64 0, .int .u64 0, .slice none 0 0]], []⟩).memory Tryd.f10.params.toList (OpenSpec.ofChange Rows.skeletonNoneSpec).vars false #[.agg #[.int .u64 0, .int .u64 0, .int .u32 0, .int .u16 0, .int .u16 0, .int .u64 0, .int .u32 0, .int .u8 0, .int .u64 0, .int .u64 0, .slice none 0 0]].toList 8 = some ([.agg [.lit (.int .u64 0), .lit (.int .u64 0), .lit (.int .u32 0), .lit (.int .u16 0), .lit (.int .u16 0), .agg [.lit (.int .u64 0), .lit (.int .u32 0), .lit (.int .u8 0), .lit (.int .u64 0)], .lit (.int .u64 0), .nil]], [], []) := by kernel_rfl

theorem cap_ty : TyOk Tryd.prog 25 (.struct [.int .u64, .int .u32, .int .u8, .int .u64]) :=
  .struct Tryd.underlying25 (by kernel_rfl) (.cons rfl (by kernel_rfl) (.int Tryd.underlying22) (.cons rfl (by kernel_rfl) (.int Tryd.underlying23) (.cons rfl (by kernel_rfl) (.int Tryd.underlying5) (.cons rfl (by kernel_rfl) (.int Tryd.underlying22) .nil))))
theorem bytes_ty : TyOk Tryd.prog 50 (.slice (.int .u8)) := .slice Tryd.underlying50 (by kernel_rfl) (by decide) (.int Tryd.underlying5)
theorem msg_ty : TyOk Tryd.prog 79 (.struct [.int .u64, .int .u64, .int .u32, .int .u16, .int .u16, .struct [.int .u64, .int .u32, .int .u8, .int .u64], .int .u64, .slice (.int .u8)]) :=
  .struct Tryd.underlying79 (by kernel_rfl) (.cons rfl (by kernel_rfl) (.int Tryd.underlying22) (.cons rfl (by kernel_rfl) (.int Tryd.underlying22) (.cons rfl (by kernel_rfl) (.int Tryd.underlying23) (.cons rfl (by kernel_rfl) (.int Tryd.underlying77) (.cons rfl (by kernel_rfl) (.int Tryd.underlying77) (.cons rfl (by kernel_rfl) cap_ty (.cons rfl (by kernel_rfl) (.int Tryd.underlying22) (.cons rfl (by kernel_rfl) bytes_ty .nil))))))))
theorem cap_of {H : Type} {s : S} {d : DataW H} {cs : List AV} (h : Has s (.struct [.int .u64, .int .u32, .int .u8, .int .u64]) d cs) : ∃ p o r k : Nat, cs = [.int .u64 p, .int .u32 o, .int .u8 r, .int .u64 k] ∧ p < 18446744073709551616 ∧ o < 4294967296 ∧ r < 256 ∧ k < 18446744073709551616 := by
  cases h with
  | struct h =>
    cases h with | cons h1 _ h => cases h with | cons h2 _ h => cases h with | cons h3 _ h => cases h with | cons h4 _ h => cases h with | nil =>
    obtain ⟨p, rfl, hp, hp2⟩ := h1.u64
    obtain ⟨o, rfl, ho, ho2⟩ := h2.u32
    obtain ⟨r, rfl, hr, hr2⟩ := h3.u8
    obtain ⟨k, rfl, hk, hk2⟩ := h4.u64
    obtain ⟨p, rfl⟩ := Int.eq_ofNat_of_zero_le hp
    obtain ⟨o, rfl⟩ := Int.eq_ofNat_of_zero_le ho
    obtain ⟨r, rfl⟩ := Int.eq_ofNat_of_zero_le hr
    obtain ⟨k, rfl⟩ := Int.eq_ofNat_of_zero_le hk
    exact ⟨p, o, r, k, rfl, by omega, by omega, by omega, by omega⟩
theorem msg_of {H : Type} {s : S} {d : DataW H} {cs : List AV} (hs : Small Tryd.prog 79 d) (h : Has s (.struct [.int .u64, .int .u64, .int .u32, .int .u16, .int .u16, .struct [.int .u64, .int .u32, .int .u8, .int .u64], .int .u64, .slice (.int .u8)]) d cs) : ∃ (m : Ms) (v : AV), cs = m.cells v ∧ m.fit ∧ Bytes s v m.data := by
  cases h with
  | struct h =>
    cases h with | cons h1 _ h => cases h with | cons h2 _ h => cases h with | cons h3 _ h => cases h with | cons h4 _ h => cases h with | cons h5 _ h => cases h with | cons h6 _ h => cases h with | cons h7 _ h => cases h with | cons h8 _ h => cases h with | nil =>
    obtain ⟨to, rfl, a1, b1⟩ := h1.u64
    obtain ⟨reply, rfl, a2, b2⟩ := h2.u64
    obtain ⟨id, rfl, a3, b3⟩ := h3.u32
    obtain ⟨op, rfl, a4, b4⟩ := h4.u16
    obtain ⟨st, rfl, a5, b5⟩ := h5.u16
    obtain ⟨p, o, r, k, rfl, hp, ho, hr, hk⟩ := cap_of h6
    obtain ⟨arg, rfl, a7, b7⟩ := h7.u64
    obtain ⟨v, l, rfl, hv, hl⟩ := Small.bytes (hs.field Tryd.underlying79 (j := 7) (u := 50) rfl rfl) Tryd.underlying50 (by kernel_rfl) h8
    obtain ⟨to, rfl⟩ := Int.eq_ofNat_of_zero_le a1
    obtain ⟨reply, rfl⟩ := Int.eq_ofNat_of_zero_le a2
    obtain ⟨id, rfl⟩ := Int.eq_ofNat_of_zero_le a3
    obtain ⟨op, rfl⟩ := Int.eq_ofNat_of_zero_le a4
    obtain ⟨st, rfl⟩ := Int.eq_ofNat_of_zero_le a5
    obtain ⟨arg, rfl⟩ := Int.eq_ofNat_of_zero_le a7
    exact ⟨⟨to, reply, id, op, st, p, o, r, k, arg, l⟩, v, rfl, ⟨Int.ofNat_lt.1 b1, Int.ofNat_lt.1 b2, Int.ofNat_lt.1 b3, Int.ofNat_lt.1 b4, Int.ofNat_lt.1 b5, hp, ho, hr, hk, Int.ofNat_lt.1 b7, hl⟩, hv⟩

set_option maxRecDepth 100000 in
theorem lifted (os : Os) (started : os.Started) (H : Type) (enc : TypeId × Value → H) (F : Stop.Interp) :
    ReturnsInHanded {} Tryd.checked os 10 .any ((OpenSpec.ofChange Rows.skeletonNoneSpec).preRow enc Tryd.prog Tryd.f10 Rows.skeletonNoneRow.domain false Rows.skeletonNoneRow.laid) (((OpenSpec.ofChange Rows.skeletonNoneSpec).at F).post enc Tryd.prog Tryd.f10 false true false false) := by
  refine returnsInHanded_of_row (C := Tryd.checked) (s := (OpenSpec.ofChange Rows.skeletonNoneSpec)) own started (by kernel_rfl) Tryd.func10
    (witness_row_at (enc := enc) (C := Tryd.checked) false (laidWorld os) #[.agg #[.int .u64 0, .int .u64 0, .int .u32 0, .int .u16 0, .int .u16 0, .int .u64 0, .int .u32 0, .int .u8 0, .int .u64 0, .int .u64 0, .slice none 0 0]] rfl (by kernel_rfl) (by kernel_rfl) (by kernel_rfl)
      (OpenSpec.preRow_of_cond 8 (reads os enc) (by kernel_rfl) (fun k hk => by cases hk) (by kernel_rfl) (laidWorld_met os _))) ?_
  intro W base args ds gs before hval hW _ hk hz hL _ _
  refine law_contract tab_ok (s := Rows.skeletonNoneSpec) (ys := [.struct [.int .u64, .int .u64, .int .u32, .int .u16, .int .u16, .struct [.int .u64, .int .u32, .int .u8, .int .u64], .int .u64, .slice (.int .u8)]]) (tb := 4) ?_ rfl ?_ rfl Tryd.underlying4 laidOut (by kernel_rfl) hval hW (glob hL) ?_
  · show TysOk Tryd.prog Tryd.f10.params.toList _
    rw [Tryd.params10]
    exact .cons (msg_ty) (.nil)
  · intro ds hds
    have hds : ds.length = 1 := hds
    match ds, hds with
    | [d1], _ => exact ⟨rfl, rfl, rfl⟩
  · intro s avs hargs hgs
    subst hgs
    cases hargs with | cons h1 hargs => cases hargs with | nil =>
    have hz' : (DataW.weightsEach Tryd.prog (Tryd.f10.params.toList ++ Rows.skeletonNoneSpec.plain.varTypes Tryd.prog) ([_] ++ [])).all (· ≤ reachBytes) = true := hz
    obtain ⟨m, v, rfl, hfm, hbm⟩ := msg_of (Small.of_each hz' (j := 0) (by rw [Tryd.params10]; rfl) rfl) h1
    exact none_ok hfm s hbm

theorem said : Rows.SkeletonNoneSaid :=
  OpenClaim.holds_of_cond 10 Tryd.f10 rfl rfl rfl rfl rfl rfl rfl ⟨rfl, rfl, rfl, rfl, rfl⟩ rfl rfl rfl rfl rfl (by kernel_rfl) Tryd.func10 (by kernel_rfl)
    (of_decide_eq_true (by kernel_rfl)) (by unfold Func.isWrapper; first | (rw [if_pos (by decide +kernel)]; kernel_rfl) | (rw [if_neg (by decide +kernel)]; exact ⟨rfl, rfl⟩))
    (fun os started H enc _ F => by rw [OpenClaim.pre_eq_preRow]; exact lifted os started H enc F)

/-- No parameter wants a stand-in; the program's own looks are off. -/
theorem plain (f : FuncId) (fn : Func) (hf : Tryd.pinned.checked.prog.funcNamed "sigillum/sigillumlaw24.SkeletonNone" = some f) (hfn : Tryd.pinned.checked.prog.funcs[f]? = some fn) :
    true = Tryd.pinned.checked.prog.looks [] ∧ ∀ (j : Nat) t, fn.params[j]? = some t → Tryd.pinned.checked.prog.wantsStandIn t = false := by
  obtain rfl : f = 10 := Option.some.inj ((show Tryd.prog.funcNamed "sigillum/sigillumlaw24.SkeletonNone" = some 10 by kernel_rfl).symm.trans hf) |>.symm
  obtain rfl : fn = Tryd.f10 := (Option.some.inj (Tryd.func10.symm.trans hfn)).symm
  refine ⟨by kernel_rfl, fun j t ht => ?_⟩
  have hall : (Tryd.f10.params.toList.all fun t => !Tryd.prog.wantsStandIn t) = true := by kernel_rfl
  have := List.all_eq_true.1 hall t (by have := Array.mem_of_getElem? ht; simpa using this)
  have h2 : Tryd.prog.wantsStandIn t = false := by simpa using this
  exact h2

theorem proved : Rows.SkeletonNoneCardSaid :=
  Claim7.holds_tied_plain_at .later [] _ _ _ _ said (fun _ h => by cases h) (by kernel_rfl) (fun _ h => by cases h) skeletonNone_row_tie rfl ⟨rfl, rfl⟩ (by kernel_rfl) rfl plain (by kernel_rfl)
end Go.Proofs.YtcdkkdnpphkieaaDoor.skeletonNone
