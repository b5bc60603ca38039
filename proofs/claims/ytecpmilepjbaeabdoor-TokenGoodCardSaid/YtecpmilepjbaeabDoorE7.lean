/- 'sigillumlaw07.TokenGood' returns true for every draws, secret and capability, and leaves what it was given as it was, where errors.errorType starts as the program's text lays it (the card ties that): no other condition. -/
import Derived.Test.YtecpmilepjbaeabDoorE4
import Derived.Test.YtecpmilepjbaeabDoorAbTys
import Derived.Test.YtecpmilepjbaeabDoorCards
import Derived.Test.YtecpmilepjbaeabDoorTie
import Derived.WalkKit
import Derived.ProofKit
import Derived.OpenShut
import Derived.LaidHandle
import Derived.Deep.DeepHandedRow
namespace Go.Proofs.YtecpmilepjbaeabDoor.tokenGood
open Go.ChangeShapes Go.WideShapes Go.ChangeAt Go.RowKit Go.Ab
set_option linter.unusedVariables false

theorem own : ownKnob Tryd.prog.godebug = none := by kernel_rfl
theorem laidOut : laidOutB Tryd.prog = true := by kernel_rfl
theorem et : Tryd.prog.globalNamed "errors.errorType" = some 0 := by kernel_rfl
theorem rt : (Tryd.prog.cutTypes.find? (·.1 == "internal/reflectlite.rtype")).map (·.2) = some 97 := by kernel_rfl
theorem oneRow : ((List.range 149).filter fun t => Tryd.prog.rowNamed t [101, 114, 114, 111, 114]) = [35] := by kernel_rfl
theorem size : Tryd.prog.types.size = 149 := by kernel_rfl

/-- What the row's list gives: the variable's one cell. -/
theorem glob {W : World} (h : laidMetH Tryd.prog Rows.tokenGoodRow.laid W) : Gl W fun _ => False := by
  have h' : laidMet Tryd.prog [] W ∧ handlesMet Tryd.prog Rows.tokenGoodRow.laid W := h
  obtain ⟨name, u, ty, e1, e2, e3, e4, e5⟩ := h'.2 _ (List.mem_singleton.2 rfl)
  have en : name = [101, 114, 114, 111, 114] := (Option.some.inj e1).symm
  subst en
  obtain rfl := Option.some.inj (rt.symm.trans e2)
  have hm : ty ∈ (List.range 149).filter fun t => Tryd.prog.rowNamed t [101, 114, 114, 111, 114] := List.mem_filter.2 ⟨List.mem_range.2 (by rw [← size]; exact e3), e4⟩
  rw [oneRow] at hm
  obtain rfl := List.mem_singleton.1 hm
  have hh : typeHandle Tryd.prog 35 = .pointer (some ⟨1, 35, none⟩) := by kernel_rfl
  rw [hh] at e5
  exact ⟨by simpa [gcell] using World.var?_cell et e5 0, id⟩

/-- A world that meets the row's list: the settled one, the variable's cell laid. -/
noncomputable def laidWorld (os : Os) : World :=
  let w0 := World.holding Tryd.prog os ⟨#[], #[], []⟩
  { w0 with heap := w0.heap.modify 0 fun
      | .cells _ t frozen => .cells #[gcell] t frozen
      | o => o }
theorem laidWorld_met (os : Os) (args : Array Value) : laidMetH Tryd.prog Rows.tokenGoodRow.laid ((laidWorld os).forCall (fun _ _ => 0) ⟨#[], args, []⟩).memory :=
  laidMetH_of_parts (laidMet_nil _ _) (by kernel_rfl)
theorem reads (os : Os) {H : Type} (enc : TypeId × Value → H) : DataW.whole enc Tryd.prog ((laidWorld os).forCall (fun _ _ => 0) ⟨#[], #[.slice none 0 0, .int .u64 0, .agg #[.int .u64 0, .int .u32 0, .int .u8 0, .int .u64 0], .bool false], []⟩).memory Tryd.f6.params.toList (OpenSpec.ofChange Rows.tokenGoodSpec).vars false #[.slice none 0 0, .int .u64 0, .agg #[.int .u64 0, .int .u32 0, .int .u8 0, .int .u64 0], .bool false].toList 8 = some ([.nil, .lit (.int .u64 0), .agg [.lit (.int .u64 0), .lit (.int .u32 0), .lit (.int .u8 0), .lit (.int .u64 0)], .lit (.bool false)], [], []) := by kernel_rfl

theorem cap_ty : TyOk Tryd.prog 26 (.struct [.int .u64, .int .u32, .int .u8, .int .u64]) :=
  .struct Tryd.underlying26 (by kernel_rfl) (.cons rfl (by kernel_rfl) (.int Tryd.underlying22) (.cons rfl (by kernel_rfl) (.int Tryd.underlying23) (.cons rfl (by kernel_rfl) (.int Tryd.underlying5) (.cons rfl (by kernel_rfl) (.int Tryd.underlying22) .nil))))
theorem cap_of {H : Type} {s : S} {d : DataW H} {cs : List AV} (h : Has s (.struct [.int .u64, .int .u32, .int .u8, .int .u64]) d cs) : ∃ p o r k : Nat, cs = [.int .u64 p, .int .u32 o, .int .u8 r, .int .u64 k] ∧ p < 18446744073709551616 ∧ o < 4294967296 ∧ r < 256 ∧ k < 18446744073709551616 := by
  cases h with
  | struct h =>
    cases h with | cons h1 _ h => cases h with | cons h2 _ h => cases h with | cons h3 _ h => cases h with | cons h4 _ h => cases h with | nil =>
    obtain ⟨p, rfl, hp, hp2⟩ := h1.u64
    obtain ⟨o, rfl, ho, ho2⟩ := h2.u32
    obtain ⟨r, rfl, hr, hr2⟩ := h3.u8
    obtain ⟨k, rfl, hk, hk2⟩ := h4.u64
    obtain ⟨p, rfl⟩ := Int.eq_ofNat_of_zero_le hp
    obtain ⟨o, rfl⟩ := Int.eq_ofNat_of_zero_le ho
    obtain ⟨r, rfl⟩ := Int.eq_ofNat_of_zero_le hr
    obtain ⟨k, rfl⟩ := Int.eq_ofNat_of_zero_le hk
    exact ⟨p, o, r, k, rfl, by omega, by omega, by omega, by omega⟩

theorem nums_ty : TyOk Tryd.prog 39 (.slice (.int .u64)) := .slice Tryd.underlying39 (by kernel_rfl) (by decide) (.int Tryd.underlying22)
theorem nums_all {H : Type} {s : S} : ∀ {ds : List (DataW H)} {es : List (List AV)}, HasAll s (.int .u64) ds es → ∃ ns : List Nat, es = ns.map (fun (n : Nat) => [AV.int .u64 (n : Int)]) ∧ ∀ n ∈ ns, n < 18446744073709551616
  | _, _, .nil => ⟨[], rfl, by simp⟩
  | _, _, .cons h1 _ h2 => by
    obtain ⟨n, rfl, hn, hn2⟩ := h1.u64
    obtain ⟨ns, rfl, h3⟩ := nums_all h2
    obtain ⟨n, rfl⟩ := Int.eq_ofNat_of_zero_le hn
    refine ⟨n :: ns, rfl, ?_⟩
    intro m hm
    rcases List.mem_cons.1 hm with rfl | hm
    · omega
    · exact h3 m hm
theorem nums_of {H : Type} {s : S} {d : DataW H} {cs : List AV} (hs : Small Tryd.prog 39 d) (h : Has s (.slice (.int .u64)) d cs) : ∃ v ns, cs = [v] ∧ NumsAt s v ns ∧ ns.length ≤ 17592186044416 ∧ ∀ n ∈ ns, n < 18446744073709551616 := by
  cases h with
  | nil => exact ⟨_, [], rfl, ⟨rfl, .inl rfl⟩, by simp, by simp⟩
  | zero a => exact ⟨_, [], rfl, ⟨rfl, .inr (.inl ⟨a, rfl⟩)⟩, by simp, by simp⟩
  | slice hg hb hl hc hm he =>
    have h2 := hs.len Tryd.underlying39
    have hb1 : Tryd.prog.bytesOf 22 = 8 := by kernel_rfl
    rw [hb1] at h2
    have h4 := he.length
    obtain ⟨ns, rfl, h3⟩ := nums_all he
    rw [List.length_map] at hl h4
    subst hl
    refine ⟨_, ns, rfl, ⟨rfl, .inr (.inr ⟨_, _, rfl, hb, ?_⟩)⟩, ?_, h3⟩
    · intro i n hi
      exact he.read hg (by simp [hi])
    · have : reachBytes = 140737488351232 := rfl
      omega

set_option maxRecDepth 100000 in
theorem lifted (os : Os) (started : os.Started) (H : Type) (enc : TypeId × Value → H) (F : Stop.Interp) :
    ReturnsInHanded {} Tryd.checked os 6 .any ((OpenSpec.ofChange Rows.tokenGoodSpec).preRow enc Tryd.prog Tryd.f6 Rows.tokenGoodRow.domain false Rows.tokenGoodRow.laid) (((OpenSpec.ofChange Rows.tokenGoodSpec).at F).post enc Tryd.prog Tryd.f6 false true false false) := by
  refine returnsInHanded_of_row (C := Tryd.checked) (s := (OpenSpec.ofChange Rows.tokenGoodSpec)) own started (by kernel_rfl) Tryd.func6
    (witness_row_at (enc := enc) (C := Tryd.checked) false (laidWorld os) #[.slice none 0 0, .int .u64 0, .agg #[.int .u64 0, .int .u32 0, .int .u8 0, .int .u64 0], .bool false] rfl (by kernel_rfl) (by kernel_rfl) (by kernel_rfl)
      (OpenSpec.preRow_of_cond 8 (reads os enc) (by kernel_rfl) (fun k hk => by cases hk) (by kernel_rfl) (laidWorld_met os _))) ?_
  intro W base args ds gs before hval hW _ hk hz hL _ _
  refine law_contract tab_ok (s := Rows.tokenGoodSpec) (ys := [.slice (.int .u64), .int .u64, .struct [.int .u64, .int .u32, .int .u8, .int .u64], .bool]) (tb := 4) ?_ rfl ?_ rfl Tryd.underlying4 laidOut (by kernel_rfl) hval hW (glob hL) ?_
  · show TysOk Tryd.prog Tryd.f6.params.toList _
    rw [Tryd.params6]
    exact .cons (nums_ty) (.cons ((.int Tryd.underlying22)) (.cons (cap_ty) (.cons ((.bool Tryd.underlying4)) (.nil))))
  · intro ds hds
    have hds : ds.length = 4 := hds
    match ds, hds with
    | [d1, d2, d3, d4], _ => exact ⟨rfl, rfl, rfl⟩
  · intro s avs hargs hgs
    subst hgs
    cases hargs with | cons h1 hargs => cases hargs with | cons h2 hargs => cases hargs with | cons h3 hargs => cases hargs with | cons h4 hargs => cases hargs with | nil =>
    have hz' : (DataW.weightsEach Tryd.prog (Tryd.f6.params.toList ++ Rows.tokenGoodSpec.plain.varTypes Tryd.prog) ([_, _, _, _] ++ [])).all (· ≤ reachBytes) = true := hz
    obtain ⟨v, ns, rfl, hv, hlns, hbns⟩ := nums_of (Small.of_each hz' (j := 0) (by rw [Tryd.params6]; rfl) rfl) h1
    obtain ⟨x, rfl, hx, hx2⟩ := h2.u64
    obtain ⟨x, rfl⟩ := Int.eq_ofNat_of_zero_le hx
    obtain ⟨p, o, r, k, rfl, hp, ho, hr, hk⟩ := cap_of h3
    obtain ⟨right, rfl⟩ := h4.boolean
    exact tokenGood_law v ns x p o r k right (by omega) s hv hlns

theorem said : Rows.TokenGoodSaid :=
  OpenClaim.holds_of_cond 6 Tryd.f6 rfl rfl rfl rfl rfl rfl rfl ⟨rfl, rfl, rfl, rfl, rfl⟩ rfl rfl rfl rfl rfl (by kernel_rfl) Tryd.func6 (by kernel_rfl)
    (of_decide_eq_true (by kernel_rfl)) (by unfold Func.isWrapper; first | (rw [if_pos (by decide +kernel)]; kernel_rfl) | (rw [if_neg (by decide +kernel)]; exact ⟨rfl, rfl⟩))
    (fun os started H enc _ F => by rw [OpenClaim.pre_eq_preRow]; exact lifted os started H enc F)

/-- No parameter wants a stand-in; the program's own looks are off. -/
theorem plain (f : FuncId) (fn : Func) (hf : Tryd.pinned.checked.prog.funcNamed "sigillum/sigillumlaw07.TokenGood" = some f) (hfn : Tryd.pinned.checked.prog.funcs[f]? = some fn) :
    true = Tryd.pinned.checked.prog.looks [] ∧ ∀ (j : Nat) t, fn.params[j]? = some t → Tryd.pinned.checked.prog.wantsStandIn t = false := by
  obtain rfl : f = 6 := Option.some.inj ((show Tryd.prog.funcNamed "sigillum/sigillumlaw07.TokenGood" = some 6 by kernel_rfl).symm.trans hf) |>.symm
  obtain rfl : fn = Tryd.f6 := (Option.some.inj (Tryd.func6.symm.trans hfn)).symm
  refine ⟨by kernel_rfl, fun j t ht => ?_⟩
  have hall : (Tryd.f6.params.toList.all fun t => !Tryd.prog.wantsStandIn t) = true := by kernel_rfl
  have := List.all_eq_true.1 hall t (by have := Array.mem_of_getElem? ht; simpa using this)
  have h2 : Tryd.prog.wantsStandIn t = false := by simpa using this
  exact h2

theorem proved : Rows.TokenGoodCardSaid :=
  Claim7.holds_tied_plain_at .later [] _ _ _ _ said (fun _ h => by cases h) (by kernel_rfl) (fun _ h => by cases h) tokenGood_row_tie rfl ⟨rfl, rfl⟩ (by kernel_rfl) rfl plain (by kernel_rfl)
end Go.Proofs.YtecpmilepjbaeabDoor.tokenGood
