/- 'sigillumlaw29.NodeBoot' returns true for every kind and list of numbers, where errors.errorType starts as the program's text lays it (the card ties that): no other condition. -/
import Derived.Test.YtjpaahcblnnhaaaDoorNodeC
import Derived.Test.YtjpaahcblnnhaaaDoorAbTys
import Derived.Test.YtjpaahcblnnhaaaDoorCards
import Derived.Test.YtjpaahcblnnhaaaDoorTie
import Derived.WalkKit
import Derived.ProofKit
import Derived.OpenShut
import Derived.LaidHandle
import Derived.Deep.DeepHandedRow
namespace Go.Proofs.YtjpaahcblnnhaaaDoor.nodeBoot
open Go.ChangeShapes Go.WideShapes Go.ChangeAt Go.RowKit Go.Ab
set_option linter.unusedVariables false

theorem own : ownKnob Tryd.prog.godebug = none := by kernel_rfl
theorem laidOut : laidOutB Tryd.prog = true := by kernel_rfl
theorem et : Tryd.prog.globalNamed "errors.errorType" = some 0 := by kernel_rfl
theorem rt : (Tryd.prog.cutTypes.find? (·.1 == "internal/reflectlite.rtype")).map (·.2) = some 164 := by kernel_rfl
theorem oneRow : ((List.range 248).filter fun t => Tryd.prog.rowNamed t [101, 114, 114, 111, 114]) = [35] := by kernel_rfl
theorem size : Tryd.prog.types.size = 248 := by kernel_rfl

/-- What the row's list gives: the variable's one cell. -/
theorem glob {W : World} (h : laidMetH Tryd.prog Rows.nodeBootRow.laid W) : Gl W fun _ => False := by
  have h' : laidMet Tryd.prog [] W ∧ handlesMet Tryd.prog Rows.nodeBootRow.laid W := h
  obtain ⟨name, u, ty, e1, e2, e3, e4, e5⟩ := h'.2 _ (List.mem_singleton.2 rfl)
  have en : name = [101, 114, 114, 111, 114] := (Option.some.inj e1).symm
  subst en
  obtain rfl := Option.some.inj (rt.symm.trans e2)
  have hm : ty ∈ (List.range 248).filter fun t => Tryd.prog.rowNamed t [101, 114, 114, 111, 114] := List.mem_filter.2 ⟨List.mem_range.2 (by rw [← size]; exact e3), e4⟩
  rw [oneRow] at hm
  obtain rfl := List.mem_singleton.1 hm
  have hh : typeHandle Tryd.prog 35 = .pointer (some ⟨1, 35, none⟩) := by kernel_rfl
  rw [hh] at e5
  exact ⟨by simpa [gcell] using World.var?_cell et e5 0, id⟩

/-- A world that meets the row's list: the settled one, the variable's cell laid. -/
noncomputable def laidWorld (os : Os) : World :=
  let w0 := World.holding Tryd.prog os ⟨#[], #[], []⟩
  { w0 with heap := w0.heap.modify 0 fun
      | .cells _ t frozen => .cells #[gcell] t frozen
      | o => o }
theorem laidWorld_met (os : Os) (args : Array Value) : laidMetH Tryd.prog Rows.nodeBootRow.laid ((laidWorld os).forCall (fun _ _ => 0) ⟨#[], args, []⟩).memory :=
  laidMetH_of_parts (laidMet_nil _ _) (by kernel_rfl)
theorem reads (os : Os) {H : Type} (enc : TypeId × Value → H) : DataW.whole enc Tryd.prog ((laidWorld os).forCall (fun _ _ => 0) ⟨#[], #[.int .u8 0, .slice none 0 0], []⟩).memory Tryd.f3.params.toList (OpenSpec.ofChange Rows.nodeBootSpec).vars false #[.int .u8 0, .slice none 0 0].toList 8 = some ([.lit (.int .u8 0), .nil], [], []) := by kernel_rfl

theorem nums_ty : TyOk Tryd.prog 22 (.slice (.int .u64)) := .slice Tryd.underlying22 (by kernel_rfl) (by decide) (.int Tryd.underlying37)
theorem nums_all {H : Type} {s : S} : ∀ {ds : List (DataW H)} {es : List (List AV)}, HasAll s (.int .u64) ds es → ∃ ns : List Nat, es = ns.map (fun (n : Nat) => [AV.int .u64 (n : Int)]) ∧ ∀ n ∈ ns, n < 18446744073709551616
  | _, _, .nil => ⟨[], rfl, by simp⟩
  | _, _, .cons h1 _ h2 => by
    obtain ⟨n, rfl, hn, hn2⟩ := h1.u64
    obtain ⟨ns, rfl, h3⟩ := nums_all h2
    obtain ⟨n, rfl⟩ := Int.eq_ofNat_of_zero_le hn
    refine ⟨n :: ns, rfl, ?_⟩
    intro m hm
    rcases List.mem_cons.1 hm with rfl | hm
    · omega
    · exact h3 m hm
theorem nums_of {H : Type} {s : S} {d : DataW H} {cs : List AV} (hs : Small Tryd.prog 22 d) (h : Has s (.slice (.int .u64)) d cs) : ∃ v ns, cs = [v] ∧ NumsAt s v ns ∧ ns.length ≤ 17592186044416 ∧ ∀ n ∈ ns, n < 18446744073709551616 := by
  cases h with
  | nil => exact ⟨_, [], rfl, ⟨rfl, .inl rfl⟩, by simp, by simp⟩
  | zero a => exact ⟨_, [], rfl, ⟨rfl, .inr (.inl ⟨a, rfl⟩)⟩, by simp, by simp⟩
  | slice hg hb hl hc hm he =>
    have h2 := hs.len Tryd.underlying22
    have hb1 : Tryd.prog.bytesOf 37 = 8 := by kernel_rfl
    rw [hb1] at h2
    have h4 := he.length
    obtain ⟨ns, rfl, h3⟩ := nums_all he
    rw [List.length_map] at hl h4
    subst hl
    refine ⟨_, ns, rfl, ⟨rfl, .inr (.inr ⟨_, _, _, rfl, hb, ?_⟩)⟩, ?_, h3⟩
    · intro i n hi
      exact he.read hg (by simp [hi])
    · have : reachBytes = 140737488351232 := rfl
      omega

set_option maxRecDepth 100000 in
theorem lifted (os : Os) (started : os.Started) (H : Type) (enc : TypeId × Value → H) (F : Stop.Interp) :
    ReturnsInHanded {} Tryd.checked os 3 .any ((OpenSpec.ofChange Rows.nodeBootSpec).preRow enc Tryd.prog Tryd.f3 Rows.nodeBootRow.domain false Rows.nodeBootRow.laid) (((OpenSpec.ofChange Rows.nodeBootSpec).at F).post enc Tryd.prog Tryd.f3 false true false false) := by
  refine returnsInHanded_of_row (C := Tryd.checked) (s := (OpenSpec.ofChange Rows.nodeBootSpec)) own started (by kernel_rfl) Tryd.func3
    (witness_row_at (enc := enc) (C := Tryd.checked) false (laidWorld os) #[.int .u8 0, .slice none 0 0] rfl (by kernel_rfl) (by kernel_rfl) (by kernel_rfl)
      (OpenSpec.preRow_of_cond 8 (reads os enc) (by kernel_rfl) (fun k hk => by cases hk) (by kernel_rfl) (laidWorld_met os _))) ?_
  intro W base args ds gs before hval hW _ hk hz hL _ _
  refine law_contract tab_ok (s := Rows.nodeBootSpec) (ys := [.int .u8, .slice (.int .u64)]) (tb := 4) ?_ rfl ?_ rfl Tryd.underlying4 laidOut (by kernel_rfl) hval hW (glob hL) ?_
  · show TysOk Tryd.prog Tryd.f3.params.toList _
    rw [Tryd.params3]
    exact .cons ((.int Tryd.underlying5)) (.cons (nums_ty) (.nil))
  · intro ds hds
    have hds : ds.length = 2 := hds
    match ds, hds with
    | [d1, d2], _ => exact ⟨rfl, rfl, rfl⟩
  · intro s avs hargs hgs
    subst hgs
    cases hargs with | cons h1 hargs => cases hargs with | cons h2 hargs => cases hargs with | nil =>
    obtain ⟨f, rfl, hf, hf2⟩ := h1.u8
    obtain ⟨f, rfl⟩ := Int.eq_ofNat_of_zero_le hf
    have hz' : (DataW.weightsEach Tryd.prog (Tryd.f3.params.toList ++ Rows.nodeBootSpec.plain.varTypes Tryd.prog) ([_, _] ++ [])).all (· ≤ reachBytes) = true := hz
    obtain ⟨u, ns, rfl, hu, hlns, hbns⟩ := nums_of (Small.of_each hz' (j := 1) (by rw [Tryd.params3]; rfl) rfl) h2
    exact nodeBoot_ok f (by omega) u ns s hu hlns

theorem said : Rows.NodeBootSaid :=
  OpenClaim.holds_of_cond 3 Tryd.f3 rfl rfl rfl rfl rfl rfl rfl ⟨rfl, rfl, rfl, rfl, rfl⟩ rfl rfl rfl rfl rfl (by kernel_rfl) Tryd.func3 (by kernel_rfl)
    (of_decide_eq_true (by kernel_rfl)) (by unfold Func.isWrapper; first | (rw [if_pos (by decide +kernel)]; kernel_rfl) | (rw [if_neg (by decide +kernel)]; exact ⟨rfl, rfl⟩))
    (fun os started H enc _ F => by rw [OpenClaim.pre_eq_preRow]; exact lifted os started H enc F)

/-- No parameter wants a stand-in; the program's own looks are off. -/
theorem plain (f : FuncId) (fn : Func) (hf : Tryd.pinned.checked.prog.funcNamed "sigillum/sigillumlaw29.NodeBoot" = some f) (hfn : Tryd.pinned.checked.prog.funcs[f]? = some fn) :
    true = Tryd.pinned.checked.prog.looks [] ∧ ∀ (j : Nat) t, fn.params[j]? = some t → Tryd.pinned.checked.prog.wantsStandIn t = false := by
  obtain rfl : f = 3 := Option.some.inj ((show Tryd.prog.funcNamed "sigillum/sigillumlaw29.NodeBoot" = some 3 by kernel_rfl).symm.trans hf) |>.symm
  obtain rfl : fn = Tryd.f3 := (Option.some.inj (Tryd.func3.symm.trans hfn)).symm
  refine ⟨by kernel_rfl, fun j t ht => ?_⟩
  have hall : (Tryd.f3.params.toList.all fun t => !Tryd.prog.wantsStandIn t) = true := by kernel_rfl
  have := List.all_eq_true.1 hall t (by have := Array.mem_of_getElem? ht; simpa using this)
  have h2 : Tryd.prog.wantsStandIn t = false := by simpa using this
  exact h2

theorem proved : Rows.NodeBootCardSaid :=
  Claim7.holds_tied_plain_at .later [] _ _ _ _ said (fun _ h => by cases h) (by kernel_rfl) (fun _ h => by cases h) nodeBoot_row_tie rfl ⟨rfl, rfl⟩ (by kernel_rfl) rfl plain (by kernel_rfl)
end Go.Proofs.YtjpaahcblnnhaaaDoor.nodeBoot
