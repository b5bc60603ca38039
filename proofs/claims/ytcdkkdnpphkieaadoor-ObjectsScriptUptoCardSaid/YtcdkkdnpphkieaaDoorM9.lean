/- 'sigillumlaw23.ObjectsScript' returns true for every port, list of numbers and list of steps, where these are of bulk at most 1048576, where errors.errorType starts as the program's text lays it (the card ties that): no other condition. -/
import Derived.Test.YtcdkkdnpphkieaaDoorScript
import Derived.Test.YtcdkkdnpphkieaaDoorAbTys
import Derived.Test.YtcdkkdnpphkieaaDoorCards
import Derived.Test.YtcdkkdnpphkieaaDoorTie
import Derived.WalkKit
import Derived.ProofKit
import Derived.OpenShut
import Derived.LaidHandle
import Derived.Deep.DeepHandedRow
namespace Go.Proofs.YtcdkkdnpphkieaaDoor.objectsScriptUpto
open Go.ChangeShapes Go.WideShapes Go.ChangeAt Go.RowKit Go.Ab
set_option linter.unusedVariables false

theorem own : ownKnob Tryd.prog.godebug = none := by kernel_rfl
theorem laidOut : laidOutB Tryd.prog = true := by kernel_rfl
theorem et : Tryd.prog.globalNamed "errors.errorType" = some 0 := by kernel_rfl
theorem rt : (Tryd.prog.cutTypes.find? (·.1 == "internal/reflectlite.rtype")).map (·.2) = some 156 := by kernel_rfl
theorem oneRow : ((List.range 196).filter fun t => Tryd.prog.rowNamed t [101, 114, 114, 111, 114]) = [36] := by kernel_rfl
theorem size : Tryd.prog.types.size = 196 := by kernel_rfl

/-- What the row's list gives: the variable's one cell. -/
theorem glob {W : World} (h : laidMetH Tryd.prog Rows.objectsScriptUptoRow.laid W) : Gl W fun _ => False := by
  have h' : laidMet Tryd.prog [] W ∧ handlesMet Tryd.prog Rows.objectsScriptUptoRow.laid W := h
  obtain ⟨name, u, ty, e1, e2, e3, e4, e5⟩ := h'.2 _ (List.mem_singleton.2 rfl)
  have en : name = [101, 114, 114, 111, 114] := (Option.some.inj e1).symm
  subst en
  obtain rfl := Option.some.inj (rt.symm.trans e2)
  have hm : ty ∈ (List.range 196).filter fun t => Tryd.prog.rowNamed t [101, 114, 114, 111, 114] := List.mem_filter.2 ⟨List.mem_range.2 (by rw [← size]; exact e3), e4⟩
  rw [oneRow] at hm
  obtain rfl := List.mem_singleton.1 hm
  have hh : typeHandle Tryd.prog 36 = .pointer (some ⟨1, 36, none⟩) := by kernel_rfl
  rw [hh] at e5
  exact ⟨by simpa [gcell] using World.var?_cell et e5 0, id⟩

/-- A world that meets the row's list: the settled one, the variable's cell laid. -/
noncomputable def laidWorld (os : Os) : World :=
  let w0 := World.holding Tryd.prog os ⟨#[], #[], []⟩
  { w0 with heap := w0.heap.modify 0 fun
      | .cells _ t frozen => .cells #[gcell] t frozen
      | o => o }
theorem laidWorld_met (os : Os) (args : Array Value) : laidMetH Tryd.prog Rows.objectsScriptUptoRow.laid ((laidWorld os).forCall (fun _ _ => 0) ⟨#[], args, []⟩).memory :=
  laidMetH_of_parts (laidMet_nil _ _) (by kernel_rfl)
theorem reads (os : Os) {H : Type} (enc : TypeId × Value → H) : DataW.whole enc Tryd.prog ((laidWorld os).forCall (fun _ _ => 0) ⟨#[], #[.int .u64 0, .slice none 0 0, .slice none 0 0], []⟩).memory Tryd.f7.params.toList (Rows.OpenSpec.upto Rows.objectsScriptSpec).vars false #[.int .u64 0, .slice none 0 0, .slice none 0 0].toList 8 = some ([.lit (.int .u64 0), .nil, .nil], [], []) := by kernel_rfl

theorem nums_ty : TyOk Tryd.prog 33 (.slice (.int .u64)) := .slice Tryd.underlying33 (by kernel_rfl) (by decide) (.int Tryd.underlying22)
theorem nums_all {H : Type} {s : S} : ∀ {ds : List (DataW H)} {es : List (List AV)}, HasAll s (.int .u64) ds es → ∃ ns : List Nat, es = ns.map (fun (n : Nat) => [AV.int .u64 (n : Int)]) ∧ ∀ n ∈ ns, n < 18446744073709551616
  | _, _, .nil => ⟨[], rfl, by simp⟩
  | _, _, .cons h1 _ h2 => by
    obtain ⟨n, rfl, hn, hn2⟩ := h1.u64
    obtain ⟨ns, rfl, h3⟩ := nums_all h2
    obtain ⟨n, rfl⟩ := Int.eq_ofNat_of_zero_le hn
    refine ⟨n :: ns, rfl, ?_⟩
    intro m hm
    rcases List.mem_cons.1 hm with rfl | hm
    · omega
    · exact h3 m hm
theorem nums_of {H : Type} {s : S} {d : DataW H} {cs : List AV} (hs : Small Tryd.prog 33 d) (h : Has s (.slice (.int .u64)) d cs) : ∃ v ns, cs = [v] ∧ NumsAt s v ns ∧ ns.length ≤ 17592186044416 ∧ ∀ n ∈ ns, n < 18446744073709551616 := by
  cases h with
  | nil => exact ⟨_, [], rfl, ⟨rfl, .inl rfl⟩, by simp, by simp⟩
  | zero a => exact ⟨_, [], rfl, ⟨rfl, .inr (.inl ⟨a, rfl⟩)⟩, by simp, by simp⟩
  | slice hg hb hl hc hm he =>
    have h2 := hs.len Tryd.underlying33
    have hb1 : Tryd.prog.bytesOf 22 = 8 := by kernel_rfl
    rw [hb1] at h2
    have h4 := he.length
    obtain ⟨ns, rfl, h3⟩ := nums_all he
    rw [List.length_map] at hl h4
    subst hl
    refine ⟨_, ns, rfl, ⟨rfl, .inr (.inr ⟨_, _, _, rfl, hb, ?_⟩)⟩, ?_, h3⟩
    · intro i n hi
      exact he.read hg (by simp [hi])
    · have : reachBytes = 140737488351232 := rfl
      omega

theorem bulk_pos {H : Type} (d : DataW H) : 1 ≤ Rows.uptoBulk d := by
  cases d with
  | lit l => cases l <;> simp [Rows.uptoBulk]
  | _ => simp [Rows.uptoBulk]
theorem bulk_len {H : Type} : ∀ es : List (DataW H), es.length ≤ Rows.uptoBulkAll es
  | [] => by simp
  | d :: r => by
    have := bulk_pos d
    have := bulk_len r
    simp only [Rows.uptoBulkAll, List.length_cons]
    omega

theorem step_ty : TyOk Tryd.prog 65 (.struct [.int .u8, .int .u8, .int .u8, .int .u8]) :=
  .struct Tryd.underlying65 (by kernel_rfl) (.cons rfl (by kernel_rfl) (.int Tryd.underlying5) (.cons rfl (by kernel_rfl) (.int Tryd.underlying5) (.cons rfl (by kernel_rfl) (.int Tryd.underlying5) (.cons rfl (by kernel_rfl) (.int Tryd.underlying5) .nil))))
theorem steps_ty : TyOk Tryd.prog 57 (.slice (.struct [.int .u8, .int .u8, .int .u8, .int .u8])) := .slice Tryd.underlying57 (by kernel_rfl) (by decide) step_ty
theorem step_of {H : Type} {s : S} {d : DataW H} {cs : List AV} (h : Has s (.struct [.int .u8, .int .u8, .int .u8, .int .u8]) d cs) : ∃ a : Nat × Nat × Nat × Nat, cs = stepC a.1 a.2.1 a.2.2.1 a.2.2.2 ∧ stepFit a := by
  cases h with
  | struct h =>
    cases h with | cons h1 _ h => cases h with | cons h2 _ h => cases h with | cons h3 _ h => cases h with | cons h4 _ h => cases h with | nil =>
    obtain ⟨a, rfl, a1, b1⟩ := h1.u8
    obtain ⟨b, rfl, a2, b2⟩ := h2.u8
    obtain ⟨c, rfl, a3, b3⟩ := h3.u8
    obtain ⟨e, rfl, a4, b4⟩ := h4.u8
    obtain ⟨a, rfl⟩ := Int.eq_ofNat_of_zero_le a1
    obtain ⟨b, rfl⟩ := Int.eq_ofNat_of_zero_le a2
    obtain ⟨c, rfl⟩ := Int.eq_ofNat_of_zero_le a3
    obtain ⟨e, rfl⟩ := Int.eq_ofNat_of_zero_le a4
    exact ⟨(a, b, c, e), rfl, Int.ofNat_lt.1 b1, Int.ofNat_lt.1 b2, Int.ofNat_lt.1 b3, Int.ofNat_lt.1 b4⟩
theorem steps_all {H : Type} {s : S} : ∀ {ds : List (DataW H)} {es : List (List AV)}, HasAll s (.struct [.int .u8, .int .u8, .int .u8, .int .u8]) ds es → ∃ l : List (Nat × Nat × Nat × Nat), es = l.map (fun a => stepC a.1 a.2.1 a.2.2.1 a.2.2.2) ∧ ∀ a ∈ l, stepFit a
  | _, _, .nil => ⟨[], rfl, by simp⟩
  | _, _, .cons h1 _ h2 => by
    obtain ⟨a, rfl, ha⟩ := step_of h1
    obtain ⟨l, rfl, h3⟩ := steps_all h2
    refine ⟨a :: l, rfl, ?_⟩
    intro p hp
    rcases List.mem_cons.1 hp with rfl | hp
    · exact ha
    · exact h3 p hp
theorem steps_of {H : Type} {s : S} {d : DataW H} {cs : List AV} (hs : Rows.uptoBulk d ≤ 1048576) (h : Has s (.slice (.struct [.int .u8, .int .u8, .int .u8, .int .u8])) d cs) : ∃ v bs, cs = [v] ∧ StepsAt s v bs ∧ bs.length ≤ 1048576 ∧ ∀ a ∈ bs, stepFit a := by
  cases h with
  | nil => exact ⟨_, [], rfl, ⟨rfl, .inl rfl⟩, by simp, by simp⟩
  | zero a => exact ⟨_, [], rfl, ⟨rfl, .inr (.inl ⟨a, rfl⟩)⟩, by simp, by simp⟩
  | slice hg hb hl hc hm he =>
    rename_i ds rest _
    have h4 := he.length
    have h5 := bulk_len ds
    simp only [Rows.uptoBulk] at hs
    obtain ⟨l, rfl, h3⟩ := steps_all he
    rw [List.length_map] at hl h4
    subst hl
    refine ⟨_, l, rfl, ⟨rfl, .inr (.inr ⟨_, _, _, rfl, hb, ?_⟩)⟩, by omega, h3⟩
    intro i a hi
    exact he.read hg (i := i) (by simp [hi])

set_option maxRecDepth 100000 in
theorem lifted (os : Os) (started : os.Started) (H : Type) (enc : TypeId × Value → H) (F : Stop.Interp) :
    ReturnsInHanded {} Tryd.checked os 7 .any ((Rows.OpenSpec.upto Rows.objectsScriptSpec).preRow enc Tryd.prog Tryd.f7 Rows.objectsScriptUptoRow.domain false Rows.objectsScriptUptoRow.laid) (((Rows.OpenSpec.upto Rows.objectsScriptSpec).at F).post enc Tryd.prog Tryd.f7 false true false false) := by
  refine returnsInHanded_of_row (C := Tryd.checked) (s := (Rows.OpenSpec.upto Rows.objectsScriptSpec)) own started (by kernel_rfl) Tryd.func7
    (witness_row_at (enc := enc) (C := Tryd.checked) false (laidWorld os) #[.int .u64 0, .slice none 0 0, .slice none 0 0] rfl (by kernel_rfl) (by kernel_rfl) (by kernel_rfl)
      (OpenSpec.preRow_of_cond 8 (reads os enc) (by kernel_rfl) (fun k hk => by cases hk; kernel_rfl) (by kernel_rfl) (laidWorld_met os _))) ?_
  intro W base args ds gs before hval hW _ hk hz hL _ _
  refine law_contract tab_ok (s := Rows.objectsScriptSpec) (ys := [.int .u64, .slice (.int .u64), .slice (.struct [.int .u8, .int .u8, .int .u8, .int .u8])]) (tb := 4) ?_ rfl ?_ rfl Tryd.underlying4 laidOut (by kernel_rfl) hval hW (glob hL) ?_
  · show TysOk Tryd.prog Tryd.f7.params.toList _
    rw [Tryd.params7]
    exact .cons ((.int Tryd.underlying22)) (.cons (nums_ty) (.cons (steps_ty) (.nil)))
  · intro ds hds
    have hds : ds.length = 3 := hds
    match ds, hds with
    | [d1, d2, d3], _ => exact ⟨rfl, rfl, rfl⟩
  · intro s avs hargs hgs
    subst hgs
    have hk2 := of_decide_eq_true (hk _ rfl)
    cases hargs with | cons h1 hargs => cases hargs with | cons h2 hargs => cases hargs with | cons h3 hargs => cases hargs with | nil =>
    simp only [List.append_nil, Rows.uptoBulkAll] at hk2
    obtain ⟨p, rfl, hp, hp2⟩ := h1.u64
    obtain ⟨p, rfl⟩ := Int.eq_ofNat_of_zero_le hp
    have hz' : (DataW.weightsEach Tryd.prog (Tryd.f7.params.toList ++ Rows.objectsScriptSpec.plain.varTypes Tryd.prog) ([_, _, _] ++ [])).all (· ≤ reachBytes) = true := hz
    obtain ⟨u, ns, rfl, hu, hlns, hbns⟩ := nums_of (Small.of_each hz' (j := 1) (by rw [Tryd.params7]; rfl) rfl) h2
    obtain ⟨v, bs, rfl, hv, hlbs, hbbs⟩ := steps_of (by omega) h3
    exact script_law p (by omega) hu hlns hv hbbs hlbs

theorem said : Rows.ObjectsScriptUptoSaid :=
  OpenClaim.holds_of_cond 7 Tryd.f7 rfl rfl rfl rfl rfl rfl rfl ⟨rfl, rfl, rfl, rfl, rfl⟩ rfl rfl rfl rfl rfl (by kernel_rfl) Tryd.func7 (by kernel_rfl)
    (of_decide_eq_true (by kernel_rfl)) (by unfold Func.isWrapper; first | (rw [if_pos (by decide +kernel)]; kernel_rfl) | (rw [if_neg (by decide +kernel)]; exact ⟨rfl, rfl⟩))
    (fun os started H enc _ F => by rw [OpenClaim.pre_eq_preRow]; exact lifted os started H enc F)

/-- No parameter wants a stand-in; the program's own looks are off. -/
theorem plain (f : FuncId) (fn : Func) (hf : Tryd.pinned.checked.prog.funcNamed "sigillum/sigillumlaw23.ObjectsScript" = some f) (hfn : Tryd.pinned.checked.prog.funcs[f]? = some fn) :
    true = Tryd.pinned.checked.prog.looks [] ∧ ∀ (j : Nat) t, fn.params[j]? = some t → Tryd.pinned.checked.prog.wantsStandIn t = false := by
  obtain rfl : f = 7 := Option.some.inj ((show Tryd.prog.funcNamed "sigillum/sigillumlaw23.ObjectsScript" = some 7 by kernel_rfl).symm.trans hf) |>.symm
  obtain rfl : fn = Tryd.f7 := (Option.some.inj (Tryd.func7.symm.trans hfn)).symm
  refine ⟨by kernel_rfl, fun j t ht => ?_⟩
  have hall : (Tryd.f7.params.toList.all fun t => !Tryd.prog.wantsStandIn t) = true := by kernel_rfl
  have := List.all_eq_true.1 hall t (by have := Array.mem_of_getElem? ht; simpa using this)
  have h2 : Tryd.prog.wantsStandIn t = false := by simpa using this
  exact h2

theorem proved : Rows.ObjectsScriptUptoCardSaid :=
  Claim7.holds_tied_plain_at .later [] _ _ _ _ said (fun _ h => by cases h) (by kernel_rfl) (fun _ h => by cases h) objectsScriptUpto_row_tie rfl ⟨rfl, rfl⟩ (by kernel_rfl) rfl plain (by kernel_rfl)
end Go.Proofs.YtcdkkdnpphkieaaDoor.objectsScriptUpto
