/- 'sigillumlaw24.SkeletonServes' returns true for every list of numbers and of acts, where errors.errorType starts as the program's text lays it (the card ties that): no other condition. -/
import Derived.Test.YtcdkkdnpphkieaaDoorServes
import Derived.Test.YtcdkkdnpphkieaaDoorAbTys
import Derived.Test.YtcdkkdnpphkieaaDoorCards
import Derived.Test.YtcdkkdnpphkieaaDoorTie
import Derived.WalkKit
import Derived.ProofKit
import Derived.OpenShut
import Derived.LaidHandle
import Derived.Deep.DeepHandedRow
namespace Go.Proofs.YtcdkkdnpphkieaaDoor.skeletonServes
open Go.ChangeShapes Go.WideShapes Go.ChangeAt Go.RowKit Go.Ab
set_option linter.unusedVariables false

theorem own : ownKnob Tryd.prog.godebug = none := by kernel_rfl
theorem laidOut : laidOutB Tryd.prog = true := by kernel_rfl
theorem et : Tryd.prog.globalNamed "errors.errorType" = some 0 := by kernel_rfl
theorem rt : (Tryd.prog.cutTypes.find? (·.1 == "internal/reflectlite.rtype")).map (·.2) = some 156 := by kernel_rfl
theorem oneRow : ((List.range 196).filter fun t => Tryd.prog.rowNamed t [101, 114, 114, 111, 114]) = [36] := by kernel_rfl
theorem size : Tryd.prog.types.size = 196 := by kernel_rfl

/-- What the row's list gives: the variable's one cell. -/
theorem glob {W : World} (h : laidMetH Tryd.prog Rows.skeletonServesRow.laid W) : Gl W fun _ => False := by
  have h' : laidMet Tryd.prog [] W ∧ handlesMet Tryd.prog Rows.skeletonServesRow.laid W := h
  obtain ⟨name, u, ty, e1, e2, e3, e4, e5⟩ := h'.2 _ (List.mem_singleton.2 rfl)
  have en : name = [101, 114, 114, 111, 114] := (Option.some.inj e1).symm
  subst en
  obtain rfl := Option.some.inj (rt.symm.trans e2)
  have hm : ty ∈ (List.range 196).filter fun t => Tryd.prog.rowNamed t [101, 114, 114, 111, 114] := List.mem_filter.2 ⟨List.mem_range.2 (by rw [← size]; exact e3), e4⟩
  rw [oneRow] at hm
  obtain rfl := List.mem_singleton.1 hm
  have hh : typeHandle Tryd.prog 36 = .pointer (some ⟨1, 36, none⟩) := by kernel_rfl
  rw [hh] at e5
  exact ⟨by simpa [gcell] using World.var?_cell et e5 0, id⟩

/-- A world that meets the row's list: the settled one, the variable's cell laid. -/
noncomputable def laidWorld (os : Os) : World :=
  let w0 := World.holding Tryd.prog os ⟨#[], #[], []⟩
  { w0 with heap := w0.heap.modify 0 fun
      | .cells _ t frozen => .cells #[gcell] t frozen
      | o => o }
theorem laidWorld_met (os : Os) (args : Array Value) : laidMetH Tryd.prog Rows.skeletonServesRow.laid ((laidWorld os).forCall (fun _ _ => 0) ⟨#[], args, []⟩).memory :=
  laidMetH_of_parts (laidMet_nil _ _) (by kernel_rfl)
theorem reads (os : Os) {H : Type} (enc : TypeId × Value → H) : DataW.whole enc Tryd.prog ((laidWorld os).forCall (fun _ _ => 0) ⟨#[], #[.slice none 0 0, .slice none 0 0], []⟩).memory Tryd.f8.params.toList (OpenSpec.ofChange Rows.skeletonServesSpec).vars false #[.slice none 0 0, .slice none 0 0].toList 8 = some ([.nil, .nil], [], []) := by kernel_rfl

theorem nums_ty : TyOk Tryd.prog 33 (.slice (.int .u64)) := .slice Tryd.underlying33 (by kernel_rfl) (by decide) (.int Tryd.underlying22)
theorem nums_all {H : Type} {s : S} : ∀ {ds : List (DataW H)} {es : List (List AV)}, HasAll s (.int .u64) ds es → ∃ ns : List Nat, es = ns.map (fun (n : Nat) => [AV.int .u64 (n : Int)]) ∧ ∀ n ∈ ns, n < 18446744073709551616
  | _, _, .nil => ⟨[], rfl, by simp⟩
  | _, _, .cons h1 _ h2 => by
    obtain ⟨n, rfl, hn, hn2⟩ := h1.u64
    obtain ⟨ns, rfl, h3⟩ := nums_all h2
    obtain ⟨n, rfl⟩ := Int.eq_ofNat_of_zero_le hn
    refine ⟨n :: ns, rfl, ?_⟩
    intro m hm
    rcases List.mem_cons.1 hm with rfl | hm
    · omega
    · exact h3 m hm
theorem nums_of {H : Type} {s : S} {d : DataW H} {cs : List AV} (hs : Small Tryd.prog 33 d) (h : Has s (.slice (.int .u64)) d cs) : ∃ v ns, cs = [v] ∧ NumsAt s v ns ∧ ns.length ≤ 17592186044416 ∧ ∀ n ∈ ns, n < 18446744073709551616 := by
  cases h with
  | nil => exact ⟨_, [], rfl, ⟨rfl, .inl rfl⟩, by simp, by simp⟩
  | zero a => exact ⟨_, [], rfl, ⟨rfl, .inr (.inl ⟨a, rfl⟩)⟩, by simp, by simp⟩
  | slice hg hb hl hc hm he =>
    have h2 := hs.len Tryd.underlying33
    have hb1 : Tryd.prog.bytesOf 22 = 8 := by kernel_rfl
    rw [hb1] at h2
    have h4 := he.length
    obtain ⟨ns, rfl, h3⟩ := nums_all he
    rw [List.length_map] at hl h4
    subst hl
    refine ⟨_, ns, rfl, ⟨rfl, .inr (.inr ⟨_, _, _, rfl, hb, ?_⟩)⟩, ?_, h3⟩
    · intro i n hi
      exact he.read hg (by simp [hi])
    · have : reachBytes = 140737488351232 := rfl
      omega

theorem cap_ty : TyOk Tryd.prog 25 (.struct [.int .u64, .int .u32, .int .u8, .int .u64]) :=
  .struct Tryd.underlying25 (by kernel_rfl) (.cons rfl (by kernel_rfl) (.int Tryd.underlying22) (.cons rfl (by kernel_rfl) (.int Tryd.underlying23) (.cons rfl (by kernel_rfl) (.int Tryd.underlying5) (.cons rfl (by kernel_rfl) (.int Tryd.underlying22) .nil))))
theorem bytes_ty : TyOk Tryd.prog 50 (.slice (.int .u8)) := .slice Tryd.underlying50 (by kernel_rfl) (by decide) (.int Tryd.underlying5)
theorem msg_ty : TyOk Tryd.prog 79 (.struct [.int .u64, .int .u64, .int .u32, .int .u16, .int .u16, .struct [.int .u64, .int .u32, .int .u8, .int .u64], .int .u64, .slice (.int .u8)]) :=
  .struct Tryd.underlying79 (by kernel_rfl) (.cons rfl (by kernel_rfl) (.int Tryd.underlying22) (.cons rfl (by kernel_rfl) (.int Tryd.underlying22) (.cons rfl (by kernel_rfl) (.int Tryd.underlying23) (.cons rfl (by kernel_rfl) (.int Tryd.underlying77) (.cons rfl (by kernel_rfl) (.int Tryd.underlying77) (.cons rfl (by kernel_rfl) cap_ty (.cons rfl (by kernel_rfl) (.int Tryd.underlying22) (.cons rfl (by kernel_rfl) bytes_ty .nil))))))))
theorem cap_of {H : Type} {s : S} {d : DataW H} {cs : List AV} (h : Has s (.struct [.int .u64, .int .u32, .int .u8, .int .u64]) d cs) : ∃ p o r k : Nat, cs = [.int .u64 p, .int .u32 o, .int .u8 r, .int .u64 k] ∧ p < 18446744073709551616 ∧ o < 4294967296 ∧ r < 256 ∧ k < 18446744073709551616 := by
  cases h with
  | struct h =>
    cases h with | cons h1 _ h => cases h with | cons h2 _ h => cases h with | cons h3 _ h => cases h with | cons h4 _ h => cases h with | nil =>
    obtain ⟨p, rfl, hp, hp2⟩ := h1.u64
    obtain ⟨o, rfl, ho, ho2⟩ := h2.u32
    obtain ⟨r, rfl, hr, hr2⟩ := h3.u8
    obtain ⟨k, rfl, hk, hk2⟩ := h4.u64
    obtain ⟨p, rfl⟩ := Int.eq_ofNat_of_zero_le hp
    obtain ⟨o, rfl⟩ := Int.eq_ofNat_of_zero_le ho
    obtain ⟨r, rfl⟩ := Int.eq_ofNat_of_zero_le hr
    obtain ⟨k, rfl⟩ := Int.eq_ofNat_of_zero_le hk
    exact ⟨p, o, r, k, rfl, by omega, by omega, by omega, by omega⟩
theorem msg_of {H : Type} {s : S} {d : DataW H} {cs : List AV} (hs : Small Tryd.prog 79 d) (h : Has s (.struct [.int .u64, .int .u64, .int .u32, .int .u16, .int .u16, .struct [.int .u64, .int .u32, .int .u8, .int .u64], .int .u64, .slice (.int .u8)]) d cs) : ∃ (m : Ms) (v : AV), cs = m.cells v ∧ m.fit ∧ Bytes s v m.data := by
  cases h with
  | struct h =>
    cases h with | cons h1 _ h => cases h with | cons h2 _ h => cases h with | cons h3 _ h => cases h with | cons h4 _ h => cases h with | cons h5 _ h => cases h with | cons h6 _ h => cases h with | cons h7 _ h => cases h with | cons h8 _ h => cases h with | nil =>
    obtain ⟨to, rfl, a1, b1⟩ := h1.u64
    obtain ⟨reply, rfl, a2, b2⟩ := h2.u64
    obtain ⟨id, rfl, a3, b3⟩ := h3.u32
    obtain ⟨op, rfl, a4, b4⟩ := h4.u16
    obtain ⟨st, rfl, a5, b5⟩ := h5.u16
    obtain ⟨p, o, r, k, rfl, hp, ho, hr, hk⟩ := cap_of h6
    obtain ⟨arg, rfl, a7, b7⟩ := h7.u64
    obtain ⟨v, l, rfl, hv, hl⟩ := Small.bytes (hs.field Tryd.underlying79 (j := 7) (u := 50) rfl rfl) Tryd.underlying50 (by kernel_rfl) h8
    obtain ⟨to, rfl⟩ := Int.eq_ofNat_of_zero_le a1
    obtain ⟨reply, rfl⟩ := Int.eq_ofNat_of_zero_le a2
    obtain ⟨id, rfl⟩ := Int.eq_ofNat_of_zero_le a3
    obtain ⟨op, rfl⟩ := Int.eq_ofNat_of_zero_le a4
    obtain ⟨st, rfl⟩ := Int.eq_ofNat_of_zero_le a5
    obtain ⟨arg, rfl⟩ := Int.eq_ofNat_of_zero_le a7
    exact ⟨⟨to, reply, id, op, st, p, o, r, k, arg, l⟩, v, rfl, ⟨Int.ofNat_lt.1 b1, Int.ofNat_lt.1 b2, Int.ofNat_lt.1 b3, Int.ofNat_lt.1 b4, Int.ofNat_lt.1 b5, hp, ho, hr, hk, Int.ofNat_lt.1 b7, hl⟩, hv⟩

theorem act_ty : TyOk Tryd.prog 81 (.struct [.int .u16, .int .u8, .int .u8, .struct [.int .u64, .int .u64, .int .u32, .int .u16, .int .u16, .struct [.int .u64, .int .u32, .int .u8, .int .u64], .int .u64, .slice (.int .u8)]]) :=
  .struct Tryd.underlying81 (by kernel_rfl) (.cons rfl (by kernel_rfl) (.int Tryd.underlying77) (.cons rfl (by kernel_rfl) (.int Tryd.underlying5) (.cons rfl (by kernel_rfl) (.int Tryd.underlying5) (.cons rfl (by kernel_rfl) msg_ty .nil))))
theorem acts_ty : TyOk Tryd.prog 70 (.slice (.struct [.int .u16, .int .u8, .int .u8, .struct [.int .u64, .int .u64, .int .u32, .int .u16, .int .u16, .struct [.int .u64, .int .u32, .int .u8, .int .u64], .int .u64, .slice (.int .u8)]])) := .slice Tryd.underlying70 (by kernel_rfl) (by decide) act_ty
theorem act_of {H : Type} {s : S} {d : DataW H} {cs : List AV} (hs : Small Tryd.prog 81 d) (h : Has s (.struct [.int .u16, .int .u8, .int .u8, .struct [.int .u64, .int .u64, .int .u32, .int .u16, .int .u16, .struct [.int .u64, .int .u32, .int .u8, .int .u64], .int .u64, .slice (.int .u8)]]) d cs) : ∃ (a : Go.Ab.Act) (v : AV), cs = a.cells v ∧ a.fit ∧ Bytes s v a.m.data := by
  cases h with
  | struct h =>
    cases h with | cons h1 _ h => cases h with | cons h2 _ h => cases h with | cons h3 _ h => cases h with | cons h4 _ h => cases h with | nil =>
    obtain ⟨op, rfl, a1, b1⟩ := h1.u16
    obtain ⟨which, rfl, a2, b2⟩ := h2.u8
    obtain ⟨change, rfl, a3, b3⟩ := h3.u8
    obtain ⟨m, v, rfl, hm, hv⟩ := msg_of (hs.field Tryd.underlying81 (j := 3) (u := 79) rfl rfl) h4
    obtain ⟨op, rfl⟩ := Int.eq_ofNat_of_zero_le a1
    obtain ⟨which, rfl⟩ := Int.eq_ofNat_of_zero_le a2
    obtain ⟨change, rfl⟩ := Int.eq_ofNat_of_zero_le a3
    refine ⟨⟨op, which, change, m⟩, v, ?_, ⟨Int.ofNat_lt.1 b1, Int.ofNat_lt.1 b2, Int.ofNat_lt.1 b3, hm⟩, hv⟩
    simp [Go.Ab.Act.cells]
theorem acts_all {H : Type} {s : S} : ∀ {ds : List (DataW H)} {es : List (List AV)}, HasAll s (.struct [.int .u16, .int .u8, .int .u8, .struct [.int .u64, .int .u64, .int .u32, .int .u16, .int .u16, .struct [.int .u64, .int .u32, .int .u8, .int .u64], .int .u64, .slice (.int .u8)]]) ds es → (∀ d ∈ ds, Small Tryd.prog 81 d) → ∃ l : List (Go.Ab.Act × AV), es = l.map (fun p => p.1.cells p.2) ∧ ∀ p ∈ l, p.1.fit ∧ Bytes s p.2 p.1.m.data
  | _, _, .nil, _ => ⟨[], rfl, by simp⟩
  | _, _, .cons h1 _ h2, hs => by
    obtain ⟨a, v, rfl, ha, hv⟩ := act_of (hs _ (List.mem_cons_self ..)) h1
    obtain ⟨l, rfl, h3⟩ := acts_all h2 (fun d hd => hs d (List.mem_cons_of_mem _ hd))
    refine ⟨(a, v) :: l, rfl, ?_⟩
    intro p hp
    rcases List.mem_cons.1 hp with rfl | hp
    · exact ⟨ha, hv⟩
    · exact h3 p hp
theorem acts_of {H : Type} {s : S} {d : DataW H} {cs : List AV} (hs : Small Tryd.prog 70 d) (h : Has s (.slice (.struct [.int .u16, .int .u8, .int .u8, .struct [.int .u64, .int .u64, .int .u32, .int .u16, .int .u16, .struct [.int .u64, .int .u32, .int .u8, .int .u64], .int .u64, .slice (.int .u8)]])) d cs) : ∃ v bs, cs = [v] ∧ ActsAt s v bs ∧ bs.length ≤ 1759218604442 ∧ ∀ a ∈ bs, a.fit := by
  cases h with
  | nil => exact ⟨_, [], rfl, ⟨rfl, .inl rfl⟩, by simp, by simp⟩
  | zero a => exact ⟨_, [], rfl, ⟨rfl, .inr (.inl ⟨a, rfl⟩)⟩, by simp, by simp⟩
  | slice hg hb hl hc hm he =>
    have h2 := hs.len Tryd.underlying70
    have hb1 : Tryd.prog.bytesOf 81 = 88 := by kernel_rfl
    rw [hb1] at h2
    have h4 := he.length
    obtain ⟨l, rfl, h3⟩ := acts_all he (fun d hd => hs.elem Tryd.underlying70 hd)
    rw [List.length_map] at hl h4
    subst hl
    refine ⟨_, l.map (·.1), rfl, ⟨by simp [lenV], .inr (.inr ⟨_, _, _, by rw [List.length_map], hb, ?_⟩)⟩, ?_, ?_⟩
    · intro i a hi
      rw [List.getElem?_map] at hi
      cases hp : l[i]? with
      | none => rw [hp] at hi; cases hi
      | some p =>
        rw [hp] at hi
        cases hi
        refine ⟨p.2, ?_, (h3 p (List.mem_of_getElem? hp)).2⟩
        have hr := he.read hg (i := i) (c := p.1.cells p.2) (by simp [hp])
        exact hr
    · have : reachBytes = 140737488351232 := rfl
      rw [List.length_map]
      omega
    · intro a ha
      obtain ⟨p, hp, rfl⟩ := List.mem_map.1 ha
      exact (h3 p hp).1

set_option maxRecDepth 100000 in
theorem lifted (os : Os) (started : os.Started) (H : Type) (enc : TypeId × Value → H) (F : Stop.Interp) :
    ReturnsInHanded {} Tryd.checked os 8 .any ((OpenSpec.ofChange Rows.skeletonServesSpec).preRow enc Tryd.prog Tryd.f8 Rows.skeletonServesRow.domain false Rows.skeletonServesRow.laid) (((OpenSpec.ofChange Rows.skeletonServesSpec).at F).post enc Tryd.prog Tryd.f8 false true false false) := by
  refine returnsInHanded_of_row (C := Tryd.checked) (s := (OpenSpec.ofChange Rows.skeletonServesSpec)) own started (by kernel_rfl) Tryd.func8
    (witness_row_at (enc := enc) (C := Tryd.checked) false (laidWorld os) #[.slice none 0 0, .slice none 0 0] rfl (by kernel_rfl) (by kernel_rfl) (by kernel_rfl)
      (OpenSpec.preRow_of_cond 8 (reads os enc) (by kernel_rfl) (fun k hk => by cases hk) (by kernel_rfl) (laidWorld_met os _))) ?_
  intro W base args ds gs before hval hW _ hk hz hL _ _
  refine law_contract tab_ok (s := Rows.skeletonServesSpec) (ys := [.slice (.int .u64), .slice (.struct [.int .u16, .int .u8, .int .u8, .struct [.int .u64, .int .u64, .int .u32, .int .u16, .int .u16, .struct [.int .u64, .int .u32, .int .u8, .int .u64], .int .u64, .slice (.int .u8)]])]) (tb := 4) ?_ rfl ?_ rfl Tryd.underlying4 laidOut (by kernel_rfl) hval hW (glob hL) ?_
  · show TysOk Tryd.prog Tryd.f8.params.toList _
    rw [Tryd.params8]
    exact .cons (nums_ty) (.cons (acts_ty) (.nil))
  · intro ds hds
    have hds : ds.length = 2 := hds
    match ds, hds with
    | [d1, d2], _ => exact ⟨rfl, rfl, rfl⟩
  · intro s avs hargs hgs
    subst hgs
    cases hargs with | cons h1 hargs => cases hargs with | cons h2 hargs => cases hargs with | nil =>
    have hz' : (DataW.weightsEach Tryd.prog (Tryd.f8.params.toList ++ Rows.skeletonServesSpec.plain.varTypes Tryd.prog) ([_, _] ++ [])).all (· ≤ reachBytes) = true := hz
    obtain ⟨u, ns, rfl, hu, hlns, hbns⟩ := nums_of (Small.of_each hz' (j := 0) (by rw [Tryd.params8]; rfl) rfl) h1
    have hz' : (DataW.weightsEach Tryd.prog (Tryd.f8.params.toList ++ Rows.skeletonServesSpec.plain.varTypes Tryd.prog) ([_, _] ++ [])).all (· ≤ reachBytes) = true := hz
    obtain ⟨v, bs, rfl, hv, hlbs, hbbs⟩ := acts_of (Small.of_each hz' (j := 1) (by rw [Tryd.params8]; rfl) rfl) h2
    exact serves_law hu hlns hv hbbs hlbs

theorem said : Rows.SkeletonServesSaid :=
  OpenClaim.holds_of_cond 8 Tryd.f8 rfl rfl rfl rfl rfl rfl rfl ⟨rfl, rfl, rfl, rfl, rfl⟩ rfl rfl rfl rfl rfl (by kernel_rfl) Tryd.func8 (by kernel_rfl)
    (of_decide_eq_true (by kernel_rfl)) (by unfold Func.isWrapper; first | (rw [if_pos (by decide +kernel)]; kernel_rfl) | (rw [if_neg (by decide +kernel)]; exact ⟨rfl, rfl⟩))
    (fun os started H enc _ F => by rw [OpenClaim.pre_eq_preRow]; exact lifted os started H enc F)

/-- No parameter wants a stand-in; the program's own looks are off. -/
theorem plain (f : FuncId) (fn : Func) (hf : Tryd.pinned.checked.prog.funcNamed "sigillum/sigillumlaw24.SkeletonServes" = some f) (hfn : Tryd.pinned.checked.prog.funcs[f]? = some fn) :
    true = Tryd.pinned.checked.prog.looks [] ∧ ∀ (j : Nat) t, fn.params[j]? = some t → Tryd.pinned.checked.prog.wantsStandIn t = false := by
  obtain rfl : f = 8 := Option.some.inj ((show Tryd.prog.funcNamed "sigillum/sigillumlaw24.SkeletonServes" = some 8 by kernel_rfl).symm.trans hf) |>.symm
  obtain rfl : fn = Tryd.f8 := (Option.some.inj (Tryd.func8.symm.trans hfn)).symm
  refine ⟨by kernel_rfl, fun j t ht => ?_⟩
  have hall : (Tryd.f8.params.toList.all fun t => !Tryd.prog.wantsStandIn t) = true := by kernel_rfl
  have := List.all_eq_true.1 hall t (by have := Array.mem_of_getElem? ht; simpa using this)
  have h2 : Tryd.prog.wantsStandIn t = false := by simpa using this
  exact h2

theorem proved : Rows.SkeletonServesCardSaid :=
  Claim7.holds_tied_plain_at .later [] _ _ _ _ said (fun _ h => by cases h) (by kernel_rfl) (fun _ h => by cases h) skeletonServes_row_tie rfl ⟨rfl, rfl⟩ (by kernel_rfl) rfl plain (by kernel_rfl)
end Go.Proofs.YtcdkkdnpphkieaaDoor.skeletonServes
