/- 'sigillumlaw28.StubResult' returns true for every message, bytes and number, and leaves what it was given as it was, where these are of bulk at most 1048576, where errors.errorType starts as the program's text lays it (the card ties that): no other condition. -/
import Derived.Test.YtecpmilepjbaeaaDoorD5
import Derived.Test.YtecpmilepjbaeaaDoorAbTys
import Derived.Test.YtecpmilepjbaeaaDoorCards
import Derived.Test.YtecpmilepjbaeaaDoorTie
import Derived.WalkKit
import Derived.ProofKit
import Derived.OpenShut
import Derived.LaidHandle
import Derived.Deep.DeepHandedRow
namespace Go.Proofs.YtecpmilepjbaeaaDoor.stubResultUpto
open Go.ChangeShapes Go.WideShapes Go.ChangeAt Go.RowKit Go.Ab
set_option linter.unusedVariables false

theorem own : ownKnob Tryd.prog.godebug = none := by kernel_rfl
theorem laidOut : laidOutB Tryd.prog = true := by kernel_rfl
theorem et : Tryd.prog.globalNamed "errors.errorType" = some 0 := by kernel_rfl
theorem rt : (Tryd.prog.cutTypes.find? (·.1 == "internal/reflectlite.rtype")).map (·.2) = some 84 := by kernel_rfl
theorem oneRow : ((List.range 127).filter fun t => Tryd.prog.rowNamed t [101, 114, 114, 111, 114]) = [27] := by kernel_rfl
theorem size : Tryd.prog.types.size = 127 := by kernel_rfl

/-- What the row's list gives: the variable's one cell. -/
theorem glob {W : World} (h : laidMetH Tryd.prog Rows.stubResultUptoRow.laid W) : Gl W fun _ => False := by
  have h' : laidMet Tryd.prog [] W ∧ handlesMet Tryd.prog Rows.stubResultUptoRow.laid W := h
  obtain ⟨name, u, ty, e1, e2, e3, e4, e5⟩ := h'.2 _ (List.mem_singleton.2 rfl)
  have en : name = [101, 114, 114, 111, 114] := (Option.some.inj e1).symm
  subst en
  obtain rfl := Option.some.inj (rt.symm.trans e2)
  have hm : ty ∈ (List.range 127).filter fun t => Tryd.prog.rowNamed t [101, 114, 114, 111, 114] := List.mem_filter.2 ⟨List.mem_range.2 (by rw [← size]; exact e3), e4⟩
  rw [oneRow] at hm
  obtain rfl := List.mem_singleton.1 hm
  have hh : typeHandle Tryd.prog 27 = .pointer (some ⟨1, 27, none⟩) := by kernel_rfl
  rw [hh] at e5
  exact ⟨by simpa [gcell] using World.var?_cell et e5 0, id⟩

/-- A world that meets the row's list: the settled one, the variable's cell laid. -/
noncomputable def laidWorld (os : Os) : World :=
  let w0 := World.holding Tryd.prog os ⟨#[], #[], []⟩
  { w0 with heap := w0.heap.modify 0 fun
      | .cells _ t frozen => .cells #[gcell] t frozen
      | o => o }
theorem laidWorld_met (os : Os) (args : Array Value) : laidMetH Tryd.prog Rows.stubResultUptoRow.laid ((laidWorld os).forCall (fun _ _ => 0) ⟨#[], args, []⟩).memory :=
  laidMetH_of_parts (laidMet_nil _ _) (by kernel_rfl)
theorem reads (os : Os) {H : Type} (enc : TypeId × Value → H) : DataW.whole enc Tryd.prog ((laidWorld os).forCall (fun _ _ => 0) ⟨#[], #[.agg #[.int .u64 0, .int .u64 0, .int .u32 0, .int .u16 0, .int .u16 0, .int .u64 0, .int .u32 0, .int .u8 0, .int .u64 0, .int .u64 0, .slice none 0 0], .slice none 0 0, .int .u64 0], []⟩).memory Tryd.f4.params.toList (Rows.OpenSpec.upto Rows.stubResultSpec).vars false #[.agg #[.int .u64 0, .int .u64 0, .int .u32 0, .int .u16 0, .int .u16 0, .int .u64 0, .int .u32 0, .int .u8 0, .int .u64 0, .int .u64 0, .slice none 0 0], .slice none 0 0, .int .u64 0].toList 8 = some ([.agg [.lit (.int .u64 0), .lit (.int .u64 0), .lit (.int .u32 0), .lit (.int .u16 0), .lit (.int .u16 0), .agg [.lit (.int .u64 0), .lit (.int .u32 0), .lit (.int .u8 0), .lit (.int .u64 0)], .lit (.int .u64 0), .nil], .nil, .lit (.int .u64 0)], [], []) := by kernel_rfl

theorem cap_ty : TyOk Tryd.prog 38 (.struct [.int .u64, .int .u32, .int .u8, .int .u64]) :=
  .struct Tryd.underlying38 (by kernel_rfl) (.cons rfl (by kernel_rfl) (.int Tryd.underlying34) (.cons rfl (by kernel_rfl) (.int Tryd.underlying35) (.cons rfl (by kernel_rfl) (.int Tryd.underlying5) (.cons rfl (by kernel_rfl) (.int Tryd.underlying34) .nil))))
theorem bytes_ty : TyOk Tryd.prog 22 (.slice (.int .u8)) := .slice Tryd.underlying22 (by kernel_rfl) (by decide) (.int Tryd.underlying5)
theorem msg_ty : TyOk Tryd.prog 40 (.struct [.int .u64, .int .u64, .int .u32, .int .u16, .int .u16, .struct [.int .u64, .int .u32, .int .u8, .int .u64], .int .u64, .slice (.int .u8)]) :=
  .struct Tryd.underlying40 (by kernel_rfl) (.cons rfl (by kernel_rfl) (.int Tryd.underlying34) (.cons rfl (by kernel_rfl) (.int Tryd.underlying34) (.cons rfl (by kernel_rfl) (.int Tryd.underlying35) (.cons rfl (by kernel_rfl) (.int Tryd.underlying36) (.cons rfl (by kernel_rfl) (.int Tryd.underlying36) (.cons rfl (by kernel_rfl) cap_ty (.cons rfl (by kernel_rfl) (.int Tryd.underlying34) (.cons rfl (by kernel_rfl) bytes_ty .nil))))))))
theorem cap_of {H : Type} {s : S} {d : DataW H} {cs : List AV} (h : Has s (.struct [.int .u64, .int .u32, .int .u8, .int .u64]) d cs) : ∃ p o r k : Nat, cs = [.int .u64 p, .int .u32 o, .int .u8 r, .int .u64 k] ∧ p < 18446744073709551616 ∧ o < 4294967296 ∧ r < 256 ∧ k < 18446744073709551616 := by
  cases h with
  | struct h =>
    cases h with | cons h1 _ h => cases h with | cons h2 _ h => cases h with | cons h3 _ h => cases h with | cons h4 _ h => cases h with | nil =>
    obtain ⟨p, rfl, hp, hp2⟩ := h1.u64
    obtain ⟨o, rfl, ho, ho2⟩ := h2.u32
    obtain ⟨r, rfl, hr, hr2⟩ := h3.u8
    obtain ⟨k, rfl, hk, hk2⟩ := h4.u64
    obtain ⟨p, rfl⟩ := Int.eq_ofNat_of_zero_le hp
    obtain ⟨o, rfl⟩ := Int.eq_ofNat_of_zero_le ho
    obtain ⟨r, rfl⟩ := Int.eq_ofNat_of_zero_le hr
    obtain ⟨k, rfl⟩ := Int.eq_ofNat_of_zero_le hk
    exact ⟨p, o, r, k, rfl, by omega, by omega, by omega, by omega⟩
theorem msg_of {H : Type} {s : S} {d : DataW H} {cs : List AV} (hs : Small Tryd.prog 40 d) (h : Has s (.struct [.int .u64, .int .u64, .int .u32, .int .u16, .int .u16, .struct [.int .u64, .int .u32, .int .u8, .int .u64], .int .u64, .slice (.int .u8)]) d cs) : ∃ (m : Ms) (v : AV), cs = m.cells v ∧ m.fit ∧ Bytes s v m.data := by
  cases h with
  | struct h =>
    cases h with | cons h1 _ h => cases h with | cons h2 _ h => cases h with | cons h3 _ h => cases h with | cons h4 _ h => cases h with | cons h5 _ h => cases h with | cons h6 _ h => cases h with | cons h7 _ h => cases h with | cons h8 _ h => cases h with | nil =>
    obtain ⟨to, rfl, a1, b1⟩ := h1.u64
    obtain ⟨reply, rfl, a2, b2⟩ := h2.u64
    obtain ⟨id, rfl, a3, b3⟩ := h3.u32
    obtain ⟨op, rfl, a4, b4⟩ := h4.u16
    obtain ⟨st, rfl, a5, b5⟩ := h5.u16
    obtain ⟨p, o, r, k, rfl, hp, ho, hr, hk⟩ := cap_of h6
    obtain ⟨arg, rfl, a7, b7⟩ := h7.u64
    obtain ⟨v, l, rfl, hv, hl⟩ := Small.bytes (hs.field Tryd.underlying40 (j := 7) (u := 22) rfl rfl) Tryd.underlying22 (by kernel_rfl) h8
    obtain ⟨to, rfl⟩ := Int.eq_ofNat_of_zero_le a1
    obtain ⟨reply, rfl⟩ := Int.eq_ofNat_of_zero_le a2
    obtain ⟨id, rfl⟩ := Int.eq_ofNat_of_zero_le a3
    obtain ⟨op, rfl⟩ := Int.eq_ofNat_of_zero_le a4
    obtain ⟨st, rfl⟩ := Int.eq_ofNat_of_zero_le a5
    obtain ⟨arg, rfl⟩ := Int.eq_ofNat_of_zero_le a7
    exact ⟨⟨to, reply, id, op, st, p, o, r, k, arg, l⟩, v, rfl, ⟨Int.ofNat_lt.1 b1, Int.ofNat_lt.1 b2, Int.ofNat_lt.1 b3, Int.ofNat_lt.1 b4, Int.ofNat_lt.1 b5, hp, ho, hr, hk, Int.ofNat_lt.1 b7, hl⟩, hv⟩

theorem bulk_pos {H : Type} (d : DataW H) : 1 ≤ Rows.uptoBulk d := by
  cases d with
  | lit l => cases l <;> simp [Rows.uptoBulk]
  | _ => simp [Rows.uptoBulk]
theorem bulk_len {H : Type} : ∀ es : List (DataW H), es.length ≤ Rows.uptoBulkAll es
  | [] => by simp
  | d :: r => by
    have := bulk_pos d
    have := bulk_len r
    simp only [Rows.uptoBulkAll, List.length_cons]
    omega

set_option maxRecDepth 100000 in
theorem lifted (os : Os) (started : os.Started) (H : Type) (enc : TypeId × Value → H) (F : Stop.Interp) :
    ReturnsInHanded {} Tryd.checked os 4 .any ((Rows.OpenSpec.upto Rows.stubResultSpec).preRow enc Tryd.prog Tryd.f4 Rows.stubResultUptoRow.domain false Rows.stubResultUptoRow.laid) (((Rows.OpenSpec.upto Rows.stubResultSpec).at F).post enc Tryd.prog Tryd.f4 false true false false) := by
  refine returnsInHanded_of_row (C := Tryd.checked) (s := (Rows.OpenSpec.upto Rows.stubResultSpec)) own started (by kernel_rfl) Tryd.func4
    (witness_row_at (enc := enc) (C := Tryd.checked) false (laidWorld os) #[.agg #[.int .u64 0, .int .u64 0, .int .u32 0, .int .u16 0, .int .u16 0, .int .u64 0, .int .u32 0, .int .u8 0, .int .u64 0, .int .u64 0, .slice none 0 0], .slice none 0 0, .int .u64 0] rfl (by kernel_rfl) (by kernel_rfl) (by kernel_rfl)
      (OpenSpec.preRow_of_cond 8 (reads os enc) (by kernel_rfl) (fun k hk => by cases hk; kernel_rfl) (by kernel_rfl) (laidWorld_met os _))) ?_
  intro W base args ds gs before hval hW _ hk hz hL _ _
  refine law_contract tab_ok (s := Rows.stubResultSpec) (ys := [.struct [.int .u64, .int .u64, .int .u32, .int .u16, .int .u16, .struct [.int .u64, .int .u32, .int .u8, .int .u64], .int .u64, .slice (.int .u8)], .slice (.int .u8), .int .u64]) (tb := 4) ?_ rfl ?_ rfl Tryd.underlying4 laidOut (by kernel_rfl) hval hW (glob hL) ?_
  · show TysOk Tryd.prog Tryd.f4.params.toList _
    rw [Tryd.params4]
    exact .cons (msg_ty) (.cons (bytes_ty) (.cons (.int Tryd.underlying34) (.nil)))
  · intro ds hds
    have hds : ds.length = 3 := hds
    match ds, hds with
    | [d1, d2, d3], _ => exact ⟨rfl, rfl, rfl⟩
  · intro s avs hargs hgs
    subst hgs
    have hk2 := of_decide_eq_true (hk _ rfl)
    cases hargs with | cons h1 hargs => cases hargs with | cons h2 hargs => cases hargs with | cons h3 hargs => cases hargs with | nil =>
    simp only [List.append_nil, Rows.uptoBulkAll] at hk2
    have hz' : (DataW.weightsEach Tryd.prog (Tryd.f4.params.toList ++ Rows.stubResultSpec.plain.varTypes Tryd.prog) ([_, _, _] ++ [])).all (· ≤ reachBytes) = true := hz
    obtain ⟨m, d, rfl, hfm, hbm⟩ := msg_of (Small.of_each hz' (j := 0) (by rw [Tryd.params4]; rfl) rfl) h1
    obtain ⟨b, l, rfl, hbb, hmb, hdb⟩ := h2.bytes
    have hlb : l.length ≤ 1099511627776 := by
      rcases hdb with ⟨rfl, rfl⟩ | ⟨es, rest, rfl, hl⟩
      · simp
      · have := bulk_len es
        simp only [Rows.uptoBulk] at hk2
        omega
    obtain ⟨a, rfl, ha1, ha2⟩ := h3.u64
    obtain ⟨a, rfl⟩ := Int.eq_ofNat_of_zero_le ha1
    exact stubResult_ok m hfm d b l a (Int.ofNat_lt.1 ha2) s hbm hbb hlb

theorem said : Rows.StubResultUptoSaid :=
  OpenClaim.holds_of_cond 4 Tryd.f4 rfl rfl rfl rfl rfl rfl rfl ⟨rfl, rfl, rfl, rfl, rfl⟩ rfl rfl rfl rfl rfl (by kernel_rfl) Tryd.func4 (by kernel_rfl)
    (of_decide_eq_true (by kernel_rfl)) (by unfold Func.isWrapper; first | (rw [if_pos (by decide +kernel)]; kernel_rfl) | (rw [if_neg (by decide +kernel)]; exact ⟨rfl, rfl⟩))
    (fun os started H enc _ F => by rw [OpenClaim.pre_eq_preRow]; exact lifted os started H enc F)

/-- No parameter wants a stand-in; the program's own looks are off. -/
theorem plain (f : FuncId) (fn : Func) (hf : Tryd.pinned.checked.prog.funcNamed "sigillum/sigillumlaw28.StubResult" = some f) (hfn : Tryd.pinned.checked.prog.funcs[f]? = some fn) :
    true = Tryd.pinned.checked.prog.looks [] ∧ ∀ (j : Nat) t, fn.params[j]? = some t → Tryd.pinned.checked.prog.wantsStandIn t = false := by
  obtain rfl : f = 4 := Option.some.inj ((show Tryd.prog.funcNamed "sigillum/sigillumlaw28.StubResult" = some 4 by kernel_rfl).symm.trans hf) |>.symm
  obtain rfl : fn = Tryd.f4 := (Option.some.inj (Tryd.func4.symm.trans hfn)).symm
  refine ⟨by kernel_rfl, fun j t ht => ?_⟩
  have hall : (Tryd.f4.params.toList.all fun t => !Tryd.prog.wantsStandIn t) = true := by kernel_rfl
  have := List.all_eq_true.1 hall t (by have := Array.mem_of_getElem? ht; simpa using this)
  have h2 : Tryd.prog.wantsStandIn t = false := by simpa using this
  exact h2

theorem proved : Rows.StubResultUptoCardSaid :=
  Claim7.holds_tied_plain_at .later [] _ _ _ _ said (fun _ h => by cases h) (by kernel_rfl) (fun _ h => by cases h) stubResultUpto_row_tie rfl ⟨rfl, rfl⟩ (by kernel_rfl) rfl plain (by kernel_rfl)
end Go.Proofs.YtecpmilepjbaeaaDoor.stubResultUpto
