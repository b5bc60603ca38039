/- api.Number of an error that is none of the program's numbers (errors.New): walked in the model once. -/
import Derived.Test.YtecpmilepjbaeabDoorAaNum
namespace Go.Ab
open Go.RowKit Go.Extern.Stop Go.Stop Go.Extern Go.Proofs

theorem nuTypeOfX (v : Value) (w : World) : (ReflectliteType.typeOf #[.iface 61 v]).run Tryd.prog w = .ok (.iface 97 (.agg #[.pointer (some ⟨1, 61, none⟩)])) w := by kernel_rfl
theorem nuAssignableX (w : World) : (ReflectliteType.relation "AssignableTo" ReflectliteType.assignableTo #[.agg #[.pointer (some ⟨1, 61, none⟩)], .iface 97 (.agg #[.pointer (some ⟨1, 32, none⟩)])]).run Tryd.prog w = .ok (.bool false) w := by kernel_rfl
theorem noAsX (v : Value) (xT : TypeId) (w : World) : (Instr.typeAssert (.iface 61 v) xT 119 true).run Tryd.prog w = .ok (.tuple #[.nilIface, .bool false]) w := run_typeAssert_lacksB Tryd.underlying119 (by kernel_rfl) (by kernel_rfl) v xT w
theorem noUnwrapX (v : Value) (xT : TypeId) (w : World) : (Instr.typeAssert (.iface 61 v) xT 102 true).run Tryd.prog w = .ok (.tuple #[.nilIface, .bool false]) w := run_typeAssert_lacksB Tryd.underlying102 (by kernel_rfl) (by kernel_rfl) v xT w
theorem noUnwrapsX (v : Value) (xT : TypeId) (w : World) : (Instr.typeAssert (.iface 61 v) xT 104 true).run Tryd.prog w = .ok (.tuple #[.nilIface, .bool false]) w := run_typeAssert_lacksB Tryd.underlying104 (by kernel_rfl) (by kernel_rfl) v xT w

def nuM (w : World) (t : Addr) : World := ((w.alloc (.cells #[.pointer (some t)] 93)).alloc (.cells #[.pointer (some ⟨1, 93, none⟩), .pointer (some ⟨w.heap.size, 0, none⟩), .int .u64 150] 110)).alloc (.cells #[.pointer (some ⟨1, 93, none⟩), .pointer (some ⟨w.heap.size, 0, none⟩), .int .u64 150] 110)

set_option maxHeartbeats 4000000 in
set_option maxRecDepth 20000 in
theorem as_miss (x : Value) (t : Addr) (old : Value) (w : World) (hg : w.cell? ⟨0, 0, none⟩ = some (.iface 97 (.agg #[.pointer (some ⟨1, 35, none⟩)]))) (ht0 : w.cell? t = some old) :
    Calls Tryd.prog 40 #[.iface 61 x, .iface 93 (.pointer (some t))] w fun ev w' => ev = .returned (.bool false) ∧ w' = nuM w t := by
  have h6 := @run_callFunc_extern Tryd.prog 42 _ (fun args => ReflectliteValue.unpack (args.getD 0 (.tuple #[]))) Tryd.func42 (by kernel_rfl) (by kernel_rfl) (by kernel_rfl) (by kernel_rfl)
  have h7 := @run_callFunc_extern Tryd.prog 43 _ (ReflectliteValue.methodAny (ReflectliteValue.valueError "reflectlite.Value.Type" 0) (fun t _ _ _ => ReflectliteType.toType t)) Tryd.func43 (by kernel_rfl) (by kernel_rfl) (by kernel_rfl) (by kernel_rfl)
  have h8 := @run_callFunc_extern Tryd.prog 44 _ (ReflectliteValue.method (ReflectliteValue.valueError "reflectlite.Value.IsNil" 0) ReflectliteValue.isNil) Tryd.func44 (by kernel_rfl) (by kernel_rfl) (by kernel_rfl) (by kernel_rfl)
  have h27 := @run_callFunc_extern Tryd.prog 62 _ (ReflectliteType.abiMethod fun t => do pure (.int .u8 (← Rtype.kind t))) Tryd.func62 (by kernel_rfl) (by kernel_rfl) (by kernel_rfl) (by kernel_rfl)
  have h37 := @run_callFunc_extern Tryd.prog 71 _ (ReflectliteType.method ReflectliteType.elem) Tryd.func71 (by kernel_rfl) (by kernel_rfl) (by kernel_rfl) (by kernel_rfl)
  have h38 := @run_callFunc_extern Tryd.prog 72 _ (ReflectliteType.relation "Implements" ReflectliteType.implements_) Tryd.func72 (by kernel_rfl) (by kernel_rfl) (by kernel_rfl) (by kernel_rfl)
  have h10 := @run_callFunc_extern Tryd.prog 38 _ ReflectliteType.typeOf Tryd.func38 (by kernel_rfl) (by kernel_rfl) (by kernel_rfl) (by kernel_rfl)
  have h35 := @run_callFunc_extern Tryd.prog 69 _ (ReflectliteType.relation "AssignableTo" ReflectliteType.assignableTo) Tryd.func69 (by kernel_rfl) (by kernel_rfl) (by kernel_rfl) (by kernel_rfl)
  have tO := nuTypeOfX
  have mA := nuMethodAssignableTo
  have a25 := nuAssignableX
  have f6 := nuValueOfP
  have f7 := nuTypeP
  have mK := nuMethodKind
  have mE := nuMethodElem
  have mI := nuMethodImplements
  have k27 := nuKindP
  have k25 := nuKindN
  have e27 := nuElemP
  have i25 := nuImplements
  have nA := noAsX
  have nU := noUnwrapX
  have nV := noUnwrapsX
  have n8 := nuIsNil ⟨w.heap.size, 0, none⟩ t ((w.alloc (.cells #[.pointer (some t)] 93)).alloc (.cells #[.pointer (some ⟨1, 93, none⟩), .pointer (some ⟨w.heap.size, 0, none⟩), .int .u64 150] 110)) (by simp)
  have hlt : 0 < w.heap.size := by
    rcases Nat.eq_zero_or_pos w.heap.size with h0 | h
    · simp [World.cell?, h0] at hg
    · exact h
  have hg2 : ((w.alloc (.cells #[.pointer (some t)] 93)).alloc (.cells #[.pointer (some ⟨1, 93, none⟩), .pointer (some ⟨w.heap.size, 0, none⟩), .int .u64 150] 110)).cell? ⟨0, 0, none⟩ = some (.iface 97 (.agg #[.pointer (some ⟨1, 35, none⟩)])) := by
    rw [World.cell?_alloc_lt _ _ ⟨0, 0, none⟩ (by simp), World.cell?_alloc_lt _ _ ⟨0, 0, none⟩ hlt]; exact hg
  go_enter Tryd.func40, Tryd.ntmps40
  go_wp2
  refine wp_loop_rounds 1 ?_
  rw [rounds_succ]
  go_wp2
  go_ret
  exact ⟨rfl, rfl⟩

set_option maxHeartbeats 4000000 in
theorem number_miss (x : Value) (w : World) (hg : w.cell? ⟨0, 0, none⟩ = some (.iface 97 (.agg #[.pointer (some ⟨1, 35, none⟩)]))) :
    Calls Tryd.prog 24 #[.iface 61 x] w fun e w' => e = .returned (.int .i64 0) ∧ w' = nuM (w.alloc (.cells #[.int .i64 0] 32)) ⟨w.heap.size, 0, none⟩ := by
  have hlt : 0 < w.heap.size := by
    rcases Nat.eq_zero_or_pos w.heap.size with h0 | h
    · simp [World.cell?, h0] at hg
    · exact h
  have hgA : (w.alloc (.cells #[.int .i64 0] 32)).cell? ⟨0, 0, none⟩ = some (.iface 97 (.agg #[.pointer (some ⟨1, 35, none⟩)])) := by
    rw [World.cell?_alloc_lt _ _ ⟨0, 0, none⟩ hlt]; exact hg
  have hread : (nuM (w.alloc (.cells #[.int .i64 0] 32)) ⟨w.heap.size, 0, none⟩).cell? ⟨w.heap.size, 0, none⟩ = some (.int .i64 0) := by
    unfold nuM
    rw [World.cell?_alloc_lt _ _ _ (by simp; omega), World.cell?_alloc_lt _ _ _ (by simp; omega), World.cell?_alloc_lt _ _ _ (by simp)]
    simp
  have htA : (w.alloc (.cells #[.int .i64 0] 32)).cell? ⟨w.heap.size, 0, none⟩ = some (.int .i64 0) := by simp
  go_enter Tryd.func24, Tryd.ntmps24
  go_wp2_with (first | (go_at_call 40; refine (as_miss x _ _ _ hgA htA).mono ?_; rintro e w' ⟨rfl, rfl⟩))
  go_ret
  exact ⟨rfl, rfl⟩

/-- What a call of api.Number answers, of other errors too. -/
def numPrim2 : List AV → S → Option (AV × S) := fun args s => match args with
  | [.iface t (.ptr _ _)] => if t = 61 then some (.int .i64 0, s) else none
  | _ => numPrim args s

theorem nuM_heap (w : World) (b : Nat) (hb : b < w.heap.size) : (nuM (w.alloc (.cells #[.int .i64 0] 32)) ⟨w.heap.size, 0, none⟩).heap[b]? = w.heap[b]? := by
  simp only [nuM, World.alloc, Array.getElem?_push, Array.size_push]
  rw [if_neg (by omega), if_neg (by omega), if_neg (by omega), if_neg (by omega)]

theorem numPrim2_ok : PrimOk Tryd.prog 24 numPrim2 where
  run := by
    intro args s v s' hp ν w args' hs ha
    unfold numPrim2 at hp
    split at hp
    · split at hp
      · rename_i ht
        subst ht
        simp only [Option.some.injEq, Prod.mk.injEq] at hp
        obtain ⟨rfl, rfl⟩ := hp
        simp only [concs, conc, Option.bind_eq_some_iff, Option.map_eq_some_iff] at ha
        obtain ⟨v1, ⟨v2, ⟨L, hL, rfl⟩, rfl⟩, r', hr, rfl⟩ := ha
        simp only [Option.some.injEq] at hr
        subst hr
        refine ⟨⟨_, Tryd.func24, by kernel_rfl, by kernel_rfl⟩, ν, _, _, Ok.grown hs (nuM_heap w) ?_ ?_ ?_ ?_, rfl, ret_of_calls2 (number_miss _ w hs.glob.1)⟩
        · simp only [nuM, World.alloc, Array.size_push]; omega
        · rfl
        · rfl
        · rfl
      · cases hp
    · exact numPrim_ok.run _ _ _ _ hp ν w args' hs ha
end Go.Ab
