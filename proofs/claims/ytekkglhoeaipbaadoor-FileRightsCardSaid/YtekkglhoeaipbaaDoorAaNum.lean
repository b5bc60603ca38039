/- api.Number of nothing and of the program's errors (errors.As at a pointer to one integer type): walked in the model once; a primitive of the table. -/
import Derived.Test.YtekkglhoeaipbaaDoorChecked
import Derived.WalkKit
import Derived.LaidEql
import Derived.Stop.Asserts
import Derived.RowKitTokens
import Derived.Test.YtekkglhoeaipbaaDoorAbClosed
namespace Go.Ab
open Go.RowKit Go.Extern.Stop Go.Stop Go.Extern Go.Proofs

theorem as_nil (t : Value) (w : World) :
    Calls Tryd.prog 51 #[.nilIface, t] w fun e w' => e = .returned (.bool false) ∧ w' = w := by
  go_enter Tryd.func51, Tryd.ntmps51
  go_wp2
  go_ret
  exact ⟨rfl, rfl⟩

theorem nuValueOfP (t : Addr) (w : World) : (ReflectliteValue.unpack (.iface 115 (.pointer (some t)))).run Tryd.prog w
    = .ok (.agg #[.pointer (some ⟨1, 115, none⟩), .pointer (some ⟨w.heap.size, 0, none⟩), .int .u64 150]) (w.alloc (.cells #[.pointer (some t)] 115)) := by kernel_rfl
theorem nuTypeP (a : Addr) (w : World) : (ReflectliteValue.methodAny (ReflectliteValue.valueError "reflectlite.Value.Type" 0) (fun t _ _ _ => ReflectliteType.toType t) #[.agg #[.pointer (some ⟨1, 115, none⟩), .pointer (some a), .int .u64 150]]).run Tryd.prog w
    = .ok (.iface 200 (.agg #[.pointer (some ⟨1, 115, none⟩)])) w := by kernel_rfl
theorem nuMethodKind (h : Value) (w : World) : (Go.method 364 200 (.agg #[h]) "Kind").run Tryd.prog w = .ok (116, h) w := by kernel_rfl
theorem nuKindP (w : World) : ((ReflectliteType.abiMethod fun t => (fun a : Nat => Value.int IntKind.u8 (a : Int)) <$> Rtype.kind t) #[.pointer (some ⟨1, 115, none⟩)]).run Tryd.prog w = .ok (.int .u8 22) w := by kernel_rfl
theorem nuKindN (w : World) : ((ReflectliteType.abiMethod fun t => (fun a : Nat => Value.int IntKind.u8 (a : Int)) <$> Rtype.kind t) #[.pointer (some ⟨1, 43, none⟩)]).run Tryd.prog w = .ok (.int .u8 2) w := by kernel_rfl

theorem rlm (z : Sem Value) (f : TypeId → Addr → Nat → Nat → Sem Value) (v : Value) :
    ReflectliteValue.method z f #[v] = (do match ← ReflectliteValue.parts v with | none => z | some (t, a, fl) => f t a fl (fl % 32)) := rfl
theorem nuPartsP (a : Addr) (w : World) : (ReflectliteValue.parts (.agg #[.pointer (some ⟨1, 115, none⟩), .pointer (some a), .int .u64 150])).run Tryd.prog w = .ok (some (115, a, 150)) w := by kernel_rfl
theorem nuIsNil (a p : Addr) (W : World) (ha : W.cell? a = some (.pointer (some p))) :
    (ReflectliteValue.method (ReflectliteValue.valueError "reflectlite.Value.IsNil" 0) ReflectliteValue.isNil #[.agg #[.pointer (some ⟨1, 115, none⟩), .pointer (some a), .int .u64 150]]).run Tryd.prog W = .ok (.bool false) W := by
  rw [rlm]
  simp only [Sem.run_bind, nuPartsP, Result.andThen]
  simp [ReflectliteValue.isNil, loadVar, isAgg, underlying, Tryd.underlying115, ha, Result.andThen]

theorem nuMethodElem (h : Value) (w : World) : (Go.method 364 200 (.agg #[h]) "Elem").run Tryd.prog w = .ok (153, .agg #[h]) w := by kernel_rfl
theorem nuMethodImplements (h : Value) (w : World) : (Go.method 364 200 (.agg #[h]) "Implements").run Tryd.prog w = .ok (154, .agg #[h]) w := by kernel_rfl
theorem nuMethodAssignableTo (h : Value) (w : World) : (Go.method 364 200 (.agg #[h]) "AssignableTo").run Tryd.prog w = .ok (151, .agg #[h]) w := by kernel_rfl
theorem nuElemP (w : World) : (ReflectliteType.method ReflectliteType.elem #[.agg #[.pointer (some ⟨1, 115, none⟩)]]).run Tryd.prog w = .ok (.iface 200 (.agg #[.pointer (some ⟨1, 43, none⟩)])) w := by kernel_rfl
theorem nuImplements (w : World) : (ReflectliteType.relation "Implements" ReflectliteType.implements_ #[.agg #[.pointer (some ⟨1, 43, none⟩)], .iface 200 (.agg #[.pointer (some ⟨1, 38, none⟩)])]).run Tryd.prog w = .ok (.bool true) w := by kernel_rfl
theorem nuTypeOf (v : Value) (w : World) : (ReflectliteType.typeOf #[.iface 43 v]).run Tryd.prog w = .ok (.iface 200 (.agg #[.pointer (some ⟨1, 43, none⟩)])) w := by kernel_rfl
theorem nuAssignable (w : World) : (ReflectliteType.relation "AssignableTo" ReflectliteType.assignableTo #[.agg #[.pointer (some ⟨1, 43, none⟩)], .iface 200 (.agg #[.pointer (some ⟨1, 43, none⟩)])]).run Tryd.prog w = .ok (.bool true) w := by kernel_rfl
theorem nuValueOfN (n : Int) (w : World) : (ReflectliteValue.unpack (.iface 43 (.int .i64 n))).run Tryd.prog w
    = .ok (.agg #[.pointer (some ⟨1, 43, none⟩), .pointer (some ⟨w.heap.size, 0, none⟩), .int .u64 130]) (w.alloc (.cells #[.int .i64 n] 43)) := by kernel_rfl

theorem nuElemOf (w : World) : (Rtype.elem? 115).run Tryd.prog w = .ok (some 43) w := by kernel_rfl
theorem nuMk (p : Addr) (w : World) : (ReflectliteValue.mk 43 p ReflectliteValue.flagAddr).run Tryd.prog w = .ok (.agg #[.pointer (some ⟨1, 43, none⟩), .pointer (some p), .int .u64 386]) w := by kernel_rfl
theorem nuElemV (a p : Addr) (W : World) (ha : W.cell? a = some (.pointer (some p))) :
    (ReflectliteValue.method (ReflectliteValue.valueError "reflectlite.Value.Elem" 0) ReflectliteValue.elem #[.agg #[.pointer (some ⟨1, 115, none⟩), .pointer (some a), .int .u64 150]]).run Tryd.prog W
      = .ok (.agg #[.pointer (some ⟨1, 43, none⟩), .pointer (some p), .int .u64 386]) W := by
  rw [rlm]
  simp only [Sem.run_bind, nuPartsP, Result.andThen]
  simp [ReflectliteValue.elem, loadVar, isAgg, underlying, Tryd.underlying115, ha, Result.andThen, nuElemOf, nuMk]
theorem rls (v x : Value) : ReflectliteValue.set #[v, x] = (do
    let (some (dst, a, fl), some (src, b, _)) := (← ReflectliteValue.parts v, ← ReflectliteValue.parts x)
      | unsupported (.noEntry "extern/(internal/reflectlite.Value).Set.zeroValue")
    if fl / ReflectliteValue.flagAddr % 2 == 0 then unsupported (.noEntry "extern/(internal/reflectlite.Value).Set.unaddressable")
    let val ← loadVar src b
    if ← Rtype.directlyAssignable dst src then storeVar dst a val
    else if ← Rtype.implements dst src then
      if (← Rtype.kind src) == 20 then
        match val with
        | .nilIface => unsupported (.noEntry "extern/reflectlite: a nil value of one interface type handed on as a value of another")
        | _ => storeVar dst a val
      else storeVar dst a (.iface src val)
    else panicString ("reflectlite.Set: value of type " ++ (← Rtype.spelt src) ++ " is not assignable to type " ++ (← Rtype.spelt dst))
    pure (.tuple #[])) := rfl
theorem nuPartsD (a : Addr) (w : World) : (ReflectliteValue.parts (.agg #[.pointer (some ⟨1, 43, none⟩), .pointer (some a), .int .u64 386])).run Tryd.prog w = .ok (some (43, a, 386)) w := by kernel_rfl
theorem nuPartsS (a : Addr) (w : World) : (ReflectliteValue.parts (.agg #[.pointer (some ⟨1, 43, none⟩), .pointer (some a), .int .u64 130])).run Tryd.prog w = .ok (some (43, a, 130)) w := by kernel_rfl
theorem nuDirect (w : World) : (Rtype.directlyAssignable 43 43).run Tryd.prog w = .ok true w := by kernel_rfl
theorem nuStore (ta b : Addr) (n : Int) (old : Value) (W : World) (hb : W.cell? b = some (.int .i64 n)) (ht : W.cell? ta = some old) (hf : W.frozen? ta = false) :
    (ReflectliteValue.set #[.agg #[.pointer (some ⟨1, 43, none⟩), .pointer (some ta), .int .u64 386], .agg #[.pointer (some ⟨1, 43, none⟩), .pointer (some b), .int .u64 130]]).run Tryd.prog W
      = .ok (.tuple #[]) (W.setCell ta (.int .i64 n)) := by
  rw [rls]
  simp only [Sem.run_bind, nuPartsD, nuPartsS, Result.andThen]
  simp [ReflectliteValue.flagAddr, loadVar, isAgg, underlying, Tryd.underlying43, hb, Result.andThen, nuDirect, storeVar, Value.cells, storeCells, Addr.add]
  rw [run_store Tryd.prog W ta _ _ (by rfl)]
  simp [ht, hf]

def nuW (w : World) (n : Int) (t : Addr) : World := ((((w.alloc (.cells #[.pointer (some t)] 115)).alloc (.cells #[.pointer (some ⟨1, 115, none⟩), .pointer (some ⟨w.heap.size, 0, none⟩), .int .u64 150] 159)).alloc (.cells #[.pointer (some ⟨1, 115, none⟩), .pointer (some ⟨w.heap.size, 0, none⟩), .int .u64 150] 159)).alloc (.cells #[.int .i64 n] 43)).setCell t (.int .i64 n)

set_option maxHeartbeats 4000000 in
theorem as_hit (n : Int) (t : Addr) (old : Value) (w : World) (hg : w.cell? ⟨0, 0, none⟩ = some (.iface 200 (.agg #[.pointer (some ⟨1, 38, none⟩)]))) (ht0 : w.cell? t = some old) (hf0 : w.frozen? t = false) :
    Calls Tryd.prog 51 #[.iface 43 (.int .i64 n), .iface 115 (.pointer (some t))] w fun ev w' => ev = .returned (.bool true) ∧ w' = nuW w n t := by
  have h6 := @run_callFunc_extern Tryd.prog 74 _ (fun args => ReflectliteValue.unpack (args.getD 0 (.tuple #[]))) Tryd.func74 (by kernel_rfl) (by kernel_rfl) (by kernel_rfl) (by kernel_rfl)
  have h7 := @run_callFunc_extern Tryd.prog 75 _ (ReflectliteValue.methodAny (ReflectliteValue.valueError "reflectlite.Value.Type" 0) (fun t _ _ _ => ReflectliteType.toType t)) Tryd.func75 (by kernel_rfl) (by kernel_rfl) (by kernel_rfl) (by kernel_rfl)
  have h8 := @run_callFunc_extern Tryd.prog 76 _ (ReflectliteValue.method (ReflectliteValue.valueError "reflectlite.Value.IsNil" 0) ReflectliteValue.isNil) Tryd.func76 (by kernel_rfl) (by kernel_rfl) (by kernel_rfl) (by kernel_rfl)
  have h27 := @run_callFunc_extern Tryd.prog 116 _ (ReflectliteType.abiMethod fun t => do pure (.int .u8 (← Rtype.kind t))) Tryd.func116 (by kernel_rfl) (by kernel_rfl) (by kernel_rfl) (by kernel_rfl)
  have h37 := @run_callFunc_extern Tryd.prog 153 _ (ReflectliteType.method ReflectliteType.elem) Tryd.func153 (by kernel_rfl) (by kernel_rfl) (by kernel_rfl) (by kernel_rfl)
  have h38 := @run_callFunc_extern Tryd.prog 154 _ (ReflectliteType.relation "Implements" ReflectliteType.implements_) Tryd.func154 (by kernel_rfl) (by kernel_rfl) (by kernel_rfl) (by kernel_rfl)
  have h10 := @run_callFunc_extern Tryd.prog 96 _ ReflectliteType.typeOf Tryd.func96 (by kernel_rfl) (by kernel_rfl) (by kernel_rfl) (by kernel_rfl)
  have h35 := @run_callFunc_extern Tryd.prog 151 _ (ReflectliteType.relation "AssignableTo" ReflectliteType.assignableTo) Tryd.func151 (by kernel_rfl) (by kernel_rfl) (by kernel_rfl) (by kernel_rfl)
  have h11 := @run_callFunc_extern Tryd.prog 97 _ (ReflectliteValue.method (ReflectliteValue.valueError "reflectlite.Value.Elem" 0) ReflectliteValue.elem) Tryd.func97 (by kernel_rfl) (by kernel_rfl) (by kernel_rfl) (by kernel_rfl)
  have h12 := @run_callFunc_extern Tryd.prog 98 _ ReflectliteValue.set Tryd.func98 (by kernel_rfl) (by kernel_rfl) (by kernel_rfl) (by kernel_rfl)
  have tO := nuTypeOf
  have mA := nuMethodAssignableTo
  have a25 := nuAssignable
  have v25 := nuValueOfN
  have f6 := nuValueOfP
  have f7 := nuTypeP
  have mK := nuMethodKind
  have mE := nuMethodElem
  have mI := nuMethodImplements
  have k27 := nuKindP
  have k25 := nuKindN
  have e27 := nuElemP
  have i25 := nuImplements
  have n8 := nuIsNil ⟨w.heap.size, 0, none⟩ t ((w.alloc (.cells #[.pointer (some t)] 115)).alloc (.cells #[.pointer (some ⟨1, 115, none⟩), .pointer (some ⟨w.heap.size, 0, none⟩), .int .u64 150] 159)) (by simp)
  have hlt : 0 < w.heap.size := by
    rcases Nat.eq_zero_or_pos w.heap.size with h0 | h
    · simp [World.cell?, h0] at hg
    · exact h
  have hg2 : ((w.alloc (.cells #[.pointer (some t)] 115)).alloc (.cells #[.pointer (some ⟨1, 115, none⟩), .pointer (some ⟨w.heap.size, 0, none⟩), .int .u64 150] 159)).cell? ⟨0, 0, none⟩ = some (.iface 200 (.agg #[.pointer (some ⟨1, 38, none⟩)])) := by
    rw [World.cell?_alloc_lt _ _ ⟨0, 0, none⟩ (by simp), World.cell?_alloc_lt _ _ ⟨0, 0, none⟩ hlt]; exact hg
  have htl : t.block < w.heap.size := by
    rcases Nat.lt_or_ge t.block w.heap.size with h | h
    · exact h
    · simp [World.cell?, Array.getElem?_eq_none h] at ht0
  have el := nuElemV ⟨w.heap.size, 0, none⟩ t (((w.alloc (.cells #[.pointer (some t)] 115)).alloc (.cells #[.pointer (some ⟨1, 115, none⟩), .pointer (some ⟨w.heap.size, 0, none⟩), .int .u64 150] 159)).alloc (.cells #[.pointer (some ⟨1, 115, none⟩), .pointer (some ⟨w.heap.size, 0, none⟩), .int .u64 150] 159)) (by rw [World.cell?_alloc_lt _ _ ⟨w.heap.size, 0, none⟩ (by simp; omega)]; simp)
  have st := nuStore t ⟨w.heap.size + 1 + 1 + 1, 0, none⟩ n old ((((w.alloc (.cells #[.pointer (some t)] 115)).alloc (.cells #[.pointer (some ⟨1, 115, none⟩), .pointer (some ⟨w.heap.size, 0, none⟩), .int .u64 150] 159)).alloc (.cells #[.pointer (some ⟨1, 115, none⟩), .pointer (some ⟨w.heap.size, 0, none⟩), .int .u64 150] 159)).alloc (.cells #[.int .i64 n] 43))
    (by rw [World.cell?_alloc_at _ _ _ _ (by simp)]; rfl)
    (by rw [World.cell?_alloc_lt _ _ t (by simp; omega), World.cell?_alloc_lt _ _ t (by simp; omega), World.cell?_alloc_lt _ _ t (by simp; omega), World.cell?_alloc_lt _ _ t htl]; exact ht0)
    (by rw [World.frozen?_alloc_old _ _ t (by simp; omega), World.frozen?_alloc_old _ _ t (by simp; omega), World.frozen?_alloc_old _ _ t (by simp; omega), World.frozen?_alloc_old _ _ t (Nat.ne_of_lt htl)]; exact hf0)
  go_enter Tryd.func51, Tryd.ntmps51
  go_wp2
  refine wp_loop_rounds 1 ?_
  rw [rounds_succ]
  go_wp2
  go_ret
  exact ⟨rfl, rfl⟩

set_option maxHeartbeats 4000000 in
theorem number_nil (w : World) :
    Calls Tryd.prog 20 #[.nilIface] w fun e w' => e = .returned (.int .i64 0) ∧ w' = w.alloc (.cells #[.int .i64 0] 43) := by
  go_enter Tryd.func20, Tryd.ntmps20
  go_wp2_with (first | (go_at_call 51; refine (as_nil _ _).mono ?_; rintro e w' ⟨rfl, rfl⟩))
  go_ret
  exact ⟨rfl, rfl⟩

set_option maxHeartbeats 4000000 in
theorem number_hit (n : Int) (w : World) (hg : w.cell? ⟨0, 0, none⟩ = some (.iface 200 (.agg #[.pointer (some ⟨1, 38, none⟩)]))) :
    Calls Tryd.prog 20 #[.iface 43 (.int .i64 n)] w fun e w' => e = .returned (.int .i64 n) ∧ w' = nuW (w.alloc (.cells #[.int .i64 0] 43)) n ⟨w.heap.size, 0, none⟩ := by
  have hlt : 0 < w.heap.size := by
    rcases Nat.eq_zero_or_pos w.heap.size with h0 | h
    · simp [World.cell?, h0] at hg
    · exact h
  have hgA : (w.alloc (.cells #[.int .i64 0] 43)).cell? ⟨0, 0, none⟩ = some (.iface 200 (.agg #[.pointer (some ⟨1, 38, none⟩)])) := by
    rw [World.cell?_alloc_lt _ _ ⟨0, 0, none⟩ hlt]; exact hg
  have htA : (w.alloc (.cells #[.int .i64 0] 43)).cell? ⟨w.heap.size, 0, none⟩ = some (.int .i64 0) := by simp
  have hfA : (w.alloc (.cells #[.int .i64 0] 43)).frozen? ⟨w.heap.size, 0, none⟩ = false := by simp
  have hread : (nuW (w.alloc (.cells #[.int .i64 0] 43)) n ⟨w.heap.size, 0, none⟩).cell? ⟨w.heap.size, 0, none⟩ = some (.int .i64 n) := by
    unfold nuW
    refine World.cell?_setCell_same _ _ _ (u := .int .i64 0) ?_
    rw [World.cell?_alloc_lt _ _ _ (by simp; omega), World.cell?_alloc_lt _ _ _ (by simp; omega), World.cell?_alloc_lt _ _ _ (by simp; omega), World.cell?_alloc_lt _ _ _ (by simp)]
    exact htA
  go_enter Tryd.func20, Tryd.ntmps20
  go_wp2_with (first | (go_at_call 51; refine (as_hit n _ _ _ hgA htA hfA).mono ?_; rintro e w' ⟨rfl, rfl⟩))
  go_ret
  exact ⟨rfl, rfl⟩

/-- What a call of api.Number answers. -/
def numPrim : List AV → S → Option (AV × S) := fun args s => match args with
  | [.nilIface] => some (.int .i64 0, s)
  | [.iface t (.int .i64 n)] => if t = 43 then some (.int .i64 n, s) else none
  | _ => none

/-- New blocks alone. -/
theorem Ok.grown {ν : Nu} {s : S} {w w' : World} (hs : Sim ν s w) (hf : ∀ b, b < w.heap.size → w'.heap[b]? = w.heap[b]?) (hsz : w.heap.size ≤ w'.heap.size) (ht : w'.tape = w.tape) (hos : w'.os = w.os) (hout : w'.output = w.output) : Ok ν s w ν s w' where
  le := Le.refl _
  new := fun _ _ h => .inl h
  ctr := Nat.le_refl _
  sim := ⟨fun id o L ho hL => by
      rw [hf L.blk (hs.blk_lt ho hL)]
      exact hs.obj id o L ho hL, hs.inj, hs.fresh, hs.top, hs.glob.go (fun b hb _ => hf b hb) (fun _ _ h => h)⟩
  keep := fun _ _ _ => rfl
  live := fun _ o _ h => ⟨o, h, rfl⟩
  frame := fun b hb _ => hf b hb
  size := hsz
  tape := ht
  os := hos
  output := hout

theorem ret_of_calls2 {P : Program} {f : FuncId} {args : Array Value} {v : Value} {w w1 : World} (h : Calls P f args w fun e w' => e = .returned v ∧ w' = w1) : Ret P f args w v w1 := by
  intro cs
  obtain ⟨e, w', fr, ⟨rfl, rfl⟩, hs, hf, hl⟩ := h cs
  exact ⟨fr, hs, hf, hl⟩

theorem nuW_heap (w : World) (n : Int) (b : Nat) (hb : b < w.heap.size) : (nuW (w.alloc (.cells #[.int .i64 0] 43)) n ⟨w.heap.size, 0, none⟩).heap[b]? = w.heap[b]? := by
  simp only [nuW, World.setCell, World.alloc, Array.getElem?_modify]
  rw [if_neg (by omega)]
  simp only [Array.getElem?_push, Array.size_push]
  rw [if_neg (by omega), if_neg (by omega), if_neg (by omega), if_neg (by omega), if_neg (by omega)]

theorem numPrim_ok : PrimOk Tryd.prog 20 numPrim where
  run := by
    intro args s v s' hp ν w args' hs ha
    refine ⟨⟨_, Tryd.func20, by kernel_rfl, by kernel_rfl⟩, ?_⟩
    unfold numPrim at hp
    split at hp
    · simp only [Option.some.injEq, Prod.mk.injEq] at hp
      obtain ⟨rfl, rfl⟩ := hp
      simp [concs, conc] at ha
      subst ha
      refine ⟨ν, _, _, Ok.grown hs (fun b hb => ?_) ?_ ?_ ?_ ?_, rfl, ret_of_calls2 (number_nil w)⟩
      · show (w.heap.push _)[b]? = _
        rw [Array.getElem?_push, if_neg (by omega)]
      · simp
      · rfl
      · rfl
      · rfl
    · split at hp
      · rename_i ht
        subst ht
        simp only [Option.some.injEq, Prod.mk.injEq] at hp
        obtain ⟨rfl, rfl⟩ := hp
        simp [concs, conc] at ha
        subst ha
        refine ⟨ν, _, _, Ok.grown hs (nuW_heap w _) ?_ ?_ ?_ ?_, rfl, ret_of_calls2 (number_hit _ w hs.glob.1)⟩
        · simp only [nuW, World.setCell, World.alloc, Array.size_modify, Array.size_push]; omega
        · rfl
        · rfl
        · rfl
      · cases hp
    · cases hp
end Go.Ab
