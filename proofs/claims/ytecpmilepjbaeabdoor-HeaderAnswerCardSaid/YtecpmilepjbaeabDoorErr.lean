/- errors.Is of the program's errors (numbers of one integer type): walked in the model once; a primitive of the table. -/
import Derived.Test.YtecpmilepjbaeabDoorChecked
import Derived.WalkKit
import Derived.LaidEql
import Derived.Stop.Asserts
import Derived.RowKitTokens
import Derived.Test.YtecpmilepjbaeabDoorAbClosed
namespace Go.Ab
open Go.RowKit Go.Extern.Stop Go.Stop Go.Extern Go.Proofs

section
variable {P : Program} (w : World)
theorem run_equalIn_iface_int (d : Nat) {ti tn : TypeId} {ms : Array (String × TypeId)} {i : TypeInfo} {k : IntKind} (a b : Int)
    (hi : P.underlying ti = some (.interface ms)) (hn : P.underlying tn = some (.int k)) (hinfo : P.info? tn = some i) (hcomp : i.comparable = true) :
    (Op.equalIn (d + 2) ti (.iface tn (.int k a)) (.iface tn (.int k b))).run P w = .ok (a == b) w := by
  simp [Op.equalIn, run_underlying hi, run_underlying hn, typeInfo, hinfo, hcomp]

theorem run_eql_iface_int {ti tn : TypeId} {ms : Array (String × TypeId)} {i : TypeInfo} {k : IntKind} (a b : Int)
    (hi : P.underlying ti = some (.interface ms)) (hn : P.underlying tn = some (.int k)) (hinfo : P.info? tn = some i) (hcomp : i.comparable = true) :
    (binOp .eql ti (.iface tn (.int k a)) (.iface tn (.int k b))).run P w = .ok (.bool (a == b)) w := by
  simp only [binOp]
  simp [Op.equal, Op.maxDepth, run_equalIn_iface_int w 9998 a b hi hn hinfo hcomp]
end

theorem isTypeOf (v : Value) (w : World) : (Extern.ReflectliteType.typeOf #[.iface 32 v]).run Tryd.prog w = .ok (.iface 97 (.agg #[.pointer (some ⟨1, 32, none⟩)])) w := by kernel_rfl
def cmpRow : Array Value → Sem Value := Extern.ReflectliteType.method fun t => do Extern.Rtype.noPackHeld "Comparable" t; pure (.bool (← typeInfo t).comparable)
theorem isComparable (w : World) : (cmpRow #[.agg #[.pointer (some ⟨1, 32, none⟩)]]).run Tryd.prog w = .ok (.bool true) w := by kernel_rfl
theorem isMethodComparable (v : Value) (w : World) : (Go.method 249 97 v "Comparable").run Tryd.prog w = .ok (70, v) w := by kernel_rfl
theorem isComp : (Tryd.prog.info? 32).map (·.comparable) = some true := by kernel_rfl
theorem noIsE (v : Value) (xT : TypeId) (w : World) : (Instr.typeAssert (.iface 32 v) xT 99 true).run Tryd.prog w = .ok (.tuple #[.nilIface, .bool false]) w := run_typeAssert_lacksB Tryd.underlying99 (by kernel_rfl) (by kernel_rfl) v xT w
theorem noUnwrapE (v : Value) (xT : TypeId) (w : World) : (Instr.typeAssert (.iface 32 v) xT 102 true).run Tryd.prog w = .ok (.tuple #[.nilIface, .bool false]) w := run_typeAssert_lacksB Tryd.underlying102 (by kernel_rfl) (by kernel_rfl) v xT w
theorem noUnwrapsE (v : Value) (xT : TypeId) (w : World) : (Instr.typeAssert (.iface 32 v) xT 104 true).run Tryd.prog w = .ok (.tuple #[.nilIface, .bool false]) w := run_typeAssert_lacksB Tryd.underlying104 (by kernel_rfl) (by kernel_rfl) v xT w

theorem is_nil (m : Int) (w : World) :
    Calls Tryd.prog 23 #[.nilIface, .iface 32 (.int .i64 m)] w fun e w' => e = .returned (.bool false) ∧ w' = w := by
  have hn := run_eql_iface_nil_left (P := Tryd.prog) w 32 (.int .i64 m) Tryd.underlying35
  go_enter Tryd.func23, Tryd.ntmps23
  go_wp2
  go_ret
  exact ⟨rfl, rfl⟩

set_option maxRecDepth 20000 in
theorem is_same (n : Int) (w : World) :
    Calls Tryd.prog 23 #[.iface 32 (.int .i64 n), .iface 32 (.int .i64 n)] w fun e w' => e = .returned (.bool true) ∧ w' = w := by
  obtain ⟨i, hi, hcmp⟩ := Option.map_eq_some_iff.1 isComp
  have h8 := @run_callFunc_extern Tryd.prog 38 _ Extern.ReflectliteType.typeOf Tryd.func38 (by kernel_rfl) (by kernel_rfl) (by kernel_rfl) (by kernel_rfl)
  have h32 := @run_callFunc_extern Tryd.prog 70 _ cmpRow Tryd.func70 (by kernel_rfl) (by kernel_rfl) (by kernel_rfl) (by kernel_rfl)
  have tT := isTypeOf
  have cT := isComparable
  have mR := isMethodComparable
  have heq := run_eql_iface_int (P := Tryd.prog) w n n Tryd.underlying35 Tryd.underlying32 hi hcmp
  simp only [beq_self_eq_true] at heq
  go_enter Tryd.func23, Tryd.ntmps23
  go_wp2
  refine wp_loop_rounds 1 ?_
  rw [rounds_succ]
  go_wp2
  go_ret
  exact ⟨rfl, rfl⟩

set_option maxRecDepth 20000 in
theorem is_other (n m : Int) (hne : n ≠ m) (w : World) :
    Calls Tryd.prog 23 #[.iface 32 (.int .i64 n), .iface 32 (.int .i64 m)] w fun e w' => e = .returned (.bool false) ∧ w' = w := by
  obtain ⟨i, hi, hcmp⟩ := Option.map_eq_some_iff.1 isComp
  have h8 := @run_callFunc_extern Tryd.prog 38 _ Extern.ReflectliteType.typeOf Tryd.func38 (by kernel_rfl) (by kernel_rfl) (by kernel_rfl) (by kernel_rfl)
  have h32 := @run_callFunc_extern Tryd.prog 70 _ cmpRow Tryd.func70 (by kernel_rfl) (by kernel_rfl) (by kernel_rfl) (by kernel_rfl)
  have tT := isTypeOf
  have cT := isComparable
  have mR := isMethodComparable
  have nE := noIsE
  have uE := noUnwrapE
  have vE := noUnwrapsE
  have heq := run_eql_iface_int (P := Tryd.prog) w n m Tryd.underlying35 Tryd.underlying32 hi hcmp
  rw [show (n == m) = false from by simpa using hne] at heq
  go_enter Tryd.func23, Tryd.ntmps23
  go_wp2
  refine wp_loop_rounds 1 ?_
  rw [rounds_succ]
  go_wp2
  go_ret
  exact ⟨rfl, rfl⟩

/-- What a call of errors.Is answers. -/
def isPrim : List AV → S → Option (AV × S) := fun args s => match args with
  | [.nilIface, .iface t (.int .i64 _)] => if t = 32 then some (.bool false, s) else none
  | [.iface t (.int .i64 n), .iface u (.int .i64 m)] => if t = 32 ∧ u = 32 then some (.bool (decide (n = m)), s) else none
  | _ => none

theorem ret_of_calls {P : Program} {f : FuncId} {args : Array Value} {v : Value} {w : World} (h : Calls P f args w fun e w' => e = .returned v ∧ w' = w) : Ret P f args w v w := by
  intro cs
  obtain ⟨e, w', fr, ⟨rfl, rfl⟩, hs, hf, hl⟩ := h cs
  exact ⟨fr, hs, hf, hl⟩

theorem isPrim_ok : PrimOk Tryd.prog 23 isPrim where
  run := by
    intro args s v s' hp ν w args' hs ha
    refine ⟨⟨_, Tryd.func23, by kernel_rfl, by kernel_rfl⟩, ?_⟩
    unfold isPrim at hp
    split at hp
    · split at hp
      · rename_i ht
        subst ht
        simp only [Option.some.injEq, Prod.mk.injEq] at hp
        obtain ⟨rfl, rfl⟩ := hp
        simp [concs, conc] at ha
        subst ha
        exact ⟨ν, w, _, Ok.refl hs, rfl, ret_of_calls (is_nil _ w)⟩
      · cases hp
    · split at hp
      · rename_i n _ m ht
        obtain ⟨rfl, rfl⟩ := ht
        simp only [Option.some.injEq, Prod.mk.injEq] at hp
        obtain ⟨rfl, rfl⟩ := hp
        simp [concs, conc] at ha
        subst ha
        refine ⟨ν, w, _, Ok.refl hs, rfl, ret_of_calls ?_⟩
        by_cases hnm : n = m
        · subst hnm
          simpa using is_same n w
        · simpa [hnm] using is_other n m hnm w
      · cases hp
    · cases hp
end Go.Ab
