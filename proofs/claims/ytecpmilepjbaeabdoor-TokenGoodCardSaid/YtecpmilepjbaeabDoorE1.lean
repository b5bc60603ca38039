/- Tokens (layer 7) over the abstract machine: what is alike, what takes draws. -/
import Derived.Test.YtecpmilepjbaeabDoorT4
namespace Go.Ab
attribute [local simp] S.read S.write

theorem ev_awake07 {s : S} {Q : AV → S → Prop} (h : Q (.bool true) s) : Ev tab 12 [] s Q := Ev.prim (p := closedPrim [] (.bool true)) rfl rfl h
theorem ev_num {s : S} {n : Int} {Q : AV → S → Prop} (h : Q (.int .i64 n) s) : Ev tab 24 [.iface 32 (.int .i64 n)] s Q := Ev.prim (p := numPrim2) rfl (by simp [numPrim2, numPrim]) h
theorem ev_num0 {s : S} {Q : AV → S → Prop} (h : Q (.int .i64 0) s) : Ev tab 24 [.nilIface] s Q := Ev.prim (p := numPrim2) rfl (by simp [numPrim2, numPrim]) h

/-- What was told is told again. -/
theorem Orc.ask_again {q q' : Orc} {f x y : Nat} (h : q.ask f x = (some y, q')) : q'.known f x = some y := by
  unfold Orc.ask at h
  split at h
  · rename_i z hz
    simp only [Prod.mk.injEq, Option.some.injEq] at h
    obtain ⟨rfl, rfl⟩ := h
    exact hz
  · rename_i hz
    split at h
    · rename_i z hz2
      simp only [Prod.mk.injEq, Option.some.injEq] at h
      obtain ⟨rfl, rfl⟩ := h
      simp only [Orc.known, Option.map_eq_none_iff] at hz ⊢
      rw [List.find?_append, hz]
      simp [hit]
    · simp at h
theorem Orc.ask_known {q : Orc} {f x y : Nat} (h : q.known f x = some y) : q.ask f x = (some y, q) := by
  unfold Orc.ask; rw [h]
theorem Orc.tok_again {q q' : Orc} {s r y : Nat} (h : q.tok s r = (some y, q')) : q'.tok s r = (some y, q') := by
  unfold Orc.tok at h ⊢
  split
  · rename_i h255
    rw [if_pos h255] at h
    simp only [Prod.mk.injEq] at h
    rw [h.1]
  · rename_i h255
    rw [if_neg h255] at h
    exact Orc.ask_known (Orc.ask_again h)

theorem xor_inj {s r o : Nat} (h : s ^^^ r = s ^^^ o) : r = o := by
  have : s ^^^ (s ^^^ r) = s ^^^ (s ^^^ o) := by rw [h]
  rwa [← Nat.xor_assoc, ← Nat.xor_assoc, Nat.xor_self, Nat.zero_xor, Nat.zero_xor] at this
theorem mix_lt {s r : Nat} (hr : r < 256) : mix s r < w48 := by
  unfold mix
  have h1 : s % w48 < 2 ^ 48 := Nat.mod_lt _ (by decide)
  exact Nat.xor_lt_two_pow h1 (show r < 2 ^ 48 by omega)
theorem mix_inj {s r o : Nat} (h : mix s r = mix s o) : r = o := xor_inj h


theorem Orc.tok_idem {q q' : Orc} {s r : Nat} {x : Option Nat} (h : q.tok s r = (x, q')) : q'.tok s r = (x, q') := by
  cases x with
  | some y => exact Orc.tok_again h
  | none =>
    have : q' = q := by
      unfold Orc.tok at h
      split at h
      · simp at h
      · unfold Orc.ask at h
        split at h
        · simp at h
        · split at h
          · simp at h
          · simp at h; exact h.symm
    rw [this]
    rw [this] at h
    exact h

/-- An error, or none. -/
def errV : Option Int → AV
  | none => .nilIface
  | some n => .iface 32 (.int .i64 n)

theorem alike_ok (e f : Option Int) (s : S) : Ev tab 17 [errV e, errV f] s fun v s' => s' = s ∧ v = .bool (decide (e = f)) := by
  refine Ev.intro rfl rfl rfl ?_
  cases e with
  | none =>
    cases f with
    | none =>
      simp [errV, pf17, pf17_1, pf17_0]
      refine ev_num0 ?_
      simp
      refine ev_num0 ?_
      simp
    | some n => simp [errV, pf17, pf17_1, pf17_0]
  | some n =>
    cases f with
    | none => simp [errV, pf17, pf17_1, pf17_0]
    | some m =>
      simp [errV, pf17, pf17_1, pf17_0]
      refine ev_num ?_
      simp
      refine ev_num ?_
      simp

/-- The tape's error of an answer that there is none of. -/
def tapeE : Option Nat → Option Int
  | some _ => none
  | none => some 7
theorem ansV_eq (x : Option Nat) : ansV x = .tuple [.int .u64 ((x.getD 0 : Nat) : Int), errV (tapeE x)] := by cases x <;> rfl
theorem flat_errV (e : Option Int) : isFlat (errV e) = true := by cases e <;> rfl
theorem cells_errV (e : Option Int) : (errV e).cells = [errV e] := by cases e <;> rfl
end Go.Ab
