/- The abstract machine and the model's: single operations that call nothing, on. -/
import Derived.Test.YtekkglhoeaipbaaDoorAbOps3
namespace Go.Ab
section
variable {P : Program} {o : Oper} {a : Act} {E : Env} {r : Regs} {s s' : S} {w : World} {ν : Nu} {v : AV}

/-- The bounds of a slice expression, in the model. -/
theorem run_sliceBounds_none (hr : RR ν r a) {len cap : Nat} {lo hi : Option Operand} {lo' hi' : Option Opd} {lq hq : Option Nat} (hlo : prepO lo = some lo') (hhi : prepO hi = some hi')
    (hhq : ∃ y, y ≤ cap ∧ asBound y (hi'.map (·.ev r)) = some hq) (hlq : asBound (hq.getD len) (lo'.map (·.ev r)) = some lq) (w : World) :
    (Instr.sliceBounds true len cap (lo.map a.eval) (hi.map a.eval) none).run P w = .ok (lq.getD 0, hq.getD len, cap) w := by
  obtain ⟨y, hy, hhq⟩ := hhq
  have grow : ∀ {u : AV} {u' : Value} {n : Nat} {code : BoundsCode}, asBound y (some u) = some (some n) → conc ν u = some u' → (Instr.sliceBound u' cap code).run P w = .ok n w := by
    intro u u' n code h hu
    cases u with
    | int k i =>
      simp only [asBound] at h
      split at h
      · rename_i hb
        simp only [Option.some.injEq] at h; subst h
        have := conc_int hu; subst this
        have hb2 : 0 ≤ i ∧ i ≤ cap := ⟨hb.1, by omega⟩
        simp [Instr.sliceBound, asIntOf, hb2]
      · cases h
    | _ => simp [asBound] at h
  cases hi with
  | none =>
    simp only [prepO, Option.some.injEq] at hhi; subst hhi
    have := asBound_none hhq; subst this
    cases lo with
    | none =>
      simp only [prepO, Option.some.injEq] at hlo; subst hlo
      have := asBound_none hlq; subst this
      simp [Instr.sliceBounds]
    | some lx =>
      simp only [prepO, Option.map_eq_some_iff] at hlo
      obtain ⟨ly, hly, rfl⟩ := hlo
      obtain ⟨n, rfl⟩ := asBound_some hlq
      have := run_sliceBound (P := P) (code := .sliceB) hlq (hr.opd hly) w
      simp at this
      simp [Instr.sliceBounds, this.1]
  | some hx' =>
    simp only [prepO, Option.map_eq_some_iff] at hhi
    obtain ⟨hy', hhy, rfl⟩ := hhi
    obtain ⟨n, rfl⟩ := asBound_some hhq
    have hb := grow (code := .sliceAcap) hhq (hr.opd hhy)
    cases lo with
    | none =>
      simp only [prepO, Option.some.injEq] at hlo; subst hlo
      have := asBound_none hlq; subst this
      simp [Instr.sliceBounds, hb]
    | some lx =>
      simp only [prepO, Option.map_eq_some_iff] at hlo
      obtain ⟨ly, hly, rfl⟩ := hlo
      obtain ⟨m, rfl⟩ := asBound_some hlq
      have := run_sliceBound (P := P) (code := .sliceB) hlq (hr.opd hly) w
      simp at this
      simp [Instr.sliceBounds, hb, this.1]

theorem run_sliceBounds_some (hr : RR ν r a) {len cap : Nat} {lo : Option Operand} {hi mx : Operand} {lo' : Option Opd} {hi' mx' : Opd} {lq : Option Nat} {h m : Nat} (hlo : prepO lo = some lo') (hhi : prepOpd hi = some hi') (hmx : prepOpd mx = some mx')
    (hm : ∃ y, y ≤ cap ∧ asBound y (some (mx'.ev r)) = some (some m)) (hhq : asBound m (some (hi'.ev r)) = some (some h)) (hlq : asBound h (lo'.map (·.ev r)) = some lq) (w : World) :
    (Instr.sliceBounds true len cap (lo.map a.eval) (some (a.eval hi)) (some (a.eval mx))).run P w = .ok (lq.getD 0, h, m) w := by
  obtain ⟨y, hy, hm⟩ := hm
  have h0 : (Instr.sliceBound (a.eval mx) cap .slice3Acap).run P w = .ok m w := by
    have hu := hr.opd hmx
    cases hv : mx'.ev r with
    | int k i =>
      rw [hv] at hm hu
      simp only [asBound] at hm
      split at hm
      · rename_i hb
        simp only [Option.some.injEq] at hm; subst hm
        have := conc_int hu; rw [this]
        have hb2 : 0 ≤ i ∧ i ≤ cap := ⟨hb.1, by omega⟩
        simp [Instr.sliceBound, asIntOf, hb2]
      · cases hm
    | _ => rw [hv] at hm; simp [asBound] at hm
  have h1 := run_sliceBound (P := P) (code := .slice3B) hhq (hr.opd hhi) w
  cases lo with
  | none =>
    simp only [prepO, Option.some.injEq] at hlo; subst hlo
    have := asBound_none hlq; subst this
    simp [Instr.sliceBounds, h0, h1.1]
  | some lx =>
    simp only [prepO, Option.map_eq_some_iff] at hlo
    obtain ⟨ly, hly, rfl⟩ := hlo
    obtain ⟨n, rfl⟩ := asBound_some hlq
    have h2 := run_sliceBound (P := P) (code := .slice3C) hlq (hr.opd hly) w
    simp [Instr.sliceBounds, h0, h1.1, h2.1]

theorem run_slice {t e : TypeId} {n : Nat} {x : Operand} {lo hi mx : Option Operand} {A : Option Addr} {len cap l h m : Nat} (ho : o.op = .slice t x lo hi mx) (hd : P.underlying t = some (.slice e)) (hn : tsize P e = some n)
    (hx : a.eval x = .slice A len cap) (hb : (Instr.sliceBounds true len cap (lo.map a.eval) (hi.map a.eval) (mx.map a.eval)).run P w = .ok (l, h, m) w) :
    (execOp a.eval o).run P w = .ok (.value (.slice (if m = l then A else A.map (·.add (l * n))) (h - l) (m - l))) w := by
  simp only [execOp, ho, Sem.run_bind, Instr.sliceAt, run_underlying hd, Result.andThen_ok, hx, Instr.slice]
  rw [hb]
  simp [run_sizeOf hn]

theorem asBound_le {y : Nat} {u : Option AV} {q : Option Nat} {d : Nat} (h : asBound y u = some q) (hd : d ≤ y) : q.getD d ≤ y := by
  cases u with
  | none => simp [asBound] at h; subst h; simpa using hd
  | some u =>
    cases u with
    | int k i =>
      simp only [asBound] at h
      split at h
      · simp only [Option.some.injEq] at h; subst h; simp; omega
      · cases h
    | _ => simp [asBound] at h

theorem op_slice {t e : TypeId} {n : Nat} {x : Operand} {lo hi mx : Option Operand} {y : Opd} {lo' hi' mx' : Option Opd} (ho : o.op = .slice t x lo hi mx) (hd : P.underlying t = some (.slice e)) (hn : tsize P e = some n)
    (hx : prepOpd x = some y) (hlo : prepO lo = some lo') (hhi : prepO hi = some hi') (hmx : prepO mx = some mx') (hr : RR ν r a) (hs : Sim ν s w) (hh : evI E (.slice n y lo' hi' mx') r s = some (v, s')) : OpOk P o a ν s w v s' := by
  have h1 := hr.opd hx
  simp only [evI, Option.map_eq_some_iff, Prod.mk.injEq] at hh
  obtain ⟨v0, hh, rfl, rfl⟩ := hh
  have fin : ∀ (L : Loc) (off k : Nat), ((some ⟨L.blk, L.sh + off, none⟩ : Option Addr).map fun q => q.add (k * n)) = some ⟨L.blk, L.sh + (off + k * n), none⟩ := by
    intro L off k
    simp [addr_add, Nat.add_assoc]
  unfold S.slice at hh
  cases mx with
  | none =>
    simp only [prepO, Option.some.injEq] at hmx; subst hmx
    simp only [Option.map_none] at hh
    unfold S.slice2 at hh
    split at hh
    · rename_i hp
      rw [hp] at h1
      simp only [conc, Option.some.injEq] at h1
      simp only [Option.bind_eq_some_iff, Option.some.injEq] at hh
      obtain ⟨hq, hhq, lq, hlq, rfl⟩ := hh
      refine pure_ok (v' := .slice none 0 0) hs rfl ?_
      have hb := run_sliceBounds_none (P := P) (len := 0) (cap := 0) hr hlo hhi ⟨0, Nat.le_refl _, hhq⟩ hlq w
      have e1 : hq.getD 0 ≤ 0 := asBound_le hhq (by simp)
      have e2 : lq.getD 0 ≤ hq.getD 0 := asBound_le hlq (by omega)
      have := run_slice (A := none) ho hd hn h1.symm (by simpa using hb)
      rw [this, show hq.getD 0 = 0 from by omega, show lq.getD 0 = 0 from by omega]
      simp
    · rename_i za hp
      rw [hp] at h1
      simp only [conc, Option.some.injEq] at h1
      simp only [Option.bind_eq_some_iff, Option.some.injEq] at hh
      obtain ⟨hq, hhq, lq, hlq, rfl⟩ := hh
      refine pure_ok (v' := .slice (some za) 0 0) hs rfl ?_
      have hb := run_sliceBounds_none (P := P) (len := 0) (cap := 0) hr hlo hhi ⟨0, Nat.le_refl _, hhq⟩ hlq w
      have e1 : hq.getD 0 ≤ 0 := asBound_le hhq (by simp)
      have e2 : lq.getD 0 ≤ hq.getD 0 := asBound_le hlq (by omega)
      have := run_slice (A := some za) ho hd hn h1.symm (by simpa using hb)
      rw [this, show hq.getD 0 = 0 from by omega, show lq.getD 0 = 0 from by omega]
      simp [Addr.add]
    · rename_i eb eo1 eo2 est hp
      rw [hp] at h1
      obtain ⟨A, ec, he, L, hL, hle, rfl, rfl⟩ := conc_esl h1
      simp only [Option.bind_eq_some_iff, Option.some.injEq] at hh
      obtain ⟨hq, hhq, lq, hlq, rfl⟩ := hh
      refine pure_ok hs h1 ?_
      have hb := run_sliceBounds_none (P := P) (len := 0) (cap := L.hid - est) hr hlo hhi ⟨0, Nat.zero_le _, hhq⟩ hlq w
      have e1 : hq.getD 0 ≤ 0 := asBound_le hhq (by simp)
      have e2 : lq.getD 0 ≤ hq.getD 0 := asBound_le hlq (by omega)
      have := run_slice ho hd hn he (by simpa using hb)
      rw [this, he, show hq.getD 0 = 0 from by omega, show lq.getD 0 = 0 from by omega]
      simp [Addr.add]
    · rename_i b off len cap hp
      rw [hp] at h1
      obtain ⟨L, cap', hL, h5, hc, _⟩ := conc_slice h1
      have hc := hc rfl
      subst hc
      simp only [Option.bind_eq_some_iff] at hh
      obtain ⟨hq, hhq, lq, hlq, hh⟩ := hh
      split at hh
      · rename_i hle
        simp only [Option.some.injEq] at hh; subst hh
        have hb := run_sliceBounds_none (P := P) (len := len) (cap := cap') hr hlo hhi ⟨cap', Nat.le_refl _, hhq⟩ hlq w
        have := run_slice ho hd hn h5 (by simpa using hb)
        refine pure_ok hs ?_ this
        rw [fin]
        split <;> simp [conc, hL]
      · cases hh
    · rename_i b off len st hp
      rw [hp] at h1
      obtain ⟨L, cap', hL, h1, _, hc⟩ := conc_slice h1
      obtain ⟨hle0, rfl⟩ := hc rfl
      simp only [Option.bind_eq_some_iff] at hh
      obtain ⟨hq, hhq, lq, hlq, hh⟩ := hh
      split at hh
      · rename_i hcond
        simp only [Option.some.injEq] at hh; subst hh
        have hb := run_sliceBounds_none (P := P) (len := len) (cap := L.hid - st) hr hlo hhi ⟨len, by omega, hhq⟩ hlq w
        have := run_slice ho hd hn h1 (by simpa using hb)
        have e1 : hq.getD len ≤ len := asBound_le hhq (Nat.le_refl _)
        have e2 : lq.getD 0 ≤ hq.getD len := asBound_le hlq (by omega)
        refine pure_ok hs ?_ this
        have ha : (if L.hid - st = lq.getD 0 then some (⟨L.blk, L.sh + off, none⟩ : Addr) else some (⟨L.blk, L.sh + (off + lq.getD 0 * n), none⟩ : Addr)) = some ⟨L.blk, L.sh + (off + lq.getD 0 * n), none⟩ := by
          split
          · rename_i e
            rcases hcond with hcond | hcond
            · omega
            · rw [hcond]; simp
          · rfl
        rw [fin, ha]
        have : L.hid - st - lq.getD 0 = L.hid - (st + lq.getD 0) := by omega
        rw [this]
        exact slice_conc hL (fun h => by cases h) (fun _ => ⟨by omega, rfl⟩)
      · rename_i hcond
        simp only [Option.some.injEq] at hh; subst hh
        have hb := run_sliceBounds_none (P := P) (len := len) (cap := L.hid - st) hr hlo hhi ⟨len, by omega, hhq⟩ hlq w
        have := run_slice ho hd hn h1 (by simpa using hb)
        have e1 : hq.getD len ≤ len := asBound_le hhq (Nat.le_refl _)
        have e2 : lq.getD 0 ≤ hq.getD len := asBound_le hlq (by omega)
        have e3 : lq.getD 0 = len := by omega
        have e4 : hq.getD len = len := by omega
        refine pure_ok hs ?_ this
        rw [fin]
        simp only [conc, hL, Option.bind_some, e3, e4]
        rw [if_pos (by omega)]
        by_cases hx : L.hid - st = len
        · rw [if_pos (by omega), if_pos hx]; simp; omega
        · rw [if_neg (by omega), if_neg hx]; simp; omega
    · cases hh
  | some mx =>
    simp only [prepO, Option.map_eq_some_iff] at hmx
    obtain ⟨my, hmy, rfl⟩ := hmx
    cases hi with
    | none => simp only [prepO, Option.some.injEq] at hhi; subst hhi; simp at hh
    | some hi =>
      simp only [prepO, Option.map_eq_some_iff] at hhi
      obtain ⟨hy, hhy, rfl⟩ := hhi
      simp only [Option.map_some] at hh
      unfold S.slice3 at hh
      split at hh
      · rename_i hp
        rw [hp] at h1
        simp only [conc, Option.some.injEq] at h1
        simp only [Option.bind_eq_some_iff, Option.some.injEq] at hh
        obtain ⟨mq, hmq, hq, hhq, lq, hlq, rfl⟩ := hh
        obtain ⟨m, rfl⟩ := asBound_some hmq
        obtain ⟨h, rfl⟩ := asBound_some hhq
        refine pure_ok (v' := .slice none 0 0) hs rfl ?_
        have hb := run_sliceBounds_some (P := P) (len := 0) (cap := 0) hr hlo hhy hmy ⟨0, Nat.le_refl _, hmq⟩ (by simpa using hhq) (by simpa using hlq) w
        have e0 : m ≤ 0 := by simpa using asBound_le (d := 0) hmq (by omega)
        have e1 : h ≤ m := by simpa using asBound_le (d := 0) hhq (by simp)
        have e2 : lq.getD 0 ≤ h := by simpa using asBound_le (d := 0) hlq (by simp)
        have := run_slice (A := none) ho hd hn h1.symm (by simpa using hb)
        rw [this, show h = 0 from by omega, show lq.getD 0 = 0 from by omega, show m = 0 from by omega]
        simp
      · rename_i za hp
        rw [hp] at h1
        simp only [conc, Option.some.injEq] at h1
        simp only [Option.bind_eq_some_iff, Option.some.injEq] at hh
        obtain ⟨mq, hmq, hq, hhq, lq, hlq, rfl⟩ := hh
        obtain ⟨m, rfl⟩ := asBound_some hmq
        obtain ⟨h, rfl⟩ := asBound_some hhq
        refine pure_ok (v' := .slice (some za) 0 0) hs rfl ?_
        have hb := run_sliceBounds_some (P := P) (len := 0) (cap := 0) hr hlo hhy hmy ⟨0, Nat.le_refl _, hmq⟩ (by simpa using hhq) (by simpa using hlq) w
        have e0 : m ≤ 0 := by simpa using asBound_le (d := 0) hmq (by omega)
        have e1 : h ≤ m := by simpa using asBound_le (d := 0) hhq (by simp)
        have e2 : lq.getD 0 ≤ h := by simpa using asBound_le (d := 0) hlq (by simp)
        have := run_slice (A := some za) ho hd hn h1.symm (by simpa using hb)
        rw [this, show h = 0 from by omega, show lq.getD 0 = 0 from by omega, show m = 0 from by omega]
        simp [Addr.add]
      · rename_i b off len cap opn hp
        rw [hp] at h1
        obtain ⟨L, cap', hL, h1, hc0, hc1⟩ := conc_slice h1
        simp only [Option.bind_eq_some_iff, Option.some.injEq] at hh
        obtain ⟨mq, hmq, hq, hhq, lq, hlq, rfl⟩ := hh
        obtain ⟨m, rfl⟩ := asBound_some hmq
        obtain ⟨h, rfl⟩ := asBound_some hhq
        have hcap : (if opn then len else cap) ≤ cap' := by
          cases opn with
          | false => simp [hc0 rfl]
          | true => have := hc1 rfl; simp; omega
        have hb := run_sliceBounds_some (P := P) (len := len) (cap := cap') hr hlo hhy hmy ⟨_, hcap, hmq⟩ (by simpa using hhq) (by simpa using hlq) w
        have := run_slice ho hd hn h1 (by simpa using hb)
        refine pure_ok hs ?_ this
        rw [fin]
        simp only [Option.getD_some]
        split <;> simp [conc, hL]
      · cases hh
end
end Go.Ab
