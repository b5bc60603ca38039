/- The abstract machine and the model's: single operations that call nothing, on. -/
import Derived.Test.YtekkglhoeaipbaaDoorAbOps2
namespace Go.Ab
section
variable {P : Program} {o : Oper} {a : Act} {E : Env} {r : Regs} {s s' : S} {w : World} {ν : Nu} {v : AV}

/-- A slice that is not nil, in the model. -/
theorem conc_slice {b off n c : Nat} {opn : Bool} {v : Value} (h : conc ν (.slice b off n c opn) = some v) :
    ∃ L cap, ν b = some L ∧ v = .slice (some ⟨L.blk, L.sh + off, none⟩) n cap ∧ (opn = false → cap = c) ∧ (opn = true → c + n ≤ L.hid ∧ cap = L.hid - c) := by
  cases opn with
  | false =>
    simp only [conc, Option.map_eq_some_iff] at h
    obtain ⟨L, hL, rfl⟩ := h
    exact ⟨L, c, hL, rfl, fun _ => rfl, fun h => (by cases h)⟩
  | true =>
    simp only [conc, Option.bind_eq_some_iff] at h
    obtain ⟨L, hL, h⟩ := h
    split at h
    · rename_i hle
      simp only [Option.some.injEq] at h
      exact ⟨L, _, hL, h.symm, fun h => (by cases h), fun _ => ⟨hle, rfl⟩⟩
    · cases h

theorem slice_conc {b off n c : Nat} {opn : Bool} {L : Loc} {cap : Nat} (hL : ν b = some L) (h0 : opn = false → cap = c) (h1 : opn = true → c + n ≤ L.hid ∧ cap = L.hid - c) :
    conc ν (.slice b off n c opn) = some (.slice (some ⟨L.blk, L.sh + off, none⟩) n cap) := by
  cases opn with
  | false => simp [conc, hL, h0 rfl]
  | true => obtain ⟨h2, h3⟩ := h1 rfl; simp [conc, hL, h2, h3]

theorem addr_add (blk off n : Nat) : (⟨blk, off, none⟩ : Addr).add n = ⟨blk, off + n, none⟩ := by
  unfold Addr.add
  split
  · rename_i e; rw [e]; rfl
  · rfl

theorem op_fld {t : TypeId} {fs : Array Field} {f : Field} {i n : Nat} {g : Bool} {x : Operand} {y : Opd} (ho : o.op = .field t x i) (hd : P.underlying t = some (.struct fs)) (hf : fs[i]? = some f) (hn : tsize P f.type = some n) (hg : tagg P f.type = some g)
    (hx : prepOpd x = some y) (hr : RR ν r a) (hs : Sim ν s w) (h : evI E (.fld f.offset n g y) r s = some (v, s')) : OpOk P o a ν s w v s' := by
  have h1 := hr.opd hx
  simp only [evI] at h
  split at h
  · rename_i c hp
    rw [hp] at h1
    simp only [conc, Option.map_eq_some_iff] at h1
    obtain ⟨m, hm, h1⟩ := h1
    split at h
    · rename_i hle
      have hml := concs_length hm
      cases g with
      | true =>
        simp only [if_true, Option.some.injEq, Prod.mk.injEq] at h
        obtain ⟨rfl, rfl⟩ := h
        refine pure_ok (v' := .agg (((m.drop f.offset).take n).toArray)) hs (by simp [conc, concs_take n (concs_drop f.offset hm)]) ?_
        have : m.toArray.extract f.offset (f.offset + n) = ((m.drop f.offset).take n).toArray := by
          simp [List.extract_eq_take_drop]
        simp [execOp, ho, ← h1, Instr.field, run_underlying hd, hf, asAgg, part, run_isAgg hg, run_sizeOf hn, this]
      | false =>
        simp only [Bool.false_eq_true, if_false] at h
        split at h
        · rename_i u hu
          simp only [Option.some.injEq, Prod.mk.injEq] at h
          obtain ⟨rfl, rfl⟩ := h
          obtain ⟨u', h2, h3⟩ := concs_get _ hm hu
          refine pure_ok hs h3 ?_
          simp [execOp, ho, ← h1, Instr.field, run_underlying hd, hf, asAgg, part, run_isAgg hg, h2]
        · cases h
    · cases h
  · cases h

theorem op_iaddr {t e : TypeId} {n : Nat} {x i : Operand} {y j : Opd} (ho : o.op = .indexAddr t x i) (hd : P.underlying t = some (.slice e)) (hn : tsize P e = some n)
    (hx : prepOpd x = some y) (hi : prepOpd i = some j) (hr : RR ν r a) (hs : Sim ν s w) (h : evI E (.iaddr n y j) r s = some (v, s')) : OpOk P o a ν s w v s' := by
  have h1 := hr.opd hx
  have h2 := hr.opd hi
  simp only [evI] at h
  split at h
  · rename_i b off len c opn k q hp hq
    rw [hp] at h1; rw [hq] at h2
    obtain ⟨L, cap, hL, h1, _, _⟩ := conc_slice h1
    have h2 := conc_int h2
    split at h
    · rename_i hb
      simp only [Option.some.injEq, Prod.mk.injEq] at h
      obtain ⟨rfl, rfl⟩ := h
      refine pure_ok (v' := .pointer (some ⟨L.blk, L.sh + (off + q.toNat * n), none⟩)) hs (by simp [conc, hL]) ?_
      simp [execOp, ho, h1, h2, Instr.indexAt, asIntOf, run_underlying hd, hb.1, hb.2, run_sizeOf hn, addr_add, Nat.add_assoc]
    · cases h
  · cases h

theorem op_iaddrA {t e : TypeId} {n m : Nat} {x i : Operand} {y j : Opd} (ho : o.op = .indexAddr t x i) (hd : P.underlying t = some (.array m e)) (hn : tsize P e = some n)
    (hx : prepOpd x = some y) (hi : prepOpd i = some j) (hr : RR ν r a) (hs : Sim ν s w) (h : evI E (.iaddrA m n y j) r s = some (v, s')) : OpOk P o a ν s w v s' := by
  have h1 := hr.opd hx
  have h2 := hr.opd hi
  simp only [evI] at h
  split at h
  · rename_i b off k q hp hq
    rw [hp] at h1; rw [hq] at h2
    obtain ⟨L, hL, h1⟩ := conc_ptr h1
    have h2 := conc_int h2
    split at h
    · rename_i hb
      simp only [Option.some.injEq, Prod.mk.injEq] at h
      obtain ⟨rfl, rfl⟩ := h
      refine pure_ok (v' := .pointer (some ⟨L.blk, L.sh + (off + q.toNat * n), none⟩)) hs (by simp [conc, hL]) ?_
      simp [execOp, ho, h1, h2, Instr.indexAt, asIntOf, run_underlying hd, Instr.sureAddr, hb.1, hb.2, run_sizeOf hn, addr_add, Nat.add_assoc]
    · cases h
  · cases h

theorem op_idxs {t : TypeId} {x i : Operand} {y j : Opd} (ho : o.op = .index t x i) (hd : P.underlying t = some .string)
    (hx : prepOpd x = some y) (hi : prepOpd i = some j) (hr : RR ν r a) (hs : Sim ν s w) (h : evI E (.idxs y j) r s = some (v, s')) : OpOk P o a ν s w v s' := by
  have h1 := hr.opd hx
  have h2 := hr.opd hi
  simp only [evI] at h
  split at h
  · rename_i l k q hp hq
    rw [hp] at h1; rw [hq] at h2
    have h1 := conc_str h1
    have h2 := conc_int h2
    split at h
    · rename_i hb
      simp only [Option.map_eq_some_iff, Prod.mk.injEq] at h
      obtain ⟨u, hu, rfl, rfl⟩ := h
      refine pure_ok (v' := .int .u8 u.toNat) hs rfl ?_
      have hlt : q.toNat < l.length := (List.getElem?_eq_some_iff.1 hu).1
      have hg : (⟨l.toArray⟩ : ByteArray)[q.toNat]? = some u := by
        rw [getElem?_pos (h := by simpa [ByteArray.size] using hlt)]
        have := (List.getElem?_eq_some_iff.1 hu).2
        simp [ByteArray.getElem_eq_getElem_data, this]
      simp [execOp, ho, h1, h2, Instr.index, asIntOf, run_underlying hd, hb, hg]
    · cases h
  · cases h

theorem builtin_run {c : Call} {b : Builtin} (ho : o.op = .call c) (hc : c.callee = .builtin b) {f : Array TypeId → TypeId → Array Value → Sem Value}
    (hb : ∀ consts args, builtin b c.argTypes o.type consts args = (do pure (.value (← f c.argTypes o.type args)))) {v' : Value} {w' : World}
    (hv : (f c.argTypes o.type (c.args.map a.eval)).run P w = .ok v' w') : (execOp a.eval o).run P w = .ok (.value v') w' := by
  simp [execOp, ho, resolve, hc, invoke, hb, hv]

theorem args_one {c : Call} {t : TypeId} {x : Operand} (ht : c.argTypes.toList = [t]) (hargs : c.args.toList = [x]) : c.argTypes = #[t] ∧ c.args.map a.eval = #[a.eval x] := by
  have hA : c.args = #[x] := by rw [← Array.toArray_toList (xs := c.args), hargs]
  have hT : c.argTypes = #[t] := by rw [← Array.toArray_toList (xs := c.argTypes), ht]
  exact ⟨hT, by rw [hA]; simp⟩

theorem args_two {c : Call} {t u : TypeId} {x y : Operand} (ht : c.argTypes.toList = [t, u]) (hargs : c.args.toList = [x, y]) : c.argTypes = #[t, u] ∧ c.args.map a.eval = #[a.eval x, a.eval y] := by
  have hA : c.args = #[x, y] := by rw [← Array.toArray_toList (xs := c.args), hargs]
  have hT : c.argTypes = #[t, u] := by rw [← Array.toArray_toList (xs := c.argTypes), ht]
  exact ⟨hT, by rw [hA]; simp⟩

theorem op_len {c : Call} {t : TypeId} {d : TypeDesc} {str : Bool} {x : Operand} {y : Opd} (ho : o.op = .call c) (hc : c.callee = .builtin .len) (ht : c.argTypes.toList = [t]) (hargs : c.args.toList = [x]) (hd : P.underlying t = some d)
    (hk : if str then d = .string else ∃ e, d = .slice e) (hx : prepOpd x = some y) (hr : RR ν r a) (hs : Sim ν s w) (h : evI E (.len str y) r s = some (v, s')) : OpOk P o a ν s w v s' := by
  have h1 := hr.opd hx
  obtain ⟨hT, hA⟩ := args_one (a := a) ht hargs
  have run : ∀ v', (Builtin.len_ #[t] o.type #[a.eval x]).run P w = .ok v' w → (execOp a.eval o).run P w = .ok (.value v') w := by
    intro v' hv
    exact builtin_run ho hc (f := Builtin.len_) (fun _ _ => rfl) (by rw [hT, hA]; exact hv)
  simp only [evI] at h
  split at h
  · rename_i hp
    rw [hp] at h1
    simp only [conc, Option.some.injEq] at h1
    simp only [Option.some.injEq, Prod.mk.injEq] at h
    obtain ⟨rfl, rfl⟩ := h
    simp only [Bool.false_eq_true, if_false] at hk
    obtain ⟨e, rfl⟩ := hk
    exact pure_ok hs rfl (run _ (by simp [Builtin.len_, run_underlying hd, ← h1, goInt]))
  · rename_i za hp
    rw [hp] at h1
    simp only [conc, Option.some.injEq] at h1
    simp only [Option.some.injEq, Prod.mk.injEq] at h
    obtain ⟨rfl, rfl⟩ := h
    simp only [Bool.false_eq_true, if_false] at hk
    obtain ⟨e, rfl⟩ := hk
    exact pure_ok hs rfl (run _ (by simp [Builtin.len_, run_underlying hd, ← h1, goInt]))
  · rename_i b o1 o2 st hp
    rw [hp] at h1
    obtain ⟨A, c, h1, _⟩ := conc_esl h1
    simp only [Option.some.injEq, Prod.mk.injEq] at h
    obtain ⟨rfl, rfl⟩ := h
    simp only [Bool.false_eq_true, if_false] at hk
    obtain ⟨e, rfl⟩ := hk
    exact pure_ok hs rfl (run _ (by simp [Builtin.len_, run_underlying hd, h1, goInt]))
  · rename_i b off n cp opn hp
    rw [hp] at h1
    obtain ⟨L, cap, hL, h1, _, _⟩ := conc_slice h1
    simp only [Option.some.injEq, Prod.mk.injEq] at h
    obtain ⟨rfl, rfl⟩ := h
    simp only [Bool.false_eq_true, if_false] at hk
    obtain ⟨e, rfl⟩ := hk
    exact pure_ok hs rfl (run _ (by simp [Builtin.len_, run_underlying hd, h1, goInt]))
  · rename_i l hp
    rw [hp] at h1
    have h1 := conc_str h1
    simp only [Option.some.injEq, Prod.mk.injEq] at h
    obtain ⟨rfl, rfl⟩ := h
    simp only [if_true] at hk
    subst hk
    refine pure_ok hs rfl (run _ ?_)
    have hz : (⟨l.toArray⟩ : ByteArray).size = l.length := rfl
    simp only [Builtin.len_, h1, Sem.run_bind, List.getElem?_toArray, List.getElem?_cons_zero, run_underlying hd, Result.andThen_ok, hz, goInt]
    rfl
  · cases h

theorem run_foldM {f : AV → AV → Option AV} {g : Value → Value → Sem Value} (hfg : ∀ x y z x' y' w, f x y = some z → conc ν x = some x' → conc ν y = some y' → ∃ z', conc ν z = some z' ∧ (g x' y').run P w = .ok z' w) :
    ∀ {l : List AV} {m : List Value} {x z : AV} {x' : Value}, foldO f x l = some z → conc ν x = some x' → concs ν l = some m → ∃ z', conc ν z = some z' ∧ (m.foldlM g x').run P w = .ok z' w
  | [], m, x, z, x', h, hx, hm => by
    simp only [foldO, Option.some.injEq] at h; subst h
    simp only [concs, Option.some.injEq] at hm; subst hm
    exact ⟨x', hx, rfl⟩
  | y :: l, m, x, z, x', h, hx, hm => by
    obtain ⟨y', m', hy, hm', rfl⟩ := concs_cons.1 hm
    simp only [foldO, Option.bind_eq_some_iff] at h
    obtain ⟨u, hu, h⟩ := h
    obtain ⟨u', hu', hrun⟩ := hfg x y u x' y' w hu hx hy
    obtain ⟨z', hz, hrun2⟩ := run_foldM hfg h hu' hm'
    exact ⟨z', hz, by simp [List.foldlM_cons, hrun, hrun2]⟩

theorem op_mn {c : Call} {y : List Opd} (ho : o.op = .call c) (hc : c.callee = .builtin .min) (hx : prepOpds c.args.toList = some y) (hr : RR ν r a) (hs : Sim ν s w) (h : evI E (.mn y) r s = some (v, s')) : OpOk P o a ν s w v s' := by
  have h1 := hr.opds hx
  simp only [evI] at h
  split at h
  · rename_i x rest hp
    rw [hp] at h1
    obtain ⟨x', m, hx', hm, he⟩ := concs_cons.1 h1
    simp only [Option.map_eq_some_iff, Prod.mk.injEq] at h
    obtain ⟨z, hz, rfl, rfl⟩ := h
    obtain ⟨z', hz', hrun⟩ := run_foldM (P := P) (w := w) (g := Builtin.min2) (by
      intro x y z x' y' w h hx hy
      unfold minV at h
      split at h
      · split at h
        · rename_i hk; subst hk
          simp only [Option.some.injEq] at h; subst h
          have := conc_int hx; subst this
          have := conc_int hy; subst this
          exact ⟨_, rfl, rfl⟩
        · cases h
      · cases h) hz hx' hm
    refine pure_ok hs hz' (builtin_run ho hc (f := Builtin.min_) (fun _ _ => rfl) ?_)
    have : (c.args.map a.eval).toList = x' :: m := by rw [Array.toList_map]; exact he
    unfold Builtin.min_
    rw [this]
    exact hrun
  · cases h

theorem op_mx {c : Call} {y : List Opd} (ho : o.op = .call c) (hc : c.callee = .builtin .max) (hx : prepOpds c.args.toList = some y) (hr : RR ν r a) (hs : Sim ν s w) (h : evI E (.mx y) r s = some (v, s')) : OpOk P o a ν s w v s' := by
  have h1 := hr.opds hx
  simp only [evI] at h
  split at h
  · rename_i x rest hp
    rw [hp] at h1
    obtain ⟨x', m, hx', hm, he⟩ := concs_cons.1 h1
    simp only [Option.map_eq_some_iff, Prod.mk.injEq] at h
    obtain ⟨z, hz, rfl, rfl⟩ := h
    obtain ⟨z', hz', hrun⟩ := run_foldM (P := P) (w := w) (g := Builtin.max2) (by
      intro x y z x' y' w h hx hy
      unfold maxV at h
      split at h
      · split at h
        · rename_i hk; subst hk
          simp only [Option.some.injEq] at h; subst h
          have := conc_int hx; subst this
          have := conc_int hy; subst this
          exact ⟨_, rfl, rfl⟩
        · cases h
      · cases h) hz hx' hm
    refine pure_ok hs hz' (builtin_run ho hc (f := Builtin.max_) (fun _ _ => rfl) ?_)
    have : (c.args.map a.eval).toList = x' :: m := by rw [Array.toList_map]; exact he
    unfold Builtin.max_
    rw [this]
    exact hrun
  · cases h

theorem run_sliceBound {y : Nat} {u : AV} {u' : Value} {n : Nat} {code : BoundsCode} (h : asBound y (some u) = some (some n)) (hu : conc ν u = some u') (w : World) : (Instr.sliceBound u' y code).run P w = .ok n w ∧ n ≤ y := by
  cases u with
  | int k i =>
    simp only [asBound] at h
    split at h
    · rename_i hb
      simp only [Option.some.injEq] at h; subst h
      have := conc_int hu; subst this
      exact ⟨by simp [Instr.sliceBound, asIntOf, hb], by omega⟩
    · cases h
  | _ => simp [asBound] at h

theorem asBound_none {y : Nat} {q : Option Nat} (h : asBound y none = some q) : q = none := by simp [asBound] at h; exact h.symm
theorem asBound_some {y : Nat} {u : AV} {q : Option Nat} (h : asBound y (some u) = some q) : ∃ n, q = some n := by
  cases u with
  | int k i => simp only [asBound] at h; split at h <;> simp at h; exact ⟨_, h.symm⟩
  | _ => simp [asBound] at h

theorem op_sstr {t : TypeId} {x : Operand} {lo hi : Option Operand} {y : Opd} {lo' hi' : Option Opd} (ho : o.op = .slice t x lo hi none) (hd : P.underlying t = some .string)
    (hx : prepOpd x = some y) (hlo : prepO lo = some lo') (hhi : prepO hi = some hi') (hr : RR ν r a) (hs : Sim ν s w) (h : evI E (.sstr y lo' hi') r s = some (v, s')) : OpOk P o a ν s w v s' := by
  have h1 := hr.opd hx
  simp only [evI] at h
  split at h
  · rename_i l hp
    rw [hp] at h1
    have h1 := conc_str h1
    simp only [Option.bind_eq_bind, Option.bind_eq_some_iff, Option.some.injEq, Prod.mk.injEq] at h
    obtain ⟨hq, hhq, lq, hlq, rfl, rfl⟩ := h
    refine pure_ok (v' := .string ((⟨l.toArray⟩ : ByteArray).extract (lq.getD 0) (hq.getD l.length))) hs ?_ ?_
    · have : (⟨l.toArray⟩ : ByteArray).extract (lq.getD 0) (hq.getD l.length) = ⟨((l.take (hq.getD l.length)).drop (lq.getD 0)).toArray⟩ := by
        apply ByteArray.ext
        rw [ByteArray.data_extract]
        apply Array.ext'
        simp [List.extract_eq_take_drop, List.drop_take]
      rw [this]; rfl
    · have hz : (⟨l.toArray⟩ : ByteArray).size = l.length := rfl
      have bound : (Instr.sliceBounds false l.length l.length (lo.map a.eval) (hi.map a.eval) none).run P w = .ok (lq.getD 0, hq.getD l.length, l.length) w := by
        cases hi with
        | none =>
          simp only [prepO, Option.some.injEq] at hhi; subst hhi
          have := asBound_none hhq; subst this
          cases lo with
          | none =>
            simp only [prepO, Option.some.injEq] at hlo; subst hlo
            have := asBound_none hlq; subst this
            simp [Instr.sliceBounds]
          | some lx =>
            simp only [prepO, Option.map_eq_some_iff] at hlo
            obtain ⟨ly, hly, rfl⟩ := hlo
            obtain ⟨n, rfl⟩ := asBound_some hlq
            have := run_sliceBound (P := P) (code := .sliceB) hlq (hr.opd hly) w
            simp at this
            simp [Instr.sliceBounds, this.1]
        | some hx' =>
          simp only [prepO, Option.map_eq_some_iff] at hhi
          obtain ⟨hy, hhy, rfl⟩ := hhi
          obtain ⟨n, rfl⟩ := asBound_some hhq
          have hb := run_sliceBound (P := P) (code := .sliceAlen) hhq (hr.opd hhy) w
          cases lo with
          | none =>
            simp only [prepO, Option.some.injEq] at hlo; subst hlo
            have := asBound_none hlq; subst this
            simp [Instr.sliceBounds, hb.1]
          | some lx =>
            simp only [prepO, Option.map_eq_some_iff] at hlo
            obtain ⟨ly, hly, rfl⟩ := hlo
            obtain ⟨m, rfl⟩ := asBound_some hlq
            have := run_sliceBound (P := P) (code := .sliceB) hlq (hr.opd hly) w
            simp at this
            simp [Instr.sliceBounds, hb.1, this.1]
      simp only [execOp, ho, h1, Instr.sliceAt, Instr.slice, Sem.run_bind, run_underlying hd, Result.andThen_ok, Option.map_none, hz]
      simp
      rw [bound]
      rfl
  · cases h
end
end Go.Ab
