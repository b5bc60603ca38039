/- The abstract machine and the model's: single operations that call nothing, on. -/
import Derived.Test.YtekkglhoeaipbaaDoorAbOps7
namespace Go.Ab
section
variable {P : Program} {o : Oper} {a : Act} {E : Env} {r : Regs} {s s' : S} {w : World} {ν : Nu} {v : AV}

/-! ### maps -/
theorem findNow_ok {q : IntKind} {j : IntKind} {b : Int} : ∀ (es : List (AV × AV)) (L : List MapEntry) (n : Nat) (res : Option AV), ERel ν es L → findA (.int j b) es = some res →
    (res = none ∧ Instr.findNow (.int q) (.int j b) L n = some none) ∨
    (∃ v v' i e, res = some v ∧ conc ν v = some v' ∧ L[i]? = some e ∧ e.key = .int j b ∧ e.val = v' ∧ Instr.findNow (.int q) (.int j b) L n = some (some (n + i, v')))
  | [], [], n, res, _, h => by simp [findA] at h; subst h; exact .inl ⟨rfl, rfl⟩
  | [], _ :: _, _, _, hr, _ => hr.elim
  | (_, _) :: _, [], _, _, hr, _ => hr.elim
  | (k, v) :: es, e :: L, n, res, ⟨hk, hv, hr⟩, h => by
    cases k with
    | int i c =>
      have hk := conc_int hk
      simp only [findA] at h
      split at h
      · rename_i hji
        subst hji
        split at h
        · rename_i hbc
          subst hbc
          simp only [Option.some.injEq] at h; subst h
          exact .inr ⟨v, e.val, 0, e, rfl, hv, rfl, hk, rfl, by simp [Instr.findNow, hk, Instr.sameNow]⟩
        · rename_i hbc
          have hne : (b == c) = false := by simpa using hbc
          rcases findNow_ok (q := q) es L (n + 1) res hr h with ⟨h1, h2⟩ | ⟨v1, v', i, e1, h1, h2, h3, h4, h5, h6⟩
          · exact .inl ⟨h1, by simp [Instr.findNow, hk, Instr.sameNow, hne, h2]⟩
          · refine .inr ⟨v1, v', i + 1, e1, h1, h2, by simpa using h3, h4, h5, ?_⟩
            simp only [Instr.findNow, hk, Instr.sameNow, if_true, hne, h6]
            rw [show n + 1 + i = n + (i + 1) from by omega]
      · cases h
    | _ => simp [findA] at h

theorem run_findKey {kt : TypeId} {q : IntKind} (hq : P.underlying kt = some (.int q)) (k : Value) (L : List MapEntry) {res : Option (Nat × Value)} (h : Instr.findNow (.int q) k L 0 = some res) (w : World) : (Instr.findKey kt k L).run P w = .ok res w := by
  simp [Instr.findKey, run_underlying hq, h]

theorem run_checkKey {kt : TypeId} {q : IntKind} (hq : P.underlying kt = some (.int q)) (em : Bool) (k : Value) (w : World) : (Instr.checkKey em 10000 kt k).run P w = .ok () w := by
  show (Instr.checkKey em (9999 + 1) kt k).run P w = .ok () w
  rw [Instr.checkKey]
  simp [run_underlying hq]

theorem Sim.map {m : Nat} {es : List (AV × AV)} {L : Loc} (hs : Sim ν s w) (hg : s.get m = some (.map es)) (hL : ν m = some L) : ∃ E clock, w.heap[L.blk]? = some (.map E clock) ∧ ERel ν es E.toList := by
  obtain ⟨E, clock, h1, h2⟩ := hs.obj m _ L hg hL
  exact ⟨E, clock, h1, h2⟩

theorem run_getObj_map {w : World} {b : Nat} {E : Array MapEntry} {clock : Nat} (h : w.heap[b]? = some (.map E clock)) : (getObj b).run P w = .ok (.map E clock) w := by
  simp [getObj, Sem.run, h]
theorem run_setObj_map {w : World} {b : Nat} {E : Array MapEntry} {clock : Nat} (h : w.heap[b]? = some (.map E clock)) (O : Obj) : (setObj b O).run P w = .ok () { w with heap := w.heap.setIfInBounds b O } := by
  simp [setObj, Sem.run, h]

theorem op_lkup {t kt e : TypeId} {q : IntKind} {z : AV} {x k : Operand} {y u : Opd} {ok : Bool} (ho : o.op = .lookup t x k ok) (hd : P.underlying t = some (.map kt e)) (hq : P.underlying kt = some (.int q)) (hz : tzero P e = some z)
    (hx : prepOpd x = some y) (hk : prepOpd k = some u) (hr : RR ν r a) (hs : Sim ν s w) (h : evI E (.lkup z y u ok) r s = some (v, s')) : OpOk P o a ν s w v s' := by
  have h1 := hr.opd hx
  have h2 := hr.opd hk
  obtain ⟨i, zv, hi, hzv, hcz⟩ := tzero_conc hz
  simp only [evI] at h
  split at h
  · rename_i j b hj
    rw [hj] at h2
    have h2 := conc_int h2
    split at h
    · rename_i es hes
      have base : ∃ L : Array MapEntry, ERel ν es L.toList ∧ ∀ (res : Option (Nat × Value)), Instr.findNow (.int q) (.int j b) L.toList 0 = some res →
          (execOp a.eval o).run P w = .ok (.value (if ok then .tuple #[(match res with | some (_, v) => v | none => zv), .bool res.isSome] else (match res with | some (_, v) => v | none => zv))) w := by
        unfold S.entries at hes
        split at hes
        · rename_i hy
          rw [hy] at h1
          simp only [conc, Option.some.injEq] at h1
          simp only [Option.some.injEq] at hes; subst hes
          refine ⟨#[], trivial, ?_⟩
          intro res hres
          have hf := run_findKey (P := P) hq _ _ hres w
          simp only [execOp, ho, Sem.run_bind, Instr.lookup, run_underlying hd, Result.andThen_ok, h2, ← h1, Sem.run_pure, run_checkKey hq]
          simp only [hf, Result.andThen_ok]
          cases res with
          | none => simp [run_zeroValue hi hzv]
          | some p => obtain ⟨p1, p2⟩ := p; simp
        · rename_i m hy
          rw [hy] at h1
          obtain ⟨L, hL, h1⟩ := conc_map h1
          split at hes
          · rename_i es' hg
            simp only [Option.some.injEq] at hes; subst hes
            obtain ⟨E, clock, h3, h4⟩ := hs.map hg hL
            refine ⟨E, h4, ?_⟩
            intro res hres
            have hf := run_findKey (P := P) hq _ _ hres w
            simp only [execOp, ho, Sem.run_bind, Instr.lookup, run_underlying hd, Result.andThen_ok, h2, h1, run_getObj_map h3, Sem.run_pure, run_checkKey hq]
            simp only [hf, Result.andThen_ok]
            cases res with
            | none => simp [run_zeroValue hi hzv]
            | some p => obtain ⟨p1, p2⟩ := p; simp
          · cases hes
        · cases hes
      obtain ⟨L, hrel, fin⟩ := base
      split at h
      · rename_i v1 hf
        simp only [Option.some.injEq, Prod.mk.injEq] at h
        obtain ⟨rfl, rfl⟩ := h
        rcases findNow_ok (ν := ν) (q := q) es L.toList 0 _ hrel hf with ⟨h3, _⟩ | ⟨v2, v', i2, e2, h3, h4, _, _, _, h5⟩
        · cases h3
        · simp only [Option.some.injEq] at h3; subst h3
          refine pure_ok hs ?_ (fin _ h5)
          cases ok <;> simp [conc, concs, h4]
      · rename_i hf
        simp only [Option.some.injEq, Prod.mk.injEq] at h
        obtain ⟨rfl, rfl⟩ := h
        rcases findNow_ok (ν := ν) (q := q) es L.toList 0 _ hrel hf with ⟨_, h4⟩ | ⟨v2, v', i2, e2, h3, _⟩
        · refine pure_ok hs ?_ (fin _ h4)
          cases ok <;> simp [conc, concs, hcz ν]
        · cases h3
      · cases h
    · cases h
  · cases h

theorem ERel_set {j : IntKind} {q : IntKind} {b : Int} {u : AV} {u' : Value} (hu : conc ν u = some u') : ∀ (es : List (AV × AV)) (L : List MapEntry) (n : Nat) (res : Option AV), ERel ν es L → findA (.int j b) es = some res →
    match Instr.findNow (.int q) (.int j b) L n with
    | some none => ∀ e : MapEntry, e.key = .int j b → e.val = u' → ERel ν (setA (.int j b) u b es) (L ++ [e])
    | some (some (i, _)) => n ≤ i ∧ ERel ν (setA (.int j b) u b es) (L.modify (i - n) fun e => { e with key := .int j b, val := u' })
    | none => False
  | [], [], n, res, _, h => by
    simp only [Instr.findNow]
    intro e he hv
    exact ⟨by rw [he]; rfl, by rw [hv]; exact hu, trivial⟩
  | [], _ :: _, _, _, hr, _ => hr.elim
  | (_, _) :: _, [], _, _, hr, _ => hr.elim
  | (k, v) :: es, e :: L, n, res, ⟨hk, hv, hr⟩, h => by
    cases k with
    | int i c =>
      have hk' := conc_int hk
      simp only [findA] at h
      split at h
      · rename_i hji
        subst hji
        split at h
        · rename_i hbc
          subst hbc
          simp only [Instr.findNow, hk', Instr.sameNow, if_true, BEq.rfl]
          refine ⟨Nat.le_refl _, ?_⟩
          simp only [Nat.sub_self, setA, if_true]
          exact ⟨rfl, hu, hr⟩
        · rename_i hbc
          have hne : (b == c) = false := by simpa using hbc
          have ih := ERel_set (q := q) hu es L (n + 1) res hr h
          simp only [Instr.findNow, hk', Instr.sameNow, if_true, hne]
          cases hfn : Instr.findNow (.int q) (.int j b) L (n + 1) with
          | none => rw [hfn] at ih; exact ih.elim
          | some o =>
            cases o with
            | none =>
              rw [hfn] at ih
              intro e1 h1 h2
              simp only [setA, if_neg hbc]
              exact ⟨hk, hv, ih e1 h1 h2⟩
            | some p =>
              rw [hfn] at ih
              obtain ⟨p1, p2⟩ := p
              obtain ⟨h1, h2⟩ := ih
              refine ⟨by omega, ?_⟩
              simp only [setA, if_neg hbc]
              rw [show p1 - n = (p1 - (n + 1)) + 1 from by omega, List.modify_succ_cons]
              exact ⟨hk, hv, h2⟩
      · cases h
    | _ => simp [findA] at h

theorem sameBits_int (j : IntKind) (b : Int) : Instr.sameBits 10000 (.int j b) (.int j b) = true := by simp [Instr.sameBits]

theorem op_mupd {t kt e : TypeId} {q : IntKind} {x k z : Operand} {y u d : Opd} (ho : o.op = .mapUpdate t x k z ∨ o.op = .insert t x k z) (hd : P.underlying t = some (.map kt e)) (hq : P.underlying kt = some (.int q))
    (hx : prepOpd x = some y) (hk : prepOpd k = some u) (hz : prepOpd z = some d) (hr : RR ν r a) (hs : Sim ν s w) (h : evI E (.mupd y u d) r s = some (v, s')) : OpOk P o a ν s w v s' := by
  have h1 := hr.opd hx
  have h2 := hr.opd hk
  have h3 := hr.opd hz
  simp only [evI] at h
  split at h
  · rename_i m j b hy hu
    rw [hy] at h1; rw [hu] at h2
    obtain ⟨L, hL, h1⟩ := conc_map h1
    have h2 := conc_int h2
    split at h
    · rename_i es hg
      simp only [Option.map_eq_some_iff, Prod.mk.injEq] at h
      obtain ⟨res, hres, rfl, rfl⟩ := h
      obtain ⟨M, clock, h4, h5⟩ := hs.map hg hL
      have hset := ERel_set (q := q) (ν := ν) h3 es M.toList 0 res h5 hres
      have step : ∀ O, ORel ν L (.map (setA (.int j b) (d.ev r) b es)) (some O) → Ok ν s w ν (s.set m (some (.map (setA (.int j b) (d.ev r) b es)))) { w with heap := w.heap.setIfInBounds L.blk O } := by
        intro O hO
        have hlt := hs.blk_lt hg hL
        refine Ok.setObj hs hg hL rfl rfl ?_ ?_ (by simp) rfl rfl rfl
        · show ORel ν L _ (w.heap.setIfInBounds L.blk O)[L.blk]?
          rw [Array.getElem?_setIfInBounds_self_of_lt hlt]; exact hO
        · intro k hk
          exact Array.getElem?_setIfInBounds_ne (Ne.symm hk)
      have run : ∀ O, (Instr.mapUpdate t (.map (some L.blk)) (.int j b) (a.eval z)).run P w = .ok () { w with heap := w.heap.setIfInBounds L.blk O } → (execOp a.eval o).run P w = .ok .skip { w with heap := w.heap.setIfInBounds L.blk O } := by
        intro O hO
        rcases ho with ho | ho <;> simp only [execOp, ho, h1, h2, Sem.run_bind, hO] <;> rfl
      rcases findNow_ok (ν := ν) (q := q) es M.toList 0 _ h5 hres with ⟨_, h6⟩ | ⟨v2, v', i2, e2, _, _, h7, h8, _, h6⟩
      · rw [h6] at hset
        refine ⟨ν, _, Go.undef, step (.map (M.push { key := .int j b, val := a.eval z, born := clock }) (clock + 1)) ⟨_, _, rfl, ?_⟩, rfl, .inr ⟨run _ ?_, rfl⟩⟩
        · rw [Array.toList_push]
          exact hset _ rfl rfl
        · have hf := run_findKey (P := P) hq _ _ h6 w
          simp only [Instr.mapUpdate, Sem.run_bind, run_underlying hd, Result.andThen_ok, run_getObj_map h4, run_checkKey hq, hf, run_setObj_map h4]
      · rw [h6] at hset
        simp only [Nat.zero_add, Nat.sub_zero] at hset h6
        refine ⟨ν, _, Go.undef, step (.map (M.modify i2 fun e => { e with key := .int j b, val := a.eval z }) clock) ⟨_, _, rfl, ?_⟩, rfl, .inr ⟨run _ ?_, rfl⟩⟩
        · rw [Array.toList_modify]
          exact hset.2
        · have hf := run_findKey (P := P) hq _ _ h6 w
          have hkey : ((M[i2]?).map (·.key)).getD (.int j b) = .int j b := by
            have : M[i2]? = some e2 := by simpa using h7
            simp [this, h8]
          simp only [Instr.mapUpdate, Sem.run_bind, run_underlying hd, Result.andThen_ok, run_getObj_map h4, run_checkKey hq, hf, hkey, Instr.keyThatStays, sameBits_int, if_true, Sem.run_pure, run_setObj_map h4]
    · cases h
  · cases h

theorem ERel_del {j : IntKind} {q : IntKind} {b : Int} : ∀ (es : List (AV × AV)) (L : List MapEntry) (n : Nat) (res : Option AV), ERel ν es L → findA (.int j b) es = some res →
    match Instr.findNow (.int q) (.int j b) L n with
    | some none => ERel ν (delA b es) L
    | some (some (i, _)) => n ≤ i ∧ ERel ν (delA b es) (L.eraseIdx (i - n))
    | none => False
  | [], [], n, res, _, h => by simp only [Instr.findNow]; trivial
  | [], _ :: _, _, _, hr, _ => hr.elim
  | (_, _) :: _, [], _, _, hr, _ => hr.elim
  | (k, v) :: es, e :: L, n, res, ⟨hk, hv, hr⟩, h => by
    cases k with
    | int i c =>
      have hk' := conc_int hk
      simp only [findA] at h
      split at h
      · rename_i hji
        subst hji
        split at h
        · rename_i hbc
          subst hbc
          simp only [Instr.findNow, hk', Instr.sameNow, if_true, BEq.rfl]
          refine ⟨Nat.le_refl _, ?_⟩
          simp only [Nat.sub_self, delA, if_true]
          exact hr
        · rename_i hbc
          have hne : (b == c) = false := by simpa using hbc
          have ih := ERel_del (q := q) es L (n + 1) res hr h
          simp only [Instr.findNow, hk', Instr.sameNow, if_true, hne]
          cases hfn : Instr.findNow (.int q) (.int j b) L (n + 1) with
          | none => rw [hfn] at ih; exact ih.elim
          | some o =>
            cases o with
            | none =>
              rw [hfn] at ih
              simp only [delA, if_neg hbc]
              exact ⟨hk, hv, ih⟩
            | some p =>
              rw [hfn] at ih
              obtain ⟨p1, p2⟩ := p
              obtain ⟨h1, h2⟩ := ih
              refine ⟨by omega, ?_⟩
              simp only [delA, if_neg hbc]
              rw [show p1 - n = (p1 - (n + 1)) + 1 from by omega, List.eraseIdx_cons_succ]
              exact ⟨hk, hv, h2⟩
      · cases h
    | _ => simp [findA] at h

theorem op_del {c : Call} {t t2 kt e : TypeId} {q : IntKind} {x k : Operand} {y u : Opd} (ho : o.op = .call c) (hc : c.callee = .builtin .delete) (ht : c.argTypes.toList = [t, t2]) (hargs : c.args.toList = [x, k]) (hd : P.underlying t = some (.map kt e)) (hq : P.underlying kt = some (.int q))
    (hx : prepOpd x = some y) (hk : prepOpd k = some u) (hr : RR ν r a) (hs : Sim ν s w) (h : evI E (.del y u) r s = some (v, s')) : OpOk P o a ν s w v s' := by
  have h1 := hr.opd hx
  have h2 := hr.opd hk
  obtain ⟨hT, hA⟩ := args_two (a := a) ht hargs
  simp only [evI] at h
  split at h
  · rename_i m j b hy hu
    rw [hy] at h1; rw [hu] at h2
    obtain ⟨L, hL, h1⟩ := conc_map h1
    have h2 := conc_int h2
    split at h
    · rename_i es hg
      simp only [Option.map_eq_some_iff, Prod.mk.injEq] at h
      obtain ⟨res, hres, rfl, rfl⟩ := h
      obtain ⟨M, clock, h4, h5⟩ := hs.map hg hL
      have hset := ERel_del (q := q) (ν := ν) es M.toList 0 res h5 hres
      have step : ∀ O, ORel ν L (.map (delA b es)) (some O) → Ok ν s w ν (s.set m (some (.map (delA b es)))) { w with heap := w.heap.setIfInBounds L.blk O } := by
        intro O hO
        have hlt := hs.blk_lt hg hL
        refine Ok.setObj hs hg hL rfl rfl ?_ ?_ (by simp) rfl rfl rfl
        · show ORel ν L _ (w.heap.setIfInBounds L.blk O)[L.blk]?
          rw [Array.getElem?_setIfInBounds_self_of_lt hlt]; exact hO
        · intro k hk
          exact Array.getElem?_setIfInBounds_ne (Ne.symm hk)
      have run : ∀ O, (Builtin.delete_ #[t, t2] o.type #[a.eval x, a.eval k]).run P w = .ok (.tuple #[]) { w with heap := w.heap.setIfInBounds L.blk O } → (execOp a.eval o).run P w = .ok (.value (.tuple #[])) { w with heap := w.heap.setIfInBounds L.blk O } := by
        intro O hO
        exact builtin_run ho hc (f := Builtin.delete_) (fun _ _ => rfl) (by rw [hT, hA]; exact hO)
      rcases findNow_ok (ν := ν) (q := q) es M.toList 0 _ h5 hres with ⟨_, h6⟩ | ⟨v2, v', i2, e2, _, _, h7, h8, _, h6⟩
      · rw [h6] at hset
        refine ⟨ν, _, _, step (.map M clock) ⟨_, _, rfl, hset⟩, rfl, .inl (run _ ?_)⟩
        have hf := run_findKey (P := P) hq _ _ h6 w
        simp only [Builtin.delete_, List.getElem?_toArray, List.getElem?_cons_zero, List.getElem?_cons_succ, Sem.run_bind, run_underlying hd, Result.andThen_ok, h1, h2, run_getObj_map h4, run_checkKey hq, hf, run_setObj_map h4, Sem.run_pure]
      · rw [h6] at hset
        simp only [Nat.zero_add, Nat.sub_zero] at hset h6
        refine ⟨ν, _, _, step (.map (M.eraseIdxIfInBounds i2) clock) ⟨_, _, rfl, ?_⟩, rfl, .inl (run _ ?_)⟩
        · have hlt : i2 < M.size := by
            have : M[i2]? = some e2 := by simpa using h7
            exact (Array.getElem?_eq_some_iff.1 this).1
          have : (M.eraseIdxIfInBounds i2).toList = M.toList.eraseIdx i2 := by
            simp [Array.eraseIdxIfInBounds, hlt]
          rw [this]
          exact hset.2
        · have hf := run_findKey (P := P) hq _ _ h6 w
          simp only [Builtin.delete_, List.getElem?_toArray, List.getElem?_cons_zero, List.getElem?_cons_succ, Sem.run_bind, run_underlying hd, Result.andThen_ok, h1, h2, run_getObj_map h4, run_checkKey hq, hf, run_setObj_map h4, Sem.run_pure]
    · cases h
  · cases h
end
end Go.Ab
