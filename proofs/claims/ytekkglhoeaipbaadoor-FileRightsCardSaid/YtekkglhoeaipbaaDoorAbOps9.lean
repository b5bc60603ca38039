/- The abstract machine and the model's: single operations that call nothing: copy, clear, append. -/
import Derived.Test.YtekkglhoeaipbaaDoorAbOps8
namespace Go.Ab
section
variable {P : Program} {o : Oper} {a : Act} {E : Env} {r : Regs} {s s' : S} {w : World} {ν : Nu} {v : AV}

theorem lenV_conc {u : AV} {u' : Value} {n : Nat} (h : lenV u = some n) (hu : conc ν u = some u') (w : World) : (Builtin.lenOf u').run P w = .ok n w := by
  cases u with
  | snil =>
    simp only [lenV, Option.some.injEq] at h; subst h
    simp only [conc, Option.some.injEq] at hu; subst hu; rfl
  | zsl za =>
    simp only [lenV, Option.some.injEq] at h; subst h
    simp only [conc, Option.some.injEq] at hu; subst hu; rfl
  | esl b o1 o2 st =>
    simp only [lenV, Option.some.injEq] at h; subst h
    obtain ⟨A, c, rfl, _⟩ := conc_esl hu; rfl
  | slice b o n' c opn =>
    simp only [lenV, Option.some.injEq] at h; subst h
    obtain ⟨L, cap, _, rfl, _⟩ := conc_slice hu
    rfl
  | str l =>
    simp only [lenV, Option.some.injEq] at h; subst h
    have := conc_str hu; subst this
    rfl
  | _ => simp [lenV] at h

/-- The first cells of a source. -/
theorem run_firstCells {sz : Nat} {u : AV} {u' : Value} {n : Nat} {c : List AV} (hs : Sim ν s w) (hn : lenV u = some n) (hc : s.cellsOf sz u = some c) (hu : conc ν u = some u') (k : Nat) (hk : k ≤ n) :
    ∃ m, concs ν (c.take (k * sz)) = some m ∧ (Builtin.firstCells sz k u').run P w = .ok m.toArray w := by
  cases u with
  | snil =>
    simp only [S.cellsOf, Option.some.injEq] at hc; subst hc
    simp only [conc, Option.some.injEq] at hu; subst hu
    exact ⟨[], by simp [concs], rfl⟩
  | zsl za =>
    simp only [lenV, Option.some.injEq] at hn; subst hn
    simp only [S.cellsOf, Option.some.injEq] at hc; subst hc
    simp only [conc, Option.some.injEq] at hu; subst hu
    have hk0 : k = 0 := by omega
    subst hk0
    exact ⟨[], by simp [concs], by simp [Builtin.firstCells, Go.loadCells, loadCellsFrom]⟩
  | esl b o1 o2 st =>
    simp only [lenV, Option.some.injEq] at hn; subst hn
    simp only [S.cellsOf, Option.some.injEq] at hc; subst hc
    obtain ⟨A, c, rfl, _⟩ := conc_esl hu
    have hk0 : k = 0 := by omega
    subst hk0
    exact ⟨[], by simp [concs], by simp [Builtin.firstCells, Go.loadCells, loadCellsFrom]⟩
  | slice b o n' cp opn =>
    simp only [lenV, Option.some.injEq] at hn; subst hn
    simp only [S.cellsOf] at hc
    obtain ⟨L, cap, hL, rfl, _⟩ := conc_slice hu
    obtain ⟨cs, osz, ro, hg, hle, rfl, _⟩ := read_some hc
    have hmul : k * sz ≤ n' * sz := Nat.mul_le_mul_right _ hk
    have hrd : s.read b o (k * sz) = some (((cs.drop o).take (n' * sz)).take (k * sz)) := by
      unfold S.read
      rw [hg]
      simp only
      rw [if_pos (by omega), List.take_take, Nat.min_eq_left hmul]
    obtain ⟨m, hm, hrun⟩ := hs.loadCells (P := P) hrd hL
    exact ⟨m, hm, by simp [Builtin.firstCells, hrun]⟩
  | str l =>
    simp only [lenV, Option.some.injEq] at hn; subst hn
    simp only [S.cellsOf] at hc
    split at hc
    · rename_i h1
      subst h1
      simp only [Option.some.injEq] at hc; subst hc
      have := conc_str hu; subst this
      refine ⟨(l.take k).map fun b => Value.int .u8 b.toNat, ?_, ?_⟩
      · rw [Nat.mul_one, ← List.map_take]
        generalize l.take k = q
        induction q with
        | nil => rfl
        | cons b q ih => exact concs_cons.2 ⟨_, _, rfl, ih, rfl⟩
      · have : ((⟨l.toArray⟩ : ByteArray).extract 0 k).data = (l.take k).toArray := by
          rw [ByteArray.data_extract]
          apply Array.ext'
          simp [List.extract_eq_take_drop]
        simp [Builtin.firstCells, this]
    · cases hc
  | _ => simp [lenV] at hn

theorem op_copy {c : Call} {t t2 e : TypeId} {n : Nat} {x k : Operand} {y u : Opd} (ho : o.op = .call c) (hc : c.callee = .builtin .copy) (ht : c.argTypes.toList = [t, t2]) (hargs : c.args.toList = [x, k]) (hd : P.underlying t = some (.slice e)) (hn : tsize P e = some n)
    (hx : prepOpd x = some y) (hk : prepOpd k = some u) (hr : RR ν r a) (hs : Sim ν s w) (h : evI E (.copy n y u) r s = some (v, s')) : OpOk P o a ν s w v s' := by
  have h1 := hr.opd hx
  have h2 := hr.opd hk
  obtain ⟨hT, hA⟩ := args_two (a := a) ht hargs
  have run : ∀ v' w', (Builtin.copy_ #[t, t2] o.type #[a.eval x, a.eval k]).run P w = .ok v' w' → (execOp a.eval o).run P w = .ok (.value v') w' := by
    intro v' w' hO
    exact builtin_run ho hc (f := Builtin.copy_) (fun _ _ => rfl) (by rw [hT, hA]; exact hO)
  simp only [evI] at h
  split at h
  · rename_i b off len cp opn m hy hl
    rw [hy] at h1
    obtain ⟨L, cap, hL, h1, _⟩ := conc_slice h1
    split at h
    · rename_i cs hcs
      simp only [Option.map_eq_some_iff, Prod.mk.injEq] at h
      obtain ⟨s1, hw, rfl, rfl⟩ := h
      obtain ⟨M, hM, hrun⟩ := run_firstCells (P := P) hs hl hcs h2 (min m len) (Nat.min_le_left _ _)
      obtain ⟨w', hst, hok⟩ := Ok.write (P := P) hs hw hL hM
      refine ⟨ν, w', _, hok, rfl, .inl (run _ _ ?_)⟩
      have hlen := lenV_conc (P := P) hl h2 w
      simp only [Builtin.copy_, List.getElem?_toArray, List.getElem?_cons_zero, List.getElem?_cons_succ, Sem.run_bind, run_underlying hd, Result.andThen_ok, h1, hlen, run_sizeOf hn]
      rw [show Nat.min m len = min m len from rfl, hrun]
      simp only [Result.andThen_ok, Sem.run_bind, hst, Sem.run_pure]
      rfl
    · cases h
  · rename_i m hy hl
    rw [hy] at h1
    simp only [conc, Option.some.injEq] at h1
    simp only [Option.map_eq_some_iff, Prod.mk.injEq] at h
    obtain ⟨cs, hcs, rfl, rfl⟩ := h
    obtain ⟨M, hM, hrun⟩ := run_firstCells (P := P) hs hl hcs h2 (min m 0) (Nat.min_le_left _ _)
    refine pure_ok hs rfl (run _ _ ?_)
    have hlen := lenV_conc (P := P) hl h2 w
    simp only [Builtin.copy_, List.getElem?_toArray, List.getElem?_cons_zero, List.getElem?_cons_succ, Sem.run_bind, run_underlying hd, Result.andThen_ok, ← h1, hlen, run_sizeOf hn]
    rw [show Nat.min m 0 = min m 0 from rfl, hrun]
    simp only [Result.andThen_ok, Sem.run_bind, Sem.run_pure]
    rfl
  · cases h

theorem zeroCells_eq (z : Array Value) (len : Nat) : (Builtin.zeroCells z len).toList = (List.replicate len z.toList).flatten := by
  have := range_map_rep z.toList len
  simp only [Array.toArray_toList, Array.length_toList] at this
  unfold Builtin.zeroCells
  rw [this]

theorem op_clear {c : Call} {t e : TypeId} {z : AV} {x : Operand} {y : Opd} (ho : o.op = .call c) (hc : c.callee = .builtin .clear) (ht : c.argTypes.toList = [t]) (hargs : c.args.toList = [x]) (hd : P.underlying t = some (.slice e)) (hz : tzero P e = some z)
    (hx : prepOpd x = some y) (hr : RR ν r a) (hs : Sim ν s w) (h : evI E (.clear z.cells y) r s = some (v, s')) : OpOk P o a ν s w v s' := by
  have h1 := hr.opd hx
  obtain ⟨hT, hA⟩ := args_one (a := a) ht hargs
  obtain ⟨i, zv, hi, hzv, hcz⟩ := tzero_conc hz
  have run : ∀ v' w', (Builtin.clear_ #[t] o.type #[a.eval x]).run P w = .ok v' w' → (execOp a.eval o).run P w = .ok (.value v') w' := by
    intro v' w' hO
    exact builtin_run ho hc (f := Builtin.clear_) (fun _ _ => rfl) (by rw [hT, hA]; exact hO)
  simp only [evI] at h
  split at h
  · rename_i hy
    rw [hy] at h1
    simp only [conc, Option.some.injEq] at h1
    simp only [Option.some.injEq, Prod.mk.injEq] at h
    obtain ⟨rfl, rfl⟩ := h
    refine pure_ok (v' := .tuple #[]) hs rfl (run _ _ ?_)
    simp [Builtin.clear_, run_underlying hd, ← h1]
  · rename_i b off len cp opn hy
    rw [hy] at h1
    obtain ⟨L, cap, hL, h1, _⟩ := conc_slice h1
    split at h
    · rename_i h0
      subst h0
      simp only [Option.some.injEq, Prod.mk.injEq] at h
      obtain ⟨rfl, rfl⟩ := h
      refine pure_ok (v' := .tuple #[]) hs rfl (run _ _ ?_)
      simp [Builtin.clear_, run_underlying hd, h1]
    · rename_i h0
      simp only [Option.map_eq_some_iff, Prod.mk.injEq] at h
      obtain ⟨s1, hw, rfl, rfl⟩ := h
      have hcell := conc_cells (hcz ν)
      obtain ⟨w', hst, hok⟩ := Ok.write (P := P) hs hw hL (concs_replicate hcell len)
      refine ⟨ν, w', .tuple #[], hok, rfl, .inl (run _ _ ?_)⟩
      have hzc : (Builtin.zeroCells zv.cells len).toList = (List.replicate len zv.cells.toList).flatten := zeroCells_eq _ _
      have hl : ∃ k, len = k + 1 := ⟨len - 1, by omega⟩
      obtain ⟨k, rfl⟩ := hl
      simp only [Builtin.clear_, List.getElem?_toArray, List.getElem?_cons_zero, Sem.run_bind, run_underlying hd, Result.andThen_ok, h1, run_zeroValue hi hzv, hzc, hst, Sem.run_pure]
  · cases h

theorem growBy_le (newLen : Nat) : ∀ (k c : Nat), 256 ≤ c → c < newLen → Builtin.growBy newLen k c ≤ 2 * newLen
  | 0, c, h, hc => by simp [Builtin.growBy]; omega
  | k + 1, c, h, hc => by
    rw [Builtin.growBy, if_neg (by omega)]
    by_cases h2 : c + (c + 768) / 4 < newLen
    · exact growBy_le newLen k _ (by omega) h2
    · have : Builtin.growBy newLen k (c + (c + 768) / 4) = c + (c + 768) / 4 := by
        cases k with
        | zero => rfl
        | succ k => rw [Builtin.growBy, if_pos (by omega)]
      omega

theorem nextslicecap_le {need old : Nat} (h : old < need) : Builtin.nextslicecap need old ≤ 2 * need := by
  unfold Builtin.nextslicecap
  split
  · omega
  · split
    · omega
    · exact growBy_le need 4 old (by omega) h

/-- An append that grows. -/
theorem run_append_grow {t u e e2 : TypeId} {n b : Nat} {base : Option Addr} {sLen sCap k : Nat} {y' : Value} {old new : List Value} {i : TypeInfo} {zv : Value} (hd : P.underlying t = some (.slice e)) (hu : P.underlying u = some (.slice e2)) (hn : tsize P e = some n) (hi : P.info? e = some i) (hzv : i.zero = some zv)
    (hb : i.bytes = b) (hb0 : 0 < b) (hk : (Builtin.lenOf y').run P w = .ok k w) (hgt : sCap < sLen + k) (hroom : 2 * (sLen + k) * b ≤ 281474976710656)
    (hold : ∀ w1, w1 = { w with drawn := w.drawn + 1 } → (Builtin.firstCells n sLen (.slice base sLen sCap)).run P w1 = .ok old.toArray w1) (hnew : ∀ w1, w1 = { w with drawn := w.drawn + 1 } → (Builtin.firstCells n k y').run P w1 = .ok new.toArray w1) :
    ∃ cap, sLen + k ≤ cap ∧ (Builtin.append_ #[t, u] o.type #[.slice base sLen sCap, y']).run P w =
      .ok (.slice (some ⟨w.heap.size, 0, none⟩) (sLen + k) cap) (({ w with drawn := w.drawn + 1 } : World).alloc (.cells (old.toArray ++ new.toArray ++ Builtin.zeroCells zv.cells (cap - (sLen + k))) e)) := by
  refine ⟨(Question.appendCap (sLen + k) sCap e).cut (w.tape w.drawn (.appendCap (sLen + k) sCap e)), cut_ge _ _ _ _, ?_⟩
  have hf : (Question.appendCap (sLen + k) sCap e).forced = false := rfl
  have hsmall : sLen + k ≤ 281474976710656 := by
    have : 2 * (sLen + k) * 1 ≤ 2 * (sLen + k) * b := Nat.mul_le_mul_left _ hb0
    omega
  have h1 : ¬ (((sLen + k : Nat) : Int) > IntKind.i64.max ∧ (False ∨ i.bytes = 0)) := by
    rintro ⟨_, h | h⟩
    · exact h
    · omega
  have h2 : ¬ (Builtin.nextslicecap (sLen + k) sCap * i.bytes > 2 ^ 48) := by
    have := nextslicecap_le hgt
    have := Nat.mul_le_mul_right i.bytes this
    rw [hb] at *
    omega
  unfold Builtin.append_
  simp only [List.getElem?_toArray, List.getElem?_cons_zero, List.getElem?_cons_succ, Sem.run_bind, run_underlying hd, run_underlying hu, Result.andThen_ok, run_sizeOf hn, Sem.run_pure, Bool.false_eq_true, if_false, hk]
  rw [if_neg (by omega)]
  simp only [Sem.run_bind, run_typeInfo hi, Result.andThen_ok, Sem.run_pure]
  rw [if_neg h1]
  simp only [Sem.run_bind, run_typeInfo hi, Result.andThen_ok, Sem.run_pure]
  rw [if_neg h2]
  simp only [Sem.run_bind, run_choose, hf, Bool.false_eq_true, if_false, Result.andThen_ok, run_askRoom, run_typeInfo hi, hold _ rfl, Bool.not_false, if_true, hnew _ rfl, run_zeroValue hi hzv, newRow, run_newObj, Sem.run_pure, World.alloc_eq]

/-- An append in its own row. -/
theorem run_append_room {t u e e2 : TypeId} {n : Nat} {A : Addr} {sLen sCap k : Nat} {y' : Value} {new : List Value} {w' : World} (hd : P.underlying t = some (.slice e)) (hu : P.underlying u = some (.slice e2)) (hn : tsize P e = some n)
    (hk : (Builtin.lenOf y').run P w = .ok k w) (hle : sLen + k ≤ sCap) (hnew : (Builtin.firstCells n k y').run P w = .ok new.toArray w) (hst : (storeCells (A.add (sLen * n)) new).run P w = .ok () w') :
    (Builtin.append_ #[t, u] o.type #[.slice (some A) sLen sCap, y']).run P w = .ok (.slice (some A) (sLen + k) sCap) w' := by
  unfold Builtin.append_
  simp only [List.getElem?_toArray, List.getElem?_cons_zero, List.getElem?_cons_succ, Sem.run_bind, run_underlying hd, run_underlying hu, Result.andThen_ok, run_sizeOf hn, Sem.run_pure, Bool.false_eq_true, if_false, hk]
  rw [if_pos hle]
  simp only [Sem.run_bind, Bool.not_false, if_true, hnew, Result.andThen_ok, hst, Sem.run_pure]

theorem run_append_nil {t u e e2 : TypeId} {n : Nat} {y' : Value} {sLen sCap : Nat} (hd : P.underlying t = some (.slice e)) (hu : P.underlying u = some (.slice e2)) (hn : tsize P e = some n)
    (hk : (Builtin.lenOf y').run P w = .ok 0 w) (hle : sLen ≤ sCap) (hnew : (Builtin.firstCells n 0 y').run P w = .ok #[] w) (base : Option Addr) :
    (Builtin.append_ #[t, u] o.type #[.slice base sLen sCap, y']).run P w = .ok (.slice base sLen sCap) w := by
  unfold Builtin.append_
  simp only [List.getElem?_toArray, List.getElem?_cons_zero, List.getElem?_cons_succ, Sem.run_bind, run_underlying hd, run_underlying hu, Result.andThen_ok, run_sizeOf hn, Sem.run_pure, Bool.false_eq_true, if_false, hk]
  rw [if_pos (by omega)]
  cases base <;> simp [hnew, storeCells]
end
end Go.Ab
