/- The abstract machine and the model's: single operations that call nothing, on. -/
import Derived.Test.YtekkglhoeaipbaaDoorAbOps
import Derived.Laws.Strings
namespace Go.Ab
section
variable {P : Program} {o : Oper} {a : Act} {E : Env} {r : Regs} {s s' : S} {w : World} {ν : Nu} {v : AV}

theorem run_binInt {op : BinOp} {k : IntKind} {x y : Int} {v : AV} (h : binInt op k x y = some v) (w : World) (t : TypeId) :
    ∃ v', conc ν v = some v' ∧ (binOp op t (.int k x) (.int k y)).run P w = .ok v' w := by
  cases op <;> simp only [binInt, Option.some.injEq] at h <;> try (cases h; done)
  case quo =>
    split at h
    · cases h
    · rename_i h0
      simp only [Option.some.injEq] at h; subst h
      exact ⟨_, rfl, by simp [binOp, Op.intDiv, h0]⟩
  case rem =>
    split at h
    · cases h
    · rename_i h0
      simp only [Option.some.injEq] at h; subst h
      exact ⟨_, rfl, by simp [binOp, Op.intDiv, h0]⟩
  all_goals
    subst h
    exact ⟨_, rfl, by simp [binOp, Op.intArith, Op.intBits, Op.intCmp]⟩

theorem run_shInt {op : BinOp} (hop : op = .shl ∨ op = .shr) {k l : IntKind} {x y : Int} {v : AV} (h : shInt op k x y = some v) (w : World) (t : TypeId) :
    ∃ v', conc ν v = some v' ∧ (binOp op t (.int k x) (.int l y)).run P w = .ok v' w := by
  unfold shInt at h
  split at h
  · cases h
  · rename_i h0
    rcases hop with rfl | rfl <;> simp only [Option.some.injEq] at h <;> subst h <;> exact ⟨_, rfl, by simp [binOp, Op.shift, h0]⟩

theorem bytes_eq (x y : List UInt8) : ((⟨x.toArray⟩ : ByteArray).toList == (⟨y.toArray⟩ : ByteArray).toList) = decide (x = y) := by
  rw [ByteArray.toList_mk, ByteArray.toList_mk]
  by_cases h : x = y
  · simp [h]
  · simp [h]

theorem op_bin {op : BinOp} {t t' : TypeId} {x z : Operand} {y u : Opd} (ho : o.op = .binOp op t x z t') (hx : prepOpd x = some y) (hz : prepOpd z = some u) (hr : RR ν r a) (hs : Sim ν s w)
    (h : evI E (.bin op y u) r s = some (v, s')) : OpOk P o a ν s w v s' := by
  have h1 := hr.opd hx
  have h2 := hr.opd hz
  simp only [evI, Option.map_eq_some_iff, Prod.mk.injEq] at h
  obtain ⟨v0, h, rfl, rfl⟩ := h
  unfold binV at h
  split at h
  · rename_i k x' l y' hx' hy'
    rw [hx'] at h1; rw [hy'] at h2
    have h1 := conc_int h1; have h2 := conc_int h2
    obtain ⟨v', hv, hrun⟩ := run_shInt (P := P) (l := l) (ν := ν) (.inl rfl) h w t
    refine pure_ok hs hv ?_
    simp [execOp, ho, h1, h2, eqGuard, hrun]
  · rename_i k x' l y' hx' hy'
    rw [hx'] at h1; rw [hy'] at h2
    have h1 := conc_int h1; have h2 := conc_int h2
    obtain ⟨v', hv, hrun⟩ := run_shInt (P := P) (l := l) (ν := ν) (.inr rfl) h w t
    refine pure_ok hs hv ?_
    simp [execOp, ho, h1, h2, eqGuard, hrun]
  · rename_i k x' l y' _ _ hx' hy'
    rw [hx'] at h1; rw [hy'] at h2
    have h1 := conc_int h1; have h2 := conc_int h2
    split at h
    · rename_i hkl
      subst hkl
      obtain ⟨v', hv, hrun⟩ := run_binInt (P := P) (ν := ν) h w t
      refine pure_ok hs hv ?_
      simp only [execOp, ho, h1, h2, Sem.run_bind, hrun, eqGuard]
      split <;> simp [hrun]
    · cases h
  · rename_i x' y' hx' hy'
    rw [hx'] at h1; rw [hy'] at h2
    have h1 := conc_str h1; have h2 := conc_str h2
    simp only [Option.some.injEq] at h; subst h
    refine pure_ok hs rfl ?_
    have := bytes_eq x' y'
    simp only [execOp, ho, h1, h2, Sem.run_bind, eqGuard, binOp, Op.stringOp, this]
    rfl
  · rename_i x' y' hx' hy'
    rw [hx'] at h1; rw [hy'] at h2
    have h1 := conc_str h1; have h2 := conc_str h2
    simp only [Option.some.injEq] at h; subst h
    refine pure_ok hs rfl ?_
    have := bytes_eq x' y'
    simp only [execOp, ho, h1, h2, Sem.run_bind, eqGuard, binOp, Op.stringOp, this]
    rfl
  · rename_i x' y' hx' hy'
    rw [hx'] at h1; rw [hy'] at h2
    have h1 := conc_str h1; have h2 := conc_str h2
    split at h
    · rename_i hle
      simp only [Option.some.injEq] at h; subst h
      refine pure_ok (v' := .string ⟨(x' ++ y').toArray⟩) hs rfl ?_
      have hn : ¬ (((⟨x'.toArray⟩ : ByteArray).size + (⟨y'.toArray⟩ : ByteArray).size : Nat) : Int) > IntKind.i64.max := by
        simp [ByteArray.size, IntKind.max, IntKind.signed, IntKind.bits]; omega
      have happ : (⟨x'.toArray⟩ : ByteArray) ++ ⟨y'.toArray⟩ = ⟨(x' ++ y').toArray⟩ := by
        apply ByteArray.ext
        simp
      simp only [execOp, ho, h1, h2, Sem.run_bind, eqGuard, binOp, Op.stringOp, hn, if_false, happ]
      rfl
    · cases h
  · cases h

theorem op_un {op : UnOp} {t : TypeId} {x : Operand} {y : Opd} (ho : o.op = .unOp op t x) (hx : prepOpd x = some y) (hr : RR ν r a) (hs : Sim ν s w)
    (h : evI E (.un op y) r s = some (v, s')) : OpOk P o a ν s w v s' := by
  have h1 := hr.opd hx
  simp only [evI] at h
  split at h
  · rename_i b hb
    rw [hb] at h1; have h1 := conc_bool h1
    simp only [Option.some.injEq, Prod.mk.injEq] at h
    obtain ⟨rfl, rfl⟩ := h
    exact pure_ok hs rfl (by simp [execOp, ho, h1, Op.unary])
  · rename_i k n hb
    rw [hb] at h1; have h1 := conc_int h1
    simp only [Option.some.injEq, Prod.mk.injEq] at h
    obtain ⟨rfl, rfl⟩ := h
    exact pure_ok hs rfl (by simp [execOp, ho, h1, Op.unary, Op.intArith])
  · rename_i k n hb
    rw [hb] at h1; have h1 := conc_int h1
    simp only [binInt, Option.map_some, Option.some.injEq, Prod.mk.injEq] at h
    obtain ⟨rfl, rfl⟩ := h
    exact pure_ok hs rfl (by simp [execOp, ho, h1, Op.unary, Op.intBits])
  · cases h

theorem op_ifc {t : TypeId} {d : TypeDesc} {x : Operand} {y : Opd} (ho : o.op = .makeInterface t x) (hd : P.underlying t = some d) (hni : ∀ ms, d ≠ .interface ms) (hx : prepOpd x = some y) (hr : RR ν r a) (hs : Sim ν s w)
    (h : evI E (.ifc t y) r s = some (v, s')) : OpOk P o a ν s w v s' := by
  have h1 := hr.opd hx
  simp only [evI, Option.some.injEq, Prod.mk.injEq] at h
  obtain ⟨rfl, rfl⟩ := h
  refine pure_ok (v' := .iface t (a.eval x)) hs (by simp [conc, h1]) ?_
  simp only [execOp, ho, Instr.makeInterface, Sem.run_bind, run_underlying hd, Result.andThen_ok]
  cases d <;> first | rfl | exact absurd rfl (hni _)

theorem op_mkf {fn : Fn} {fs cs : Array Operand} {f' c' : List Opd} (ho : o.op = .makeFunc fn fs cs) (hf : prepOpds fs.toList = some f') (hc : prepOpds cs.toList = some c') (hr : RR ν r a) (hs : Sim ν s w)
    (h : evI E (.mkf fn f' c') r s = some (v, s')) : OpOk P o a ν s w v s' := by
  simp only [evI, Option.some.injEq, Prod.mk.injEq] at h
  obtain ⟨rfl, rfl⟩ := h
  have h1 := hr.opds hf
  have h2 := hr.opds hc
  refine pure_ok (v' := .func fn (fs.map a.eval) (cs.map a.eval)) hs ?_ ?_
  · simp only [conc, h1, h2, Option.bind_some, Option.map_some]
    rw [← Array.toList_map, ← Array.toList_map, Array.toArray_toList, Array.toArray_toList]
  · simp [execOp, ho, Instr.makeFunc]

theorem op_mkm {t : TypeId} (ho : o.op = .makeMap t none) (hs : Sim ν s w) (h : evI E .mkm r s = some (v, s')) : OpOk P o a ν s w v s' := by
  simp only [evI, Option.some.injEq, Prod.mk.injEq] at h
  obtain ⟨rfl, rfl⟩ := h
  refine ⟨_, _, .map (some w.heap.size), Ok.alloc hs ⟨w.heap.size, 0, 0⟩ rfl (O := .map #[] 0) ⟨#[], 0, rfl, trivial⟩ rfl, by simp [conc, nuSet], .inl ?_⟩
  simp [execOp, ho, Instr.makeMap]

theorem op_mkc {t e : TypeId} {dir : ChanDir} {n : Nat} {x : Operand} {y : Opd} (ho : o.op = .makeChan t x) (hd : P.underlying t = some (.chan dir e)) (hb : tbytes P e = some n) (hx : prepOpd x = some y) (hr : RR ν r a) (hs : Sim ν s w)
    (h : evI E (.mkc n y) r s = some (v, s')) : OpOk P o a ν s w v s' := by
  have h1 := hr.opd hx
  simp only [evI] at h
  split at h
  · rename_i k hk
    rw [hk] at h1; have h1 := conc_int h1
    split at h
    · rename_i hh
      simp only [Option.some.injEq, Prod.mk.injEq] at h
      obtain ⟨rfl, rfl⟩ := h
      simp only [tbytes, Option.map_eq_some_iff] at hb
      obtain ⟨i, hi, rfl⟩ := hb
      refine ⟨_, _, .chan (some w.heap.size), Ok.alloc hs ⟨w.heap.size, 0, 0⟩ rfl (O := .chan k.toNat #[] false 0 0 false) ⟨#[], 0, 0, rfl, rfl⟩ rfl, by simp [conc, nuSet], .inl ?_⟩
      have hm : (i.bytes : Int) * k ≤ 65536 * 65536 := Int.mul_le_mul (by omega) hh.2.1 hh.1 (by omega)
      simp [execOp, ho, Instr.makeChan, h1, asInt, asIntOf, run_underlying hd, run_typeInfo hi, IntKind.max, IntKind.signed, IntKind.bits]
      intro hc
      omega
    · cases h
  · cases h

theorem op_faddr {t : TypeId} {fs : Array Field} {f : Field} {i n : Nat} {x : Operand} {y : Opd} (ho : o.op = .fieldAddr t x i) (hd : P.underlying t = some (.struct fs)) (hf : fs[i]? = some f) (hn : tsize P f.type = some n) (hn0 : n ≠ 0)
    (hx : prepOpd x = some y) (hr : RR ν r a) (hs : Sim ν s w) (h : evI E (.faddr f.offset y) r s = some (v, s')) : OpOk P o a ν s w v s' := by
  have h1 := hr.opd hx
  simp only [evI] at h
  split at h
  · rename_i b off hp
    rw [hp] at h1
    obtain ⟨L, hL, h1⟩ := conc_ptr h1
    simp only [Option.some.injEq, Prod.mk.injEq] at h
    obtain ⟨rfl, rfl⟩ := h
    refine pure_ok (v' := .pointer (some ⟨L.blk, L.sh + (off + f.offset), none⟩)) hs (by simp [conc, hL]) ?_
    have : (⟨L.blk, L.sh + off, none⟩ : Addr).add f.offset = ⟨L.blk, L.sh + (off + f.offset), none⟩ := by
      unfold Addr.add
      split
      · rename_i e; rw [e]; rfl
      · simp; omega
    simp [execOp, ho, Instr.fieldAt, h1, run_underlying hd, hf, Instr.sureAddr, fieldPlace, run_sizeOf hn, hn0, this]
  · cases h

theorem op_ext {i : Nat} {x : Operand} {y : Opd} (ho : o.op = .extract x i) (hx : prepOpd x = some y) (hr : RR ν r a) (hs : Sim ν s w)
    (h : evI E (.ext y i) r s = some (v, s')) : OpOk P o a ν s w v s' := by
  have h1 := hr.opd hx
  simp only [evI] at h
  split at h
  · rename_i vs hp
    rw [hp] at h1
    simp only [conc, Option.map_eq_some_iff] at h1
    obtain ⟨l, hl, h1⟩ := h1
    simp only [Option.map_eq_some_iff, Prod.mk.injEq] at h
    obtain ⟨v0, hv, rfl, rfl⟩ := h
    obtain ⟨v', h2, h3⟩ := concs_get i hl hv
    refine pure_ok hs h3 ?_
    simp [execOp, ho, ← h1, Instr.extract, h2]
  · cases h

theorem op_cvi {src dst : TypeId} {k k' : IntKind} {x : Operand} {y : Opd} (ho : o.op = .convert src dst x) (hsrc : P.underlying src = some (.int k')) (hd : P.underlying dst = some (.int k)) (hx : prepOpd x = some y) (hr : RR ν r a) (hs : Sim ν s w)
    (h : evI E (.cvi k y) r s = some (v, s')) : OpOk P o a ν s w v s' := by
  have h1 := hr.opd hx
  simp only [evI] at h
  split at h
  · rename_i l n hp
    rw [hp] at h1; have h1 := conc_int h1
    simp only [Option.some.injEq, Prod.mk.injEq] at h
    obtain ⟨rfl, rfl⟩ := h
    refine pure_ok hs rfl ?_
    simp [execOp, ho, h1, convert, run_underlying hsrc, run_underlying hd, Conv.intToInt]
  · cases h

theorem op_cvis {src dst : TypeId} {k' : IntKind} {x : Operand} {y : Opd} (ho : o.op = .convert src dst x) (hsrc : P.underlying src = some (.int k')) (hd : P.underlying dst = some .string) (hx : prepOpd x = some y) (hr : RR ν r a) (hs : Sim ν s w)
    (h : evI E (.cvis y) r s = some (v, s')) : OpOk P o a ν s w v s' := by
  have h1 := hr.opd hx
  simp only [evI] at h
  split at h
  · rename_i l n hp
    rw [hp] at h1; have h1 := conc_int h1
    simp only [Option.some.injEq, Prod.mk.injEq] at h
    obtain ⟨rfl, rfl⟩ := h
    refine pure_ok (v' := .string (Utf8.encode n)) hs (by simp [conc]) ?_
    simp [execOp, ho, h1, convert, run_underlying hsrc, run_underlying hd, Conv.intToString]
  · cases h

theorem op_cvss {src dst : TypeId} {x : Operand} {y : Opd} (ho : o.op = .convert src dst x) (hsrc : P.underlying src = some .string) (hd : P.underlying dst = some .string) (hx : prepOpd x = some y) (hr : RR ν r a) (hs : Sim ν s w)
    (h : evI E (.cvss y) r s = some (v, s')) : OpOk P o a ν s w v s' := by
  have h1 := hr.opd hx
  simp only [evI] at h
  split at h
  · rename_i l hl
    rw [hl] at h1; have h1 := conc_str h1
    simp only [Option.some.injEq, Prod.mk.injEq] at h
    obtain ⟨rfl, rfl⟩ := h
    refine pure_ok hs rfl ?_
    simp [execOp, ho, h1, convert, run_underlying hsrc, run_underlying hd]
  · cases h

theorem bytesOf_some : ∀ {c : List AV} {l : List UInt8} {m : List Value}, bytesOf c = some l → concs ν c = some m → ∃ ns : List Int, m = ns.map (Value.int .u8) ∧ l = ns.map fun n => UInt8.ofNat n.toNat
  | [], l, m, h, hm => by
    simp only [bytesOf, Option.some.injEq] at h; subst h
    simp only [concs, Option.some.injEq] at hm; subst hm
    exact ⟨[], rfl, rfl⟩
  | .int .u8 n :: c, l, m, h, hm => by
    simp only [bytesOf, Option.map_eq_some_iff] at h
    obtain ⟨l', hl, rfl⟩ := h
    obtain ⟨v', r', hv, hr, rfl⟩ := concs_cons.1 hm
    have := conc_int hv
    subst this
    obtain ⟨ns, rfl, rfl⟩ := bytesOf_some hl hr
    exact ⟨n :: ns, rfl, rfl⟩

theorem foldl_push (ns : List Int) : ∀ (b : List UInt8), ns.foldl (fun (r : ByteArray) n => r.push (UInt8.ofNat n.toNat)) ⟨b.toArray⟩ = ⟨(b ++ ns.map fun n => UInt8.ofNat n.toNat).toArray⟩ := by
  induction ns with
  | nil => intro b; simp
  | cons n ns ih =>
    intro b
    simp only [List.foldl_cons, List.map_cons]
    have : (⟨b.toArray⟩ : ByteArray).push (UInt8.ofNat n.toNat) = ⟨(b ++ [UInt8.ofNat n.toNat]).toArray⟩ := by
      apply ByteArray.ext
      simp
    rw [this, ih]
    simp

theorem op_cvbs {src dst e : TypeId} {x : Operand} {y : Opd} (ho : o.op = .convert src dst x) (hsrc : P.underlying src = some (.slice e)) (he : P.underlying e = some (.int .u8)) (hd : P.underlying dst = some .string) (hx : prepOpd x = some y) (hr : RR ν r a) (hs : Sim ν s w)
    (h : evI E (.cvbs y) r s = some (v, s')) : OpOk P o a ν s w v s' := by
  have h1 := hr.opd hx
  simp only [evI] at h
  split at h
  · rename_i hp
    rw [hp] at h1
    simp only [conc, Option.some.injEq] at h1
    simp only [Option.some.injEq, Prod.mk.injEq] at h
    obtain ⟨rfl, rfl⟩ := h
    refine pure_ok (v' := .string .empty) hs (by simp [conc]; rfl) ?_
    simp [execOp, ho, ← h1, run_convert_bytes_string w src dst e _ _ _ hsrc he hd, Conv.bytesToString]
  · rename_i za hp
    rw [hp] at h1
    simp only [conc, Option.some.injEq] at h1
    simp only [Option.some.injEq, Prod.mk.injEq] at h
    obtain ⟨rfl, rfl⟩ := h
    have := run_bytesToString (P := P) w za 0 0 [] (by simp [Go.loadCells, loadCellsFrom])
    refine pure_ok (v' := .string .empty) hs (by simp [conc]; rfl) ?_
    simp only [execOp, ho, ← h1, Sem.run_bind, run_convert_bytes_string w src dst e _ _ _ hsrc he hd, this]
    rfl
  · rename_i b o1 o2 st hp
    rw [hp] at h1
    obtain ⟨A, c, h1, _⟩ := conc_esl h1
    simp only [Option.some.injEq, Prod.mk.injEq] at h
    obtain ⟨rfl, rfl⟩ := h
    have := run_bytesToString (P := P) w A 0 c [] (by simp [Go.loadCells, loadCellsFrom])
    refine pure_ok (v' := .string .empty) hs (by simp [conc]; rfl) ?_
    simp only [execOp, ho, h1, Sem.run_bind, run_convert_bytes_string w src dst e _ _ _ hsrc he hd, this]
    rfl
  · rename_i b off n c opn hp
    rw [hp] at h1
    split at h
    · rename_i cs hrd
      simp only [Option.map_eq_some_iff, Prod.mk.injEq] at h
      obtain ⟨l, hl, rfl, rfl⟩ := h
      have hv : ∃ L cap, ν b = some L ∧ a.eval x = .slice (some ⟨L.blk, L.sh + off, none⟩) n cap := by
        cases opn with
        | false => simp only [conc, Option.map_eq_some_iff] at h1; obtain ⟨L, hL, h1⟩ := h1; exact ⟨L, c, hL, h1.symm⟩
        | true =>
          simp only [conc, Option.bind_eq_some_iff] at h1
          obtain ⟨L, hL, h1⟩ := h1
          split at h1
          · simp only [Option.some.injEq] at h1; exact ⟨L, _, hL, h1.symm⟩
          · cases h1
      obtain ⟨L, cap, hL, hv⟩ := hv
      obtain ⟨m, hm, hrun⟩ := hs.loadCells (P := P) hrd hL
      obtain ⟨ns, rfl, rfl⟩ := bytesOf_some hl hm
      have := run_bytesToString (P := P) w ⟨L.blk, L.sh + off, none⟩ n cap ns hrun
      have hf := foldl_push ns []
      simp only [List.nil_append] at hf
      refine pure_ok (v' := .string ⟨(ns.map fun n => UInt8.ofNat n.toNat).toArray⟩) hs (by simp [conc]) ?_
      simp only [execOp, ho, hv, Sem.run_bind, run_convert_bytes_string w src dst e _ _ _ hsrc he hd, this]
      rw [← hf]
      rfl
    · cases h
  · cases h
end
end Go.Ab
