/- The abstract machine and the model's: single operations that call nothing, on. -/
import Derived.Test.YtekkglhoeaipbaaDoorAbOps6
namespace Go.Ab
section
variable {P : Program} {o : Oper} {a : Act} {E : Env} {r : Regs} {s s' : S} {w : World} {ν : Nu} {v : AV}

theorem eqIn_bool (d : Nat) {t : TypeId} (hd : P.underlying t = some .bool) (x y : Bool) (w : World) : (Op.equalIn (d + 1) t (.bool x) (.bool y)).run P w = .ok (x == y) w := by
  simp [Op.equalIn, run_underlying hd]
theorem eqIn_int (d : Nat) {t : TypeId} {k : IntKind} (hd : P.underlying t = some (.int k)) (l : IntKind) (x y : Int) (w : World) : (Op.equalIn (d + 1) t (.int l x) (.int l y)).run P w = .ok (x == y) w := by
  simp [Op.equalIn, run_underlying hd]

/-- A value and nil: whether both are nil. -/
theorem eqIn_nil (d : Nat) {t : TypeId} {x y : Value} {b : Bool} {D : TypeDesc} (hd : P.underlying t = some D) (w : World)
    (h : (∃ e, D = .pointer e ∧ ((x = .pointer none ∧ y = .pointer none ∧ b = true) ∨ (∃ p, x = .pointer none ∧ y = .pointer (some p) ∧ b = false) ∨ (∃ p, x = .pointer (some p) ∧ y = .pointer none ∧ b = false)))
      ∨ (∃ e, D = .slice e ∧ ((x = .slice none 0 0 ∧ y = .slice none 0 0 ∧ b = true) ∨ (∃ p n c, x = .slice none 0 0 ∧ y = .slice (some p) n c ∧ b = false) ∨ (∃ p n c, x = .slice (some p) n c ∧ y = .slice none 0 0 ∧ b = false)))
      ∨ (∃ e f, D = .map e f ∧ ((x = .map none ∧ y = .map none ∧ b = true) ∨ (∃ p, x = .map none ∧ y = .map (some p) ∧ b = false) ∨ (∃ p, x = .map (some p) ∧ y = .map none ∧ b = false)))
      ∨ (∃ e f g, D = .func e f g ∧ ((x = .nilFunc ∧ y = .nilFunc ∧ b = true) ∨ (∃ p q u, x = .nilFunc ∧ y = .func p q u ∧ b = false) ∨ (∃ p q u, x = .func p q u ∧ y = .nilFunc ∧ b = false)))
      ∨ (∃ ms, D = .interface ms ∧ ((x = .nilIface ∧ y = .nilIface ∧ b = true) ∨ (∃ p q, x = .nilIface ∧ y = .iface p q ∧ b = false) ∨ (∃ p q, x = .iface p q ∧ y = .nilIface ∧ b = false)))) :
    (Op.equalIn (d + 1) t x y).run P w = .ok b w := by
  rcases h with ⟨e, rfl, h⟩ | ⟨e, rfl, h⟩ | ⟨e, f, rfl, h⟩ | ⟨e, f, g, rfl, h⟩ | ⟨ms, rfl, h⟩
  · rcases h with ⟨rfl, rfl, rfl⟩ | ⟨p, rfl, rfl, rfl⟩ | ⟨p, rfl, rfl, rfl⟩ <;> simp [Op.equalIn, run_underlying hd]
  · rcases h with ⟨rfl, rfl, rfl⟩ | ⟨p, n, c, rfl, rfl, rfl⟩ | ⟨p, n, c, rfl, rfl, rfl⟩ <;> simp [Op.equalIn, run_underlying hd]
  · rcases h with ⟨rfl, rfl, rfl⟩ | ⟨p, rfl, rfl, rfl⟩ | ⟨p, rfl, rfl, rfl⟩ <;> simp [Op.equalIn, run_underlying hd]
  · rcases h with ⟨rfl, rfl, rfl⟩ | ⟨p, q, u, rfl, rfl, rfl⟩ | ⟨p, q, u, rfl, rfl, rfl⟩ <;> simp [Op.equalIn, run_underlying hd]
  · rcases h with ⟨rfl, rfl, rfl⟩ | ⟨p, q, rfl, rfl, rfl⟩ | ⟨p, q, rfl, rfl, rfl⟩ <;> simp [Op.equalIn, run_underlying hd]

theorem int_of_field {f : Field} (h : (match P.underlying f.type with | some (TypeDesc.int _) => true | _ => false) = true) : ∃ k, P.underlying f.type = some (.int k) := by
  split at h
  · rename_i k hk; exact ⟨k, hk⟩
  · cases h

theorem tagg_int {t : TypeId} {k : IntKind} (h : P.underlying t = some (.int k)) : tagg P t = some false := by simp [tagg, h]

theorem eqIn_struct (d : Nat) {t : TypeId} {fs : Array Field} (hd : P.underlying t = some (.struct fs)) (hsz : fs.size = 4) (hf : intFields P 0 fs.toList = true) (hst : P.stoodInHeld t = false)
    (k0 k1 k2 k3 : IntKind) (a0 a1 a2 a3 b0 b1 b2 b3 : Int) (w : World) :
    (Op.equalIn (d + 2) t (.agg #[.int k0 a0, .int k1 a1, .int k2 a2, .int k3 a3]) (.agg #[.int k0 b0, .int k1 b1, .int k2 b2, .int k3 b3])).run P w = .ok (decide (a0 = b0 ∧ a1 = b1 ∧ a2 = b2 ∧ a3 = b3)) w := by
  obtain ⟨f0, f1, f2, f3, hfs⟩ : ∃ f0 f1 f2 f3, fs = #[f0, f1, f2, f3] := by
    have hl : fs.toList.length = 4 := by simpa using hsz
    match h : fs.toList, hl with
    | [f0, f1, f2, f3], _ => exact ⟨f0, f1, f2, f3, by rw [← Array.toArray_toList (xs := fs), h]⟩
  subst hfs
  simp only [intFields, Bool.and_eq_true, beq_iff_eq, bne_iff_ne] at hf
  obtain ⟨⟨⟨o0, n0⟩, i0⟩, ⟨⟨o1, n1⟩, i1⟩, ⟨⟨o2, n2⟩, i2⟩, ⟨⟨o3, n3⟩, i3⟩, _⟩ := hf
  obtain ⟨q0, i0⟩ := int_of_field i0
  obtain ⟨q1, i1⟩ := int_of_field i1
  obtain ⟨q2, i2⟩ := int_of_field i2
  obtain ⟨q3, i3⟩ := int_of_field i3
  have e0 := fun x y w => eqIn_int (P := P) d i0 k0 x y w
  have e1 := fun x y w => eqIn_int (P := P) d i1 k1 x y w
  have e2 := fun x y w => eqIn_int (P := P) d i2 k2 x y w
  have e3 := fun x y w => eqIn_int (P := P) d i3 k3 x y w
  have g0 := fun w => run_isAgg (tagg_int i0) w
  have g1 := fun w => run_isAgg (tagg_int i1) w
  have g2 := fun w => run_isAgg (tagg_int i2) w
  have g3 := fun w => run_isAgg (tagg_int i3) w
  rw [Op.equalIn]
  simp only [Sem.run_bind, run_underlying hd, Result.andThen_ok, run_program, hst, Bool.false_eq_true, if_false, List.forIn_toArray, List.forIn_cons, List.forIn_nil, part, run_isAgg (tagg_int i0), run_isAgg (tagg_int i1), run_isAgg (tagg_int i2), run_isAgg (tagg_int i3), o0, o1, o2, o3, n0, n1, n2, n3, ne_eq, not_false_eq_true, if_true]
  by_cases h0 : a0 = b0
  · by_cases h1 : a1 = b1
    · by_cases h2 : a2 = b2
      · by_cases h3 : a3 = b3
        · simp [h0, h1, h2, h3, e0, e1, e2, e3, g0, g1, g2, g3]
        · simp [h0, h1, h2, h3, e0, e1, e2, e3, g0, g1, g2, g3]
      · simp [h0, h1, h2, e0, e1, e2, g0, g1, g2, g3]
    · simp [h0, h1, e0, e1, g0, g1, g2, g3]
  · simp [h0, e0, g0]


theorem eqKind_inv {k : EqK} {t : TypeId} {x y : Operand} (hk : eqKind P t x y = some k) :
    match k with
    | .bool => P.underlying t = some .bool
    | .ptr => ∃ e, P.underlying t = some (.pointer e)
    | .sl => ∃ e, P.underlying t = some (.slice e)
    | .mp => ∃ e f, P.underlying t = some (.map e f)
    | .fn => ∃ e f g, P.underlying t = some (.func e f g)
    | .ifc => (∃ ms, P.underlying t = some (.interface ms)) ∧ (isConstO x = true ∨ isConstO y = true)
    | .st => ∃ fs, P.underlying t = some (.struct fs) ∧ fs.size = 4 ∧ intFields P 0 fs.toList = true ∧ P.stoodInHeld t = false ∧ P.eqGuardType P.depth t = false := by
  unfold eqKind at hk
  split at hk <;> rename_i hd
  · simp only [Option.some.injEq] at hk; subst hk; exact hd
  · simp only [Option.some.injEq] at hk; subst hk; exact ⟨_, hd⟩
  · simp only [Option.some.injEq] at hk; subst hk; exact ⟨_, hd⟩
  · simp only [Option.some.injEq] at hk; subst hk; exact ⟨_, _, hd⟩
  · simp only [Option.some.injEq] at hk; subst hk; exact ⟨_, _, _, hd⟩
  · split at hk
    · rename_i hc
      simp only [Option.some.injEq] at hk; subst hk
      exact ⟨⟨_, hd⟩, by simpa using hc⟩
    · cases hk
  · split at hk
    · rename_i hc
      simp only [Option.some.injEq] at hk; subst hk
      simp only [Bool.and_eq_true, Bool.not_eq_true', beq_iff_eq] at hc
      exact ⟨_, hd, hc.1.1.1, hc.1.1.2, hc.1.2, hc.2⟩
    · cases hk
  · cases hk

theorem conc_func {fn : Fn} {f c : List AV} {v : Value} (h : conc ν (.func fn f c) = some v) : ∃ f' c', v = .func fn f' c' := by
  simp only [conc, Option.bind_eq_some_iff, Option.map_eq_some_iff] at h
  obtain ⟨f', _, c', _, rfl⟩ := h
  exact ⟨_, _, rfl⟩
theorem conc_map {m : Nat} {v : Value} (h : conc ν (.map m) = some v) : ∃ L, ν m = some L ∧ v = .map (some L.blk) := by
  simp only [conc, Option.map_eq_some_iff] at h
  obtain ⟨L, hL, rfl⟩ := h
  exact ⟨L, hL, rfl⟩
theorem conc_iface {t : TypeId} {u : AV} {v : Value} (h : conc ν (.iface t u) = some v) : ∃ u', conc ν u = some u' ∧ v = .iface t u' := by
  simp only [conc, Option.map_eq_some_iff] at h
  obtain ⟨L, hL, rfl⟩ := h
  exact ⟨L, hL, rfl⟩

theorem run_equal {k : EqK} {t : TypeId} {x y : Operand} {u u' : AV} {v v' : Value} {b : Bool} (hk : eqKind P t x y = some k) (h : eqV k u u' = some b) (hu : conc ν u = some v) (hu' : conc ν u' = some v') (w : World) :
    (Op.equal t v v').run P w = .ok b w := by
  have top : ∀ (t : TypeId) (x y : Value), Op.equal t x y = Op.equalIn (9998 + 2) t x y := fun _ _ _ => rfl
  rw [top]
  have hk := eqKind_inv hk
  unfold eqV at h
  split at h
  case h_1 =>
    have := conc_bool hu; subst this
    have := conc_bool hu'; subst this
    simp only [Option.some.injEq] at h; subst h
    exact eqIn_bool _ hk _ _ w
  case h_21 =>
    split at h
    · rename_i hkk
      obtain ⟨rfl, rfl, rfl, rfl⟩ := hkk
      simp only [Option.some.injEq] at h; subst h
      simp [conc, concs] at hu hu'
      subst hu hu'
      obtain ⟨fs, hd, h1, h2, h3, _⟩ := hk
      exact eqIn_struct _ hd h1 h2 h3 _ _ _ _ _ _ _ _ _ _ _ _ w
    · cases h
  case h_22 => cases h
  all_goals
    simp only [Option.some.injEq] at h; subst h
    first
      | (obtain ⟨e, hd⟩ := hk; refine eqIn_nil 9999 hd w (.inl ⟨_, rfl, ?_⟩))
      | (obtain ⟨e, hd⟩ := hk; refine eqIn_nil 9999 hd w (.inr (.inl ⟨_, rfl, ?_⟩)))
      | (obtain ⟨e, f, hd⟩ := hk; refine eqIn_nil 9999 hd w (.inr (.inr (.inl ⟨_, _, rfl, ?_⟩))))
      | (obtain ⟨e, f, g, hd⟩ := hk; refine eqIn_nil 9999 hd w (.inr (.inr (.inr (.inl ⟨_, _, _, rfl, ?_⟩)))))
      | (obtain ⟨⟨e, hd⟩, _⟩ := hk; refine eqIn_nil 9999 hd w (.inr (.inr (.inr (.inr ⟨_, rfl, ?_⟩)))))
    first
      | (simp only [conc, Option.some.injEq] at hu; subst hu)
      | (obtain ⟨L, hL, rfl⟩ := conc_ptr hu)
      | (obtain ⟨L, c, hL, rfl, _⟩ := conc_slice hu)
      | (obtain ⟨L, c, rfl, _⟩ := conc_esl hu)
      | (obtain ⟨L, hL, rfl⟩ := conc_map hu)
      | (obtain ⟨L, c, rfl⟩ := conc_func hu)
      | (obtain ⟨L, hL, rfl⟩ := conc_iface hu)
    first
      | (simp only [conc, Option.some.injEq] at hu'; subst hu')
      | (obtain ⟨L, hL, rfl⟩ := conc_ptr hu')
      | (obtain ⟨L, c, hL, rfl, _⟩ := conc_slice hu')
      | (obtain ⟨L, c, rfl, _⟩ := conc_esl hu')
      | (obtain ⟨L, hL, rfl⟩ := conc_map hu')
      | (obtain ⟨L, c, rfl⟩ := conc_func hu')
      | (obtain ⟨L, hL, rfl⟩ := conc_iface hu')
    simp

theorem run_eqGuard {k : EqK} {t : TypeId} {x y : Operand} {u u' : AV} {v v' : Value} {b : Bool} (hk : eqKind P t x y = some k) (h : eqV k u u' = some b) (hu : conc ν u = some v) (hu' : conc ν u' = some v') (op : BinOp) (w : World) :
    (eqGuard op t x y v v').run P w = .ok () w := by
  have hk := eqKind_inv hk
  unfold eqV at h
  split at h
  case h_21 =>
    simp [conc, concs] at hu hu'
    subst hu hu'
    obtain ⟨fs, hd, h1, h2, h3, h4⟩ := hk
    cases op <;> simp [eqGuard, h4]
  case h_22 => cases h
  all_goals
    first
      | (simp only [conc, Option.some.injEq] at hu; subst hu)
      | (obtain ⟨L, hL, rfl⟩ := conc_ptr hu)
      | (obtain ⟨L, c, hL, rfl, _⟩ := conc_slice hu)
      | (obtain ⟨L, c, rfl, _⟩ := conc_esl hu)
      | (obtain ⟨L, hL, rfl⟩ := conc_map hu)
      | (obtain ⟨L, c, rfl⟩ := conc_func hu)
      | (obtain ⟨L, hL, rfl⟩ := conc_iface hu)
    first
      | (simp only [conc, Option.some.injEq] at hu'; subst hu')
      | (obtain ⟨L, hL, rfl⟩ := conc_ptr hu')
      | (obtain ⟨L, c, hL, rfl, _⟩ := conc_slice hu')
      | (obtain ⟨L, c, rfl, _⟩ := conc_esl hu')
      | (obtain ⟨L, hL, rfl⟩ := conc_map hu')
      | (obtain ⟨L, c, rfl⟩ := conc_func hu')
      | (obtain ⟨L, hL, rfl⟩ := conc_iface hu')
    cases op <;> first
      | (simp [eqGuard]; done)
      | (obtain ⟨_, hc⟩ := hk
         cases x <;> cases y <;> first | (simp [isConstO] at hc; done) | (simp [eqGuard]; done))

theorem op_eqv {op : BinOp} {neg : Bool} {k : EqK} {t t' : TypeId} {x z : Operand} {y u : Opd} (ho : o.op = .binOp op t x z t') (hop : (op = .eql ∧ neg = false) ∨ (op = .neq ∧ neg = true)) (hk : eqKind P t x z = some k) (hx : prepOpd x = some y) (hz : prepOpd z = some u) (hr : RR ν r a) (hs : Sim ν s w)
    (h : evI E (.eqv neg k y u) r s = some (v, s')) : OpOk P o a ν s w v s' := by
  have h1 := hr.opd hx
  have h2 := hr.opd hz
  simp only [evI, Option.map_eq_some_iff, Prod.mk.injEq] at h
  obtain ⟨b, h, rfl, rfl⟩ := h
  have e1 := run_equal (P := P) hk h h1 h2 w
  have e2 := run_eqGuard (P := P) hk h h1 h2 op w
  have shape : ∀ v1 v2, conc ν (y.ev r) = some v1 → conc ν (u.ev r) = some v2 → binOp op t v1 v2 = (if neg then (do pure (.bool (!(← Op.equal t v1 v2)))) else (do pure (.bool (← Op.equal t v1 v2)))) := by
    intro v1 v2 hv1 hv2
    generalize y.ev r = yy at *
    generalize u.ev r = uu at *
    unfold eqV at h
    split at h
    case h_22 => cases h
    case h_21 =>
      simp [conc, concs] at hv1 hv2
      subst hv1 hv2
      rcases hop with ⟨rfl, rfl⟩ | ⟨rfl, rfl⟩ <;> rfl
    all_goals
      first
        | (simp only [conc, Option.some.injEq] at hv1; subst hv1)
        | (obtain ⟨L, hL, rfl⟩ := conc_ptr hv1)
        | (obtain ⟨L, c, hL, rfl, _⟩ := conc_slice hv1)
        | (obtain ⟨L, c, rfl, _⟩ := conc_esl hv1)
        | (obtain ⟨L, hL, rfl⟩ := conc_map hv1)
        | (obtain ⟨L, c, rfl⟩ := conc_func hv1)
        | (obtain ⟨L, hL, rfl⟩ := conc_iface hv1)
      first
        | (simp only [conc, Option.some.injEq] at hv2; subst hv2)
        | (obtain ⟨L, hL, rfl⟩ := conc_ptr hv2)
        | (obtain ⟨L, c, hL, rfl, _⟩ := conc_slice hv2)
        | (obtain ⟨L, c, rfl, _⟩ := conc_esl hv2)
        | (obtain ⟨L, hL, rfl⟩ := conc_map hv2)
        | (obtain ⟨L, c, rfl⟩ := conc_func hv2)
        | (obtain ⟨L, hL, rfl⟩ := conc_iface hv2)
      rcases hop with ⟨rfl, rfl⟩ | ⟨rfl, rfl⟩ <;> rfl
  refine pure_ok (v' := .bool (b != neg)) hs rfl ?_
  simp only [execOp, ho, Sem.run_bind, e2, Result.andThen_ok, shape _ _ h1 h2]
  cases neg <;> simp [e1]
end
end Go.Ab
