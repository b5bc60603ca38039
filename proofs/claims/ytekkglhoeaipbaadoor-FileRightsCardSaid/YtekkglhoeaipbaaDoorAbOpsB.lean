/- The abstract machine and the model's: all operations that call nothing. -/
import Derived.Test.YtekkglhoeaipbaaDoorAbOpsA
namespace Go.Ab

section
variable {P : Program} {o : Oper} {a : Act} {E : Env} {r : Regs} {s s' : S} {w : World} {ν : Nu} {v : AV} {i : I}

theorem builtin_ok {b : Builtin} {c : Call} (ho : o.op = .call c) (hc : c.callee = .builtin b) (hp : prepBuiltin P b c = some i) (hr : RR ν r a) (hs : Sim ν s w)
    (h : evI E i r s = some (v, s')) : OpOk P o a ν s w v s' := by
  unfold prepBuiltin at hp
  split at hp
  · rename_i t x ht hx
    simp only [Option.bind_eq_bind, Option.bind_eq_some_iff] at hp
    obtain ⟨d, hd, hp⟩ := hp
    split at hp
    · simp only [Option.map_eq_some_iff] at hp
      obtain ⟨y, hy, rfl⟩ := hp
      exact op_len (str := true) ho hc ht hx hd (by simp) hy hr hs h
    · simp only [Option.map_eq_some_iff] at hp
      obtain ⟨y, hy, rfl⟩ := hp
      exact op_len (str := false) ho hc ht hx hd (by simp) hy hr hs h
    · cases hp
  · rename_i t u x y ht hx
    simp only [Option.bind_eq_bind, Option.bind_eq_some_iff] at hp
    obtain ⟨d, hd, hp⟩ := hp
    split at hp
    · simp only [Option.bind_eq_some_iff] at hp
      obtain ⟨d2, hd2, hp⟩ := hp
      split at hp
      · simp only [Option.bind_eq_some_iff] at hp
        obtain ⟨n, hn, b, hb, z, hz, hp⟩ := hp
        split at hp
        · rename_i hzl
          simp only [Option.bind_eq_some_iff, Option.some.injEq] at hp
          obtain ⟨x', hx', y', hy', rfl⟩ := hp
          exact op_app ho hc ht hx hd hd2 hn hb hz hzl hx' hy' hr hs h
        · cases hp
      · cases hp
    · cases hp
  · rename_i t u x y ht hx
    simp only [Option.bind_eq_bind, Option.bind_eq_some_iff] at hp
    obtain ⟨d, hd, hp⟩ := hp
    split at hp
    · simp only [Option.bind_eq_some_iff] at hp
      obtain ⟨d2, hd2, hp⟩ := hp
      split at hp
      · simp only [Option.bind_eq_some_iff, Option.some.injEq] at hp
        obtain ⟨n, hn, x', hx', y', hy', rfl⟩ := hp
        exact op_copy ho hc ht hx hd hn hx' hy' hr hs h
      · cases hp
    · cases hp
  · rename_i t x ht hx
    simp only [Option.bind_eq_bind, Option.bind_eq_some_iff] at hp
    obtain ⟨d, hd, hp⟩ := hp
    split at hp
    · simp only [Option.bind_eq_some_iff, Option.some.injEq] at hp
      obtain ⟨z, hz, x', hx', rfl⟩ := hp
      exact op_clear ho hc ht hx hd hz hx' hr hs h
    · cases hp
  · rename_i t t2 x k ht hx
    simp only [Option.bind_eq_bind, Option.bind_eq_some_iff] at hp
    obtain ⟨d, hd, hp⟩ := hp
    split at hp
    · simp only [Option.bind_eq_some_iff] at hp
      obtain ⟨d2, hd2, hp⟩ := hp
      split at hp
      · simp only [Option.bind_eq_some_iff, Option.some.injEq] at hp
        obtain ⟨x', hx', y', hy', rfl⟩ := hp
        exact op_del ho hc ht hx hd hd2 hx' hy' hr hs h
      · cases hp
    · cases hp
  · simp only [Option.map_eq_some_iff] at hp
    obtain ⟨y, hy, rfl⟩ := hp
    exact op_mn ho hc hy hr hs h
  · simp only [Option.map_eq_some_iff] at hp
    obtain ⟨y, hy, rfl⟩ := hp
    exact op_mx ho hc hy hr hs h
  · cases hp

theorem evI_ok (hp : prepOp P o = some i) (hnc : (∀ c, o.op = .call c → ∃ b, c.callee = .builtin b) ∧ ∀ cs b, o.op ≠ .select cs b) (hr : RR ν r a) (hs : Sim ν s w) (h : evI E i r s = some (v, s')) : OpOk P o a ν s w v s' := by
  unfold prepOp at hp
  split at hp <;> rename_i ho
  case h_1 | h_2 =>
    simp only [Option.map_eq_some_iff] at hp
    obtain ⟨y, hy, rfl⟩ := hp
    first | exact op_mov (.inl ho) hy hr hs h | exact op_mov (.inr ho) hy hr hs h
  case h_3 =>
    simp only [Option.bind_eq_bind, Option.bind_eq_some_iff, Option.some.injEq] at hp
    obtain ⟨c, hc, x, hx, y, hy, rfl⟩ := hp
    exact op_pick ho hc hx hy hr hs h
  case h_4 =>
    simp only [Option.map_eq_some_iff] at hp
    obtain ⟨z, hz, rfl⟩ := hp
    exact op_new ho hz hs h
  case h_5 =>
    simp only [Option.map_eq_some_iff] at hp
    obtain ⟨y, hy, rfl⟩ := hp
    exact op_box ho hy hr hs h
  case h_6 =>
    simp only [Option.bind_eq_bind, Option.bind_eq_some_iff] at hp
    obtain ⟨z, hz, d, hd, hp⟩ := hp
    split at hp
    · simp only [Option.bind_eq_some_iff, Option.some.injEq] at hp
      obtain ⟨pl, hpl, ps, hps, rfl⟩ := hp
      exact op_build ho hd hz hpl hps hr hs h
    · cases hp
  case h_7 =>
    simp only [Option.bind_eq_bind, Option.bind_eq_some_iff] at hp
    obtain ⟨d, hd, hp⟩ := hp
    split at hp
    · simp only [Option.bind_eq_some_iff] at hp
      obtain ⟨n, hn, z, hz, hp⟩ := hp
      split at hp
      · rename_i hc
        simp only [Option.bind_eq_some_iff, Option.some.injEq] at hp
        obtain ⟨ps, hps, rfl⟩ := hp
        exact op_buildSl ho hd hn hz hc.1 hc.2.1 hc.2.2 hps hr hs h
      · cases hp
    · cases hp
  case h_8 =>
    simp only [Option.bind_eq_bind, Option.bind_eq_some_iff, Option.some.injEq] at hp
    obtain ⟨n, hn, g, hg, y, hy, rfl⟩ := hp
    exact op_load ho hn hg hy hr hs h
  case h_9 =>
    simp only [Option.bind_eq_bind, Option.bind_eq_some_iff, Option.some.injEq] at hp
    obtain ⟨n, hn, x, hx, y, hy, rfl⟩ := hp
    exact op_store ho hn hx hy hr hs h
  case h_10 =>
    simp only [Option.map_eq_some_iff] at hp
    obtain ⟨y, hy, rfl⟩ := hp
    exact op_nilck ho hy hr hs h
  case h_11 =>
    simp only [Option.bind_eq_bind, Option.bind_eq_some_iff] at hp
    obtain ⟨d, hd, hp⟩ := hp
    split at hp
    · simp only [Option.bind_eq_some_iff, Option.some.injEq] at hp
      obtain ⟨x, hx, y, hy, rfl⟩ := hp
      exact op_bin ho hx hy hr hs h
    · simp only [Option.bind_eq_some_iff, Option.some.injEq] at hp
      obtain ⟨x, hx, y, hy, rfl⟩ := hp
      exact op_bin ho hx hy hr hs h
    · simp only [Option.bind_eq_some_iff] at hp
      obtain ⟨k, hk, hp⟩ := hp
      split at hp
      · simp only [Option.bind_eq_some_iff, Option.some.injEq] at hp
        obtain ⟨x, hx, y, hy, rfl⟩ := hp
        exact op_eqv ho (.inl ⟨rfl, rfl⟩) hk hx hy hr hs h
      · simp only [Option.bind_eq_some_iff, Option.some.injEq] at hp
        obtain ⟨x, hx, y, hy, rfl⟩ := hp
        exact op_eqv ho (.inr ⟨rfl, rfl⟩) hk hx hy hr hs h
      · cases hp
  case h_12 =>
    simp only [Option.map_eq_some_iff] at hp
    obtain ⟨y, hy, rfl⟩ := hp
    exact op_un ho hy hr hs h
  case h_13 =>
    simp only [Option.bind_eq_bind, Option.bind_eq_some_iff] at hp
    obtain ⟨ds, hds, d, hd, hp⟩ := hp
    split at hp
    · simp only [Option.map_eq_some_iff] at hp
      obtain ⟨y, hy, rfl⟩ := hp
      exact op_cvi ho hds hd hy hr hs h
    · simp only [Option.map_eq_some_iff] at hp
      obtain ⟨y, hy, rfl⟩ := hp
      exact op_cvis ho hds hd hy hr hs h
    · simp only [Option.map_eq_some_iff] at hp
      obtain ⟨y, hy, rfl⟩ := hp
      exact op_cvss ho hds hd hy hr hs h
    · simp only [Option.bind_eq_some_iff] at hp
      obtain ⟨d2, hd2, hp⟩ := hp
      split at hp
      · simp only [Option.map_eq_some_iff] at hp
        obtain ⟨y, hy, rfl⟩ := hp
        exact op_cvsb ho hds hd hd2 hy hr hs h
      · cases hp
    · simp only [Option.bind_eq_some_iff] at hp
      obtain ⟨d2, hd2, hp⟩ := hp
      split at hp
      · simp only [Option.map_eq_some_iff] at hp
        obtain ⟨y, hy, rfl⟩ := hp
        exact op_cvbs ho hds hd2 hd hy hr hs h
      · cases hp
    · simp only [Option.bind_eq_some_iff] at hp
      obtain ⟨d2, hd2, hp⟩ := hp
      split at hp
      · split at hp
        · rename_i he
          subst he
          simp only [Option.map_eq_some_iff] at hp
          obtain ⟨y, hy, rfl⟩ := hp
          exact op_cvbb ho hd hd2 hy hr hs h
        · cases hp
      · cases hp
    · cases hp
  case h_14 =>
    simp only [Option.bind_eq_bind, Option.bind_eq_some_iff] at hp
    obtain ⟨d, hd, hp⟩ := hp
    split at hp
    · cases hp
    · rename_i hni
      simp only [Option.map_eq_some_iff] at hp
      obtain ⟨y, hy, rfl⟩ := hp
      exact op_ifc ho hd (fun ms e => hni ms e) hy hr hs h
  case h_15 =>
    simp only [Option.bind_eq_bind, Option.bind_eq_some_iff, Option.some.injEq] at hp
    obtain ⟨x, hx, y, hy, rfl⟩ := hp
    exact op_mkf ho hx hy hr hs h
  case h_16 =>
    simp only [Option.some.injEq] at hp; subst hp
    exact op_mkm ho hs h
  case h_17 =>
    simp only [Option.bind_eq_bind, Option.bind_eq_some_iff] at hp
    obtain ⟨d, hd, hp⟩ := hp
    split at hp
    · simp only [Option.bind_eq_some_iff, Option.some.injEq] at hp
      obtain ⟨b, hb, y, hy, rfl⟩ := hp
      exact op_mkc ho hd hb hy hr hs h
    · cases hp
  case h_18 =>
    simp only [Option.bind_eq_bind, Option.bind_eq_some_iff] at hp
    obtain ⟨d, hd, hp⟩ := hp
    split at hp
    · simp only [Option.bind_eq_some_iff] at hp
      obtain ⟨n, hn, z, hz, hp⟩ := hp
      split at hp
      · rename_i hc
        simp only [Option.bind_eq_some_iff, Option.some.injEq] at hp
        obtain ⟨b, hb, l, hl, c, hcc, rfl⟩ := hp
        exact op_mks ho hd hn hb hz hc.1 hc.2 hl hcc hr hs h
      · cases hp
    · cases hp
  case h_19 =>
    simp only [Option.bind_eq_bind, Option.bind_eq_some_iff] at hp
    obtain ⟨d, hd, hp⟩ := hp
    split at hp
    · split at hp
      · rename_i hm
        simp only [Option.bind_eq_some_iff, Option.some.injEq] at hp
        obtain ⟨x, hx, lo, hlo, hi, hhi, rfl⟩ := hp
        rw [Option.isNone_iff_eq_none] at hm
        subst hm
        exact op_sstr ho hd hx hlo hhi hr hs h
      · cases hp
    · simp only [Option.bind_eq_some_iff, Option.some.injEq] at hp
      obtain ⟨n, hn, x, hx, lo, hlo, hi, hhi, mx, hmx, rfl⟩ := hp
      exact op_slice ho hd hn hx hlo hhi hmx hr hs h
    · cases hp
  case h_20 =>
    simp only [Option.bind_eq_bind, Option.bind_eq_some_iff] at hp
    obtain ⟨d, hd, hp⟩ := hp
    split at hp
    · simp only [Option.bind_eq_some_iff] at hp
      obtain ⟨f, hf, n, hn, hp⟩ := hp
      split at hp
      · cases hp
      · rename_i hn0
        simp only [Option.bind_eq_some_iff, Option.some.injEq] at hp
        obtain ⟨y, hy, rfl⟩ := hp
        exact op_faddr ho hd hf hn hn0 hy hr hs h
    · cases hp
  case h_21 =>
    simp only [Option.bind_eq_bind, Option.bind_eq_some_iff] at hp
    obtain ⟨d, hd, hp⟩ := hp
    split at hp
    · simp only [Option.bind_eq_some_iff, Option.some.injEq] at hp
      obtain ⟨f, hf, n, hn, g, hg, y, hy, rfl⟩ := hp
      exact op_fld ho hd hf hn hg hy hr hs h
    · cases hp
  case h_22 =>
    simp only [Option.bind_eq_bind, Option.bind_eq_some_iff] at hp
    obtain ⟨d, hd, hp⟩ := hp
    split at hp
    · simp only [Option.bind_eq_some_iff, Option.some.injEq] at hp
      obtain ⟨n, hn, x, hx, y, hy, rfl⟩ := hp
      exact op_iaddr ho hd hn hx hy hr hs h
    · simp only [Option.bind_eq_some_iff, Option.some.injEq] at hp
      obtain ⟨n, hn, x, hx, y, hy, rfl⟩ := hp
      exact op_iaddrA ho hd hn hx hy hr hs h
    · cases hp
  case h_23 =>
    simp only [Option.bind_eq_bind, Option.bind_eq_some_iff] at hp
    obtain ⟨d, hd, hp⟩ := hp
    split at hp
    · simp only [Option.bind_eq_some_iff, Option.some.injEq] at hp
      obtain ⟨x, hx, y, hy, rfl⟩ := hp
      exact op_idxs ho hd hx hy hr hs h
    · cases hp
  case h_24 =>
    simp only [Option.bind_eq_bind, Option.bind_eq_some_iff] at hp
    obtain ⟨d, hd, hp⟩ := hp
    split at hp
    · simp only [Option.bind_eq_some_iff] at hp
      obtain ⟨d2, hd2, hp⟩ := hp
      split at hp
      · simp only [Option.bind_eq_some_iff, Option.some.injEq] at hp
        obtain ⟨z, hz, x, hx, y, hy, rfl⟩ := hp
        exact op_lkup ho hd hd2 hz hx hy hr hs h
      · cases hp
    · cases hp
  case h_25 | h_26 =>
    simp only [Option.bind_eq_bind, Option.bind_eq_some_iff] at hp
    obtain ⟨d, hd, hp⟩ := hp
    split at hp
    · simp only [Option.bind_eq_some_iff] at hp
      obtain ⟨d2, hd2, hp⟩ := hp
      split at hp
      · simp only [Option.bind_eq_some_iff, Option.some.injEq] at hp
        obtain ⟨x, hx, y, hy, z, hz, rfl⟩ := hp
        first | exact op_mupd (.inl ho) hd hd2 hx hy hz hr hs h | exact op_mupd (.inr ho) hd hd2 hx hy hz hr hs h
      · cases hp
    · cases hp
  case h_27 =>
    simp only [Option.map_eq_some_iff] at hp
    obtain ⟨y, hy, rfl⟩ := hp
    exact op_ext ho hy hr hs h
  case h_28 =>
    obtain ⟨b, hb⟩ := hnc.1 _ ho
    split at hp <;> rename_i hc
    · rw [hb] at hc; cases hc
    · rw [hb] at hc; cases hc
    · rw [hb] at hc; cases hc
    · exact builtin_ok ho hc hp hr hs h
  case h_29 => exact absurd ho (hnc.2 _ _)
  case h_30 => cases hp
end
end Go.Ab
