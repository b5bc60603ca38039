/- The abstract machine and the model's: a select of one case with a default. -/
import Derived.Test.YtekkglhoeaipbaaDoorAbRun
namespace Go.Ab
open Go.Conc
section
variable {P : Program} {ops : Array Oper} {i : Nat} {o : Oper} {a : Act} {w w' : World} {E : Env} {r : Regs} {s s' : S} {ν : Nu} {u : AV}

theorem OpRun.step (ho : ops[i]? = some o) {v : Value} (h : ∀ (b : Frame) (rest : List Nat) (k : List Item) (cs : List Frame), step P (lone (b.at a (.inRegion ops (i :: rest) :: k)) cs w) = .next (lone ((b.at a (.inRegion ops (i :: rest) :: k)).finish v) cs w')) : OpRun P ops i a w (a.put o.dst v) w' := by
  intro b rest k cs
  refine .one ?_
  rw [h b rest k cs, fin_eq ho]

theorem stepG_comm (ho : ops[i]? = some o) (hw : Region.wanted o (yielded ops a.tmps) = true) {cases : Array CommCase} (hrun : (execOp a.eval o).run P w = .ok (.comm cases false .select) w) (b : Frame) (rest : List Nat) (k : List Item) (cs : List Frame) :
    ∃ es, stepG P true (G (b.at a (.inRegion ops (i :: rest) :: k)) cs) w = .comm (G (b.at a (.inRegion ops (i :: rest) :: k)) cs) cases false .select w es := by
  have hg := stepG_op (P := P) (b := b) (k := k) (cs := cs) (w := w) (rest := rest) ho hw
  unfold G
  rw [hg]
  simp [stepG.apply, Sem.runT_eq, hrun, GStep.after]

theorem chan_obj {c cap : Nat} {buf : List AV} {L : Loc} (hs : Sim ν s w) (hg : s.get c = some (.chan cap buf)) (hL : ν c = some L) : ∃ B m n, w.heap[L.blk]? = some (.chan cap B false m n false) ∧ concs ν buf = some B.toList := hs.obj c _ L hg hL

theorem Ok.chan {c cap : Nat} {buf buf' : List AV} {L : Loc} (hs : Sim ν s w) (hg : s.get c = some (.chan cap buf)) (hL : ν c = some L) {B : Array Value} (hB : concs ν buf' = some B.toList) (m n : Nat) :
    Ok ν s w ν (s.set c (some (.chan cap buf'))) (w.setChan L.blk cap B false m n false) := by
  have hlt := hs.blk_lt hg hL
  refine Ok.setObj hs hg hL rfl rfl ⟨B, m, n, heap_setChan w L.blk cap B false m n false hlt, hB⟩ ?_ (size_setChan ..) rfl rfl rfl
  intro k hk
  simp only [World.setChan]
  exact Array.getElem?_setIfInBounds_ne (Ne.symm hk)

theorem conc_chan {m : Nat} {v : Value} (h : conc ν (.chan m) = some v) : ∃ L, ν m = some L ∧ v = .chan (some L.blk) := by
  simp only [conc, Option.map_eq_some_iff] at h
  obtain ⟨L, hL, rfl⟩ := h
  exact ⟨L, hL, rfl⟩

theorem sel_ok (ho : ops[i]? = some o) (hw : Region.wanted o (yielded ops a.tmps) = true) {sc : SelectCase} {cs : Array SelectCase} {x : Opd} {snd : Option Opd} {z : AV} (hop : o.op = .select cs false) (hcs : cs.toList = [sc]) (hx : prepOpd sc.chan = some x) (hsnd : prepO sc.send = some snd) (hz : tzero P sc.elem = some z)
    (hr : RR ν r a) (hs : Sim ν s w) (h : evI E (.sel x snd z) r s = some (u, s')) : ∃ ν' w' v', Ok ν s w ν' s' w' ∧ conc ν' u = some v' ∧ OpRun P ops i a w (a.put o.dst v') w' := by
  simp only [evI, selA] at h
  have h1 := hr.opd hx
  obtain ⟨iz, zv, hiz, hzv, hcz⟩ := tzero_conc hz
  have hA : cs = #[sc] := by rw [← Array.toArray_toList (xs := cs), hcs]
  split at h
  · rename_i c hc
    rw [hc] at h1
    obtain ⟨L, hL, h1⟩ := conc_chan h1
    split at h
    · rename_i cap buf hg
      obtain ⟨B, m, n, hB, hbuf⟩ := chan_obj hs hg hL
      have hbl := concs_length hbuf
      simp at hbl
      have hrun : (execOp a.eval o).run P w = .ok (.comm #[{ chan := .chan (some L.blk), send := sc.send.map a.eval, zero := zv }] false .select) w := by
        simp [execOp, hop, hA, run_zeroValue hiz hzv, h1]
      split at h
      · rename_i v hv
        cases hsend : sc.send with
        | none => rw [hsend] at hsnd; simp only [prepO, Option.some.injEq] at hsnd; subst hsnd; simp at hv
        | some y =>
          rw [hsend] at hsnd hrun
          simp only [prepO, Option.map_eq_some_iff] at hsnd
          obtain ⟨y', hy', rfl⟩ := hsnd
          simp only [Option.map_some, Option.some.injEq] at hv
          have h2 := hr.opd hy'
          rw [hv] at h2
          simp only [Option.map_some] at hrun
          split at h
          · rename_i hroom
            simp only [Option.some.injEq, Prod.mk.injEq] at h
            obtain ⟨rfl, rfl⟩ := h
            have hB2 : concs ν (buf ++ [v]) = some (B.push (a.eval y)).toList := by
              rw [Array.toList_push]
              exact concs_append hbuf (concs_cons.2 ⟨_, _, h2, rfl, rfl⟩)
            refine ⟨ν, _, .tuple #[goInt 0, .bool false], Ok.chan hs hg hL hB2 (m + 1) n, rfl, OpRun.step ho ?_⟩
            intro b rest k cs'
            obtain ⟨es, he⟩ := stepG_comm ho hw hrun b rest k cs'
            exact step_lone_select_send_room (z' := zv) (v := a.eval y) he hB (by omega)
          · rename_i hfull
            simp only [Option.some.injEq, Prod.mk.injEq] at h
            obtain ⟨rfl, rfl⟩ := h
            refine ⟨ν, w, .tuple #[goInt (-1), .bool false], Ok.refl hs, rfl, OpRun.step ho ?_⟩
            intro b rest k cs'
            obtain ⟨es, he⟩ := stepG_comm ho hw hrun b rest k cs'
            exact step_lone_select_send_full (z' := zv) (v := a.eval y) he hB (by omega)
      · rename_i hv
        have hsn : sc.send = none := by
          cases hsend : sc.send with
          | none => rfl
          | some y =>
            rw [hsend] at hsnd
            simp only [prepO, Option.map_eq_some_iff] at hsnd
            obtain ⟨y', hy', rfl⟩ := hsnd
            simp at hv
        rw [hsn] at hrun
        simp only [Option.map_none] at hrun
        split at h
        · rename_i v rest0
          simp only [Option.some.injEq, Prod.mk.injEq] at h
          obtain ⟨rfl, rfl⟩ := h
          obtain ⟨v', r', hv', hr', he0⟩ := concs_cons.1 hbuf
          have hB2 : concs ν rest0 = some (B.extract 1 B.size).toList := by
            have : (B.extract 1 B.size).toList = r' := by
              rw [Array.toList_extract, he0]
              have : B.size = r'.length + 1 := by rw [← Array.length_toList, he0]; simp
              simp [List.extract_eq_take_drop, this]
            rw [this]; exact hr'
          have hg0 : B.getD 0 Go.undef = v' := by
            have : B[0]? = some v' := by rw [← Array.getElem?_toList, he0]; rfl
            simp [Array.getD_eq_getD_getElem?, this]
          refine ⟨ν, _, .tuple #[goInt 0, .bool true, v'], Ok.chan hs hg hL hB2 m (n + 1), by simp [conc, concs, hv', goInt], OpRun.step ho ?_⟩
          intro b rest k cs'
          obtain ⟨es, he⟩ := stepG_comm ho hw hrun b rest k cs'
          have := step_lone_select_recv_buf (z := zv) he hB (by simp at hbl; omega)
          rw [hg0] at this
          exact this
        · simp only [Option.some.injEq, Prod.mk.injEq] at h
          obtain ⟨rfl, rfl⟩ := h
          have hB0 : B = #[] := by
            have : B.size = 0 := by simpa using hbl
            exact Array.eq_empty_of_size_eq_zero this
          subst hB0
          refine ⟨ν, w, .tuple #[goInt (-1), .bool false, zv], Ok.refl hs, by simp [conc, concs, hcz ν, goInt], OpRun.step ho ?_⟩
          intro b rest k cs'
          obtain ⟨es, he⟩ := stepG_comm ho hw hrun b rest k cs'
          exact step_lone_select_default he hB
    · cases h
  · cases h

/-- Whatever an operation is: it goes on in the model as it does here. -/
theorem evI_run {p : I} (hE : EnvOk P E) (ho : ops[i]? = some o) (hw : Region.wanted o (yielded ops a.tmps) = true) (hp : prepOp P o = some p) (hr : RR ν r a) (hs : Sim ν s w) (h : evI E p r s = some (u, s')) :
    ∃ ν' w' v', Ok ν s w ν' s' w' ∧ conc ν' u = some v' ∧ OpRun P ops i a w (a.put o.dst v') w' := by
  by_cases hcall : ∃ c, o.op = .call c ∧ ∀ b, c.callee ≠ .builtin b
  · obtain ⟨c, hop, hnb⟩ := hcall
    unfold prepOp at hp
    rw [hop] at hp
    simp only at hp
    split at hp <;> rename_i hcal
    · simp only [Option.map_eq_some_iff] at hp
      obtain ⟨y, hy, rfl⟩ := hp
      exact call_ok hE ho hw hop hcal hy hr hs h
    · simp only [Option.bind_eq_bind, Option.bind_eq_some_iff, Option.some.injEq] at hp
      obtain ⟨x, hx, y, hy, rfl⟩ := hp
      exact callv_ok hE ho hw hop hcal hx hy hr hs h
    · simp only [Option.bind_eq_bind, Option.bind_eq_some_iff, Option.some.injEq] at hp
      obtain ⟨x, hx, y, hy, rfl⟩ := hp
      exact inv_ok hE ho hw hop hcal hx hy hr hs h
    · exact absurd hcal (hnb _)
  · by_cases hsel : ∃ cs b, o.op = .select cs b
    · obtain ⟨cs, b, hop⟩ := hsel
      unfold prepOp at hp
      rw [hop] at hp
      cases b with
      | true => cases hp
      | false =>
        simp only at hp
        split at hp
        · rename_i sc hcs
          simp only [Option.bind_eq_bind, Option.bind_eq_some_iff, Option.some.injEq] at hp
          obtain ⟨x, hx, y, hy, z, hz, rfl⟩ := hp
          exact sel_ok ho hw hop hcs hx hy hz hr hs h
        · cases hp
    · obtain ⟨ν', w', v', h1, h2, h3⟩ := evI_ok hp ⟨fun c hop => by
          cases hcl : c.callee with
          | builtin b => exact ⟨b, rfl⟩
          | value f => exact absurd ⟨c, hop, fun b => by rw [hcl]; simp⟩ hcall
          | invoke x m => exact absurd ⟨c, hop, fun b => by rw [hcl]; simp⟩ hcall, fun cs b hop => hsel ⟨cs, b, hop⟩⟩ hr hs h
      exact ⟨ν', w', v', h1, h2, OpRun.does ho hw h3⟩
end
end Go.Ab
