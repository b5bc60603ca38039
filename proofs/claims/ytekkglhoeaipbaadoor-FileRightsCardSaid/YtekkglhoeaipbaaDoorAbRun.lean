/- The abstract machine and the model's: an operation inside a region, by the machine's steps. -/
import Derived.Test.YtekkglhoeaipbaaDoorAbOpsB
import Derived.Conc.LoneSelect
namespace Go.Ab

/-- Operation i of a region is carried out. -/
def OpRun (P : Program) (ops : Array Oper) (i : Nat) (a : Act) (w : World) (a' : Act) (w' : World) : Prop :=
  ∀ (b : Frame) (rest : List Nat) (k : List Item) (cs : List Frame), Steps P (lone (b.at a (.inRegion ops (i :: rest) :: k)) cs w) (lone (b.at a' (.inRegion ops rest :: k)) cs w')

section
variable {P : Program} {ops : Array Oper} {i : Nat} {o : Oper} {a : Act} {w w' : World} {v : Value}

theorem fin_eq (ho : ops[i]? = some o) (b : Frame) (rest : List Nat) (k : List Item) (v : Value) : (b.at a (.inRegion ops (i :: rest) :: k)).finish v = b.at (a.put o.dst v) (.inRegion ops rest :: k) := by
  rw [Frame.finish_at, ho]; rfl

theorem OpRun.does (ho : ops[i]? = some o) (hw : Region.wanted o (yielded ops a.tmps) = true) (h : Does P o a w v w') : OpRun P ops i a w (a.put o.dst v) w' := by
  intro b rest k cs
  have hg := stepG_op (P := P) (b := b) (k := k) (cs := cs) (w := w) (rest := rest) ho hw
  refine .one (step_lone_go ?_)
  rcases h with hr | ⟨hr, rfl⟩
  · rw [hg, ← fin_eq ho]; simp [stepG.apply, hr]
  · rw [hg, ← fin_eq ho]; simp [stepG.apply, hr]

theorem OpRun.skip (ho : ops[i]? = some o) (hw : Region.wanted o (yielded ops a.tmps) = false) : OpRun P ops i a w (a.put o.dst Go.undef) w := by
  intro b rest k cs
  have hs := step_op_skip (P := P) (b := b) (a := a) (k := k) (cs := cs) (w := w) (ops := ops) (i := i) (rest := rest) (by simp [ho, hw])
  simp only [ho, Option.bind_some] at hs
  exact .one hs

/-- A call: what the called function answers. -/
theorem OpRun.enter (ho : ops[i]? = some o) (hw : Region.wanted o (yielded ops a.tmps) = true) {f : FuncId} {args : Array Value} (hrun : (execOp a.eval o).run P w = .ok (.enter f args) w)
    {v : Value} {w' : World} (hc : ∀ cs, ∃ fr, Steps P (lone (Frame.enter P f args .normal) cs w) (lone fr cs w') ∧ fr.leaving P w' (.returned v)) : OpRun P ops i a w (a.put o.dst v) w' := by
  intro b rest k cs
  have hg := stepG_op (P := P) (b := b) (k := k) (cs := cs) (w := w) (rest := rest) ho hw
  have henter : step P (lone (b.at a (.inRegion ops (i :: rest) :: k)) cs w) = .next (lone (Frame.enter P f args .normal) (b.at a (.inRegion ops (i :: rest) :: k) :: cs) w) :=
    step_lone_go (by rw [hg]; simp [stepG.apply, hrun, Frame.at])
  obtain ⟨fr, hsteps, hleave⟩ := hc (b.at a (.inRegion ops (i :: rest) :: k) :: cs)
  refine .head henter (hsteps.trans (.one ?_))
  rw [← fin_eq ho]
  exact step_leave_returned hleave

/-- A function is called and returns: the value and the world are the same for all callers. -/
def Ret (P : Program) (f : FuncId) (args : Array Value) (w : World) (v : Value) (w' : World) : Prop :=
  ∀ cs, ∃ fr, Steps P (lone (Frame.enter P f args .normal) cs w) (lone fr cs w') ∧ fr.fn = f ∧ fr.leaving P w' (.returned v)

theorem Ret.calls {f : FuncId} {args : Array Value} {v : Value} {w' : World} (h : Ret P f args w v w') : Calls P f args w fun e w2 => e = .returned v ∧ w2 = w' := by
  intro cs
  obtain ⟨fr, hs, hf, hl⟩ := h cs
  exact ⟨.returned v, w', fr, ⟨rfl, rfl⟩, hs, hf, hl⟩

structure EnvOk (P : Program) (E : Env) : Prop where
  fn : ∀ f args s v s', E.fn f args s = some (v, s') → ∀ ν w args', Sim ν s w → concs ν args = some args' →
    (∃ fn, P.funcs[f]? = some fn ∧ (fn.name == "runtime.NumGoroutine") = false ∧ fn.body.isNone = false) ∧
    ∃ ν' w' v', Ok ν s w ν' s' w' ∧ conc ν' v = some v' ∧ Ret P f args'.toArray w v' w'
  meth : ∀ t m f, E.meth t m = some f → ∀ v w, (method (P.types.size + Made.depth) t v m).run P w = .ok (f, v) w

theorem run_callFunc {f : FuncId} {fn : Func} (hf : P.funcs[f]? = some fn) (hn : (fn.name == "runtime.NumGoroutine") = false) (hb : fn.body.isNone = false) (args : Array Value) (w : World) : (callFunc f args).run P w = .ok (.enter f args) w := by
  simp only [callFunc, Sem.run_bind, run_program, Result.andThen_ok, hf, hn, hb, Bool.false_eq_true, if_false]
  rfl

variable {E : Env} {r : Regs} {s s' : S} {ν : Nu} {u : AV}

theorem args_list {c : Call} {xs : List Opd} (hr : RR ν r a) (h : prepOpds c.args.toList = some xs) : concs ν (xs.map (·.ev r)) = some (c.args.map a.eval).toList := by
  have := hr.opds h
  rwa [Array.toList_map]

theorem call_ok (hE : EnvOk P E) (ho : ops[i]? = some o) (hw : Region.wanted o (yielded ops a.tmps) = true) {c : Call} {f : FuncId} {xs : List Opd} (hop : o.op = .call c) (hc : c.callee = .value (.func f)) (hx : prepOpds c.args.toList = some xs)
    (hr : RR ν r a) (hs : Sim ν s w) (h : evI E (.call f xs) r s = some (u, s')) : ∃ ν' w' v', Ok ν s w ν' s' w' ∧ conc ν' u = some v' ∧ OpRun P ops i a w (a.put o.dst v') w' := by
  simp only [evI] at h
  obtain ⟨⟨fn, hf, hn, hb⟩, ν', w', v', hok, hv, hret⟩ := hE.fn f _ s u s' h ν w _ hs (args_list hr hx)
  refine ⟨ν', w', v', hok, hv, OpRun.enter ho hw (f := f) (args := c.args.map a.eval) ?_ ?_⟩
  · simp only [execOp, hop, Sem.run_bind, resolve, hc, Act.eval, Deferred.ofValue, Sem.run_pure, Result.andThen_ok, invoke]
    simp [run_callFunc hf hn hb]
  · intro cs
    obtain ⟨fr, h1, _, h2⟩ := hret cs
    exact ⟨fr, by rwa [Array.toArray_toList] at h1, h2⟩

theorem callv_ok (hE : EnvOk P E) (ho : ops[i]? = some o) (hw : Region.wanted o (yielded ops a.tmps) = true) {c : Call} {x : Operand} {y : Opd} {xs : List Opd} (hop : o.op = .call c) (hc : c.callee = .value x) (hy : prepOpd x = some y) (hx : prepOpds c.args.toList = some xs)
    (hr : RR ν r a) (hs : Sim ν s w) (h : evI E (.callv y xs) r s = some (u, s')) : ∃ ν' w' v', Ok ν s w ν' s' w' ∧ conc ν' u = some v' ∧ OpRun P ops i a w (a.put o.dst v') w' := by
  simp only [evI] at h
  have h1 := hr.opd hy
  split at h
  · rename_i f fs cps hfv
    rw [hfv] at h1
    simp only [conc, Option.bind_eq_some_iff, Option.map_eq_some_iff] at h1
    obtain ⟨f', hf', c', hc', h1⟩ := h1
    have hargs := concs_append (concs_append hf' (args_list hr hx)) hc'
    obtain ⟨⟨fn, hf, hn, hb⟩, ν', w', v', hok, hv, hret⟩ := hE.fn f _ s u s' h ν w _ hs hargs
    refine ⟨ν', w', v', hok, hv, OpRun.enter ho hw (f := f) (args := f'.toArray ++ c.args.map a.eval ++ c'.toArray) ?_ ?_⟩
    · simp only [execOp, hop, Sem.run_bind, resolve, hc, ← h1, Deferred.ofValue, Sem.run_pure, Result.andThen_ok, invoke]
      simp [run_callFunc hf hn hb]
    · intro cs
      obtain ⟨fr, h1, _, h2⟩ := hret cs
      refine ⟨fr, ?_, h2⟩
      have e : (f' ++ (c.args.map a.eval).toList ++ c').toArray = f'.toArray ++ c.args.map a.eval ++ c'.toArray := by simp
      rw [e] at h1
      exact h1
  · cases h

theorem inv_ok (hE : EnvOk P E) (ho : ops[i]? = some o) (hw : Region.wanted o (yielded ops a.tmps) = true) {c : Call} {x : Operand} {m : String} {y : Opd} {xs : List Opd} (hop : o.op = .call c) (hc : c.callee = .invoke x m) (hy : prepOpd x = some y) (hx : prepOpds c.args.toList = some xs)
    (hr : RR ν r a) (hs : Sim ν s w) (h : evI E (.inv y m xs) r s = some (u, s')) : ∃ ν' w' v', Ok ν s w ν' s' w' ∧ conc ν' u = some v' ∧ OpRun P ops i a w (a.put o.dst v') w' := by
  simp only [evI] at h
  have h1 := hr.opd hy
  split at h
  · rename_i t rv hrv
    rw [hrv] at h1
    obtain ⟨rv', hrv', h1⟩ := conc_iface h1
    split at h
    · rename_i f hm
      have hargs := concs_cons.2 ⟨_, _, hrv', args_list hr hx, rfl⟩
      obtain ⟨⟨fn, hf, hn, hb⟩, ν', w', v', hok, hv, hret⟩ := hE.fn f _ s u s' h ν w _ hs hargs
      refine ⟨ν', w', v', hok, hv, OpRun.enter ho hw (f := f) (args := #[rv'] ++ c.args.map a.eval) ?_ ?_⟩
      · have hmeth := hE.meth t m f hm rv' w
        have hex : (#[a.eval x] ++ c.args.map a.eval).extract 1 (#[a.eval x] ++ c.args.map a.eval).size = c.args.map a.eval := by
          apply Array.ext'
          simp [List.extract_eq_take_drop]
          exact List.take_of_length_le (by simp)
        have hz : (#[a.eval x] ++ c.args.map a.eval)[0]? = some (a.eval x) := by
          rw [Array.getElem?_append_left (by simp)]
          simp
        have hres : (resolve a.eval c o.type).run P w = .ok { target := .fn (.method m) #[], args := #[a.eval x] ++ c.args.map a.eval } w := by simp [resolve, hc]
        have hinv : invoke (.fn (.method m) #[]) (#[a.eval x] ++ c.args.map a.eval) = callMethod (a.eval x) m (c.args.map a.eval) := by
          rw [invoke, hz, hex]
        simp only [execOp, hop, Sem.run_bind, hres, Result.andThen_ok]
        rw [hinv, h1]
        simp only [callMethod, Sem.run_bind, run_program, Result.andThen_ok, hmeth]
        exact run_callFunc hf hn hb _ _
      · intro cs
        obtain ⟨fr, h1, _, h2⟩ := hret cs
        refine ⟨fr, ?_, h2⟩
        have e : (rv' :: (c.args.map a.eval).toList).toArray = #[rv'] ++ c.args.map a.eval := by simp
        rw [e] at h1
        exact h1
    · cases h
  · cases h
end
end Go.Ab
