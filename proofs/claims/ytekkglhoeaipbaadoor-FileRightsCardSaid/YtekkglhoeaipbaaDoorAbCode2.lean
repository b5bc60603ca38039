/- The abstract machine and the model's: functions. -/
import Derived.Test.YtekkglhoeaipbaaDoorAbCode1
namespace Go.Ab

def prepRes (P : Program) : ResultVar → Option PR
  | .tmp t => some (.tmp t)
  | .cell a t => (tsize P t).bind fun n => (tagg P t).map fun g => .cell a n g

def prepF (P : Program) (fn : Func) : Option PF :=
  match fn.body with
  | none => none
  | some c => (fn.results.toList.mapM (prepRes P)).bind fun res => (prepC P fn.ntmps c).bind fun b =>
    if fn.params.size + fn.nfree ≤ fn.ntmps ∧ (fn.name == "runtime.NumGoroutine") = false then some ⟨fn.params.size + fn.nfree, fn.ntmps, res, b⟩ else none

def resSem (tmps : Array Value) : ResultVar → Sem Value
  | .tmp t => pure (tmps.getD t Go.undef)
  | .cell a t => do loadVar t (← asAddr (tmps.getD a Go.undef))

theorem results_eq (fn : Func) (tmps : Array Value) : results fn tmps = (do
    let vs ← fn.results.mapM (resSem tmps)
    pure (if h : vs.size = 1 then vs[0] else .tuple vs)) := rfl

structure PrimOk (P : Program) (f : FuncId) (p : List AV → S → Option (AV × S)) : Prop where
  run : ∀ args s v s', p args s = some (v, s') → ∀ ν w args', Sim ν s w → concs ν args = some args' →
    (∃ fn, P.funcs[f]? = some fn ∧ (fn.name == "runtime.NumGoroutine") = false ∧ fn.body.isNone = false) ∧
    ∃ ν' w' v', Ok ν s w ν' s' w' ∧ conc ν' v = some v' ∧ Ret P f args'.toArray w v' w'

structure TabOk (P : Program) (T : Tab) : Prop where
  follows : P.follows .mixedOrders = true
  fn : ∀ f pf, T.fn f = some pf → ∃ fn, P.funcs[f]? = some fn ∧ prepF P fn = some pf
  prim : ∀ f p, T.prim f = some p → PrimOk P f p
  meth : ∀ t m f, T.meth t m = some f → ∀ v w, (method (P.types.size + Made.depth) t v m).run P w = .ok (f, v) w

section
variable {P : Program} {nt : Nat} {ν : Nu} {r : Regs} {a : Act} {s : S} {w : World}

theorem res_one {rv : ResultVar} {p : PR} (hp : prepRes P rv = some p) (hr : RR ν r a) (hs : Sim ν s w) {l : List AV} (h : resA r s [p] = some l) : ∃ u v, l = [u] ∧ conc ν u = some v ∧
    (resSem a.tmps rv).run P w = .ok v w := by
  cases rv with
  | tmp t =>
    simp only [prepRes, Option.some.injEq] at hp
    subst hp
    simp only [resA, Option.map_some, Option.some.injEq] at h
    subst h
    exact ⟨_, _, rfl, hr t, by simp [resSem]⟩
  | cell x t =>
    simp only [prepRes, Option.bind_eq_some_iff, Option.map_eq_some_iff] at hp
    obtain ⟨n, hn, g, hg, rfl⟩ := hp
    simp only [resA] at h
    split at h
    · rename_i b off hx
      have hv := hr x
      rw [hx] at hv
      obtain ⟨L, hL, hv⟩ := conc_ptr hv
      split at h
      · rename_i c hrd
        obtain ⟨m, hm, hrun⟩ := hs.loadCells (P := P) hrd hL
        cases g with
        | true =>
          simp only [if_true, Option.map_some, Option.some.injEq] at h
          subst h
          refine ⟨_, .agg m.toArray, rfl, by simp [conc, hm], ?_⟩
          simp only [resSem, hv]
          simp [asAddr, loadVar, run_isAgg hg, run_sizeOf hn, hrun]
        | false =>
          simp only [Bool.false_eq_true, if_false] at h
          split at h
          · rename_i y
            simp only [Option.map_some, Option.some.injEq] at h
            subst h
            obtain ⟨y', r', hy', hr', rfl⟩ := concs_cons.1 hm
            simp only [concs, Option.some.injEq] at hr'
            subst hr'
            refine ⟨_, y', rfl, hy', ?_⟩
            obtain ⟨m2, hm2, hc2⟩ := hs.read hrd hL
            rw [hm] at hm2
            simp only [Option.some.injEq] at hm2
            subst hm2
            have := hc2 0 y' rfl
            rw [Nat.add_zero] at this
            simp only [resSem, hv]
            simp [asAddr, loadVar, run_isAgg hg, this]
          · cases h
      · cases h
    · cases h

theorem resA_cons {p : PR} {ps : List PR} {l : List AV} (h : resA r s (p :: ps) = some l) : ∃ u l', resA r s [p] = some [u] ∧ resA r s ps = some l' ∧ l = u :: l' := by
  cases p with
  | tmp t =>
    simp only [resA, Option.map_eq_some_iff] at h ⊢
    obtain ⟨l', hl', rfl⟩ := h
    exact ⟨_, l', ⟨[], rfl, rfl⟩, hl', rfl⟩
  | cell t n g =>
    simp only [resA] at h ⊢
    split at h
    · split at h
      · cases g with
        | true =>
          simp only [if_true, Option.map_eq_some_iff] at h ⊢
          obtain ⟨l', hl', rfl⟩ := h
          exact ⟨_, l', ⟨[], rfl, rfl⟩, hl', rfl⟩
        | false =>
          simp only [Bool.false_eq_true, if_false] at h ⊢
          split at h
          · simp only [Option.map_eq_some_iff] at h ⊢
            obtain ⟨l', hl', rfl⟩ := h
            exact ⟨_, l', ⟨[], rfl, rfl⟩, hl', rfl⟩
          · cases h
      · cases h
    · cases h

theorem res_list : ∀ {rvs : List ResultVar} {ps : List PR} {l : List AV}, rvs.mapM (prepRes P) = some ps → RR ν r a → Sim ν s w → resA r s ps = some l → ∃ m, concs ν l = some m ∧
    (rvs.mapM (resSem a.tmps)).run P w = .ok m w
  | [], ps, l, hp, hr, hs, h => by
    simp at hp
    subst hp
    simp only [resA, Option.some.injEq] at h
    subst h
    exact ⟨[], rfl, by simp⟩
  | rv :: rvs, ps, l, hp, hr, hs, h => by
    simp only [List.mapM_cons, Option.pure_def, Option.bind_eq_bind, Option.bind_eq_some_iff, Option.some.injEq] at hp
    obtain ⟨p, hp1, ps', hp2, rfl⟩ := hp
    obtain ⟨u, l', h1, h2, rfl⟩ := resA_cons h
    obtain ⟨u', v, hu, hv, hrun⟩ := res_one hp1 hr hs h1
    simp only [List.cons.injEq, and_true] at hu
    subst hu
    obtain ⟨m, hm, hrun2⟩ := res_list hp2 hr hs h2
    refine ⟨v :: m, concs_cons.2 ⟨_, _, hv, hm, rfl⟩, ?_⟩
    simp only [List.mapM_cons, Sem.run_bind, hrun, Result.andThen_ok, hrun2, Sem.run_pure]

theorem results_run {fn : Func} {ps : List PR} {l : List AV} (hp : fn.results.toList.mapM (prepRes P) = some ps) (hr : RR ν r a) (hs : Sim ν s w) (h : resA r s ps = some l) :
    ∃ v, conc ν (packA l) = some v ∧ (results fn a.tmps).run P w = .ok v w := by
  obtain ⟨m, hm, hrun⟩ := res_list hp hr hs h
  have harr : (fn.results.mapM (resSem a.tmps)).run P w = .ok m.toArray w := by
    rw [Array.mapM_eq_mapM_toList]
    show Sem.run P ((fn.results.toList.mapM (resSem a.tmps)) >>= fun l => pure l.toArray) w = _
    rw [Sem.run_bind, hrun]
    simp
  have hlen := concs_length hm
  have hbody : (results fn a.tmps).run P w = .ok (if h : m.toArray.size = 1 then m.toArray[0] else .tuple m.toArray) w := by
    rw [results_eq, Sem.run_bind, harr]
    simp only [Result.andThen_ok, Sem.run_pure]
  rw [hbody]
  match l, m, hlen, hm with
  | [], [], _, hm => exact ⟨_, by simp [packA, conc, concs], rfl⟩
  | [u], [v], _, hm =>
    obtain ⟨v', r', hv, _, he⟩ := concs_cons.1 hm
    simp only [List.cons.injEq] at he
    refine ⟨v, ?_, rfl⟩
    rw [he.1]; exact hv
  | u :: u2 :: l, v :: v2 :: m, _, hm =>
    refine ⟨_, ?_, rfl⟩
    simp only [packA, conc, hm, Option.map_some]
    rw [dif_neg (by simp)]

theorem init_ra {args : List AV} {args' : List Value} (h : concs ν args = some args') (hle : args.length ≤ nt) : RA ν nt (initA args) { tmps := args'.toArray ++ Array.replicate (nt - args'.toArray.size) Go.undef, defers := [] } := by
  have hlen := concs_length h
  refine ⟨fun t => ?_, by simp [hlen]; omega, rfl⟩
  simp only [initA]
  rcases Nat.lt_or_ge t args.length with hlt | hge
  · have h1 : args[t]? = some args[t] := List.getElem?_eq_getElem hlt
    obtain ⟨v', h2, h3⟩ := concs_get t h h1
    have h4 : (args'.toArray ++ Array.replicate (nt - args'.toArray.size) Go.undef)[t]? = some v' := by
      rw [Array.getElem?_append_left (by simpa [hlen] using hlt)]
      simpa using h2
    rw [Array.getD_eq_getD_getElem?, h4, List.getD_eq_getElem?_getD, h1]
    exact h3
  · have h1 : args[t]? = none := List.getElem?_eq_none hge
    have h4 : (args'.toArray ++ Array.replicate (nt - args'.toArray.size) Go.undef).getD t Go.undef = Go.undef := by
      rw [Array.getD_eq_getD_getElem?, Array.getElem?_append_right (by simpa [hlen] using hge)]
      rcases Nat.lt_or_ge (t - args'.toArray.size) (nt - args'.toArray.size) with h | h
      · rw [Array.getElem?_replicate, if_pos h]; rfl
      · rw [Array.getElem?_replicate, if_neg (by omega)]; rfl
    rw [h4]
    simp only [List.getD_eq_getElem?_getD, h1, Option.getD_none]
    rfl

theorem evFn_ok {T : Tab} (hT : TabOk P T) : ∀ n, EnvOk P ⟨evFn T n, T.meth⟩ := by
  intro n
  induction n with
  | zero => exact ⟨fun f args s v s' h => by simp [evFn] at h, hT.meth⟩
  | succ n ih =>
    refine ⟨fun f args s v s' h ν w args' hs hargs => ?_, hT.meth⟩
    simp only [evFn] at h
    split at h
    · rename_i p hp
      exact (hT.prim f p hp).run args s v s' h ν w args' hs hargs
    · split at h
      · rename_i pf hpf
        obtain ⟨fn, hf, hprep⟩ := hT.fn f pf hpf
        split at h
        · rename_i hlen
          unfold prepF at hprep
          split at hprep
          · cases hprep
          · rename_i c hbody
            simp only [Option.bind_eq_some_iff] at hprep
            obtain ⟨res, hres, pc, hpc, hprep⟩ := hprep
            split at hprep
            · rename_i hcond
              simp only [Option.some.injEq] at hprep
              subst hprep
              refine ⟨⟨fn, hf, hcond.2, by rw [hbody]; rfl⟩, ?_⟩
              simp only at hlen h
              obtain ⟨e, r', s1, hk, hrun⟩ := evC_run ih hT.follows n c pc hpc _ _ _ _ h
              have hra := init_ra (nt := fn.ntmps) hargs (by rw [hlen]; exact hcond.1)
              let b : Frame := { (default : Frame) with fn := f, kind := .normal }
              have henter : Frame.enter P f args'.toArray .normal = b.at { tmps := args'.toArray ++ Array.replicate (fn.ntmps - args'.toArray.size) Go.undef, defers := [] } [.code c] := by
                simp [Frame.enter, Frame.at, hf, hbody, b]
              obtain ⟨ν', a', w', hok, hra', hcr⟩ := hrun b ν _ w hra hs
              cases e with
              | exit i => simp [finA] at hk
              | normal =>
                simp only [finA, Option.map_eq_some_iff, Prod.mk.injEq] at hk
                obtain ⟨l, hl, rfl, rfl⟩ := hk
                obtain ⟨v', hv', hrr⟩ := results_run hres hra'.rr hok.sim hl
                refine ⟨ν', w', v', hok, hv', fun cs => ?_⟩
                rw [henter]
                exact ⟨{ b.at a' [] with mode := .returning }, (show Steps P _ _ from hcr [] cs).trans (.one step_end), rfl, rfl, hra'.noDefers, rfl, fn, hf, hrr⟩
              | ret =>
                simp only [finA, Option.map_eq_some_iff, Prod.mk.injEq] at hk
                obtain ⟨l, hl, rfl, rfl⟩ := hk
                obtain ⟨v', hv', hrr⟩ := results_run hres hra'.rr hok.sim hl
                refine ⟨ν', w', v', hok, hv', fun cs => ?_⟩
                rw [henter]
                obtain ⟨todo, hst⟩ := hcr [] cs
                exact ⟨{ b.at a' todo with mode := .returning }, hst, rfl, rfl, hra'.noDefers, rfl, fn, hf, hrr⟩
            · cases hprep
        · cases h
      · cases h

/-- A run of the abstract machine stands for a call in the model. -/
theorem call_run {T : Tab} (hT : TabOk P T) {n : Nat} {f : FuncId} {args : List AV} {v : AV} {s s' : S} (h : evFn T n f args s = some (v, s')) {args' : List Value} (hs : Sim ν s w) (ha : concs ν args = some args') :
    ∃ ν' w' v', Ok ν s w ν' s' w' ∧ conc ν' v = some v' ∧ Ret P f args'.toArray w v' w' :=
  ((evFn_ok hT n).fn f args s v s' h ν w args' hs ha).2
end
end Go.Ab
