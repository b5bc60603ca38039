/- The abstract machine and the statement: a law's call, and what is read behind it. -/
import Derived.Test.YtekkglhoeaipbaaDoorAbWp
import Derived.WideKeyArgs
import Derived.ChangeSame
namespace Go.Ab
open Go.ChangeShapes Go.WideShapes

/-- A law that holds in the abstract machine returns true in the model, and leaves memory as it was. -/
theorem law_calls {P : Program} {T : Tab} (hT : TabOk P T) {f : FuncId} {avs : List AV} {s : S} (hev : Ev T f avs s fun v _ => v = .bool true) {ν : Nu} {W : World} {args : Array Value} (hs : Sim ν s W) (ha : concs ν avs = some args.toList)
    (ro : ∀ id o, s.get id = some o → o.rw = false) :
    Calls P f args W fun e W' => e = .returned (.bool true) ∧ (∀ b, b < W.heap.size → W'.heap[b]? = W.heap[b]?) ∧ W'.os = W.os ∧ W'.output = W.output := by
  obtain ⟨N, v, s', rfl, hn⟩ := hev
  obtain ⟨ν', w', v', hok, hc, hret⟩ := call_run hT (hn N (Nat.le_refl _)) hs ha
  simp only [conc, Option.some.injEq] at hc
  subst hc
  rw [Array.toArray_toList] at hret
  refine hret.calls.mono ?_
  rintro e W' ⟨rfl, rfl⟩
  refine ⟨rfl, fun b hb => hok.frame b hb ?_, hok.os, hok.output⟩
  rintro ⟨id, o, L, hg, hrw, _⟩
  rw [ro id o hg] at hrw
  cases hrw

section
variable {H : Type} {enc : TypeId × Value → H} {P : Program} {W W' : World}

theorem same_cell (h : ∀ b, b < W.heap.size → W'.heap[b]? = W.heap[b]?) {p : MemPlace} (hp : p.block < W.heap.size) : W.sameAt W' p := by
  cases p with
  | cell b off => simp only [World.sameAt, World.cell?, h b hp]
  | map b => exact h b hp

theorem args_stay (hl : laidOutB P = true) (hh : ∀ b, b < W.heap.size → W'.heap[b]? = W.heap[b]?) {sp : Nat → Bool} : ∀ {ts : List TypeId} {vs : List Value} {ds : List (DataW H)} {ps : List MemPlace},
    DataW.TrodAll enc P W 0 (fun _ => true) true ts vs ds ps → (∀ t ∈ ts, P.readableRec t = true ∧ t < P.types.size) → (∀ p ∈ ps, p.block < W.heap.size) → (∀ p ∈ ps, sp p.block = true) → DataW.TrodAll enc P W' 0 sp true ts vs ds ps
  | [], vs, ds, ps, h, _, _, _ => by
    obtain ⟨rfl, rfl, rfl⟩ := trodAll_nil h
    rfl
  | t :: ts, vs, ds, ps, h, ht, hb, hsp => by
    obtain ⟨v, vs', d, ds', p, q, rfl, rfl, rfl, h1, h2⟩ := trodAll_cons h
    have h3 := ht t (by simp)
    exact ⟨p, q, Go.WideElems.Trod_stays hl h3.1 h3.2 h1 (fun x hx => same_cell hh (hb x (by simp [hx]))) (fun x hx => hsp x (by simp [hx])),
      args_stay hl hh h2 (fun u hu => ht u (by simp [hu])) (fun x hx => hb x (by simp [hx])) (fun x hx => hsp x (by simp [hx])), rfl⟩

theorem kept_of_same (h : ∀ b, b < W.heap.size → W'.heap[b]? = W.heap[b]?) (hos : W'.os = W.os) (hout : W'.output = W.output) (may : MemPlace → Prop) : W.keptBut W' may := by
  refine ⟨hos, hout, fun i hi => ?_⟩
  rw [h i hi]
  cases W.heap[i]? with
  | none => trivial
  | some o =>
    cases o with
    | cells c t fr => exact ⟨rfl, rfl, rfl, fun _ _ => rfl⟩
    | map es clock => exact .inr ⟨rfl, rfl⟩
    | _ => rfl

theorem law_post {f : Func} {s : ChangeSpec} {apart : Bool} {args : Array Value} {ds gs : List (DataW H)} {before : List MemPlace} {tb : TypeId} (hW : DataW.Whole enc P f.params.toList s.vars apart W args.toList ds gs before)
    (hvars : s.vars = []) (hspec : (s.fn H ds).results = [.lit (.bool true)] ∧ (s.fn H ds).args = ds ∧ (s.fn H ds).vars = []) (hrt : f.resultTypes = #[tb]) (htb : P.underlying tb = some .bool)
    (hl : laidOutB P = true) (hr : ∀ t ∈ f.params.toList, P.readableRec t = true ∧ t < P.types.size) (hh : ∀ b, b < W.heap.size → W'.heap[b]? = W.heap[b]?) (hos : W'.os = W.os) (hout : W'.output = W.output) :
    s.post enc P f apart true false false W args (.bool true) W' := by
  have hlt := hW.lt
  have hW' := hW
  obtain ⟨p, q, hA, hV, rfl, hfz, hnd⟩ := hW
  rw [hvars] at hV
  have hgs : gs = [] ∧ q = [] := by
    cases gs with
    | nil => exact ⟨rfl, hV⟩
    | cons g gs => exact hV.elim
  obtain ⟨rfl, rfl⟩ := hgs
  rw [List.append_nil] at hlt
  have hold : ∀ x ∈ p, (fun b => decide (b < W.heap.size)) x.block = true := fun x hx => by simpa using hlt x hx
  refine ⟨ds, [], p ++ [], [], p, [], hW', ?_, ?_, ?_, kept_of_same hh hos hout _, fun h => by cases h⟩
  · rw [hrt, List.append_nil, hspec.1]
    exact ⟨[], [], ⟨1, by simp [Value.cells, DataW.trod, htb]⟩, rfl, rfl⟩
  · rw [List.append_nil, hspec.2.1]
    exact args_stay hl hh hA hr hlt hold
  · rw [hvars, List.append_nil, hspec.2.2]
    rfl
end
end Go.Ab
