/- The abstract machine and the statement: a law's contract, from what it does in the abstract machine. -/
import Derived.Test.YtekkglhoeaipbaaDoorAbLaw
import Derived.Test.YtekkglhoeaipbaaDoorAbArgs
import Derived.SizedLaws
namespace Go.Ab
open Go.ChangeShapes Go.WideShapes

theorem law_contract {H : Type} {enc : TypeId × Value → H} {P : Program} {T : Tab} (hT : TabOk P T) {f : FuncId} {fn : Func} {s : ChangeSpec} {apart : Bool} {ys : List Ty} {tb : TypeId} (htys : TysOk P fn.params.toList ys) (hvars : s.vars = [])
    (hspec : ∀ ds : List (DataW H), ds.length = fn.params.size → (s.fn H ds).results = [.lit (.bool true)] ∧ (s.fn H ds).args = ds ∧ (s.fn H ds).vars = []) (hrt : fn.resultTypes = #[tb]) (htb : P.underlying tb = some .bool)
    (hl : laidOutB P = true) (hr : (fn.params.toList.all fun t => P.readableRec t && decide (t < P.types.size)) = true) {W : World} {base : Nat} {args : Array Value} {ds gs : List (DataW H)} {before : List MemPlace}
    (hval : ∀ (j : Nat) t v, fn.params[j]? = some t → args[j]? = some v → Value.okWide P W .any base t v)
    (hW : DataW.Whole enc P fn.params.toList s.vars apart W args.toList ds gs before) (hG : Gl W fun _ => False)
    (habs : ∀ (s : S) (avs : List AV), Args s ys ds avs → gs = [] → Ev T f avs s fun v _ => v = .bool true) :
    Calls P f args W fun e W' => ∃ v, e = .returned v ∧ s.post enc P fn apart true false false W args v W' := by
  have hW' := hW
  obtain ⟨p, q, hA, hV, rfl, hfz, hnd⟩ := hW
  have hgs : gs = [] := by
    rw [hvars] at hV
    cases gs with
    | nil => rfl
    | cons g gs => exact hV.elim
  subst hgs
  obtain ⟨ν, s0, avs, _, _, hs, hro, hc, hargs⟩ := reads_args (r := .any) (b0 := base) htys (fun j t v hj hv => hval j t v (by simpa using hj) (by simpa using hv)) hA _ _ (sim_none hG) (fun id o h => by cases h)
  have hlen : ∀ {ts : List TypeId} {vs : List Value} {ds : List (DataW H)} {p : List MemPlace}, DataW.TrodAll enc P W 0 (fun _ => true) true ts vs ds p → ds.length = ts.length := by
    intro ts
    induction ts with
    | nil => intro vs ds p h; obtain ⟨_, rfl, _⟩ := trodAll_nil h; rfl
    | cons t ts ih => intro vs ds p h; obtain ⟨_, _, _, _, _, _, rfl, rfl, _, _, h2⟩ := trodAll_cons h; simp [ih h2]
  have hd := hlen hA
  refine (law_calls hT (habs s0 avs hargs rfl) hs hc hro).mono ?_
  rintro e W' ⟨rfl, hh, hos, hout⟩
  refine ⟨_, rfl, law_post hW' hvars (hspec ds (by simpa using hd)) hrt htb hl (fun t ht => ?_) hh hos hout⟩
  have := List.all_eq_true.1 hr t ht
  simpa using this
end Go.Ab
