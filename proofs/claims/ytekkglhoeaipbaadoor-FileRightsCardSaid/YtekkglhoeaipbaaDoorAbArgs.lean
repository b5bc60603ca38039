/- The abstract machine and the statement: a list of arguments is read. -/
import Derived.Test.YtekkglhoeaipbaaDoorAbRead
namespace Go.Ab
open Go.ChangeShapes Go.WideShapes
section
variable {H : Type} {enc : TypeId × Value → H} {P : Program} {W : World}

def topAV : Ty → List AV → AV
  | .struct _, cs => .agg cs
  | _, [a] => a
  | _, _ => .undef

/-- The arguments, as they are read. -/
inductive Args {H : Type} (s : S) : List Ty → List (DataW H) → List AV → Prop where
  | nil : Args s [] [] []
  | cons {y ys d ds as vs} (h : Has s y d as) (hr : Args s ys ds vs) : Args s (y :: ys) (d :: ds) (topAV y as :: vs)

inductive TysOk (P : Program) : List TypeId → List Ty → Prop where
  | nil : TysOk P [] []
  | cons {t ts y ys} (h : TyOk P t y) (hr : TysOk P ts ys) : TysOk P (t :: ts) (y :: ys)

theorem Args.mono {s s' : S} (h : Sub s s') (hc : s.ctr ≤ s'.ctr) : ∀ {ys : List Ty} {ds : List (DataW H)} {vs : List AV}, Args s ys ds vs → Args s' ys ds vs
  | _, _, _, .nil => .nil
  | _, _, _, .cons h1 h2 => .cons (h1.mono h hc) (Args.mono h hc h2)

theorem one_cell {ν : Nu} {as : List AV} {v : Value} (h : concs ν as = some [v]) : ∃ a, as = [a] ∧ conc ν a = some v := by
  have hl := concs_length h
  match as, hl with
  | [a], _ =>
    obtain ⟨v', r, hv, _, he⟩ := concs_cons.1 h
    simp only [List.cons.injEq] at he
    exact ⟨a, rfl, by rw [he.1]; exact hv⟩

theorem reads_arg {t : TypeId} {y : Ty} {r : Reach} {b0 : Nat} {v : Value} {d : DataW H} {ps : List MemPlace} (ht : TyOk P t y) (hval : Value.okWide P W r b0 t v) (h : DataW.Trod enc P W 0 (fun _ => true) true t v d ps) : ∀ ν s, Sim ν s W → Ro s →
    ∃ ν' s' as, Le ν ν' ∧ Ext s s' ∧ Sim ν' s' W ∧ Ro s' ∧ conc ν' (topAV y as) = some v ∧ Has s' y d as := by
  intro ν s hs hro
  obtain ⟨fuel, hf⟩ := h
  obtain ⟨ν', s', as, h1, h2, h3, h4, h5, h6, h7⟩ := reads ht fuel _ _ hf ν s hs hro
  refine ⟨ν', s', as, h1, h2, h3, h4, ?_, h6⟩
  cases ht with
  | struct hu hc hfs =>
    obtain ⟨cs, rfl, _⟩ := okWide_struct hu hval
    simp only [topAV, conc, Value.cells] at h5 ⊢
    rw [h5]
    simp
  | bool hu =>
    have : ∃ b, v = .bool b := by
      simp only [Value.okWide, hu, Cell.okWide] at hval
      cases v <;> simp_all [Cell.ok]
    obtain ⟨b, rfl⟩ := this
    obtain ⟨a, rfl, ha⟩ := one_cell h5
    exact ha
  | int hu =>
    obtain ⟨n, rfl⟩ := okWide_int hu hval
    obtain ⟨a, rfl, ha⟩ := one_cell h5
    exact ha
  | str hu =>
    obtain ⟨b, rfl⟩ := okWide_string hu hval
    obtain ⟨a, rfl, ha⟩ := one_cell h5
    exact ha
  | slice hu _ _ _ =>
    obtain ⟨a, l, c, rfl⟩ := okWide_slice hu hval
    obtain ⟨a, rfl, ha⟩ := one_cell h5
    exact ha

theorem reads_args {r : Reach} {b0 : Nat} : ∀ {ts : List TypeId} {ys : List Ty} {vs : List Value} {ds : List (DataW H)} {ps : List MemPlace}, TysOk P ts ys → (∀ (j : Nat) t v, ts[j]? = some t → vs[j]? = some v → Value.okWide P W r b0 t v) →
    DataW.TrodAll enc P W 0 (fun _ => true) true ts vs ds ps → ∀ ν s, Sim ν s W → Ro s → ∃ ν' s' avs, Le ν ν' ∧ Ext s s' ∧ Sim ν' s' W ∧ Ro s' ∧ concs ν' avs = some vs ∧ Args s' ys ds avs
  | _, _, _, _, _, .nil, _, h, ν, s, hs, hro => by
    obtain ⟨rfl, rfl, _⟩ := trodAll_nil h
    exact ⟨ν, s, [], Le.refl _, Ext.refl _, hs, hro, rfl, .nil⟩
  | _, _, _, _, _, .cons ht hts, hval, h, ν, s, hs, hro => by
    obtain ⟨v, vs', d, ds', p, q, rfl, rfl, rfl, h1, h2⟩ := trodAll_cons h
    obtain ⟨ν1, s1, as, a1, a2, a3, a4, a5, a6⟩ := reads_arg ht (hval 0 _ v rfl rfl) h1 ν s hs hro
    obtain ⟨ν2, s2, avs, b1, b2, b3, b4, b5, b6⟩ := reads_args hts (fun j t w hj hw => hval (j + 1) t w (by simpa using hj) (by simpa using hw)) h2 ν1 s1 a3 a4
    exact ⟨ν2, s2, topAV _ as :: avs, a1.trans b1, a2.trans b2, b3, b4, concs_cons.2 ⟨_, _, conc_mono b1 a5, b5, rfl⟩, .cons (a6.mono (a3.sub_of_ext b2) b2.ctr) b6⟩

/-- A slice of bytes among the arguments. -/
theorem Has.bytes {s : S} {d : DataW H} {as : List AV} (h : Has s (.slice (.int .u8)) d as) : ∃ v l, as = [v] ∧ Bytes s v l ∧ l.length ≤ maxLen ∧ (d = .nil ∧ l = [] ∨ ∃ ds rest, d = .slice ds rest ∧ ds.length = l.length) := by
  cases h with
  | nil => exact ⟨_, [], rfl, Bytes.nil s, by simp, .inl ⟨rfl, rfl⟩⟩
  | zero a => exact ⟨_, [], rfl, ⟨rfl, rfl, trivial, .inr (.inl ⟨a, rfl⟩), trivial⟩, by simp, .inr ⟨[], [], rfl, rfl⟩⟩
  | slice hg hb hl hc hm he =>
    rename_i b len cap ds rest es
    have key : ∀ {ds : List (DataW H)} {es : List (List AV)}, HasAll s (.int .u8) ds es → ∃ l : List UInt8, es.flatten = u8s l ∧ l.length = es.length ∧ ds.length = es.length := by
      intro ds es h
      induction es generalizing ds with
      | nil => cases h; exact ⟨[], rfl, rfl, rfl⟩
      | cons c es ih =>
        cases h with
        | cons h1 h2 h3 =>
          obtain ⟨l, e1, e2, e3⟩ := ih h3
          cases h1 with
          | int hw =>
            rename_i n
            refine ⟨UInt8.ofNat n.toNat :: l, ?_, by simp [e2], by simp [e3]⟩
            have hb : 0 ≤ n ∧ n < 256 := by
              simp [Lit.wf, IntKind.min, IntKind.max, IntKind.signed, IntKind.bits] at hw
              omega
            simp only [List.flatten_cons, e1, u8s, List.map_cons, List.singleton_append, List.cons.injEq, AV.int.injEq, true_and, and_true]
            simp
            omega
    obtain ⟨l, e1, e2, e3⟩ := key he
    refine ⟨_, l, rfl, ?_, by omega, .inr ⟨ds, rest, rfl, by omega⟩⟩
    rw [e1] at hg
    have hll : len = l.length := by omega
    subst hll
    refine ⟨rfl, ?_, hb, .inr (.inr (.inl ⟨_, _, _, _, _, rfl⟩)), hc⟩
    simp only [S.cellsOf, S.read, hg, Nat.mul_one, Nat.zero_add, u8s_length, Nat.le_refl, if_true, List.drop_zero]
    rw [List.take_of_length_le (by simp)]
end
end Go.Ab
