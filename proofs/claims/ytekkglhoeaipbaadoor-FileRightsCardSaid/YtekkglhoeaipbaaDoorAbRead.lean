/- The abstract machine and the statement: arguments of bools, integers, strings, slices and structs are read into an abstract state that may not be written. -/
import Derived.Test.YtekkglhoeaipbaaDoorAbExt
import Derived.ChangeSame
import Derived.ChangeArms
import Derived.DataReads
import Derived.Deep.Slices
namespace Go.Ab
open Go.Deep

inductive Ty where
  | bool
  | int (k : IntKind)
  | str
  | slice (e : Ty)
  | struct (fs : List Ty)
  deriving Inhabited

mutual
def Ty.size : Ty → Nat
  | .struct fs => Ty.sizes fs
  | _ => 1
def Ty.sizes : List Ty → Nat
  | [] => 0
  | t :: ts => t.size + Ty.sizes ts
end

mutual
/-- A type as it is laid out here. -/
inductive TyOk (P : Program) : TypeId → Ty → Prop where
  | bool {t} (h : P.underlying t = some .bool) : TyOk P t .bool
  | int {t k} (h : P.underlying t = some (.int k)) : TyOk P t (.int k)
  | str {t} (h : P.underlying t = some .string) : TyOk P t .str
  | slice {t e y} (h : P.underlying t = some (.slice e)) (hs : P.cellsOf e = y.size) (hp : 0 < y.size) (he : TyOk P e y) : TyOk P t (.slice y)
  | struct {t fs ys} (h : P.underlying t = some (.struct fs)) (hc : P.cellsOf t = Ty.sizes ys) (hf : FieldsOk P 0 fs.toList ys) : TyOk P t (.struct ys)
inductive FieldsOk (P : Program) : Nat → List Field → List Ty → Prop where
  | nil {off} : FieldsOk P off [] []
  | cons {off f fs y ys} (h : f.offset = off) (hc : P.cellsOf f.type = y.size) (ht : TyOk P f.type y) (hr : FieldsOk P (off + y.size) fs ys) : FieldsOk P off (f :: fs) (y :: ys)
end

section
variable {H : Type}

mutual
/-- What a reading is in the abstract state. -/
inductive Has (s : S) : Ty → DataW H → List AV → Prop where
  | bool (b : Bool) : Has s .bool (.lit (.bool b)) [.bool b]
  | int {k n} (h : (Lit.int k n).wf = true) : Has s (.int k) (.lit (.int k n)) [.int k n]
  | str {l : List UInt8} (h : l.length ≤ maxLen) : Has s .str (.lit (.string l)) [.str l]
  | nil {y} : Has s (.slice y) .nil [.snil]
  | zero {y} (a : Addr) : Has s (.slice y) (.slice [] []) [.zsl a]
  | slice {y b len cap ds rest es} (hg : s.get b = some (.cells es.flatten 0 true)) (hb : b < s.ctr) (hl : es.length = len) (hc : len ≤ cap) (hm : cap ≤ maxLen) (he : HasAll s y ds es) : Has s (.slice y) (.slice ds rest) [.slice b 0 len cap false]
  | struct {ys ds cs} (h : HasFs s ys ds cs) : Has s (.struct ys) (.agg ds) cs
inductive HasAll (s : S) : Ty → List (DataW H) → List (List AV) → Prop where
  | nil {y} : HasAll s y [] []
  | cons {y d ds c cs} (h : Has s y d c) (hl : c.length = y.size) (hr : HasAll s y ds cs) : HasAll s y (d :: ds) (c :: cs)
inductive HasFs (s : S) : List Ty → List (DataW H) → List AV → Prop where
  | nil : HasFs s [] [] []
  | cons {y ys d ds c cs} (h : Has s y d c) (hl : c.length = y.size) (hr : HasFs s ys ds cs) : HasFs s (y :: ys) (d :: ds) (c ++ cs)
end

mutual
theorem Has.mono {s s' : S} (h : Sub s s') (hc : s.ctr ≤ s'.ctr) : ∀ {y : Ty} {d : DataW H} {c : List AV}, Has s y d c → Has s' y d c
  | _, _, _, .bool b => .bool b
  | _, _, _, .int w => .int w
  | _, _, _, .str w => .str w
  | _, _, _, .nil => .nil
  | _, _, _, .zero a => .zero a
  | _, _, _, .slice hg hb hl hcap hm he => .slice (h _ _ hg) (Nat.lt_of_lt_of_le hb hc) hl hcap hm (HasAll.mono h hc he)
  | _, _, _, .struct hf => .struct (HasFs.mono h hc hf)
theorem HasAll.mono {s s' : S} (h : Sub s s') (hc : s.ctr ≤ s'.ctr) : ∀ {y : Ty} {d : List (DataW H)} {c : List (List AV)}, HasAll s y d c → HasAll s' y d c
  | _, _, _, .nil => .nil
  | _, _, _, .cons h1 h2 h3 => .cons (Has.mono h hc h1) h2 (HasAll.mono h hc h3)
theorem HasFs.mono {s s' : S} (h : Sub s s') (hc : s.ctr ≤ s'.ctr) : ∀ {y : List Ty} {d : List (DataW H)} {c : List AV}, HasFs s y d c → HasFs s' y d c
  | _, _, _, .nil => .nil
  | _, _, _, .cons h1 h2 h3 => .cons (Has.mono h hc h1) h2 (HasFs.mono h hc h3)
end
end

/-- Nothing may be written. -/
def Ro (s : S) : Prop := ∀ id o, s.get id = some o → o.rw = false

theorem Sim.sub_of_ext {ν : Nu} {s s' : S} {w : World} (hs : Sim ν s w) (h : Ext s s') : Sub s s' := fun id o ho => by
  rw [h.get id (hs.lt ho)]; exact ho

theorem sim_ro {ν : Nu} {s : S} {w : World} (hs : Sim ν s w) (hro : Ro s) {L : Loc} {c : List AV} (ho : ORel ν L (.cells c 0 true) w.heap[L.blk]?) :
    Sim (nuSet ν s.ctr L) (s.new (.cells c 0 true)) w ∧ Ro (s.new (.cells c 0 true)) ∧ Le ν (nuSet ν s.ctr L) := by
  have hn : ν s.ctr = none := hs.top _ (Nat.le_refl _)
  have hle : Le ν (nuSet ν s.ctr L) := le_nuSet hn
  have hro' : Ro (s.new (.cells c 0 true)) := by
    intro id o h
    rw [S.get_new] at h
    split at h
    · simp only [Option.some.injEq] at h; subst h; rfl
    · exact hro id o h
  refine ⟨⟨fun id o M hg hM => ?_, fun id id' o o' M M' hg _ _ _ _ hrw => ?_, Fresh.new hs.fresh _, fun id hid => ?_, hs.glob.go (fun _ _ _ => rfl) ?_⟩, hro', hle⟩
  · rw [S.get_new] at hg
    by_cases hid : id = s.ctr
    · rw [if_pos hid] at hg
      simp only [Option.some.injEq] at hg; subst hg
      simp only [nuSet, hid, if_true, Option.some.injEq] at hM; subst hM
      exact ho.mono hle
    · rw [if_neg hid] at hg
      simp only [nuSet, hid, if_false] at hM
      exact (hs.obj id o M hg hM).mono hle
  · rw [hro' id o hg] at hrw; cases hrw
  · rw [S.ctr_new] at hid
    simp only [nuSet, if_neg (show ¬ id = s.ctr by omega)]
    exact hs.top id (by omega)
  · rintro _ _ ⟨id, o, M, hg, hrw, _⟩
    rw [hro' id o hg] at hrw; cases hrw

theorem add_add (a : Addr) (i j : Nat) : (a.add i).add j = a.add (i + j) := by
  unfold Addr.add
  by_cases hj : j = 0
  · subst hj; simp
  · by_cases hi : i = 0
    · subst hi; simp [hj]
    · simp [hj, hi, Nat.add_assoc]

section
variable {H : Type} {enc : TypeId × Value → H} {P : Program} {W : World}

/-- One value is read. -/
def Reads (enc : TypeId × Value → H) (P : Program) (W : World) (n : Nat) (t : TypeId) (y : Ty) : Prop :=
  ∀ cs x, DataW.trod enc P W 0 (fun _ => true) true n t cs = some x → ∀ ν s, Sim ν s W → Ro s →
    ∃ ν' s' as, Le ν ν' ∧ Ext s s' ∧ Sim ν' s' W ∧ Ro s' ∧ concs ν' as = some cs ∧ Has s' y x.1 as ∧ as.length = y.size

theorem reads_elems {n : Nat} {e : TypeId} {y : Ty} (hr : Reads enc P W n e y) (hsz : P.cellsOf e = y.size) {a : Addr} {D : Nat → DataW H} {Pl : Nat → List MemPlace} : ∀ (m i0 : Nat),
    (∀ i, i0 ≤ i → i < i0 + m → ∃ cs', W.cells? 0 (a.add (i * P.cellsOf e)) (P.cellsOf e) = some cs' ∧ DataW.trod enc P W 0 (fun _ => true) true n e cs' = some (D i, Pl i)) → ∀ ν s, Sim ν s W → Ro s →
    ∃ ν' s' es, Le ν ν' ∧ Ext s s' ∧ Sim ν' s' W ∧ Ro s' ∧ HasAll s' y ((List.range' i0 m).map D) es ∧ es.length = m ∧
      ∃ vs, concs ν' es.flatten = some vs ∧ ∀ j v, vs[j]? = some v → W.cell? (a.add (i0 * y.size + j)) = some v
  | 0, i0, _, ν, s, hs, hro => ⟨ν, s, [], Le.refl _, Ext.refl _, hs, hro, .nil, rfl, [], rfl, by simp⟩
  | m + 1, i0, hx, ν, s, hs, hro => by
    obtain ⟨cs', h1, h2⟩ := hx i0 (Nat.le_refl _) (by omega)
    obtain ⟨ν1, s1, as, hle1, hext1, hs1, hro1, hc1, hh1, hl1⟩ := hr _ _ h2 ν s hs hro
    obtain ⟨ν2, s2, es, hle2, hext2, hs2, hro2, hall, hlen, vs, hvs, hcell⟩ := reads_elems hr hsz m (i0 + 1) (fun i hi hi' => hx i (by omega) (by omega)) ν1 s1 hs1 hro1
    obtain ⟨_, hlc, hcc⟩ := World.cells?_some h1
    have hsub := hs1.sub_of_ext hext2
    refine ⟨ν2, s2, as :: es, hle1.trans hle2, hext1.trans hext2, hs2, hro2, .cons (hh1.mono hsub hext2.ctr) hl1 hall, by simp [hlen], cs' ++ vs, ?_, ?_⟩
    · simp only [List.flatten_cons]
      exact concs_append (concs_mono hle2 hc1) hvs
    · intro j v hj
      rw [hsz] at hlc hcc
      by_cases hjl : j < cs'.length
      · rw [List.getElem?_append_left hjl] at hj
        have := hcc j (by omega)
        rw [add_add] at this
        rw [this]; exact hj
      · rw [List.getElem?_append_right (by omega)] at hj
        have := hcell (j - cs'.length) v hj
        rw [hlc] at this hjl
        have e : (i0 + 1) * y.size + (j - y.size) = i0 * y.size + j := by
          rw [Nat.add_mul, Nat.one_mul]; omega
        rw [e] at this
        exact this

theorem cell_cells {a : Addr} {v : Value} (h : W.cell? a = some v) : a.spot = none ∧ ∃ C elem fr, W.heap[a.block]? = some (.cells C elem fr) ∧ C[a.off]? = some v := by
  refine ⟨World.cell?_spot h, ?_⟩
  have hsp := World.cell?_spot h
  unfold World.cell? at h
  split at h
  · rename_i C elem fr hx
    rw [hsp] at h
    exact ⟨C, elem, fr, hx, by simpa using h⟩
  · cases h

theorem reads_slice {n : Nat} {t e : TypeId} {y : Ty} (ht : P.underlying t = some (.slice e)) (hsz : P.cellsOf e = y.size) (hp : 0 < y.size) (hr : ∀ n, Reads enc P W n e y) : Reads enc P W n t (.slice y) := by
  intro cs x hx ν s hs hro
  rcases open_slice ht hx with ⟨rfl, rfl⟩ | ⟨a, len, cap, m, k, D, Pl, rfl, _, hlc, hcm, hm, rfl, hel⟩
  · exact ⟨ν, s, [.snil], Le.refl _, Ext.refl _, hs, hro, rfl, .nil, rfl⟩
  · simp only [if_true] at hm
    subst hm
    by_cases hc0 : m = 0
    · subst hc0
      have hl0 : len = 0 := by omega
      subst hl0
      exact ⟨ν, s, [.zsl a], Le.refl _, Ext.refl _, hs, hro, rfl, .zero a, rfl⟩
    · obtain ⟨cs0, h01, _⟩ := hel 0 (by omega)
      obtain ⟨_, hl0, hc0'⟩ := World.cells?_some h01
      have h00 := hc0' 0 (by omega)
      have hv0 : ∃ v0, cs0[0]? = some v0 := ⟨cs0[0]'(by omega), List.getElem?_eq_getElem (by omega)⟩
      obtain ⟨v0, hv0⟩ := hv0
      rw [hv0, add_add, Nat.zero_mul, Nat.zero_add] at h00
      have ha0 : a.add 0 = a := by simp [Addr.add]
      rw [ha0] at h00
      obtain ⟨hsp, C, elem, fr, hheap, _⟩ := cell_cells h00
      obtain ⟨blk, off, spot⟩ := a
      simp only at hsp hheap
      subst hsp
      obtain ⟨ν1, s1, es, hle1, hext1, hs1, hro1, hall, hlen, vs, hvs, hcell⟩ := reads_elems (hr k) hsz len 0 (fun i _ hi => hel i (by omega)) ν s hs hro
      have hrange : (List.range' 0 len).map D = (List.range len).map D := by rw [List.range_eq_range']
      rw [hrange] at hall
      have hvl := concs_length hvs
      have hor : ORel ν1 ⟨blk, off, 0⟩ (.cells es.flatten 0 true) W.heap[blk]? := by
        refine ⟨C, elem, fr, hheap, fun i v hi => ?_, fun h => (by cases h), fun h => absurd rfl h⟩
        obtain ⟨v', hv', hcv⟩ := concs_get i hvs hi
        have := hcell i v' hv'
        rw [Nat.zero_mul, Nat.zero_add, addr_add] at this
        obtain ⟨_, C2, e2, fr2, hh2, hv2⟩ := cell_cells this
        simp only at hh2 hv2
        rw [hheap] at hh2
        simp only [Option.some.injEq, Obj.cells.injEq] at hh2
        obtain ⟨rfl, _, _⟩ := hh2
        exact ⟨v', hv2, hcv⟩
      obtain ⟨hs2, hro2, hle2⟩ := sim_ro hs1 hro1 hor
      have hsub : Sub s1 (s1.new (.cells es.flatten 0 true)) := Fresh.sub hs1.fresh _
      refine ⟨_, _, [.slice s1.ctr 0 len m false], hle1.trans hle2, hext1.trans (Ext.new (Ext.refl _)), hs2, hro2, ?_, ?_, rfl⟩
      · simp [concs, conc, nuSet]
      · exact .slice (by rw [S.get_new]; simp) (by rw [S.ctr_new]; omega) hlen hlc hcm (hall.mono hsub (by rw [S.ctr_new]; omega))

mutual
theorem reads : ∀ {t : TypeId} {y : Ty}, TyOk P t y → ∀ (n : Nat), Reads enc P W n t y
  | _, _, .bool h, n => fun cs x hx ν s hs hro => by
    obtain ⟨b, rfl, rfl⟩ := DataW.trod_bool h hx
    exact ⟨ν, s, [.bool b], Le.refl _, Ext.refl _, hs, hro, rfl, .bool b, rfl⟩
  | _, _, .int h, n => fun cs x hx ν s hs hro => by
    obtain ⟨m, rfl, rfl, hw⟩ := DataW.trod_int h hx
    exact ⟨ν, s, [.int _ m], Le.refl _, Ext.refl _, hs, hro, rfl, .int hw, rfl⟩
  | _, _, .str h, n => fun cs x hx ν s hs hro => by
    obtain ⟨b, rfl, rfl, hl⟩ := DataW.trod_string h hx
    refine ⟨ν, s, [.str b.data.toList], Le.refl _, Ext.refl _, hs, hro, by simp [concs, conc], .str ?_, rfl⟩
    simpa using hl
  | _, _, .slice h hsz hp he, n => reads_slice h hsz hp (reads he)
  | _, _, .struct h hc hf, n => fun cs x hx ν s hs hro => by
    obtain ⟨xs, m, _, rfl, hcl, hxl, hx⟩ := DataW.trod_struct h hx
    rw [hc] at hcl
    obtain ⟨ν', s', as, h1, h2, h3, h4, h5, h6⟩ := reads_fields hf (n := m) (cs := cs) (xs := xs) (by simpa using hxl) (fun i f hf => hx i f (by simpa using hf)) (by omega) ν s hs hro
    rw [List.drop_zero] at h5
    exact ⟨ν', s', as, h1, h2, h3, h4, h5, .struct h6, by rw [← concs_length h5, hcl]; rfl⟩
theorem reads_fields : ∀ {fs : List Field} {ys : List Ty} {off : Nat} {xs : List (DataW H × List MemPlace)}, FieldsOk P off fs ys → ∀ {n : Nat} {cs : List Value}, xs.length = fs.length →
    (∀ (i : Nat) (f : Field), fs[i]? = some f → DataW.trod enc P W 0 (fun _ => true) true n f.type ((cs.drop f.offset).take (P.cellsOf f.type)) = xs[i]?) → cs.length = off + Ty.sizes ys → ∀ ν s, Sim ν s W → Ro s →
    ∃ ν' s' as, Le ν ν' ∧ Ext s s' ∧ Sim ν' s' W ∧ Ro s' ∧ concs ν' as = some (cs.drop off) ∧ HasFs s' ys (xs.map (·.1)) as
  | [], _, off, xs, .nil, n, cs, hxl, _, hcl, ν, s, hs, hro => by
    have : xs = [] := List.length_eq_zero_iff.1 (by simpa using hxl)
    subst this
    refine ⟨ν, s, [], Le.refl _, Ext.refl _, hs, hro, ?_, .nil⟩
    simp only [Ty.sizes] at hcl
    rw [List.drop_of_length_le (by omega)]
    rfl
  | f :: fs, y :: ys, off, xs, FieldsOk.cons ho hc ht hrest, n, cs, hxl, hx, hcl, ν, s, hs, hro => by
    cases xs with
    | nil => simp at hxl
    | cons x xs =>
      have h0 := hx 0 f rfl
      simp only [List.getElem?_cons_zero] at h0
      obtain ⟨ν1, s1, as, hle1, hext1, hs1, hro1, hc1, hh1, hl1⟩ := reads ht n _ _ h0 ν s hs hro
      simp only [Ty.sizes] at hcl
      obtain ⟨ν2, s2, bs, hle2, hext2, hs2, hro2, hc2, hh2⟩ := reads_fields hrest (n := n) (cs := cs) (by simpa using hxl) (fun i g hg => by have := hx (i + 1) g (by simpa using hg); simpa using this) (by omega) ν1 s1 hs1 hro1
      refine ⟨ν2, s2, as ++ bs, hle1.trans hle2, hext1.trans hext2, hs2, hro2, ?_, .cons (hh1.mono (hs1.sub_of_ext hext2) hext2.ctr) hl1 hh2⟩
      have := concs_append (concs_mono hle2 hc1) hc2
      rw [this, ho, hc]
      congr 1
      rw [← List.drop_drop, List.take_append_drop]
end
end
end Go.Ab
