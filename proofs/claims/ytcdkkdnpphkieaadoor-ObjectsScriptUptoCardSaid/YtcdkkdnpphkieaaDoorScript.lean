/- 'ObjectsScript' over the abstract machine: the law's own model in memory. -/
import Derived.Test.YtcdkkdnpphkieaaDoorLaws
import Derived.Test.YtcdkkdnpphkieaaDoorAbMd
import Derived.Test.YtcdkkdnpphkieaaDoorAgeP
namespace Go.Ab

/-- The model in memory. -/
def Md (s : S) (mp : Nat) (T : Tbl) (F : List Nat) : Prop := ∃ op fo, s.get mp = some (.cells ([.int .u64 (T.port : Int), .ptr op 0] ++ rowsOf Ob.cells T.all) 0 false) ∧ Oc s op T.orc fo ∧ F = mp :: fo ∧ mp < s.ctr ∧ mp ∉ fo ∧ T.all.length = 64

/-- An error's number. -/
def numE (e : Option Int) : Int := e.getD 0
@[simp] theorem numE_none : numE none = 0 := rfl
@[simp] theorem numE_some (n : Int) : numE (some n) = n := rfl

section
variable {s s' : S} {mp op : Nat} {T : Tbl} {F : List Nat}
theorem Md.lt (h : Md s mp T F) : ∀ x ∈ F, x < s.ctr := by
  obtain ⟨op, fo, h1, h2, rfl, h4, h5⟩ := h
  intro x hx
  rcases List.mem_cons.1 hx with rfl | hx
  · exact h4
  · exact h2.lt x hx
theorem Md.chg {l : List Nat} (h : Md s mp T F) (hc : Chg l s s') (hd : Apart F l) : Md s' mp T F := by
  obtain ⟨op, fo, h1, h2, rfl, h4, h5⟩ := h
  exact ⟨op, fo, by rw [hc.get mp h4 (hd mp (by simp)), h1], h2.chg hc (fun x hx => hd x (by simp [hx])), rfl, by have := hc.ctr; omega, h5⟩
theorem Md.ext (h : Md s mp T F) (hx : Ext s s') : Md s' mp T F := h.chg (hx.chg []) (fun _ _ => by simp)
theorem Md.rd0 (h : Md s mp T F) : s.read mp 0 1 = some [.int .u64 (T.port : Int)] := by
  obtain ⟨op, fo, h1, _⟩ := h
  exact read_one h1 (by simp)
theorem Md.rd (h : Md s mp T F) {k j : Nat} {x : Ob} {v : AV} (hx : T.all[k]? = some x) (hj : x.cells[j]? = some v) : s.read mp (2 + k * 5 + j) 1 = some [v] := by
  obtain ⟨op, fo, h1, _⟩ := h
  exact hd_read Ob.cells_length h1 hx hj
theorem Md.put (h : Md s mp T F) {k j n : Nat} {x y : Ob} {w : List AV} (hx : T.all[k]? = some x) (hn : w.length = n) (hj : j + n ≤ 5) (hw : w.all isFlat = true) (hy : Ob.cells y = over (Ob.cells x) j w) :
    ∃ s', s.write mp (2 + k * 5 + j) w = some s' ∧ Md s' mp { T with all := T.all.set k y } F ∧ Chg F s s' ∧ s'.ctr = s.ctr := by
  obtain ⟨op, fo, h1, h2, rfl, h4, h5, h6⟩ := h
  have := hd_write Ob.cells_length h1 hx hn hj hw hy
  refine ⟨_, this, ⟨op, fo, by simp, h2.chg (l := [mp]) (by simp) (fun z hz => by simp; rintro rfl; exact h5 hz), rfl, by simpa using h4, h5, by simpa using h6⟩, Chg.set (.inr (by simp)) (Chg.refl _ _), rfl⟩
theorem Md.orc (h : Md s mp T F) : ∃ op fo, s.read mp 1 1 = some [.ptr op 0] ∧ Oc s op T.orc fo ∧ (∀ x ∈ fo, x ∈ F) ∧
    ∀ {s1 : S} {q : Orc} {fo' : List Nat}, Chg fo s s1 → Grow fo fo' s.ctr → Oc s1 op q fo' → ∃ F', Md s1 mp { T with orc := q } F' ∧ Grow F F' s.ctr ∧ Chg F s s1 := by
  obtain ⟨op, fo, h1, h2, rfl, h4, h5, h6⟩ := h
  refine ⟨op, fo, read_one h1 (by simp), h2, fun x hx => by simp [hx], fun {s1 q fo'} hc hg hO => ⟨mp :: fo', ⟨op, fo', by rw [hc.get mp h4 h5, h1], hO, rfl, by have := hc.ctr; omega, hg.mem h4 h5, h6⟩, ?_, hc.sub (fun x hx => by simp [hx])⟩⟩
  intro x hx
  rcases List.mem_cons.1 hx with rfl | hx
  · exact .inl (by simp)
  · rcases hg x hx with h | h
    · exact .inl (by simp [h])
    · exact .inr h

theorem num_errV (e : Option Int) {s : S} {Q : AV → S → Prop} (h : Q (.int .i64 (numE e)) s) : Ev tab 22 [errV e] s Q := by
  cases e with
  | none => exact ev_num0 h
  | some n => exact ev_num h

/-- The check of a secret for rights. -/
theorem mcheck_ok (h : Md s mp T F) (hq : T.orc.rs.length ≤ 5000000000000) (sec r : Nat) (hs : sec < w48) (hr : r < 256) : Ev tab 45 [.ptr mp 0, .int .u64 sec, .int .u8 r] s fun v s' => Chg F s s' ∧ ∃ F', Grow F F' s.ctr ∧ Md s' mp { T with orc := (T.orc.tok sec r).2 } F' ∧ v = .tuple [.int .u64 (((T.orc.tok sec r).1.getD 0 : Nat) : Int), .int .i64 (numE (tapeE (T.orc.tok sec r).1))] := by
  refine Ev.intro rfl rfl rfl ?_
  have hm : sec % w48 = sec := Nat.mod_eq_of_lt hs
  unfold Orc.tok
  by_cases h255 : r = 255
  · subst h255
    simp [pf45, pf45_5, pf45_4, pf45_3, pf45_2, hm, tapeE]
    exact ⟨F, Grow.refl _ _, h⟩
  · have h255' : ¬ (r : Int) = 255 := by omega
    have w : IntKind.u64.wrap (r : Int) = r := wrap_u64 (by omega) (by omega)
    have hx := bxor sec r (by unfold w48 at hs; omega) (by omega)
    obtain ⟨op, fo, r1, hO, hsub, hput⟩ := h.orc
    have hmix : sec ^^^ r = mix sec r := by unfold mix; rw [hm]
    rw [hmix] at hx
    simp [pf45, pf45_5, pf45_4, pf45_3, h255', h255, pf45_1, r1, w, hx, -binV_xor]
    refine Ev.mono (ask_ok hO hq 1 (mix sec r)) ?_
    rintro v s1 ⟨hc, fo', hg, hO', rfl⟩
    obtain ⟨F', hM, hgF, hcF⟩ := hput hc hg hO'
    simp only [ansV_eq]
    simp [pf45_0]
    refine num_errV _ ?_
    simp
    exact ⟨hcF, F', hgF, hM⟩

/-- 'Check' of the model. -/
theorem mCheck_ok (h : Md s mp T F) (hq : T.orc.rs.length ≤ 5000000000000) (hs : ∀ x ∈ T.all, x.secret < w48) {c : Cp} (hc : c.Fit) (need : Nat) (hn' : need < 256) : Ev tab 44 [.ptr mp 0, capA c, .int .u8 need] s fun v s' => Chg F s s' ∧ ∃ F', Grow F F' s.ctr ∧ Md s' mp (T.check c need).2 F' ∧ v = .tuple [.int .i64 ((T.check c need).1.1 : Nat), .int .i64 (numE (T.check c need).1.2)] := by
  refine Ev.intro rfl rfl rfl ?_
  obtain ⟨s0, hs0⟩ : ∃ s0, s0 = s.new (.cells c.cells 0 false) := ⟨_, rfl⟩
  have x0 : Ext s s0 := by rw [hs0]; simp
  have g0 : Bx s0 s.ctr c F := ⟨by rw [hs0]; simp, by rw [hs0]; simp, fun hx => by have := h.lt _ hx; omega⟩
  have c0 : s0.ctr = s.ctr + 1 := by rw [hs0]; rfl
  have hM := h.ext x0
  have h64 : T.all.length = 64 := by obtain ⟨_, _, _, _, _, _, _, h6⟩ := h; exact h6
  have hi := hc.i
  simp [pf44, pf44_14, Cp.cells_flat, ← hs0, pf44_13, pf44_12, g0.rd0, hM.rd0, g0.rd1]
  unfold Tbl.check
  by_cases hp : c.p = T.port
  · rw [if_neg (by simpa using hp)]
    by_cases hl : c.o < 64
    · obtain ⟨x, hx⟩ : ∃ x, T.all[c.o]? = some x := ⟨_, List.getElem?_eq_getElem (by omega)⟩
      have hli : ¬ (64 : Int) ≤ (c.o : Int) := by omega
      have hl' : ¬ 64 ≤ c.o := by omega
      have hl2 : (c.o : Int) < 64 := by omega
      have r0 : s0.read mp (2 + c.o * 5) 1 = some [.bool x.there] := hM.rd (j := 0) hx rfl
      have r1 : s0.read mp (2 + c.o * 5 + 1) 1 = some [.int .u64 x.secret] := hM.rd hx rfl
      have e1 : T.get c.o = if x.there then some x else none := by simp [Tbl.get, hx]
      cases ht : x.there with
      | false =>
        rw [ht] at r0 e1
        simp at e1
        simp [hp, hl, hl', hl2, hli, g0.rd1, r0, pf44_11, e1]
        exact ⟨x0.chg _, F, Grow.refl _ _, hM⟩
      | true =>
        rw [ht] at r0 e1
        simp at e1
        simp [hp, hl, hl', hl2, hli, r0, pf44_10, e1, g0.rd1, r1, g0.rd2]
        refine Ev.mono (mcheck_ok hM hq x.secret c.r (hs x (List.mem_of_getElem? hx)) hc.r) ?_
        rintro v s1 ⟨hc1, F1, hg1, hM1, rfl⟩
        have b1 := g0.step hc1 hg1
        have hcs : Chg F s s1 := (x0.chg _).trans hc1
        obtain ⟨a, q', hq'⟩ : ∃ a q', T.orc.tok x.secret c.r = (a, q') := ⟨_, _, rfl⟩
        rw [hq'] at hM1 ⊢
        cases a with
        | none =>
          simp [tapeE, pf44_9, pf44_7, pf44_6]
          exact ⟨hcs, F1, hg1.le (by omega), hM1⟩
        | some y =>
          by_cases hy : y = c.k
          · have hb := band8 c.r need hc.r hn'
            obtain ⟨m, hm⟩ : ∃ m, m = c.r &&& need := ⟨_, rfl⟩
            rw [← hm] at hb ⊢
            by_cases hnd : m = need
            · simp [tapeE, pf44_9, pf44_7, pf44_8, pf44_4, hy, b1.rd3, pf44_5, pf44_2, b1.rd2, hb, hnd, pf44_0, b1.rd1, hi, -binV_and]
              exact ⟨hcs, F1, hg1.le (by omega), hM1⟩
            · have hni : ¬ (m : Int) = need := by omega
              simp [tapeE, pf44_9, pf44_7, pf44_8, pf44_4, hy, b1.rd3, pf44_5, pf44_2, b1.rd2, hb, hnd, hni, pf44_1, -binV_and]
              exact ⟨hcs, F1, hg1.le (by omega), hM1⟩
          · have hyi : ¬ (y : Int) = c.k := by omega
            simp [tapeE, pf44_9, pf44_7, pf44_8, pf44_4, hy, hyi, b1.rd3, pf44_3]
            exact ⟨hcs, F1, hg1.le (by omega), hM1⟩
    · have hl' : 64 ≤ c.o := by omega
      have hli : (64 : Int) ≤ (c.o : Int) := by omega
      have e1 : T.get c.o = none := by simp [Tbl.get, List.getElem?_eq_none (show T.all.length ≤ c.o by omega)]
      simp [hp, hl', hli, g0.rd1, pf44_11, e1]
      exact ⟨x0.chg _, F, Grow.refl _ _, hM⟩
  · rw [if_pos hp]
    have hpi : ¬ (c.p : Int) = T.port := by omega
    simp [hpi, pf44_11]
    exact ⟨x0.chg _, F, Grow.refl _ _, hM⟩
end
end Go.Ab
/-! 'ObjectsScript' over the abstract machine: the model's create. -/
namespace Go.Ab

section
variable {s s' : S} {mp op : Nat} {T : Tbl} {F : List Nat}

theorem Md.draw (h : Md s mp T F) : ∃ op, s.read mp 1 1 = some [.ptr op 0] ∧ Ev tab 38 [.ptr op 0] s fun v s' => Chg F s s' ∧ s'.ctr = s.ctr ∧ v = ansV T.orc.draw.1 ∧ Md s' mp { T with orc := T.orc.draw.2 } F := by
  obtain ⟨op, fo, h1, h2, rfl, h4, h5, h6⟩ := h
  refine ⟨op, read_one h1 (by simp), Ev.mono (oracleDraw_ok h2) ?_⟩
  rintro v s1 ⟨hc, hctr, rfl, hO⟩
  exact ⟨hc.sub (fun x hx => by simp [hx]), hctr, rfl, ⟨op, fo, by rw [hc.get mp h4 h5, h1], hO, rfl, by omega, h5, h6⟩⟩

theorem Md.out {i : Nat} {o : Option AO} (h : Md s mp T F) (hi : i ∉ F) : Md (s.set i o) mp T F := h.chg (l := [i]) (by simp) (fun x hx => by simp; rintro rfl; exact hi hx)
theorem Md.len (h : Md s mp T F) : T.all.length = 64 := by obtain ⟨_, _, _, _, _, _, _, h6⟩ := h; exact h6

def capN (c : Cp) (e : Option Int) : AV := .tuple [capA c, .int .i64 (numE e)]

set_option maxRecDepth 10000 in
theorem mCreate_ok (h : Md s mp T F) (val : Int) : Ev tab 43 [.ptr mp 0, .int .i64 val] s fun v s' => Chg F s s' ∧ Md s' mp (T.create val).2 F ∧ v = capN (T.create val).1.1 (T.create val).1.2 := by
  refine Ev.intro rfl rfl rfl ?_
  obtain ⟨s0, hs0⟩ : ∃ s0, s0 = s.new (.cells [.int .u64 0, .int .u32 0, .int .u8 0, .int .u64 0] 0 false) := ⟨_, rfl⟩
  have x0 : Ext s s0 := by rw [hs0]; simp
  have g0 : s0.get s.ctr = some (.cells [.int .u64 0, .int .u32 0, .int .u8 0, .int .u64 0] 0 false) := by rw [hs0]; simp
  have c0 : s0.ctr = s.ctr + 1 := by rw [hs0]; rfl
  have hM := h.ext x0
  have hn0 : s.ctr ∉ F := fun hx => by have := h.lt _ hx; omega
  have h64 := h.len
  have hle := lowest_le T.all
  have rest : ∀ R : Regs, R 0 = .ptr mp 0 → R 1 = .int .i64 val → R 4 = .ptr s.ctr 0 → R 6 = .int .i64 (lowest T.all : Nat) → WpC tab pf43_11 R s0 (FinP pf43.results fun v s' => Chg F s s' ∧ Md s' mp (T.create val).2 F ∧ v = capN (T.create val).1.1 (T.create val).1.2) := by
    intro R r0 r1 r4 r6
    unfold Tbl.create
    by_cases hl : lowest T.all = 64
    · have hli : ((lowest T.all : Nat) : Int) = 64 := by omega
      simp only [if_pos (show 64 ≤ lowest T.all by omega)]
      simp [pf43, pf43_11, pf43_7, r6, hli, pf43_6, r4, wrc g0, capN, Cp.zero_cells, capA]
      exact ⟨Chg.set (.inl (by omega)) (x0.chg _), hM.out hn0⟩
    · have hli : ¬ ((lowest T.all : Nat) : Int) = 64 := by omega
      simp only [if_neg (show ¬ 64 ≤ lowest T.all by omega)]
      obtain ⟨op, r1', hev⟩ := hM.draw
      simp [pf43, pf43_11, pf43_7, r6, hli, pf43_5, r0, r1']
      refine Ev.mono hev ?_
      rintro v s1 ⟨hc1, hctr1, rfl, hM1⟩
      have b1 : s1.get s.ctr = _ := hc1.get _ (by omega) hn0
      rw [g0] at b1
      have hcs1 : Chg F s s1 := (x0.chg _).trans hc1
      obtain ⟨d, q', hq'⟩ : ∃ d q', T.orc.draw = (d, q') := ⟨_, _, rfl⟩
      rw [hq'] at hM1 ⊢
      replace hM1 : Md s1 mp { T with orc := q' } F := hM1
      cases d with
      | none =>
        simp [ansV, pf43_4, pf43_3, pf43_2, r4, wrc b1, capN, Cp.zero_cells, capA]
        exact ⟨Chg.set (.inl (by omega)) hcs1, hM1.out hn0⟩
      | some y =>
        have hlt : lowest T.all < 64 := by omega
        obtain ⟨o, ho, hth⟩ := lowest_at T.all (by omega)
        obtain ⟨s2, hw, hM2, hc2, hctr2⟩ := hM1.put (k := lowest T.all) (x := o) (y := ⟨true, y, 0, val, 24⟩) (j := 0) (n := 5) (w := Ob.cells ⟨true, y, 0, val, 24⟩) ho rfl (by omega) (Ob.cells_flat _) (by simp [Ob.cells, over])
        have b2 : s2.get s.ctr = _ := hc2.get _ (by omega) hn0
        rw [b1] at b2
        simp only [Ob.cells, Nat.add_zero] at hw
        simp at hw
        have hne : ¬ lowest T.all = T.all.length := by omega
        have hltI : ((lowest T.all : Nat) : Int) < 64 := by omega
        have w32 : IntKind.u32.wrap ((lowest T.all : Nat) : Int) = (lowest T.all : Nat) := by simp [IntKind.wrap, IntKind.signed, IntKind.bits]; omega
        have rd0 := hM2.rd0
        simp only [if_neg hne]
        simp [ansV, pf43_4, pf43_3, pf43_1, r0, r1, r6, hltI, hw, pf43_0, rd0, w32, r4, wrc b2, capN, capA, Cp.cells]
        exact ⟨Chg.set (.inl (by omega)) (hcs1.trans hc2), hM2.out hn0⟩
  simp [pf43, pf43_13, ← hs0, pf43_12]
  refine WpC.loop (fun m r' t => ∃ i, i ≤ lowest T.all ∧ m = lowest T.all - i ∧ r' 0 = .ptr mp 0 ∧ r' 1 = .int .i64 val ∧ r' 4 = .ptr s.ctr 0 ∧ r' 6 = .int .i64 (i : Nat) ∧ t = s0) (m := lowest T.all) ?_ ?_
  · exact ⟨0, by omega, rfl, by simp, by simp, by simp, by simp, rfl⟩
  rintro m r' t ⟨i, hi, rfl, e0, e1, e4, e6, rfl⟩
  by_cases hil : i < 64
  · have hilI : (i : Int) < 64 := by omega
    obtain ⟨x, hx⟩ : ∃ x, T.all[i]? = some x := ⟨_, List.getElem?_eq_getElem (by omega)⟩
    have rb : t.read mp (2 + i * 5) 1 = some [.bool x.there] := hM.rd (j := 0) hx rfl
    by_cases hlo : i < lowest T.all
    · obtain ⟨o, ho, hth⟩ := lowest_below T.all i hlo
      rw [hx] at ho
      cases ho
      rw [hth] at rb
      have w1 : IntKind.i64.wrap ((i : Int) + 1) = ((i + 1 : Nat) : Int) := by rw [wrap_i64] <;> omega
      simp [pf43_10, pf43_9, e0, e6, hilI, rb, pf43_8, w1, -Int.natCast_add]
      exact ⟨lowest T.all - (i + 1), by omega, i + 1, by omega, rfl, e1, e4, rfl⟩
    · obtain rfl : i = lowest T.all := by omega
      obtain ⟨o, ho, hth⟩ := lowest_at T.all (by omega)
      rw [hx] at ho
      cases ho
      rw [hth] at rb
      simp [pf43_10, pf43_9, e0, e6, hilI, rb]
      exact rest _ (by simp [e0]) (by simp [e1]) (by simp [e4]) (by simp [e6])
  · obtain rfl : i = lowest T.all := by omega
    have hilI : ¬ ((lowest T.all : Nat) : Int) < 64 := by omega
    simp [pf43_10, pf43_9, e0, e6, hilI]
    exact rest _ (by simp [e0]) (by simp [e1]) (by simp [e4]) (by simp [e6])
end
end Go.Ab
/-! 'ObjectsScript' over the abstract machine: what is so between the steps. -/
namespace Go.Ab

/-- The law's model, a table, capabilities. -/
structure Ws (s st : S) (mp tp : Nat) (M T : Tbl) (A : List Nat) (hv : AV) (cs : List Cp) : Prop where
  kp : Keep s.ctr s st
  ex : ∃ FM FT Fh, A = FM ++ (FT ++ Fh) ∧ Md st mp M FM ∧ Tb st tp T FT ∧ OwnR Cp.cells 4 st hv cs Fh ∧ Apart FM FT ∧ Apart FM Fh ∧ Apart FT Fh
  lo : ∀ y ∈ A, s.ctr ≤ y
  fit : ∀ c ∈ cs, c.Fit

section
variable {s st st' : S} {mp tp : Nat} {M T : Tbl} {A : List Nat} {hv : AV} {cs : List Cp}
theorem Ws.lt (h : Ws s st mp tp M T A hv cs) : ∀ y ∈ A, y < st.ctr := by
  obtain ⟨FM, FT, Fh, rfl, h1, h2, h3, _⟩ := h.ex
  intro y hy
  rcases List.mem_append.1 hy with hy | hy
  · exact h1.lt y hy
  · rcases List.mem_append.1 hy with hy | hy
    · exact h2.lt y hy
    · exact OwnF.lt h3 y hy
theorem Ws.ext (h : Ws s st mp tp M T A hv cs) (hx : Ext st st') : Ws s st' mp tp M T A hv cs := by
  obtain ⟨FM, FT, Fh, rfl, h1, h2, h3, a1, a2, a3⟩ := h.ex
  exact ⟨h.kp.trans (hx.keep h.kp.ctr), ⟨FM, FT, Fh, rfl, h1.ext hx, h2.ext hx, OwnF.ext h3 hx, a1, a2, a3⟩, h.lo, h.fit⟩
theorem Ws.set (h : Ws s st mp tp M T A hv cs) {i : Nat} {o : Option AO} (hi : i ∉ A) (h0 : s.ctr ≤ i) : Ws s (st.set i o) mp tp M T A hv cs := by
  obtain ⟨FM, FT, Fh, rfl, h1, h2, h3, a1, a2, a3⟩ := h.ex
  simp only [List.mem_append, not_or] at hi
  obtain ⟨i1, i2, i3⟩ := hi
  have ap : ∀ {F : List Nat}, i ∉ F → Apart F [i] := fun hF y hy h => by
    rw [List.mem_singleton] at h
    subst h
    exact hF hy
  refine ⟨⟨by simpa using h.kp.ctr, fun id hid => by rw [S.get_set, if_neg (by omega), h.kp.get id hid]⟩, ⟨FM, FT, Fh, rfl, h1.chg (l := [i]) (by simp) (ap i1), h2.chg (l := [i]) (by simp) (ap i2), OwnF.chg h3 (l := [i]) (by simp) (ap i3), a1, a2, a3⟩, h.lo, h.fit⟩
/-- The model is changed. -/
theorem Ws.m (h : Ws s st mp tp M T A hv cs) : ∃ FM, Md st mp M FM ∧ ∀ {s2 : S} {FM' : List Nat} {M' : Tbl}, Chg FM st s2 → Grow FM FM' st.ctr → Md s2 mp M' FM' → ∃ A', Ws s s2 mp tp M' T A' hv cs ∧ Grow A A' st.ctr ∧ Chg A st s2 := by
  obtain ⟨FM, FT, Fh, hA, h1, h2, h3, a1, a2, a3⟩ := h.ex
  refine ⟨FM, h1, fun {s2 FM' M'} hc hg hM => ?_⟩
  have hlt := h.kp.ctr
  have hg' : Grow A (FM' ++ (FT ++ Fh)) st.ctr := by rw [hA]; exact hg.l1
  refine ⟨_, ⟨h.kp.trans (hc.keep (fun y hy => h.lo y (by rw [hA]; exact List.mem_append_left _ hy)) hlt), ⟨FM', FT, Fh, rfl, hM, h2.chg hc a1.symm, OwnF.chg h3 hc a2.symm, a1.grow hg h2.lt, a2.grow hg (OwnF.lt h3), a3⟩, fun y hy => ?_, h.fit⟩, hg', hc.sub (fun y hy => by rw [hA]; exact List.mem_append_left _ hy)⟩
  rcases hg' y hy with h4 | h4
  · exact h.lo y h4
  · omega
/-- The table is changed. -/
theorem Ws.t (h : Ws s st mp tp M T A hv cs) : ∃ FT, Tb st tp T FT ∧ ∀ {s2 : S} {FT' : List Nat} {T' : Tbl}, Chg FT st s2 → Grow FT FT' st.ctr → Tb s2 tp T' FT' → ∃ A', Ws s s2 mp tp M T' A' hv cs ∧ Grow A A' st.ctr ∧ Chg A st s2 := by
  obtain ⟨FM, FT, Fh, hA, h1, h2, h3, a1, a2, a3⟩ := h.ex
  refine ⟨FT, h2, fun {s2 FT' T'} hc hg hT => ?_⟩
  have hlt := h.kp.ctr
  have hg' : Grow A (FM ++ (FT' ++ Fh)) st.ctr := by rw [hA]; exact (hg.l1 (m := Fh)).l2
  refine ⟨_, ⟨h.kp.trans (hc.keep (fun y hy => h.lo y (by rw [hA]; exact List.mem_append_right _ (List.mem_append_left _ hy))) hlt), ⟨FM, FT', Fh, rfl, h1.chg hc a1, hT, OwnF.chg h3 hc a3.symm, (a1.symm.grow hg h1.lt).symm, a2, a3.grow hg (OwnF.lt h3)⟩, fun y hy => ?_, h.fit⟩, hg', hc.sub (fun y hy => by rw [hA]; exact List.mem_append_right _ (List.mem_append_left _ hy))⟩
  rcases hg' y hy with h4 | h4
  · exact h.lo y h4
  · omega
/-- One capability more. -/
theorem Ws.push (h : Ws s st mp tp M T A hv cs) {c : Cp} (hc : c.Fit) (hl : cs.length ≤ 5000000000000) {Q : AV → S → Prop} (hq : ∀ v' s' A', Ws s s' mp tp M T A' v' (cs ++ [c]) → Grow A A' st.ctr → Chg A st s' → Q v' s') : cont ((st.new (.cells c.cells 0 false)).app 4 24 hv (.slice st.ctr 0 1 1 false)) Q := by
  obtain ⟨FM, FT, Fh, hA, h1, h2, h3, a1, a2, a3⟩ := h.ex
  refine cap_app c h3 hl ?_
  intro v' s' Fh' hO' hc' hg
  have hlt := h.kp.ctr
  have hg' : Grow A (FM ++ (FT ++ Fh')) st.ctr := by rw [hA]; exact (hg.l2 (m := FT)).l2
  have hin : ∀ y ∈ Fh, y ∈ A := fun y hy => by rw [hA]; exact List.mem_append_right _ (List.mem_append_right _ hy)
  refine hq v' s' _ ⟨h.kp.trans (hc'.keep (fun y hy => h.lo y (hin y hy)) hlt), ⟨FM, FT, Fh', rfl, h1.chg hc' a2, h2.chg hc' a3, hO', a1, (a2.symm.grow hg h1.lt).symm, (a3.symm.grow hg h2.lt).symm⟩, fun y hy => ?_, fun c' hm => ?_⟩ hg' (hc'.sub hin)
  · rcases hg' y hy with h4 | h4
    · exact h.lo y h4
    · omega
  · rcases List.mem_append.1 hm with h4 | h4
    · exact h.fit c' h4
    · rw [List.mem_singleton.1 h4]; exact hc
end

/-- What is not there has no value. -/
def Tbl.Dead (T : Tbl) : Prop := ∀ x ∈ T.all, x.there = false → x.value = 0
theorem Tbl.Dead.same {T T' : Tbl} (h : T.Dead) (he : T'.all = T.all) : T'.Dead := fun x hx => h x (by rw [← he]; exact hx)
theorem Tbl.Dead.set {T T' : Tbl} (h : T.Dead) {k : Nat} {y : Ob} (he : T'.all = T.all.set k y) (hy : y.there = false → y.value = 0) : T'.Dead := fun x hx => by
  rw [he] at hx
  rcases List.mem_or_eq_of_mem_set hx with h1 | rfl
  · exact h x h1
  · exact hy
theorem Tbl.create_dead {T : Tbl} (h : T.Dead) (v : Int) : (T.create v).2.Dead := by
  unfold Tbl.create
  simp only
  split
  · exact h
  · cases T.orc.draw with
    | mk a q =>
      cases a with
      | none => exact h
      | some s =>
        intro x hx
        simp only at hx
        split at hx
        · rcases List.mem_append.1 hx with h1 | h1
          · exact h x h1
          · rw [List.mem_singleton.1 h1]; simp
        · rcases List.mem_or_eq_of_mem_set hx with h1 | rfl
          · exact h x h1
          · simp
theorem Tbl.check_dead {T : Tbl} (h : T.Dead) (c : Cp) (need : Nat) : (T.check c need).2.Dead := h.same (check_pad T c need).2.1
theorem Tbl.restrict_dead {T : Tbl} (h : T.Dead) (c : Cp) (m : Nat) : (T.restrict c m).2.Dead := by
  have ha := Tbl.check_dead h c 0
  unfold Tbl.restrict
  cases hc : T.check c 0 with
  | mk a T1 =>
    obtain ⟨k, e⟩ := a
    rw [hc] at ha
    cases e with
    | some e => exact ha
    | none =>
      simp only
      cases T1.get k with
      | none => exact ha
      | some x =>
        simp only
        cases T1.orc.tok x.secret (c.r &&& m) with
        | mk a q => cases a <;> exact ha.same rfl
theorem Tbl.get_there {T : Tbl} {k : Nat} {x : Ob} (h : T.get k = some x) : x.there = true := by
  unfold Tbl.get at h
  cases hk : T.all[k]? with
  | none => rw [hk] at h; simp at h
  | some y =>
    rw [hk] at h
    simp at h
    rw [← h.2]
    exact h.1
theorem Tbl.revoke_dead {T : Tbl} (h : T.Dead) (c : Cp) : (T.revoke c).2.Dead := by
  have ha := Tbl.check_dead h c 255
  unfold Tbl.revoke
  cases hc : T.check c 255 with
  | mk a T1 =>
    obtain ⟨k, e⟩ := a
    rw [hc] at ha
    cases e with
    | some e => exact ha
    | none =>
      simp only
      cases hg : T1.get k with
      | none => exact ha
      | some x =>
        have ht := Tbl.get_there hg
        simp only
        cases T1.orc.draw with
        | mk a q =>
          cases a with
          | none => exact ha.same rfl
          | some y => exact ha.set rfl (fun hf => by simp only at hf; rw [ht] at hf; cases hf)
theorem Tbl.destroy_dead {T : Tbl} (h : T.Dead) (c : Cp) : (T.destroy c).2.Dead := by
  have ha := Tbl.check_dead h c 8
  unfold Tbl.destroy
  cases hc : T.check c 8 with
  | mk a T1 =>
    obtain ⟨k, e⟩ := a
    rw [hc] at ha
    cases e with
    | some e => exact ha
    | none =>
      simp only
      cases T1.get k with
      | none => exact ha
      | some x => exact ha.set rfl (fun _ => rfl)
theorem Tbl.touch_dead {T : Tbl} (h : T.Dead) (c : Cp) : (T.touch c).2.Dead := by
  have ha := Tbl.check_dead h c 0
  unfold Tbl.touch
  cases hc : T.check c 0 with
  | mk a T1 =>
    obtain ⟨k, e⟩ := a
    rw [hc] at ha
    cases e with
    | some e => exact ha
    | none =>
      simp only
      cases hg : T1.get k with
      | none => exact ha
      | some x =>
        have ht := Tbl.get_there hg
        exact ha.set rfl (fun hf => by simp only at hf; rw [ht] at hf; cases hf)
theorem Tbl.info_dead {T : Tbl} (h : T.Dead) (c : Cp) : (T.info c).2.Dead := by
  have ha := Tbl.check_dead h c 0
  unfold Tbl.info
  cases hc : T.check c 0 with
  | mk a T1 =>
    obtain ⟨k, e⟩ := a
    rw [hc] at ha
    cases e with
    | some e => exact ha
    | none =>
      simp only
      cases T1.get k <;> exact ha
theorem aged_dead : ∀ (l : List Ob) (k : Nat), (∀ x ∈ l, x.there = false → x.value = 0) → ∀ x ∈ (aged k l).1, x.there = false → x.value = 0
  | [], _, _ => by simp [aged]
  | o :: l, k, h => by
    have ih := aged_dead l (k + 1) (fun x hx => h x (List.mem_cons_of_mem _ hx))
    have ho := h o (List.mem_cons_self ..)
    rw [aged_cons]
    split
    · intro x hx
      rcases List.mem_cons.1 hx with rfl | hx
      · exact ho
      · exact ih x hx
    · split
      · intro x hx
        rcases List.mem_cons.1 hx with rfl | hx
        · exact fun _ => rfl
        · exact ih x hx
      · intro x hx
        rcases List.mem_cons.1 hx with rfl | hx
        · exact ho
        · exact ih x hx
theorem Tbl.age_dead {T : Tbl} (h : T.Dead) : T.age.2.Dead := aged_dead T.all 0 h

/-- Bounds. -/
structure WsB (T : Tbl) (cs : List Cp) (n : Nat) : Prop where
  ok : T.Ok
  rs : T.orc.rs.length ≤ 2 * n
  len : cs.length ≤ n
  dead : T.Dead
theorem WsB.sec {T : Tbl} {cs : List Cp} {n : Nat} (h : WsB T cs n) : ∀ x ∈ T.pad.all, x.secret < w48 := by
  intro x hx
  rcases List.mem_append.1 hx with h1 | h1
  · exact (h.ok.all x h1).sec
  · rw [List.eq_of_mem_replicate h1]; simp [Ob.none, w48]
theorem WsB.few {T : Tbl} {cs : List Cp} {n : Nat} (h : WsB T cs n) : T.few := h.ok.few
theorem Tbl.pad_rs (T : Tbl) : T.pad.orc = T.orc := rfl
theorem Tbl.pad_at {T : Tbl} {k : Nat} {x : Ob} (h : T.all[k]? = some x) : T.pad.all[k]? = some x := by
  have := (List.getElem?_eq_some_iff.1 h).1
  show (T.all ++ _)[k]? = _
  rw [List.getElem?_append_left this, h]
theorem numE_zero {e : Option Int} (h : errOk e) : (numE e = 0 ↔ e = none) := by
  cases e with
  | none => simp
  | some n => have := (h n rfl).1; simp; omega

/-- Both lists are alike. -/
theorem sameInts_ok {s : S} {u v : AV} {l : List Int} {F G : List Nat} (hl : l.length ≤ 5000000000000) (hu : OwnF 1 s u l.length (i64s l) F) (hv : OwnF 1 s v l.length (i64s l) G) : Ev tab 47 [u, v] s fun x s' => s' = s ∧ x = .bool true := by
  refine Ev.intro rfl rfl rfl ?_
  have w1 := hu.wlen
  have w2 := hv.wlen
  simp [pf47, pf47_13, pf47_12, pf47_10, w1, w2, pf47_11, pf47_8]
  refine WpC.loop (fun m R' st' => ∃ i, i ≤ l.length ∧ m = l.length - i ∧ R' 0 = u ∧ R' 1 = v ∧ R' 12 = .int .i64 l.length ∧ R' 13 = .int .i64 (i : Nat) ∧ st' = s) (m := l.length) ?_ ?_
  · exact ⟨0, by omega, by omega, by simp, by simp, by simp, by simp, rfl⟩
  rintro m R st ⟨i, hi, rfl, e0, e1, e12, e13, rfl⟩
  by_cases hil : i < l.length
  · have hili : (i : Int) < l.length := by omega
    have wi : IntKind.i64.wrap ((i : Int) + 1) = ((i + 1 : Nat) : Int) := by rw [wrap_i64] <;> omega
    obtain ⟨x, hx⟩ : ∃ x, l[i]? = some x := ⟨_, List.getElem?_eq_getElem hil⟩
    obtain ⟨b1, rfl, hr1⟩ := hu.elem hil
    obtain ⟨b2, rfl, hr2⟩ := hv.elem hil
    have hat : ((i64s l).drop (i * 1)).take 1 = [.int .i64 x] := by
      obtain ⟨h1, h2⟩ := List.getElem?_eq_some_iff.1 hx
      rw [Nat.mul_one, List.drop_eq_getElem_cons (by simpa [i64s] using h1)]
      simp [i64s, h2]
    rw [hat] at hr1 hr2
    simp only [Nat.zero_add, Nat.mul_one] at hr1 hr2
    simp [pf47_7, pf47_6, e13, e12, hili, pf47_4, pf47_3, pf47_2, e0, e1, hil, hr1, hr2, pf47_5, wi, -Int.natCast_add]
    exact ⟨l.length - (i + 1), by omega, i + 1, by omega, rfl, rfl⟩
  · obtain rfl : i = l.length := by omega
    simp [pf47_7, pf47_6, e13, e12, pf47_0]
end Go.Ab
/-! 'ObjectsScript' over the abstract machine: steps that create and that check. -/
namespace Go.Ab

/-- A new box with a capability. -/
theorem Ws.box {s st : S} {mp tp : Nat} {M T : Tbl} {A : List Nat} {hv : AV} {cs : List Cp} (h : Ws s st mp tp M T A hv cs) (c : Cp) : ∃ s2, (st.new (.cells [.int .u64 0, .int .u32 0, .int .u8 0, .int .u64 0] 0 false)).write st.ctr 0 c.cells = some s2 ∧ Ext st s2 ∧ Bg s2 st.ctr c.cells A ∧ Ws s s2 mp tp M T A hv cs ∧ s2.ctr = st.ctr + 1 := by
  have hw := write_new st c (.int .u64 0) (.int .u32 0) (.int .u8 0) (.int .u64 0)
  have x2 : Ext st ((st.new (.cells [.int .u64 0, .int .u32 0, .int .u8 0, .int .u64 0] 0 false)).set st.ctr (some (.cells c.cells 0 false))) := by simp
  exact ⟨_, hw, x2, ⟨by simp, by simp, fun hx => by have := h.lt _ hx; omega⟩, h.ext x2, by simp⟩
theorem Bg.cap4 {s : S} {i : Nat} {c : Cp} {F : List Nat} (h : Bg s i c.cells F) : s.read i 0 4 = some c.cells := by rw [rd h.get (by simp)]; rfl
theorem Bg.rt {s : S} {i : Nat} {c : Cp} {F : List Nat} (h : Bg s i c.cells F) : s.read i 2 1 = some [.int .u8 (c.r : Int)] := by rw [rd h.get (by simp)]; rfl
theorem eqv_self (c : Cp) : eqV .st (.agg c.cells) (.agg c.cells) = some true := by
  unfold Cp.cells
  rw [eqV_st]
  simp
/-- What a step is, in its box. -/
def stepC (op which ch ar : Nat) : List AV := [.int .u8 (op : Int), .int .u8 (which : Int), .int .u8 (ch : Int), .int .u8 (ar : Int)]

set_option maxRecDepth 10000 in
set_option maxHeartbeats 1000000 in
theorem st_create {s st : S} {mp tp i6 i10 n op which ch ar : Nat} {T : Tbl} {A : List Nat} {hv : AV} {cs : List Cp} {c : Cp} (H : Ws s st mp tp T.pad T A hv cs) (B : WsB T cs n) (hn : n ≤ 1048576) (hc : c.Fit) (har : ar < 256) (b6 : Bg st i6 (stepC op which ch ar) A) (b10 : Bg st i10 c.cells A) {R : Regs} {K : KP}
    (e0 : R 0 = .ptr mp 0) (e1 : R 1 = .ptr tp 0) (e3 : R 3 = hv) (e6 : R 6 = .ptr i6 0) (e10 : R 10 = .ptr i10 0)
    (hK : ∀ R' st' T' A' hv' cs', Ws s st' mp tp T'.pad T' A' hv' cs' → WsB T' cs' (n + 1) → R' 8 = hv' → R' 9 = .bool true → K .ret R' st') :
    WpC tab pf27_79 R st (seqK tab (.seq pf27_78 pf27_77) K) := by
  have r3 : st.read i6 3 1 = some [.int .u8 (ar : Int)] := by rw [rd b6.get (by simp [stepC])]; rfl
  have wa : IntKind.i64.wrap (ar : Int) = ar := by rw [wrap_i64] <;> omega
  obtain ⟨FM, hM, hMc⟩ := H.m
  have hcp := create_pad B.few (ar : Nat)
  have hst := Tbl.create_step T (ar : Nat)
  have herr := Tbl.create_err T (ar : Nat)
  have hfit := Tbl.create_fit B.ok (ar : Nat)
  have hT' : ∀ cs', cs'.length ≤ n + 1 → WsB (T.create (ar : Nat)).2 cs' (n + 1) := fun cs' hl => ⟨hst.ok B.ok, by have := hst.rs; have := B.rs; omega, hl, Tbl.create_dead B.dead _⟩
  have hmc := mCreate_ok hM (ar : Nat)
  rw [hcp.1] at hmc
  obtain ⟨c', hc'⟩ : ∃ c', c' = (T.create (ar : Nat)).1.1 := ⟨_, rfl⟩
  obtain ⟨e, he⟩ : ∃ e, e = (T.create (ar : Nat)).1.2 := ⟨_, rfl⟩
  rw [← he] at herr
  rw [← hc'] at hfit
  simp only [← hc', ← he] at hmc
  simp [pf27_79, e0, e6, r3, wa]
  refine Ev.mono hmc ?_
  rintro v s1 ⟨hc1, hM1, rfl⟩
  obtain ⟨A1, H1, g1, k1⟩ := hMc hc1 (Grow.refl _ _) hM1
  have b6a := b6.step k1 g1
  obtain ⟨s2, hw2, x2, q2, H2, c2⟩ := H1.box c'
  have r3a : s2.read i6 3 1 = some [.int .u8 (ar : Int)] := by rw [rd (b6a.ext x2).get (by simp [stepC])]; rfl
  obtain ⟨FT, hT, hTc⟩ := H2.t
  have htc := create_ok hT B.ok (ar : Nat)
  simp only [← hc', ← he] at htc
  simp [capN, hw2, pf27_78, e1, e6, r3a, wa]
  refine Ev.mono htc ?_
  rintro v s3 ⟨hc3, F3, hg3, hT3, rfl⟩
  obtain ⟨A3, H3, g3, k3⟩ := hTc hc3 hg3 hT3
  have q3 := q2.step k3 g3
  obtain ⟨s4, hw4, x4, q4, H4, c4⟩ := H3.box c'
  have q34 := q3.ext x4
  simp [capE, hw4, pf27_77, pf27_76]
  -- the end
  cases e with
  | none =>
    simp [pf27_75, e3, q34.cap4, Cp.cells_flat]
    refine H4.push hfit (by have := B.len; omega) ?_
    intro v' s5 A5 H5 g5 k5
    have q5 := q34.step k5 g5
    have q6 := q4.step k5 g5
    simp [pf27_74, q5.cap4, q6.cap4, errV, eqv_self]
    refine ev_num0 ?_
    simp
    exact hK _ _ _ _ _ _ H5 (hT' _ (by have := B.len; simp; omega)) (by simp) (by simp)
  | some e =>
    have hne : ¬ e = 0 := by have := (herr e rfl).1; omega
    simp [hne, pf27_74, q34.cap4, q4.cap4, errV, eqv_self]
    refine ev_num ?_
    simp
    exact hK _ _ _ _ _ _ H4 (hT' _ (by have := B.len; omega)) (by simp [e3]) (by simp)

set_option maxRecDepth 10000 in
set_option maxHeartbeats 1000000 in
theorem st_check {s st : S} {mp tp i6 i10 n op which ch ar : Nat} {T : Tbl} {A : List Nat} {hv : AV} {cs : List Cp} {c : Cp} (H : Ws s st mp tp T.pad T A hv cs) (B : WsB T cs n) (hn : n ≤ 1048576) (hc : c.Fit) (har : ar < 256) (b6 : Bg st i6 (stepC op which ch ar) A) (b10 : Bg st i10 c.cells A) {R : Regs} {K : KP}
    (e0 : R 0 = .ptr mp 0) (e1 : R 1 = .ptr tp 0) (e3 : R 3 = hv) (e6 : R 6 = .ptr i6 0) (e10 : R 10 = .ptr i10 0)
    (hK : ∀ R' st' T' A' hv' cs', Ws s st' mp tp T'.pad T' A' hv' cs' → WsB T' cs' (n + 1) → R' 8 = hv' → R' 9 = .bool true → K .ret R' st') :
    WpC tab pf27_71 R st (seqK tab (.seq pf27_70 (.seq pf27_69 .ret)) K) := by
  have r3 : st.read i6 3 1 = some [.int .u8 (ar : Int)] := by rw [rd b6.get (by simp [stepC])]; rfl
  have hbr := B.rs
  obtain ⟨FM, hM, hMc⟩ := H.m
  have hcp := check_pad T c ar
  have hst := Tbl.check_step T c ar
  have herr := Tbl.check_err T c ar
  have hmc := mCheck_ok hM (by rw [Tbl.pad_rs]; omega) B.sec hc ar har
  rw [hcp.1] at hmc
  obtain ⟨k, hk⟩ : ∃ k, k = (T.check c ar).1.1 := ⟨_, rfl⟩
  obtain ⟨e, he⟩ : ∃ e, e = (T.check c ar).1.2 := ⟨_, rfl⟩
  rw [← he] at herr
  simp only [← hk, ← he] at hmc
  simp [pf27_71, e0, e6, e10, r3, b10.cap4]
  refine Ev.mono hmc ?_
  rintro v s1 ⟨hc1, F1, hg1, hM1, rfl⟩
  obtain ⟨A1, H1, g1, k1⟩ := hMc hc1 hg1 hM1
  have b6a := b6.step k1 g1
  have b10a := b10.step k1 g1
  have r3a : s1.read i6 3 1 = some [.int .u8 (ar : Int)] := by rw [rd b6a.get (by simp [stepC])]; rfl
  obtain ⟨FT, hT, hTc⟩ := H1.t
  have htc := check_ok hT (by omega) hc ar har
  simp only [← hk, ← he] at htc
  simp [pf27_70, e1, e6, e10, r3a, b10a.cap4]
  refine Ev.mono htc ?_
  rintro v s3 ⟨hc3, F3, hg3, hT3, rfl⟩
  obtain ⟨A3, H3, g3, k3⟩ := hTc hc3 hg3 hT3
  have hB : WsB (T.check c ar).2 cs (n + 1) := ⟨hst.ok B.ok, by have := hst.rs; omega, by have := B.len; omega, Tbl.check_dead B.dead _ _⟩
  simp [idxE, pf27_69]
  refine num_errV e ?_
  simp
  exact hK _ _ _ _ _ _ H3 hB (by simp [e3]) (by simp)
end Go.Ab
/-! 'ObjectsScript' over the abstract machine: steps that restrict. -/
namespace Go.Ab

theorem wrap_u32n {z : Nat} (h : z < 4294967296) : IntKind.u32.wrap (z : Int) = z := by
  simp only [IntKind.wrap, IntKind.signed, IntKind.bits]
  simp
  omega

set_option maxRecDepth 10000 in
set_option maxHeartbeats 1000000 in
theorem st_restrict_tail {s st : S} {mp tp i6 i10 i21 n op which ch ar : Nat} {T : Tbl} {A : List Nat} {hv : AV} {cs : List Cp} {c : Cp} (H : Ws s st mp tp (T.restrict c ar).2.pad T A hv cs) (ok : T.Ok) (dd : T.Dead) (hrs : T.orc.rs.length ≤ 2 * n) (hl : cs.length ≤ n + 1) (hn : n ≤ 1048576) (hc : c.Fit) (har : ar < 256) (b6 : Bg st i6 (stepC op which ch ar) A) (b10 : Bg st i10 c.cells A) (b21 : Bg st i21 (T.restrict c ar).1.1.cells A) {R : Regs} {K : KP}
    (e1 : R 1 = .ptr tp 0) (e3 : R 3 = hv) (e6 : R 6 = .ptr i6 0) (e10 : R 10 = .ptr i10 0) (e20 : R 20 = .int .i64 (numE (T.restrict c ar).1.2)) (e21 : R 21 = .ptr i21 0)
    (hK : ∀ R' st' T' A' hv' cs', Ws s st' mp tp T'.pad T' A' hv' cs' → WsB T' cs' (n + 1) → R' 8 = hv' → R' 9 = .bool true → K .ret R' st') :
    WpC tab pf27_55 R st (seqK tab (.seq pf27_54 .ret) K) := by
  have r3 : st.read i6 3 1 = some [.int .u8 (ar : Int)] := by rw [rd b6.get (by simp [stepC])]; rfl
  have hst := Tbl.restrict_step T c ar
  obtain ⟨FT, hT, hTc⟩ := H.t
  have htc := tblRestrict_ok hT (by omega) hc ar har
  obtain ⟨c', hc'⟩ : ∃ c', c' = (T.restrict c ar).1.1 := ⟨_, rfl⟩
  obtain ⟨e, he⟩ : ∃ e, e = (T.restrict c ar).1.2 := ⟨_, rfl⟩
  rw [← hc'] at b21
  rw [← he] at e20
  simp only [← hc', ← he] at htc
  simp [pf27_55, e1, e6, e10, r3, b10.cap4]
  refine Ev.mono htc ?_
  rintro v s3 ⟨hc3, F3, hg3, hT3, rfl⟩
  obtain ⟨A3, H3, g3, k3⟩ := hTc hc3 hg3 hT3
  have q3 := b21.step k3 g3
  obtain ⟨s4, hw4, x4, q4, H4, c4⟩ := H3.box c'
  have q34 := q3.ext x4
  simp [capE, hw4, pf27_54, q34.cap4, q4.cap4, e21, eqv_self]
  refine num_errV e ?_
  simp [e20]
  exact hK _ _ _ _ _ _ H4 ⟨hst.ok ok, by have := hst.rs; omega, hl, Tbl.restrict_dead dd _ _⟩ (by simp [e3]) (by simp)

set_option maxRecDepth 10000 in
set_option maxHeartbeats 1000000 in
theorem st_restrict {s st : S} {mp tp i6 i10 n op which ch ar : Nat} {T : Tbl} {A : List Nat} {hv : AV} {cs : List Cp} {c : Cp} (H : Ws s st mp tp T.pad T A hv cs) (B : WsB T cs n) (hn : n ≤ 1048576) (hc : c.Fit) (har : ar < 256) (b6 : Bg st i6 (stepC op which ch ar) A) (b10 : Bg st i10 c.cells A) {R : Regs} {K : KP}
    (e0 : R 0 = .ptr mp 0) (e1 : R 1 = .ptr tp 0) (e3 : R 3 = hv) (e6 : R 6 = .ptr i6 0) (e10 : R 10 = .ptr i10 0)
    (hK : ∀ R' st' T' A' hv' cs', Ws s st' mp tp T'.pad T' A' hv' cs' → WsB T' cs' (n + 1) → R' 8 = hv' → R' 9 = .bool true → K .ret R' st') :
    WpC tab pf27_66 R st (seqK tab (.seq pf27_65 pf27_64) K) := by
  have hbr := B.rs
  have hbl := B.len
  have hsc := H.kp.ctr
  obtain ⟨FM, hM, hMc⟩ := H.m
  have hcp := check_pad T c 0
  have herr := Tbl.check_err T c 0
  have hst := Tbl.check_step T c 0
  have hmc := mCheck_ok hM (by rw [Tbl.pad_rs]; omega) B.sec hc 0 (by omega)
  rw [hcp.1] at hmc
  simp [pf27_66, e0, e10, b10.cap4]
  refine Ev.mono hmc ?_
  rintro v s1 ⟨hc1, F1, hg1, hM1, rfl⟩
  obtain ⟨A1, H1, g1, k1⟩ := hMc hc1 hg1 hM1
  have b6a := b6.step k1 g1
  have b10a := b10.step k1 g1
  obtain ⟨s2, hw2, x2, q2, H2, c2⟩ := H1.box Cp.zero
  have hw2' : (s1.new (.cells [.int .u64 0, .int .u32 0, .int .u8 0, .int .u64 0] 0 false)).write s1.ctr 0 [.int .u64 0, .int .u32 0, .int .u8 0, .int .u64 0] = some s2 := hw2
  have b6b := b6a.ext x2
  have b10b := b10a.ext x2
  have r3 : s2.read i6 3 1 = some [.int .u8 (ar : Int)] := by rw [rd b6b.get (by simp [stepC])]; rfl
  cases hchk : T.check c 0 with
  | mk a T1 =>
    obtain ⟨k, e⟩ := a
    rw [hchk] at H2 herr hst
    simp only at H2 herr hst
    cases e with
    | some e =>
      have hr : T.restrict c ar = ((Cp.zero, some e), T1) := by unfold Tbl.restrict; rw [hchk]
      have hne : ¬ e = 0 := by have := (herr e rfl).1; omega
      simp [pf27_65, hw2', pf27_64, pf27_63, pf27_62, hne]
      exact st_restrict_tail (i21 := s1.ctr) (by rw [hr]; exact H2) B.ok B.dead hbr (by omega) hn hc har b6b b10b (by rw [hr]; exact q2) (by simp [e1]) (by simp [e3]) (by simp [e6]) (by simp [e10]) (by rw [hr]; simp) (by simp) hK
    | none =>
      obtain ⟨x, hgx, hax, hth, rfl, hall, hport⟩ := Tbl.check_facts hchk
      have hxs : x.secret < w48 := ((hst.ok B.ok).all x (List.mem_of_getElem? hax)).sec
      have hk64 : c.o < 64 := by
        have h1 := (List.getElem?_eq_some_iff.1 hax).1
        have h2 : T1.all.length ≤ 64 := (hst.ok B.ok).few
        omega
      have hk64i : (c.o : Int) < 64 := by omega
      obtain ⟨FM2, hM2, hMc2⟩ := H2.m
      have rsec : s2.read mp (2 + c.o * 5 + 1) 1 = some [.int .u64 x.secret] := hM2.rd (Tbl.pad_at hax) rfl
      have hb := band8 c.r ar hc.r har
      have hml := and_lt8 c.r ar hc.r
      obtain ⟨m, hm⟩ : ∃ m, m = c.r &&& ar := ⟨_, rfl⟩
      rw [← hm] at hb hml
      have hmk := mcheck_ok hM2 (by rw [Tbl.pad_rs]; have := hst.rs; omega) x.secret m hxs hml
      rw [Tbl.pad_rs] at hmk
      simp [pf27_65, hw2', pf27_64, pf27_63, pf27_62, pf27_61, pf27_60, e0, hk64, hk64i, rsec, e10, b10b.rt, e6, r3, hb, -binV_and]
      refine Ev.mono hmk ?_
      rintro v s3 ⟨hc3, F3, hg3, hM3, rfl⟩
      obtain ⟨A3, H3, g3, k3⟩ := hMc2 hc3 hg3 hM3
      have b6c := b6b.step k3 g3
      have b10c := b10b.step k3 g3
      have q3 := q2.step k3 g3
      obtain ⟨d, q', hq'⟩ : ∃ d q', T1.orc.tok x.secret m = (d, q') := ⟨_, _, rfl⟩
      rw [hq'] at H3 ⊢
      cases d with
      | none =>
        have hr : T.restrict c ar = ((Cp.zero, some 7), { T1 with orc := q' }) := by
          unfold Tbl.restrict
          rw [hchk]
          simp only [hgx, ← hm, hq']
        simp [tapeE, pf27_59, pf27_58]
        exact st_restrict_tail (i21 := s1.ctr) (by rw [hr]; exact H3) B.ok B.dead hbr (by omega) hn hc har b6c b10c (by rw [hr]; exact q3) (by simp [e1]) (by simp [e3]) (by simp [e6]) (by simp [e10]) (by rw [hr]; simp) (by simp) hK
      | some y =>
        have hr : T.restrict c ar = ((⟨T1.port, c.o, m, y⟩, none), { T1 with orc := q' }) := by
          unfold Tbl.restrict
          rw [hchk]
          simp only [hgx, ← hm, hq']
        have hfit := Tbl.restrict_fit B.ok hc ar
        rw [hr] at hfit
        have rp : s3.read mp 0 1 = some [.int .u64 (T1.port : Int)] := by
          obtain ⟨_, hM4, _⟩ := H3.m
          exact hM4.rd0
        have r3c : s3.read i6 3 1 = some [.int .u8 (ar : Int)] := by rw [rd b6c.get (by simp [stepC])]; rfl
        have w32 := wrap_u32n hc.o
        have ww := wrc (o := 0) (v := (⟨T1.port, c.o, m, y⟩ : Cp).cells) q3.get (by simp) (Cp.cells_flat _)
        rw [over4 _ _ (by simp)] at ww
        obtain ⟨s4, hs4⟩ : ∃ t, t = s3.set s1.ctr (some (.cells (⟨T1.port, c.o, m, y⟩ : Cp).cells 0 false)) := ⟨_, rfl⟩
        have h1c := H1.kp.ctr
        have H4 := H3.set (o := some (.cells (⟨T1.port, c.o, m, y⟩ : Cp).cells 0 false)) q3.out (by omega)
        have n6 : ¬ i6 = s1.ctr := by have := b6a.lt; omega
        have n10 : ¬ i10 = s1.ctr := by have := b10a.lt; omega
        have b6d := b6c.set (o := some (.cells (⟨T1.port, c.o, m, y⟩ : Cp).cells 0 false)) n6
        have b10d := b10c.set (o := some (.cells (⟨T1.port, c.o, m, y⟩ : Cp).cells 0 false)) n10
        have q4 := q3.put (⟨T1.port, c.o, m, y⟩ : Cp).cells
        rw [← hs4] at ww H4 b6d b10d q4
        have ww' : s3.write s1.ctr 0 [.int .u64 (T1.port : Int), .int .u32 (c.o : Int), .int .u8 (m : Int), .int .u64 (y : Int)] = some s4 := ww
        simp [tapeE, pf27_59, pf27_58, pf27_57, e0, rp, w32, e10, b10c.rt, e6, r3c, hb, ww', pf27_56, e3, q4.cap4, Cp.cells_flat, -binV_and]
        refine H4.push hfit (by omega) ?_
        intro v' s5 A5 H5 g5 k5
        simp
        exact st_restrict_tail (i21 := s1.ctr) (by rw [hr]; exact H5) B.ok B.dead hbr (by simp; omega) hn hc har (b6d.step k5 g5) (b10d.step k5 g5) (by rw [hr]; exact q4.step k5 g5) (by simp [e1]) (by simp) (by simp [e6]) (by simp [e10]) (by rw [hr]; simp) (by simp) hK
end Go.Ab
/-! 'ObjectsScript' over the abstract machine: steps that revoke. -/
namespace Go.Ab

theorem Tbl.pad_set {T : Tbl} {k : Nat} {x y : Ob} (h : T.all[k]? = some x) : (({ T with all := T.all.set k y } : Tbl)).pad = { T.pad with all := T.pad.all.set k y } := by
  show Tbl.mk _ _ _ = Tbl.mk _ _ _
  congr 1
  exact Ab.pad_set y (List.getElem?_eq_some_iff.1 h).1

set_option maxRecDepth 10000 in
set_option maxHeartbeats 1000000 in
theorem st_revoke_tail {s st : S} {mp tp i10 i27 n : Nat} {T : Tbl} {A : List Nat} {hv : AV} {cs : List Cp} {c : Cp} (H : Ws s st mp tp (T.revoke c).2.pad T A hv cs) (ok : T.Ok) (dd : T.Dead) (hrs : T.orc.rs.length ≤ 2 * n) (hl : cs.length ≤ n + 1) (hn : n ≤ 1048576) (hc : c.Fit) (b10 : Bg st i10 c.cells A) (b27 : Bg st i27 (T.revoke c).1.1.cells A) {R : Regs} {K : KP}
    (e1 : R 1 = .ptr tp 0) (e3 : R 3 = hv) (e10 : R 10 = .ptr i10 0) (e26 : R 26 = .int .i64 (numE (T.revoke c).1.2)) (e27 : R 27 = .ptr i27 0)
    (hK : ∀ R' st' T' A' hv' cs', Ws s st' mp tp T'.pad T' A' hv' cs' → WsB T' cs' (n + 1) → R' 8 = hv' → R' 9 = .bool true → K .ret R' st') :
    WpC tab pf27_38 R st (seqK tab (.seq pf27_37 .ret) K) := by
  have hst := Tbl.revoke_step T c
  obtain ⟨FT, hT, hTc⟩ := H.t
  have htc := revoke_ok hT ok (by omega) hc
  obtain ⟨c', hc'⟩ : ∃ c', c' = (T.revoke c).1.1 := ⟨_, rfl⟩
  obtain ⟨e, he⟩ : ∃ e, e = (T.revoke c).1.2 := ⟨_, rfl⟩
  rw [← hc'] at b27
  rw [← he] at e26
  simp only [← hc', ← he] at htc
  simp [pf27_38, e1, e10, b10.cap4]
  refine Ev.mono htc ?_
  rintro v s3 ⟨hc3, F3, hg3, hT3, rfl⟩
  obtain ⟨A3, H3, g3, k3⟩ := hTc hc3 hg3 hT3
  have q3 := b27.step k3 g3
  obtain ⟨s4, hw4, x4, q4, H4, c4⟩ := H3.box c'
  have q34 := q3.ext x4
  simp [capE, hw4, pf27_37, q34.cap4, q4.cap4, e27, eqv_self]
  refine num_errV e ?_
  simp [e26]
  exact hK _ _ _ _ _ _ H4 ⟨hst.ok ok, by have := hst.rs; omega, hl, Tbl.revoke_dead dd _⟩ (by simp [e3]) (by simp)

set_option maxRecDepth 10000 in
set_option maxHeartbeats 1000000 in
theorem st_revoke {s st : S} {mp tp i6 i10 n op which ch ar : Nat} {T : Tbl} {A : List Nat} {hv : AV} {cs : List Cp} {c : Cp} (H : Ws s st mp tp T.pad T A hv cs) (B : WsB T cs n) (hn : n ≤ 1048576) (hc : c.Fit) (har : ar < 256) (b6 : Bg st i6 (stepC op which ch ar) A) (b10 : Bg st i10 c.cells A) {R : Regs} {K : KP}
    (e0 : R 0 = .ptr mp 0) (e1 : R 1 = .ptr tp 0) (e3 : R 3 = hv) (e6 : R 6 = .ptr i6 0) (e10 : R 10 = .ptr i10 0)
    (hK : ∀ R' st' T' A' hv' cs', Ws s st' mp tp T'.pad T' A' hv' cs' → WsB T' cs' (n + 1) → R' 8 = hv' → R' 9 = .bool true → K .ret R' st') :
    WpC tab pf27_51 R st (seqK tab (.seq pf27_50 pf27_49) K) := by
  have hbr := B.rs
  have hbl := B.len
  have hsc := H.kp.ctr
  obtain ⟨FM, hM, hMc⟩ := H.m
  have hcp := check_pad T c 255
  have herr := Tbl.check_err T c 255
  have hst := Tbl.check_step T c 255
  have hmc := mCheck_ok hM (by rw [Tbl.pad_rs]; omega) B.sec hc 255 (by omega)
  rw [hcp.1] at hmc
  simp [pf27_51, e0, e10, b10.cap4]
  refine Ev.mono hmc ?_
  rintro v s1 ⟨hc1, F1, hg1, hM1, rfl⟩
  obtain ⟨A1, H1, g1, k1⟩ := hMc hc1 hg1 hM1
  have b10a := b10.step k1 g1
  obtain ⟨s2, hw2, x2, q2, H2, c2⟩ := H1.box Cp.zero
  have hw2' : (s1.new (.cells [.int .u64 0, .int .u32 0, .int .u8 0, .int .u64 0] 0 false)).write s1.ctr 0 [.int .u64 0, .int .u32 0, .int .u8 0, .int .u64 0] = some s2 := hw2
  have b10b := b10a.ext x2
  cases hchk : T.check c 255 with
  | mk a T1 =>
    obtain ⟨k, e⟩ := a
    rw [hchk] at H2 herr hst
    simp only at H2 herr hst
    cases e with
    | some e =>
      have hr : T.revoke c = ((Cp.zero, some e), T1) := by unfold Tbl.revoke; rw [hchk]
      have hne : ¬ e = 0 := by have := (herr e rfl).1; omega
      simp [pf27_50, hw2', pf27_49, pf27_48, pf27_47, hne]
      exact st_revoke_tail (i27 := s1.ctr) (by rw [hr]; exact H2) B.ok B.dead hbr (by omega) hn hc b10b (by rw [hr]; exact q2) (by simp [e1]) (by simp [e3]) (by simp [e10]) (by rw [hr]; simp) (by simp) hK
    | none =>
      obtain ⟨x, hgx, hax, hth, rfl, hall, hport⟩ := Tbl.check_facts hchk
      have ok1 := hst.ok B.ok
      have hxo := ok1.all x (List.mem_of_getElem? hax)
      have hk64 : c.o < 64 := by
        have h1 := (List.getElem?_eq_some_iff.1 hax).1
        have h2 : T1.all.length ≤ 64 := ok1.few
        omega
      have hk64i : (c.o : Int) < 64 := by omega
      obtain ⟨FM2, hM2, hMc2⟩ := H2.m
      obtain ⟨op', r1', hev⟩ := hM2.draw
      simp [pf27_50, hw2', pf27_49, pf27_48, pf27_47, pf27_46, e0, r1']
      refine Ev.mono hev ?_
      rintro v s3 ⟨hc3, hctr3, rfl, hM3⟩
      obtain ⟨A3, H3, g3, k3⟩ := hMc2 hc3 (Grow.refl _ _) hM3
      rw [Tbl.pad_rs] at H3 ⊢
      have b10c := b10b.step k3 g3
      have q3 := q2.step k3 g3
      obtain ⟨d, q', hq'⟩ : ∃ d q', T1.orc.draw = (d, q') := ⟨_, _, rfl⟩
      rw [hq'] at H3 ⊢
      cases d with
      | none =>
        have hr : T.revoke c = ((Cp.zero, some 7), { T1 with orc := q' }) := by
          unfold Tbl.revoke
          rw [hchk]
          simp only [hgx, hq']
        simp [ansV, pf27_45]
        refine ev_num ?_
        simp [pf27_44, pf27_43]
        exact st_revoke_tail (i27 := s1.ctr) (by rw [hr]; exact H3) B.ok B.dead hbr (by omega) hn hc b10c (by rw [hr]; exact q3) (by simp [e1]) (by simp [e3]) (by simp [e10]) (by rw [hr]; simp) (by simp) hK
      | some y =>
        have hr : T.revoke c = ((⟨T1.port, c.o, 255, y⟩, none), { T1 with orc := q', all := T1.all.set c.o { x with secret := y, epoch := x.epoch + 1 } }) := by
          unfold Tbl.revoke
          rw [hchk]
          simp only [hgx, hq']
        have hfit := Tbl.revoke_fit B.ok hc
        rw [hr] at hfit
        have w32 := wrap_u32n hc.o
        have hep := hxo.epoch
        have hale : T1.orc.at_ ≤ T1.orc.es.length := ok1.le
        have hbig : T1.orc.es.length ≤ 17592186044416 := by
          have h9 := (Tb.small (H2.t.choose_spec.1)).1
          rw [hst.es]; exact h9
        have wep : IntKind.i64.wrap ((x.epoch : Int) + 1) = ((x.epoch + 1 : Nat) : Int) := by rw [wrap_i64] <;> omega
        obtain ⟨E1, hE1⟩ : ∃ E1, E1 = x.epoch + 1 := ⟨_, rfl⟩
        rw [← hE1] at wep hr
        -- the secret
        obtain ⟨FM3, hM3', hMc3⟩ := H3.m
        have hx3 : (T1.pad.all)[c.o]? = some x := Tbl.pad_at hax
        obtain ⟨s4, hw4, hM4, hc4, hctr4⟩ := hM3'.put (k := c.o) (x := x) (y := { x with secret := y }) (j := 1) (n := 1) (w := [.int .u64 (y : Int)]) hx3 rfl (by omega) (by simp [isFlat]) (by simp [Ob.cells, over])
        obtain ⟨A4, H4, g4, k4⟩ := hMc3 hc4 (Grow.refl _ _) hM4
        have b10d := b10c.step k4 g4
        have q4 := q3.step k4 g4
        -- the epoch
        obtain ⟨FM4, hM4', hMc4⟩ := H4.m
        have hx4 : ((T1.pad.all).set c.o { x with secret := y })[c.o]? = some { x with secret := y } := by
          rw [List.getElem?_set_self (List.getElem?_eq_some_iff.1 hx3).1]
        have rep : s4.read mp (2 + c.o * 5 + 2) 1 = some [.int .i64 (x.epoch : Int)] := hM4'.rd hx4 rfl
        obtain ⟨s5, hw5, hM5, hc5, hctr5⟩ := hM4'.put (k := c.o) (x := { x with secret := y }) (y := { x with secret := y, epoch := E1 }) (j := 2) (n := 1) (w := [.int .i64 (E1 : Int)]) hx4 rfl (by omega) (by simp [isFlat]) (by simp [Ob.cells, over])
        obtain ⟨A5, H5, g5, k5⟩ := hMc4 hc5 (Grow.refl _ _) hM5
        have b10e := b10d.step k5 g5
        have q5 := q4.step k5 g5
        have hpad : (({ T1 with orc := q', all := T1.all.set c.o { x with secret := y, epoch := E1 } } : Tbl)).pad = { T1.pad with orc := q', all := ((T1.pad.all).set c.o { x with secret := y }).set c.o { x with secret := y, epoch := E1 } } := by
          rw [List.set_set]
          exact Tbl.pad_set (T := { T1 with orc := q' }) hax
        have H5' : Ws s s5 mp tp (({ T1 with orc := q', all := T1.all.set c.o { x with secret := y, epoch := E1 } } : Tbl)).pad T A5 hv cs := by
          rw [hpad]; exact H5
        have rp : s5.read mp 0 1 = some [.int .u64 (T1.port : Int)] := by
          obtain ⟨_, hM6, _⟩ := H5.m
          exact hM6.rd0
        have ww := wrc (o := 0) (v := (⟨T1.port, c.o, 255, y⟩ : Cp).cells) q5.get (by simp) (Cp.cells_flat _)
        rw [over4 _ _ (by simp)] at ww
        obtain ⟨s6, hs6⟩ : ∃ t, t = s5.set s1.ctr (some (.cells (⟨T1.port, c.o, 255, y⟩ : Cp).cells 0 false)) := ⟨_, rfl⟩
        have h1c := H1.kp.ctr
        have H6 := H5'.set (o := some (.cells (⟨T1.port, c.o, 255, y⟩ : Cp).cells 0 false)) q5.out (by omega)
        have n10 : ¬ i10 = s1.ctr := by have := b10a.lt; omega
        have b10f := b10e.set (o := some (.cells (⟨T1.port, c.o, 255, y⟩ : Cp).cells 0 false)) n10
        have q6 := q5.put (⟨T1.port, c.o, 255, y⟩ : Cp).cells
        rw [← hs6] at ww H6 b10f q6
        have ww' : s5.write s1.ctr 0 [.int .u64 (T1.port : Int), .int .u32 (c.o : Int), .int .u8 255, .int .u64 (y : Int)] = some s6 := ww
        simp [ansV, pf27_45]
        refine ev_num0 ?_
        simp [pf27_44, pf27_43, pf27_42, e0, hk64, hk64i, hw4, pf27_41, rep, wep, hw5, pf27_40, rp, w32, ww', pf27_39, e3, q6.cap4, Cp.cells_flat]
        refine H6.push hfit (by omega) ?_
        intro v' s7 A7 H7 g7 k7
        simp
        exact st_revoke_tail (i27 := s1.ctr) (by rw [hr]; exact H7) B.ok B.dead hbr (by simp; omega) hn hc (b10f.step k7 g7) (by rw [hr]; exact q6.step k7 g7) (by simp [e1]) (by simp) (by simp [e10]) (by rw [hr]; simp) (by simp) hK
end Go.Ab
/-! 'ObjectsScript' over the abstract machine: steps that destroy, touch, tell. -/
namespace Go.Ab

set_option maxRecDepth 10000 in
set_option maxHeartbeats 1000000 in
theorem st_destroy_tail {s st : S} {mp tp i10 n : Nat} {T : Tbl} {A : List Nat} {hv : AV} {cs : List Cp} {c : Cp} (H : Ws s st mp tp (T.destroy c).2.pad T A hv cs) (ok : T.Ok) (dd : T.Dead) (hrs : T.orc.rs.length ≤ 2 * n) (hl : cs.length ≤ n + 1) (hn : n ≤ 1048576) (hc : c.Fit) (b10 : Bg st i10 c.cells A) {R : Regs} {K : KP}
    (e1 : R 1 = .ptr tp 0) (e3 : R 3 = hv) (e10 : R 10 = .ptr i10 0) (k : Nat) (e32 : R 32 = .int .i64 (k : Int)) (hk : (T.destroy c).1.1 = k) (e33 : R 33 = .int .i64 (numE (T.destroy c).1.2.2)) (e34 : R 34 = .int .i64 (T.destroy c).1.2.1)
    (hK : ∀ R' st' T' A' hv' cs', Ws s st' mp tp T'.pad T' A' hv' cs' → WsB T' cs' (n + 1) → R' 8 = hv' → R' 9 = .bool true → K .ret R' st') :
    WpC tab pf27_27 R st (seqK tab (.seq pf27_26 .ret) K) := by
  have hst := Tbl.destroy_step T c
  obtain ⟨FT, hT, hTc⟩ := H.t
  have htc := destroy_ok hT (by omega) hc
  obtain ⟨e, he⟩ : ∃ e, e = (T.destroy c).1.2.2 := ⟨_, rfl⟩
  obtain ⟨v, hv'⟩ : ∃ v, v = (T.destroy c).1.2.1 := ⟨_, rfl⟩
  rw [← he] at e33
  rw [← hv'] at e34
  simp only [← he, ← hv', hk] at htc
  simp [pf27_27, e1, e10, b10.cap4]
  refine Ev.mono htc ?_
  rintro v s3 ⟨hc3, F3, hg3, hT3, rfl⟩
  obtain ⟨A3, H3, g3, k3⟩ := hTc hc3 hg3 hT3
  simp [pf27_26, e32, e34]
  refine num_errV e ?_
  simp [e33]
  exact hK _ _ _ _ _ _ H3 ⟨hst.ok ok, by have := hst.rs; omega, hl, Tbl.destroy_dead dd _⟩ (by simp [e3]) (by simp)

theorem destroy_idx {T T1 : Tbl} {c : Cp} {k : Nat} {e : Option Int} (h : T.check c 8 = ((k, e), T1)) : (T.destroy c).1.1 = k := by
  unfold Tbl.destroy
  rw [h]
  cases e with
  | some e =>
    have := check_pad T c 8
    simp only
    unfold Tbl.check at h
    split at h
    · cases h; rfl
    · split at h
      · cases h; rfl
      · split at h
        · cases h; rfl
        · rename_i y q _
          split at h
          · cases h; rfl
          · split at h
            · cases h; rfl
            · cases h
  | none =>
    obtain ⟨x, hgx, _⟩ := Tbl.check_facts h
    simp only [hgx]

set_option maxRecDepth 10000 in
set_option maxHeartbeats 1000000 in
theorem st_destroy {s st : S} {mp tp i6 i10 n op which ch ar : Nat} {T : Tbl} {A : List Nat} {hv : AV} {cs : List Cp} {c : Cp} (H : Ws s st mp tp T.pad T A hv cs) (B : WsB T cs n) (hn : n ≤ 1048576) (hc : c.Fit) (har : ar < 256) (b6 : Bg st i6 (stepC op which ch ar) A) (b10 : Bg st i10 c.cells A) {R : Regs} {K : KP}
    (e0 : R 0 = .ptr mp 0) (e1 : R 1 = .ptr tp 0) (e3 : R 3 = hv) (e6 : R 6 = .ptr i6 0) (e10 : R 10 = .ptr i10 0)
    (hK : ∀ R' st' T' A' hv' cs', Ws s st' mp tp T'.pad T' A' hv' cs' → WsB T' cs' (n + 1) → R' 8 = hv' → R' 9 = .bool true → K .ret R' st') :
    WpC tab pf27_34 R st (seqK tab pf27_33 K) := by
  have hbr := B.rs
  have hbl := B.len
  obtain ⟨FM, hM, hMc⟩ := H.m
  have hcp := check_pad T c 8
  have herr := Tbl.check_err T c 8
  have hst := Tbl.check_step T c 8
  have hmc := mCheck_ok hM (by rw [Tbl.pad_rs]; omega) B.sec hc 8 (by omega)
  rw [hcp.1] at hmc
  simp [pf27_34, e0, e10, b10.cap4]
  refine Ev.mono hmc ?_
  rintro v s1 ⟨hc1, F1, hg1, hM1, rfl⟩
  obtain ⟨A1, H1, g1, k1⟩ := hMc hc1 hg1 hM1
  have b10a := b10.step k1 g1
  cases hchk : T.check c 8 with
  | mk a T1 =>
    obtain ⟨k, e⟩ := a
    have hidx := destroy_idx hchk
    rw [hchk] at H1 herr hst
    simp only at H1 herr hst
    cases e with
    | some e =>
      have hr : (T.destroy c).2 = T1 ∧ (T.destroy c).1.2 = (0, some e) := by unfold Tbl.destroy; rw [hchk]; exact ⟨rfl, rfl⟩
      have hne : ¬ e = 0 := by have := (herr e rfl).1; omega
      simp [pf27_33, pf27_32, pf27_31, pf27_30, hne]
      exact st_destroy_tail (by rw [hr.1]; exact H1) B.ok B.dead hbr (by omega) hn hc b10a (by simp [e1]) (by simp [e3]) (by simp [e10]) k (by simp) hidx (by rw [hr.2]; simp) (by rw [hr.2]; simp) hK
    | none =>
      obtain ⟨x, hgx, hax, hth, rfl, hall, hport⟩ := Tbl.check_facts hchk
      have ok1 := hst.ok B.ok
      have hr : T.destroy c = ((c.o, x.value, none), { T1 with all := T1.all.set c.o Ob.none }) := by
        unfold Tbl.destroy
        rw [hchk]
        simp only [hgx]
      have hk64 : c.o < 64 := by
        have h1 := (List.getElem?_eq_some_iff.1 hax).1
        have h2 : T1.all.length ≤ 64 := ok1.few
        omega
      have hk64i : (c.o : Int) < 64 := by omega
      obtain ⟨FM2, hM2, hMc2⟩ := H1.m
      have hx2 : (T1.pad.all)[c.o]? = some x := Tbl.pad_at hax
      have rv : s1.read mp (2 + c.o * 5 + 3) 1 = some [.int .i64 x.value] := hM2.rd hx2 rfl
      obtain ⟨s2, hw2, hM3, hc2, hctr2⟩ := hM2.put (k := c.o) (x := x) (y := Ob.none) (j := 0) (n := 5) (w := Ob.cells Ob.none) hx2 rfl (by omega) (Ob.cells_flat _) (by simp [Ob.cells, over])
      obtain ⟨A2, H2, g2, k2⟩ := hMc2 hc2 (Grow.refl _ _) hM3
      have b10b := b10a.step k2 g2
      have hw2' : s1.write mp (2 + c.o * 5) [.bool false, .int .u64 0, .int .i64 0, .int .i64 0, .int .i64 0] = some s2 := hw2
      have H2' : Ws s s2 mp tp (({ T1 with all := T1.all.set c.o Ob.none } : Tbl)).pad T A2 hv cs := by
        rw [Tbl.pad_set hax]; exact H2
      simp [pf27_33, pf27_32, pf27_31, pf27_30, pf27_29, e0, hk64, hk64i, rv, pf27_28, hw2']
      exact st_destroy_tail (by rw [hr]; exact H2') B.ok B.dead hbr (by omega) hn hc b10b (by simp [e1]) (by simp [e3]) (by simp [e10]) c.o (by simp) hidx (by rw [hr]; simp) (by rw [hr]; simp) hK

set_option maxRecDepth 10000 in
set_option maxHeartbeats 1000000 in
theorem st_touch_tail {s st : S} {mp tp i10 n : Nat} {T : Tbl} {A : List Nat} {hv : AV} {cs : List Cp} {c : Cp} (H : Ws s st mp tp (T.touch c).2.pad T A hv cs) (ok : T.Ok) (dd : T.Dead) (hrs : T.orc.rs.length ≤ 2 * n) (hl : cs.length ≤ n + 1) (hn : n ≤ 1048576) (hc : c.Fit) (b10 : Bg st i10 c.cells A) {R : Regs} {K : KP}
    (e1 : R 1 = .ptr tp 0) (e3 : R 3 = hv) (e10 : R 10 = .ptr i10 0) (e39 : R 39 = .int .i64 (numE (T.touch c).1))
    (hK : ∀ R' st' T' A' hv' cs', Ws s st' mp tp T'.pad T' A' hv' cs' → WsB T' cs' (n + 1) → R' 8 = hv' → R' 9 = .bool true → K .ret R' st') :
    WpC tab pf27_19 R st (seqK tab .ret K) := by
  have hst := Tbl.touch_step T c
  obtain ⟨FT, hT, hTc⟩ := H.t
  have htc := touch_ok hT (by omega) hc
  obtain ⟨e, he⟩ : ∃ e, e = (T.touch c).1 := ⟨_, rfl⟩
  rw [← he] at e39
  simp only [← he] at htc
  simp [pf27_19, e1, e10, b10.cap4]
  refine Ev.mono htc ?_
  rintro v s3 ⟨hc3, F3, hg3, hT3, rfl⟩
  obtain ⟨A3, H3, g3, k3⟩ := hTc hc3 hg3 hT3
  simp
  refine num_errV e ?_
  simp [e39]
  exact hK _ _ _ _ _ _ H3 ⟨hst.ok ok, by have := hst.rs; omega, hl, Tbl.touch_dead dd _⟩ (by simp [e3]) (by simp)

set_option maxRecDepth 10000 in
set_option maxHeartbeats 1000000 in
theorem st_touch {s st : S} {mp tp i6 i10 n op which ch ar : Nat} {T : Tbl} {A : List Nat} {hv : AV} {cs : List Cp} {c : Cp} (H : Ws s st mp tp T.pad T A hv cs) (B : WsB T cs n) (hn : n ≤ 1048576) (hc : c.Fit) (har : ar < 256) (b6 : Bg st i6 (stepC op which ch ar) A) (b10 : Bg st i10 c.cells A) {R : Regs} {K : KP}
    (e0 : R 0 = .ptr mp 0) (e1 : R 1 = .ptr tp 0) (e3 : R 3 = hv) (e6 : R 6 = .ptr i6 0) (e10 : R 10 = .ptr i10 0)
    (hK : ∀ R' st' T' A' hv' cs', Ws s st' mp tp T'.pad T' A' hv' cs' → WsB T' cs' (n + 1) → R' 8 = hv' → R' 9 = .bool true → K .ret R' st') :
    WpC tab pf27_23 R st (seqK tab pf27_22 K) := by
  have hbr := B.rs
  have hbl := B.len
  obtain ⟨FM, hM, hMc⟩ := H.m
  have hcp := check_pad T c 0
  have herr := Tbl.check_err T c 0
  have hst := Tbl.check_step T c 0
  have hmc := mCheck_ok hM (by rw [Tbl.pad_rs]; omega) B.sec hc 0 (by omega)
  rw [hcp.1] at hmc
  simp [pf27_23, e0, e10, b10.cap4]
  refine Ev.mono hmc ?_
  rintro v s1 ⟨hc1, F1, hg1, hM1, rfl⟩
  obtain ⟨A1, H1, g1, k1⟩ := hMc hc1 hg1 hM1
  have b10a := b10.step k1 g1
  cases hchk : T.check c 0 with
  | mk a T1 =>
    obtain ⟨k, e⟩ := a
    rw [hchk] at H1 herr hst
    simp only at H1 herr hst
    cases e with
    | some e =>
      have hr : T.touch c = (some e, T1) := by unfold Tbl.touch; rw [hchk]
      have hne : ¬ e = 0 := by have := (herr e rfl).1; omega
      simp [pf27_22, pf27_21, hne]
      exact st_touch_tail (by rw [hr]; exact H1) B.ok B.dead hbr (by omega) hn hc b10a (by simp [e1]) (by simp [e3]) (by simp [e10]) (by rw [hr]; simp) hK
    | none =>
      obtain ⟨x, hgx, hax, hth, rfl, hall, hport⟩ := Tbl.check_facts hchk
      have ok1 := hst.ok B.ok
      have hr : T.touch c = (none, { T1 with all := T1.all.set c.o { x with lives := 24 } }) := by
        unfold Tbl.touch
        rw [hchk]
        simp only [hgx]
      have hk64 : c.o < 64 := by
        have h1 := (List.getElem?_eq_some_iff.1 hax).1
        have h2 : T1.all.length ≤ 64 := ok1.few
        omega
      have hk64i : (c.o : Int) < 64 := by omega
      obtain ⟨FM2, hM2, hMc2⟩ := H1.m
      have hx2 : (T1.pad.all)[c.o]? = some x := Tbl.pad_at hax
      obtain ⟨s2, hw2, hM3, hc2, hctr2⟩ := hM2.put (k := c.o) (x := x) (y := { x with lives := 24 }) (j := 4) (n := 1) (w := [.int .i64 24]) hx2 rfl (by omega) (by simp [isFlat]) (by simp [Ob.cells, over])
      obtain ⟨A2, H2, g2, k2⟩ := hMc2 hc2 (Grow.refl _ _) hM3
      have b10b := b10a.step k2 g2
      have H2' : Ws s s2 mp tp (({ T1 with all := T1.all.set c.o { x with lives := 24 } } : Tbl)).pad T A2 hv cs := by
        rw [Tbl.pad_set hax]; exact H2
      simp [pf27_22, pf27_21, pf27_20, e0, hk64, hk64i, hw2]
      exact st_touch_tail (by rw [hr]; exact H2') B.ok B.dead hbr (by omega) hn hc b10b (by simp [e1]) (by simp [e3]) (by simp [e10]) (by rw [hr]; simp) hK

set_option maxRecDepth 10000 in
set_option maxHeartbeats 1000000 in
theorem st_info {s st : S} {mp tp i6 i10 n op which ch ar : Nat} {T : Tbl} {A : List Nat} {hv : AV} {cs : List Cp} {c : Cp} (H : Ws s st mp tp T.pad T A hv cs) (B : WsB T cs n) (hn : n ≤ 1048576) (hc : c.Fit) (har : ar < 256) (b6 : Bg st i6 (stepC op which ch ar) A) (b10 : Bg st i10 c.cells A) {R : Regs} {K : KP}
    (e0 : R 0 = .ptr mp 0) (e1 : R 1 = .ptr tp 0) (e3 : R 3 = hv) (e6 : R 6 = .ptr i6 0) (e10 : R 10 = .ptr i10 0)
    (hK : ∀ R' st' T' A' hv' cs', Ws s st' mp tp T'.pad T' A' hv' cs' → WsB T' cs' (n + 1) → R' 8 = hv' → R' 9 = .bool true → K .ret R' st') :
    WpC tab pf27_16 R st (seqK tab (.seq pf27_15 (.seq pf27_14 .ret)) K) := by
  have hbr := B.rs
  have hbl := B.len
  obtain ⟨FM, hM, hMc⟩ := H.m
  have hcp := check_pad T c 0
  have herr := Tbl.check_err T c 0
  have hst := Tbl.check_step T c 0
  have hst2 := Tbl.info_step T c
  have hdd := Tbl.info_dead B.dead c
  have hmc := mCheck_ok hM (by rw [Tbl.pad_rs]; omega) B.sec hc 0 (by omega)
  rw [hcp.1] at hmc
  simp [pf27_16, e0, e10, b10.cap4]
  refine Ev.mono hmc ?_
  rintro v s1 ⟨hc1, F1, hg1, hM1, rfl⟩
  obtain ⟨A1, H1, g1, k1⟩ := hMc hc1 hg1 hM1
  have b10a := b10.step k1 g1
  obtain ⟨FT, hT, hTc⟩ := H1.t
  have htc := info_ok hT (by omega) hc
  simp [pf27_15, e1, e10, b10a.cap4]
  refine Ev.mono htc ?_
  rintro v s3 ⟨hc3, F3, hg3, hT3, rfl⟩
  obtain ⟨A3, H3, g3, k3⟩ := hTc hc3 hg3 hT3
  cases hchk : T.check c 0 with
  | mk a T1 =>
    obtain ⟨k, e⟩ := a
    rw [hchk] at H3 herr hst
    simp only at H3 herr hst
    cases e with
    | some e =>
      have hr : T.info c = ((0, 0, some e), T1) := by unfold Tbl.info; rw [hchk]
      have hne : ¬ e = 0 := by have := (herr e rfl).1; omega
      rw [hr] at H3 hst2 hdd ⊢
      simp [pf27_14, errV]
      refine ev_num ?_
      simp [hne]
      exact hK _ _ _ _ _ _ H3 ⟨hst2.ok B.ok, by have := hst2.rs; simp only at this; omega, by omega, hdd⟩ (by simp [e3]) (by simp)
    | none =>
      obtain ⟨x, hgx, hax, hth, rfl, hall, hport⟩ := Tbl.check_facts hchk
      have ok1 := hst.ok B.ok
      have hr : T.info c = (((x.epoch : Int), x.lives, none), T1) := by
        unfold Tbl.info
        rw [hchk]
        simp only [hgx]
      have hk64 : c.o < 64 := by
        have h1 := (List.getElem?_eq_some_iff.1 hax).1
        have h2 : T1.all.length ≤ 64 := ok1.few
        omega
      have hk64i : (c.o : Int) < 64 := by omega
      rw [hr] at H3 hst2 hdd ⊢
      obtain ⟨FM2, hM2, _⟩ := H3.m
      have hx2 : (T1.pad.all)[c.o]? = some x := Tbl.pad_at hax
      have r2 : s3.read mp (2 + c.o * 5 + 2) 1 = some [.int .i64 (x.epoch : Int)] := hM2.rd hx2 rfl
      have r4 : s3.read mp (2 + c.o * 5 + 4) 1 = some [.int .i64 x.lives] := hM2.rd hx2 rfl
      simp [pf27_14, errV]
      refine ev_num0 ?_
      simp [e0, hk64, hk64i, r2, r4]
      exact hK _ _ _ _ _ _ H3 ⟨hst2.ok B.ok, by have := hst2.rs; simp only at this; omega, by omega, hdd⟩ (by simp [e3]) (by simp)
end Go.Ab
/-! 'ObjectsScript' over the abstract machine: a round. -/
namespace Go.Ab

section
variable {s st st' : S} {mp tp : Nat} {M T : Tbl} {A : List Nat} {hv : AV} {cs : List Cp}
theorem Ws.chg {l : List Nat} (h : Ws s st mp tp M T A hv cs) (hc : Chg l st st') (hd : Apart A l) (hl : ∀ y ∈ l, s.ctr ≤ y) : Ws s st' mp tp M T A hv cs := by
  obtain ⟨FM, FT, Fh, rfl, h1, h2, h3, a1, a2, a3⟩ := h.ex
  exact ⟨h.kp.trans (hc.keep hl h.kp.ctr), ⟨FM, FT, Fh, rfl, h1.chg hc (fun y hy => hd y (by simp [hy])), h2.chg hc (fun y hy => hd y (by simp [hy])), OwnF.chg h3 hc (fun y hy => hd y (by simp [hy])), a1, a2, a3⟩, h.lo, h.fit⟩
end

set_option maxRecDepth 10000 in
set_option maxHeartbeats 2000000 in
theorem st_age {s st : S} {mp tp n : Nat} {T : Tbl} {A : List Nat} {hv : AV} {cs : List Cp} (H : Ws s st mp tp T.pad T A hv cs) (B : WsB T cs n) {R : Regs} {K : KP}
    (e0 : R 0 = .ptr mp 0) (e1 : R 1 = .ptr tp 0) (e3 : R 3 = hv) (e45 : R 45 = .snil)
    (hK : ∀ R' st' T' A' hv' cs', Ws s st' mp tp T'.pad T' A' hv' cs' → WsB T' cs' (n + 1) → R' 8 = hv' → R' 9 = .bool true → K .ret R' st') :
    WpC tab pf27_13 R st K := by
  obtain ⟨l, hl⟩ : ∃ l, l = T.pad.all := ⟨_, rfl⟩
  have hll : l.length = 64 := by rw [hl]; exact pad_length B.few
  have hlok : ∀ o ∈ l, o.Ok T.orc.at_ := by
    intro o ho
    rw [hl] at ho
    rcases List.mem_append.1 ho with h | h
    · exact B.ok.all o h
    · rw [List.eq_of_mem_replicate h]; exact Ob.none_ok _
  simp [pf27_13, pf27_12]
  have start : agedTo l 1 = l ∧ (aged 0 (l.take 1)).2 = [] := by
    obtain ⟨o, ho⟩ : ∃ o, l[0]? = some o := ⟨_, List.getElem?_eq_getElem (by omega)⟩
    have h := agedTo_succ ho
    have h0 : agedTo l 0 = l := by simp [agedTo, aged]
    have h1 : aged 0 [o] = ([o], []) := by simp [aged]
    rw [h0, h1] at h
    exact ⟨by rw [h.1]; exact set_same ho, by rw [h.2]; simp [aged]⟩
  refine WpC.loop (fun m R' st' => ∃ i A' u Fo, 1 ≤ i ∧ i ≤ 64 ∧ m = 64 - i ∧ Ws s st' mp tp { T.pad with all := agedTo l i } T A' hv cs ∧ OwnF 1 st' u (aged 0 (l.take i)).2.length (i64s (aged 0 (l.take i)).2) Fo ∧ Apart A' Fo ∧ (∀ y ∈ Fo, s.ctr ≤ y) ∧ R' 0 = .ptr mp 0 ∧ R' 1 = .ptr tp 0 ∧ R' 3 = hv ∧ R' 45 = u ∧ R' 46 = .int .i64 (i : Nat)) (m := 63) ?_ ?_
  · refine ⟨1, A, .snil, [], by omega, by omega, by omega, ?_, ?_, (by intro y _ h; cases h), by simp, by simp [e0], by simp [e1], by simp [e3], by simp [e45], by simp⟩
    · rw [start.1, hl]; exact H
    · rw [start.2]; exact OwnF.nil 1 st
  rintro m R st ⟨i, A, u, Fo, hi1, hi, rfl, H, hO, hap, hlo, e0, e1, e3, e45, e46⟩
  by_cases hil : i < 64
  · have hili : (i : Int) < 64 := by omega
    have wi : IntKind.i64.wrap ((i : Int) + 1) = ((i + 1 : Nat) : Int) := by rw [wrap_i64] <;> omega
    obtain ⟨o, ho⟩ : ∃ o, l[i]? = some o := ⟨_, List.getElem?_eq_getElem (by omega)⟩
    have hoo := hlok o (List.mem_of_getElem? ho)
    have hg := agedTo_get ho
    have hsu := agedTo_succ ho
    have hone := aged_one i o
    rw [hone] at hsu
    simp only [List.headD_cons] at hsu
    obtain ⟨FM, hM, hMc⟩ := H.m
    have hgone : (aged 0 (l.take i)).2.length ≤ 64 := by
      have := aged_gone_le (l.take i) 0
      rw [List.length_take] at this
      omega
    have r0 : st.read mp (2 + i * 5) 1 = some [.bool o.there] := hM.rd (j := 0) hg rfl
    have r4 : st.read mp (2 + i * 5 + 4) 1 = some [.int .i64 o.lives] := hM.rd hg rfl
    have hi0 : i ≠ 0 := by omega
    cases hth : o.there with
    | false =>
      have hag : agedOb i o = o := by unfold agedOb; simp [hth]
      have hen : ends i o = false := by unfold ends; simp [hth]
      rw [hag, hen] at hsu
      rw [hth] at r0
      have e2 : agedTo l (i + 1) = agedTo l i := by rw [hsu.1]; exact set_same hg
      have e3' : (aged 0 (l.take (i + 1))).2 = (aged 0 (l.take i)).2 := by rw [hsu.2]; simp
      simp [pf27_11, pf27_10, e46, hili, pf27_9, pf27_7, e0, hil, pf27_6, r0, pf27_8, wi, -Int.natCast_add]
      refine ⟨64 - (i + 1), by omega, i + 1, by omega, by omega, rfl, A, ?_, u, Fo, ?_, hap, hlo, e1, e3, e45, rfl⟩
      · rw [e2]; exact H
      · rw [e3']; exact hO
    | true =>
      have hlv := hoo.on hth
      have hlv2 := hoo.lives
      rw [hth] at r0
      have wl : IntKind.i64.wrap (o.lives - 1) = o.lives - 1 := by rw [wrap_i64] <;> omega
      obtain ⟨L1, hL1⟩ : ∃ L1, L1 = o.lives - 1 := ⟨_, rfl⟩
      rw [← hL1] at wl
      obtain ⟨s2, hw2, hM2, hc2, hctr2⟩ := hM.put (k := i) (x := o) (y := { o with lives := L1 }) (j := 4) (n := 1) (w := [.int .i64 L1]) hg rfl (by omega) (by simp [isFlat]) (by simp [Ob.cells, over])
      obtain ⟨A2, H2, g2, k2⟩ := hMc hc2 (Grow.refl _ _) hM2
      have hO2 := hO.chg k2 hap.symm
      have hap2 : Apart A2 Fo := hap.grow g2 hO.lt
      obtain ⟨FM2, hM2', hMc2⟩ := H2.m
      have hg2 : ((agedTo l i).set i { o with lives := L1 })[i]? = some { o with lives := L1 } := by
        rw [List.getElem?_set_self (List.getElem?_eq_some_iff.1 hg).1]
      have r4b : s2.read mp (2 + i * 5 + 4) 1 = some [.int .i64 L1] := hM2'.rd hg2 rfl
      by_cases hz : L1 = 0
      · -- its end
        have hag : agedOb i o = Ob.none := by unfold agedOb; rw [if_neg (by simp [hth, hi0]), if_pos (by omega)]
        have hen : ends i o = true := by unfold ends; simp [hth, hi0]; omega
        rw [hag, hen] at hsu
        have hzd : (L1 = 0) = True := eq_true hz
        have r3b : s2.read mp (2 + i * 5 + 3) 1 = some [.int .i64 o.value] := hM2'.rd hg2 rfl
        simp [pf27_11, pf27_10, e46, hili, pf27_9, pf27_7, e0, hil, pf27_6, r0, pf27_5, pf27_4, r4, ← hL1, wl, hw2, pf27_3, r4b, hzd, pf27_2, e45, r3b]
        refine cont_app_ownF (m := 1) (ds := [.int .i64 o.value]) (hO2.ext (by simp)) rfl ?_ rfl rfl (i64s_flat _) (by omega) (by omega) (by omega) ?_
        · simp [S.cellsOf, S.read]
        intro v' s3 Fo' hO3 hc3 hg3
        have xn : Ext s2 (s2.new (.cells [.int .i64 o.value] 0 false)) := by simp
        have hcs : Chg Fo s2 s3 := (xn.chg _).trans hc3
        have hgs : Grow Fo Fo' s2.ctr := hg3.le (by simp)
        have H3 := H2.chg hcs hap2 hlo
        have hap3 : Apart A2 Fo' := (hap2.symm.grow hgs H2.lt).symm
        have hlo3 : ∀ y ∈ Fo', s.ctr ≤ y := fun y hy => by
          rcases hgs y hy with h | h
          · exact hlo y h
          · have := H2.kp.ctr; omega
        obtain ⟨FM3, hM3, hMc3⟩ := H3.m
        obtain ⟨s4, hw4, hM4, hc4, hctr4⟩ := hM3.put (k := i) (x := { o with lives := L1 }) (y := Ob.none) (j := 0) (n := 5) (w := Ob.cells Ob.none) hg2 rfl (by omega) (Ob.cells_flat _) (by simp [Ob.cells, over])
        obtain ⟨A4, H4, g4, k4⟩ := hMc3 hc4 (Grow.refl _ _) hM4
        have hw4' : s3.write mp (2 + i * 5) [.bool false, .int .u64 0, .int .i64 0, .int .i64 0, .int .i64 0] = some s4 := hw4
        have hO4 := hO3.chg k4 hap3.symm
        have hap4 : Apart A4 Fo' := hap3.grow g4 hO3.lt
        simp [pf27_1, hw4', pf27_8, e46, wi, -Int.natCast_add]
        refine ⟨64 - (i + 1), by omega, i + 1, by omega, by omega, rfl, A4, ?_, v', Fo', ?_, hap4, hlo3, e0, e1, e3, rfl, rfl⟩
        · rw [hsu.1]
          have : ((agedTo l i).set i { o with lives := L1 }).set i Ob.none = (agedTo l i).set i Ob.none := by rw [List.set_set]
          rw [← this]
          exact H4
        · rw [hsu.2]
          simpa [i64s] using hO4
      · have hag : agedOb i o = { o with lives := L1 } := by unfold agedOb; rw [if_neg (by simp [hth, hi0]), if_neg (by omega), hL1]
        have hen : ends i o = false := by unfold ends; simp [hth, hi0]; omega
        rw [hag, hen] at hsu
        simp [pf27_11, pf27_10, e46, hili, pf27_9, pf27_7, e0, hil, pf27_6, r0, pf27_5, pf27_4, r4, ← hL1, wl, hw2, pf27_3, r4b, hz, pf27_8, wi, -Int.natCast_add]
        refine ⟨64 - (i + 1), by omega, i + 1, by omega, by omega, rfl, A2, ?_, u, Fo, ?_, hap2, hlo, e1, e3, e45, rfl⟩
        · rw [hsu.1]; exact H2
        · rw [hsu.2]
          simpa using hO2
  · obtain rfl : i = 64 := by omega
    have ht : l.take 64 = l := List.take_of_length_le (by omega)
    have hpd : aged 0 l = (Ab.pad (aged 0 T.all).1, (aged 0 T.all).2) := by rw [hl]; exact aged_pad T.all
    rw [ht, hpd] at hO
    have hall : agedTo l 64 = Ab.pad (aged 0 T.all).1 := by
      unfold agedTo
      rw [ht, hpd, List.drop_of_length_le (by omega), List.append_nil]
    rw [hall] at H
    have H' : Ws s st mp tp T.age.2.pad T A hv cs := H
    obtain ⟨FT, hT, hTc⟩ := H'.t
    have hst := Tbl.age_step T
    have hgl : T.age.1.length ≤ 64 := by
      have h1 := aged_gone_le T.all 0
      have h2 : T.all.length ≤ 64 := B.few
      show (aged 0 T.all).2.length ≤ 64
      omega
    simp [pf27_11, pf27_10, e46, pf27_0, e1]
    refine Ev.mono (age_ok hT B.ok) ?_
    rintro v s2 ⟨hc2, hT2, Fo2, hO2, hlo2⟩
    obtain ⟨A2, H2, g2, k2⟩ := hTc hc2 (Grow.refl _ _) hT2
    have hO' : OwnF 1 s2 u T.age.1.length (i64s T.age.1) Fo := hO.chg k2 hap.symm
    simp [e45]
    refine Ev.mono (sameInts_ok (by omega) hO2 hO') ?_
    rintro x s3 ⟨rfl, rfl⟩
    simp
    exact hK _ _ _ _ _ _ H2 ⟨hst.ok B.ok, by have := hst.rs; have := B.rs; omega, by have := B.len; omega, Tbl.age_dead B.dead⟩ (by simp [e3]) (by simp)
end Go.Ab
/-! 'ObjectsScript' over the abstract machine: a step. -/
namespace Go.Ab

theorem tmod9 (n : Nat) : (n : Int).tmod 9 = ((n % 9 : Nat) : Int) := rfl

/-- What a step leaves. -/
def StPost (s : S) (mp tp n : Nat) : AV → S → Prop := fun u st' => ∃ T' A' hv' cs', u = .tuple [hv', .bool true] ∧ Ws s st' mp tp T'.pad T' A' hv' cs' ∧ WsB T' cs' (n + 1)

set_option maxRecDepth 10000 in
set_option maxHeartbeats 2000000 in
theorem step_ok {s st : S} {mp tp n op which ch ar : Nat} {T : Tbl} {A : List Nat} {hv : AV} {cs : List Cp} (H : Ws s st mp tp T.pad T A hv cs) (B : WsB T cs n) (hn : n ≤ 1048576) (hop : op < 256) (hwh : which < 256) (hch : ch < 256) (har : ar < 256) :
    Ev tab 27 [.ptr mp 0, .ptr tp 0, .agg (stepC op which ch ar), hv] st (StPost s mp tp n) := by
  refine Ev.intro rfl rfl rfl ?_
  have hlt := H.lt
  have hsc := H.kp.ctr
  obtain ⟨s1, hs1⟩ : ∃ t, t = (st.new (.cells (stepC op which ch ar) 0 false)).new (.cells [.int .u64 0, .int .u32 0, .int .u8 0, .int .u64 0] 0 false) := ⟨_, rfl⟩
  have x1 : Ext st s1 := by rw [hs1]; simp (maxDischargeDepth := 30)
  have c1 : s1.ctr = st.ctr + 2 := by rw [hs1]; rfl
  have b6 : Bg s1 st.ctr (stepC op which ch ar) A := ⟨by rw [hs1]; simp, by omega, fun hx => by have := hlt _ hx; omega⟩
  have b10 : Bg s1 (st.ctr + 1) Cp.zero.cells A := ⟨by rw [hs1]; simp [Cp.zero_cells], by omega, fun hx => by have := hlt _ hx; omega⟩
  have H1 := H.ext x1
  have scf : (stepC op which ch ar).all isFlat = true := by simp [stepC, isFlat]
  have h9 := tmod9 op
  obtain ⟨k, hk⟩ : ∃ k, k = op % 9 := ⟨_, rfl⟩
  rw [← hk] at h9
  have hk9 : k < 9 := by omega
  -- behind the choice of a capability
  have main : ∀ {c : Cp} {R : Regs} {s2 : S}, c.Fit → Ws s s2 mp tp T.pad T A hv cs → Bg s2 st.ctr (stepC op which ch ar) A → Bg s2 (st.ctr + 1) c.cells A → R 0 = .ptr mp 0 → R 1 = .ptr tp 0 → R 3 = hv → R 6 = .ptr st.ctr 0 → R 10 = .ptr (st.ctr + 1) 0 →
      WpC tab pf27_84 R s2 (seqK tab pf27_83 (seqK tab pf27_85 (FinP [PR.tmp 8, PR.tmp 9] (StPost s mp tp n)))) := by
    intro c R s2 hc H2 d6 d10 e0 e1 e3 e6 e10
    have r0 : s2.read st.ctr 0 1 = some [.int .u8 (op : Int)] := by rw [rd d6.get (by simp [stepC])]; rfl
    have hcase : k = 0 ∨ k = 1 ∨ k = 2 ∨ k = 3 ∨ k = 4 ∨ k = 5 ∨ k = 6 ∨ k = 7 ∨ k = 8 := by omega
    have fin : ∀ (R' : Regs) (st' : S) (T' : Tbl) (A' : List Nat) (hv' : AV) (cs' : List Cp), Ws s st' mp tp T'.pad T' A' hv' cs' → WsB T' cs' (n + 1) → R' 8 = hv' → R' 9 = .bool true → (blockK 0 (seqK tab pf27_85 (FinP [PR.tmp 8, PR.tmp 9] (StPost s mp tp n)))) .ret R' st' := by
      intro R' st' T' A' hv' cs' hW hB g8 g9
      simp [g8, g9]
      exact ⟨T', A', hv', cs', rfl, hW, hB⟩
    rcases hcase with h | h | h | h | h | h | h | h | h
    · rw [h] at h9
      simp [pf27_84, e6, r0, h9, pf27_83, pf27_81, pf27_82]
      exact st_create H2 B hn hc har d6 d10 (by simp [e0]) (by simp [e1]) (by simp [e3]) (by simp [e6]) (by simp [e10]) fin
    · rw [h] at h9
      simp [pf27_84, e6, r0, h9, pf27_83, pf27_81, pf27_80, pf27_82]
      exact st_create H2 B hn hc har d6 d10 (by simp [e0]) (by simp [e1]) (by simp [e3]) (by simp [e6]) (by simp [e10]) fin
    · rw [h] at h9
      simp [pf27_84, e6, r0, h9, pf27_83, pf27_81, pf27_80, pf27_82, pf27_73, pf27_72]
      exact st_check H2 B hn hc har d6 d10 (by simp [e0]) (by simp [e1]) (by simp [e3]) (by simp [e6]) (by simp [e10]) fin
    · rw [h] at h9
      simp [pf27_84, e6, r0, h9, pf27_83, pf27_81, pf27_80, pf27_82, pf27_73, pf27_72, pf27_68, pf27_67]
      exact st_restrict H2 B hn hc har d6 d10 (by simp [e0]) (by simp [e1]) (by simp [e3]) (by simp [e6]) (by simp [e10]) fin
    · rw [h] at h9
      simp [pf27_84, e6, r0, h9, pf27_83, pf27_81, pf27_80, pf27_82, pf27_73, pf27_72, pf27_68, pf27_67, pf27_53, pf27_52]
      exact st_revoke H2 B hn hc har d6 d10 (by simp [e0]) (by simp [e1]) (by simp [e3]) (by simp [e6]) (by simp [e10]) fin
    · rw [h] at h9
      simp [pf27_84, e6, r0, h9, pf27_83, pf27_81, pf27_80, pf27_82, pf27_73, pf27_72, pf27_68, pf27_67, pf27_53, pf27_52, pf27_36, pf27_35]
      exact st_destroy H2 B hn hc har d6 d10 (by simp [e0]) (by simp [e1]) (by simp [e3]) (by simp [e6]) (by simp [e10]) fin
    · rw [h] at h9
      simp [pf27_84, e6, r0, h9, pf27_83, pf27_81, pf27_80, pf27_82, pf27_73, pf27_72, pf27_68, pf27_67, pf27_53, pf27_52, pf27_36, pf27_35, pf27_25, pf27_24]
      exact st_touch H2 B hn hc har d6 d10 (by simp [e0]) (by simp [e1]) (by simp [e3]) (by simp [e6]) (by simp [e10]) fin
    · rw [h] at h9
      simp [pf27_84, e6, r0, h9, pf27_83, pf27_81, pf27_80, pf27_82, pf27_73, pf27_72, pf27_68, pf27_67, pf27_53, pf27_52, pf27_36, pf27_35, pf27_25, pf27_24, pf27_18, pf27_17]
      exact st_info H2 B hn hc har d6 d10 (by simp [e0]) (by simp [e1]) (by simp [e3]) (by simp [e6]) (by simp [e10]) fin
    · rw [h] at h9
      simp [pf27_84, e6, r0, h9, pf27_83, pf27_81, pf27_80, pf27_82, pf27_73, pf27_72, pf27_68, pf27_67, pf27_53, pf27_52, pf27_36, pf27_35, pf27_25, pf27_24, pf27_18, pf27_17, pf27_85]
      refine st_age H2 B (by simp [e0]) (by simp [e1]) (by simp [e3]) (by simp) ?_
      intro R' st' T' A' hv' cs' hW hB g8 g9
      simp [g8, g9]
      exact ⟨T', A', hv', cs', rfl, hW, hB⟩
  obtain ⟨FM, FT, Fh, hA, _, _, hO, _⟩ := H1.ex
  have wlh := hO.wlen
  simp [pf27, pf27_90, scf, pf27_89, pf27_88, ← hs1, pf27_87, wlh]
  by_cases hz : cs.length = 0
  · simp [hz]
    exact main Cp.zero_fit H1 b6 b10 (by simp) (by simp) (by simp) (by simp) (by simp)
  · have hpos : 0 < cs.length := by omega
    have hposi : (0 : Int) < cs.length := by omega
    obtain ⟨J, hJ⟩ : ∃ J, J = which % cs.length := ⟨_, rfl⟩
    have hJl : J < cs.length := by rw [hJ]; exact Nat.mod_lt _ hpos
    have hJi : (J : Int) < cs.length := by omega
    obtain ⟨c, hc⟩ : ∃ c, cs[J]? = some c := ⟨_, List.getElem?_eq_getElem hJl⟩
    have hcf : c.Fit := H.fit c (List.mem_of_getElem? hc)
    obtain ⟨bb, hvb, hFh, hrd4, _⟩ := OwnR.load hO Cp.cells_length hc
    have w1 : IntKind.i64.wrap (which : Int) = which := by rw [wrap_i64] <;> omega
    have tm : (which : Int).tmod (cs.length : Int) = (J : Int) := by rw [hJ]; rfl
    have r1 : s1.read st.ctr 1 1 = some [.int .u8 (which : Int)] := by rw [rd b6.get (by simp [stepC])]; rfl
    have r2 : s1.read st.ctr 2 1 = some [.int .u8 (ch : Int)] := by rw [rd b6.get (by simp [stepC])]; rfl
    subst hvb
    simp [hpos, hposi, hz, pf27_86, r1, w1, tm, hJl, hJi, hrd4, r2]
    refine Ev.mono (change_ok hcf ch hch s1) ?_
    rintro v s2 ⟨x2, c', hcf', rfl⟩
    have b6b := b6.ext x2
    have b10b := b10.ext x2
    have ww := wrc (o := 0) (v := c'.cells) b10b.get (by simp) (Cp.cells_flat _)
    rw [over4 _ _ rfl] at ww
    have H3 := (H1.ext x2).set (o := some (.cells c'.cells 0 false)) b10b.out (by omega)
    have b6c := b6b.set (j := st.ctr + 1) (o := some (.cells c'.cells 0 false)) (by omega)
    have b10c := b10b.put c'.cells
    simp [ww]
    exact main hcf' H3 b6c b10c (by simp) (by simp) (by simp) (by simp) (by simp)
end Go.Ab
/-! 'ObjectsScript' over the abstract machine: the law. -/
namespace Go.Ab

/-- Steps, as they are read. -/
def StepsAt (s : S) (v : AV) (bs : List (Nat × Nat × Nat × Nat)) : Prop := lenV v = some bs.length ∧ (v = .snil ∨ (∃ a, v = .zsl a) ∨ ∃ A cap opn, v = .slice A 0 bs.length cap opn ∧ A < s.ctr ∧ ∀ (i : Nat) (a : Nat × Nat × Nat × Nat), bs[i]? = some a → s.read A (0 + i * 4) 4 = some (stepC a.1 a.2.1 a.2.2.1 a.2.2.2))
theorem StepsAt.wlen {s : S} {v : AV} {bs : List (Nat × Nat × Nat × Nat)} (hb : StepsAt s v bs) : ∀ (T : Tab) (r : Regs) (s' : S) (x : Opd) (Q : AV → S → Prop), x.ev r = v → WpI T (.len false x) r s' Q = Q (.int .i64 bs.length) s' := by
  intro T r s' x Q hx
  have h := hb.1
  rcases hb.2 with rfl | ⟨za, rfl⟩ | ⟨b, c, opn, rfl, _⟩ <;> simp only [lenV, Option.some.injEq] at h <;> first | (simp [hx, ← h]; done) | (simp [hx]; done)
theorem StepsAt.elem {s s' : S} {v : AV} {bs : List (Nat × Nat × Nat × Nat)} (hb : StepsAt s v bs) (hx : Keep s.ctr s s') {i : Nat} {a : Nat × Nat × Nat × Nat} (hi : bs[i]? = some a) : ∃ A cap opn, v = .slice A 0 bs.length cap opn ∧ s'.read A (i * 4) 4 = some (stepC a.1 a.2.1 a.2.2.1 a.2.2.2) := by
  have hil := (List.getElem?_eq_some_iff.1 hi).1
  have h := hb.1
  rcases hb.2 with rfl | ⟨za, rfl⟩ | ⟨A, c, opn, rfl, hA, hr⟩
  · simp [lenV] at h; omega
  · simp [lenV] at h; omega
  · refine ⟨A, c, opn, rfl, ?_⟩
    have := hr i a hi
    rw [show s'.read A (i * 4) 4 = s.read A (i * 4) 4 by unfold S.read; rw [hx.get A hA]]
    simpa using this

def stepFit (a : Nat × Nat × Nat × Nat) : Prop := a.1 < 256 ∧ a.2.1 < 256 ∧ a.2.2.1 < 256 ∧ a.2.2.2 < 256

set_option maxRecDepth 10000 in
set_option maxHeartbeats 2000000 in
theorem steps_loop {bs : List (Nat × Nat × Nat × Nat)} {s st : S} {av : AV} {mp tp : Nat} {T : Tbl} {A : List Nat} {hv : AV} {cs : List Cp} (hbv : StepsAt s av bs) (hfit : ∀ a ∈ bs, stepFit a) (hbl : bs.length ≤ 1048576) (H : Ws s st mp tp T.pad T A hv cs) (B : WsB T cs 0) {R : Regs} {K : KP}
    (e7 : R 7 = .ptr tp 0) (e8 : R 8 = .ptr mp 0) (e9 : R 9 = hv) (e31 : R 31 = av) (e32 : R 32 = .int .i64 bs.length) (e33 : R 33 = .int .i64 0)
    (hK : ∀ R' st' T' A' hv' cs', Ws s st' mp tp T'.pad T' A' hv' cs' → WsB T' cs' bs.length → R' 7 = .ptr tp 0 → R' 8 = .ptr mp 0 → K (.exit 0) R' st') :
    WpC tab (.loop (.seq pf7_21 pf7_20)) R st K := by
  refine WpC.loop (fun m R' st' => ∃ i T' A' hv' cs', i ≤ bs.length ∧ m = bs.length - i ∧ Ws s st' mp tp T'.pad T' A' hv' cs' ∧ WsB T' cs' i ∧ R' 7 = .ptr tp 0 ∧ R' 8 = .ptr mp 0 ∧ R' 9 = hv' ∧ R' 31 = av ∧ R' 32 = .int .i64 bs.length ∧ R' 33 = .int .i64 (i : Nat)) (m := bs.length) ?_ ?_
  · exact ⟨0, T, A, hv, cs, by omega, by omega, H, B, e7, e8, e9, e31, e32, e33⟩
  rintro m R st ⟨i, T, A, hv, cs, hi, rfl, H, B, e7, e8, e9, e31, e32, e33⟩
  by_cases hil : i < bs.length
  · have hili : (i : Int) < bs.length := by omega
    obtain ⟨a, ha⟩ : ∃ a, bs[i]? = some a := ⟨_, List.getElem?_eq_getElem hil⟩
    obtain ⟨f1, f2, f3, f4⟩ := hfit a (List.mem_of_getElem? ha)
    obtain ⟨A0, cap, opn, rfl, hrd⟩ := hbv.elem H.kp ha
    have wi : IntKind.i64.wrap ((i : Int) + 1) = ((i + 1 : Nat) : Int) := by rw [wrap_i64] <;> omega
    obtain ⟨op, which, ch, ar⟩ := a
    simp only at f1 f2 f3 f4 hrd
    have scf : (stepC op which ch ar).all isFlat = true := by simp [stepC, isFlat]
    have scl : (stepC op which ch ar).length = 4 := rfl
    obtain ⟨s1, hs1⟩ : ∃ t, t = (st.new (.cells [.int .u8 0, .int .u8 0, .int .u8 0, .int .u8 0] 0 false)).set st.ctr (some (.cells (stepC op which ch ar) 0 false)) := ⟨_, rfl⟩
    have x1 : Ext st s1 := by rw [hs1]; simp
    have g1 : s1.get st.ctr = some (.cells (stepC op which ch ar) 0 false) := by rw [hs1]; simp
    have ww := wrc (o := 0) (v := stepC op which ch ar) (s := st.new (.cells [.int .u8 0, .int .u8 0, .int .u8 0, .int .u8 0] 0 false)) (b := st.ctr) (c := [.int .u8 0, .int .u8 0, .int .u8 0, .int .u8 0]) (sz := 0) (by simp) (by simp [scl]) scf
    have ov : over [AV.int .u8 0, .int .u8 0, .int .u8 0, .int .u8 0] 0 (stepC op which ch ar) = stepC op which ch ar := by simp [over, stepC]
    rw [ov, ← hs1] at ww
    have r1 : s1.read st.ctr 0 4 = some (stepC op which ch ar) := by rw [rd g1 (by simp [scl])]; rfl
    simp [pf7_21, pf7_20, e33, e32, hili, pf7_18, e31, hil, hrd, scl, ww, pf7_17, e8, e7, e9, r1]
    refine Ev.mono (step_ok (H.ext x1) B (by omega) f1 f2 f3 f4) ?_
    rintro v s2 ⟨T', A', hv', cs', rfl, H', B'⟩
    simp [pf7_16, pf7_14, pf7_15, pf7_19, e33, wi, -Int.natCast_add]
    exact ⟨bs.length - (i + 1), by omega, i + 1, by omega, rfl, T', A', hv', cs', H', B', e7, e8, rfl, e31, e32, rfl⟩
  · obtain rfl : i = bs.length := by omega
    simp [pf7_21, pf7_20, e33, e32]
    exact hK _ st T A hv cs H B (by simp [e7]) (by simp [e8])
end Go.Ab
/-! 'ObjectsScript' over the abstract machine: the law. -/
namespace Go.Ab

theorem fill2 (r : Regs) (x y : Opd) (a b vx vy : AV) (l : List AV) (hx : (x.ev r).cells = [vx]) (hy : (y.ev r).cells = [vy]) : fillA r [(0, (1, x)), (1, (1, y))] (a :: b :: l) = some (vx :: vy :: l) := by
  simp [hx, hy]
/-- The model's cells, when nothing is there. -/
def mdCells (p op : Nat) : List AV := [AV.int .u64 (p : Int), .ptr op 0] ++ rowsOf Ob.cells (List.replicate 64 Ob.none)
set_option maxRecDepth 20000 in
theorem model_cells (p op : Nat) : ([.int .u64 (p : Int), .ptr op 0, .bool false, .int .u64 0, .int .i64 0, .int .i64 0, .int .i64 0, .bool false, .int .u64 0, .int .i64 0, .int .i64 0, .int .i64 0, .bool false, .int .u64 0, .int .i64 0, .int .i64 0, .int .i64 0, .bool false, .int .u64 0, .int .i64 0, .int .i64 0, .int .i64 0, .bool false, .int .u64 0, .int .i64 0, .int .i64 0, .int .i64 0, .bool false, .int .u64 0, .int .i64 0, .int .i64 0, .int .i64 0, .bool false, .int .u64 0, .int .i64 0, .int .i64 0, .int .i64 0, .bool false, .int .u64 0, .int .i64 0, .int .i64 0, .int .i64 0, .bool false, .int .u64 0, .int .i64 0, .int .i64 0, .int .i64 0, .bool false, .int .u64 0, .int .i64 0, .int .i64 0, .int .i64 0, .bool false, .int .u64 0, .int .i64 0, .int .i64 0, .int .i64 0, .bool false, .int .u64 0, .int .i64 0, .int .i64 0, .int .i64 0, .bool false, .int .u64 0, .int .i64 0, .int .i64 0, .int .i64 0, .bool false, .int .u64 0, .int .i64 0, .int .i64 0, .int .i64 0, .bool false, .int .u64 0, .int .i64 0, .int .i64 0, .int .i64 0, .bool false, .int .u64 0, .int .i64 0, .int .i64 0, .int .i64 0, .bool false, .int .u64 0, .int .i64 0, .int .i64 0, .int .i64 0, .bool false, .int .u64 0, .int .i64 0, .int .i64 0, .int .i64 0, .bool false, .int .u64 0, .int .i64 0, .int .i64 0, .int .i64 0, .bool false, .int .u64 0, .int .i64 0, .int .i64 0, .int .i64 0, .bool false, .int .u64 0, .int .i64 0, .int .i64 0, .int .i64 0, .bool false, .int .u64 0, .int .i64 0, .int .i64 0, .int .i64 0, .bool false, .int .u64 0, .int .i64 0, .int .i64 0, .int .i64 0, .bool false, .int .u64 0, .int .i64 0, .int .i64 0, .int .i64 0, .bool false, .int .u64 0, .int .i64 0, .int .i64 0, .int .i64 0, .bool false, .int .u64 0, .int .i64 0, .int .i64 0, .int .i64 0, .bool false, .int .u64 0, .int .i64 0, .int .i64 0, .int .i64 0, .bool false, .int .u64 0, .int .i64 0, .int .i64 0, .int .i64 0, .bool false, .int .u64 0, .int .i64 0, .int .i64 0, .int .i64 0, .bool false, .int .u64 0, .int .i64 0, .int .i64 0, .int .i64 0, .bool false, .int .u64 0, .int .i64 0, .int .i64 0, .int .i64 0, .bool false, .int .u64 0, .int .i64 0, .int .i64 0, .int .i64 0, .bool false, .int .u64 0, .int .i64 0, .int .i64 0, .int .i64 0, .bool false, .int .u64 0, .int .i64 0, .int .i64 0, .int .i64 0, .bool false, .int .u64 0, .int .i64 0, .int .i64 0, .int .i64 0, .bool false, .int .u64 0, .int .i64 0, .int .i64 0, .int .i64 0, .bool false, .int .u64 0, .int .i64 0, .int .i64 0, .int .i64 0, .bool false, .int .u64 0, .int .i64 0, .int .i64 0, .int .i64 0, .bool false, .int .u64 0, .int .i64 0, .int .i64 0, .int .i64 0, .bool false, .int .u64 0, .int .i64 0, .int .i64 0, .int .i64 0, .bool false, .int .u64 0, .int .i64 0, .int .i64 0, .int .i64 0, .bool false, .int .u64 0, .int .i64 0, .int .i64 0, .int .i64 0, .bool false, .int .u64 0, .int .i64 0, .int .i64 0, .int .i64 0, .bool false, .int .u64 0, .int .i64 0, .int .i64 0, .int .i64 0, .bool false, .int .u64 0, .int .i64 0, .int .i64 0, .int .i64 0, .bool false, .int .u64 0, .int .i64 0, .int .i64 0, .int .i64 0, .bool false, .int .u64 0, .int .i64 0, .int .i64 0, .int .i64 0, .bool false, .int .u64 0, .int .i64 0, .int .i64 0, .int .i64 0, .bool false, .int .u64 0, .int .i64 0, .int .i64 0, .int .i64 0, .bool false, .int .u64 0, .int .i64 0, .int .i64 0, .int .i64 0, .bool false, .int .u64 0, .int .i64 0, .int .i64 0, .int .i64 0, .bool false, .int .u64 0, .int .i64 0, .int .i64 0, .int .i64 0, .bool false, .int .u64 0, .int .i64 0, .int .i64 0, .int .i64 0, .bool false, .int .u64 0, .int .i64 0, .int .i64 0, .int .i64 0, .bool false, .int .u64 0, .int .i64 0, .int .i64 0, .int .i64 0, .bool false, .int .u64 0, .int .i64 0, .int .i64 0, .int .i64 0, .bool false, .int .u64 0, .int .i64 0, .int .i64 0, .int .i64 0, .bool false, .int .u64 0, .int .i64 0, .int .i64 0, .int .i64 0, .bool false, .int .u64 0, .int .i64 0, .int .i64 0, .int .i64 0, .bool false, .int .u64 0, .int .i64 0, .int .i64 0, .int .i64 0, .bool false, .int .u64 0, .int .i64 0, .int .i64 0, .int .i64 0, .bool false, .int .u64 0, .int .i64 0, .int .i64 0, .int .i64 0, .bool false, .int .u64 0, .int .i64 0, .int .i64 0, .int .i64 0, .bool false, .int .u64 0, .int .i64 0, .int .i64 0, .int .i64 0] : List AV) = mdCells p op := rfl
theorem model_flat (p op : Nat) : (mdCells p op).all isFlat = true := by
  unfold mdCells
  rw [List.all_append, rowsOf_flat Ob.cells_flat]
  rfl
set_option maxRecDepth 20000 in
set_option maxHeartbeats 2000000 in
/-- The model is laid. -/
theorem model_made {s : S} {R : Regs} {Q : AV → S → Prop} {p op : Nat} (e : R 25 = .int .u64 p) (e2 : R 28 = .ptr op 0) : WpI tab (.build [.int .u64 0, .pnil, .bool false, .int .u64 0, .int .i64 0, .int .i64 0, .int .i64 0, .bool false, .int .u64 0, .int .i64 0, .int .i64 0, .int .i64 0, .bool false, .int .u64 0, .int .i64 0, .int .i64 0, .int .i64 0, .bool false, .int .u64 0, .int .i64 0, .int .i64 0, .int .i64 0, .bool false, .int .u64 0, .int .i64 0, .int .i64 0, .int .i64 0, .bool false, .int .u64 0, .int .i64 0, .int .i64 0, .int .i64 0, .bool false, .int .u64 0, .int .i64 0, .int .i64 0, .int .i64 0, .bool false, .int .u64 0, .int .i64 0, .int .i64 0, .int .i64 0, .bool false, .int .u64 0, .int .i64 0, .int .i64 0, .int .i64 0, .bool false, .int .u64 0, .int .i64 0, .int .i64 0, .int .i64 0, .bool false, .int .u64 0, .int .i64 0, .int .i64 0, .int .i64 0, .bool false, .int .u64 0, .int .i64 0, .int .i64 0, .int .i64 0, .bool false, .int .u64 0, .int .i64 0, .int .i64 0, .int .i64 0, .bool false, .int .u64 0, .int .i64 0, .int .i64 0, .int .i64 0, .bool false, .int .u64 0, .int .i64 0, .int .i64 0, .int .i64 0, .bool false, .int .u64 0, .int .i64 0, .int .i64 0, .int .i64 0, .bool false, .int .u64 0, .int .i64 0, .int .i64 0, .int .i64 0, .bool false, .int .u64 0, .int .i64 0, .int .i64 0, .int .i64 0, .bool false, .int .u64 0, .int .i64 0, .int .i64 0, .int .i64 0, .bool false, .int .u64 0, .int .i64 0, .int .i64 0, .int .i64 0, .bool false, .int .u64 0, .int .i64 0, .int .i64 0, .int .i64 0, .bool false, .int .u64 0, .int .i64 0, .int .i64 0, .int .i64 0, .bool false, .int .u64 0, .int .i64 0, .int .i64 0, .int .i64 0, .bool false, .int .u64 0, .int .i64 0, .int .i64 0, .int .i64 0, .bool false, .int .u64 0, .int .i64 0, .int .i64 0, .int .i64 0, .bool false, .int .u64 0, .int .i64 0, .int .i64 0, .int .i64 0, .bool false, .int .u64 0, .int .i64 0, .int .i64 0, .int .i64 0, .bool false, .int .u64 0, .int .i64 0, .int .i64 0, .int .i64 0, .bool false, .int .u64 0, .int .i64 0, .int .i64 0, .int .i64 0, .bool false, .int .u64 0, .int .i64 0, .int .i64 0, .int .i64 0, .bool false, .int .u64 0, .int .i64 0, .int .i64 0, .int .i64 0, .bool false, .int .u64 0, .int .i64 0, .int .i64 0, .int .i64 0, .bool false, .int .u64 0, .int .i64 0, .int .i64 0, .int .i64 0, .bool false, .int .u64 0, .int .i64 0, .int .i64 0, .int .i64 0, .bool false, .int .u64 0, .int .i64 0, .int .i64 0, .int .i64 0, .bool false, .int .u64 0, .int .i64 0, .int .i64 0, .int .i64 0, .bool false, .int .u64 0, .int .i64 0, .int .i64 0, .int .i64 0, .bool false, .int .u64 0, .int .i64 0, .int .i64 0, .int .i64 0, .bool false, .int .u64 0, .int .i64 0, .int .i64 0, .int .i64 0, .bool false, .int .u64 0, .int .i64 0, .int .i64 0, .int .i64 0, .bool false, .int .u64 0, .int .i64 0, .int .i64 0, .int .i64 0, .bool false, .int .u64 0, .int .i64 0, .int .i64 0, .int .i64 0, .bool false, .int .u64 0, .int .i64 0, .int .i64 0, .int .i64 0, .bool false, .int .u64 0, .int .i64 0, .int .i64 0, .int .i64 0, .bool false, .int .u64 0, .int .i64 0, .int .i64 0, .int .i64 0, .bool false, .int .u64 0, .int .i64 0, .int .i64 0, .int .i64 0, .bool false, .int .u64 0, .int .i64 0, .int .i64 0, .int .i64 0, .bool false, .int .u64 0, .int .i64 0, .int .i64 0, .int .i64 0, .bool false, .int .u64 0, .int .i64 0, .int .i64 0, .int .i64 0, .bool false, .int .u64 0, .int .i64 0, .int .i64 0, .int .i64 0, .bool false, .int .u64 0, .int .i64 0, .int .i64 0, .int .i64 0, .bool false, .int .u64 0, .int .i64 0, .int .i64 0, .int .i64 0, .bool false, .int .u64 0, .int .i64 0, .int .i64 0, .int .i64 0, .bool false, .int .u64 0, .int .i64 0, .int .i64 0, .int .i64 0, .bool false, .int .u64 0, .int .i64 0, .int .i64 0, .int .i64 0, .bool false, .int .u64 0, .int .i64 0, .int .i64 0, .int .i64 0, .bool false, .int .u64 0, .int .i64 0, .int .i64 0, .int .i64 0, .bool false, .int .u64 0, .int .i64 0, .int .i64 0, .int .i64 0, .bool false, .int .u64 0, .int .i64 0, .int .i64 0, .int .i64 0, .bool false, .int .u64 0, .int .i64 0, .int .i64 0, .int .i64 0, .bool false, .int .u64 0, .int .i64 0, .int .i64 0, .int .i64 0, .bool false, .int .u64 0, .int .i64 0, .int .i64 0, .int .i64 0, .bool false, .int .u64 0, .int .i64 0, .int .i64 0, .int .i64 0, .bool false, .int .u64 0, .int .i64 0, .int .i64 0, .int .i64 0] [(0, (1, (.r 25))), (1, (1, (.r 28)))]) R s Q = Q (.agg (mdCells p op)) s := by
  rw [wpI_build, fill2 R (.r 25) (.r 28) _ _ (.int .u64 p) (.ptr op 0) _ (by simp [e]) (by simp [e2]), model_cells]
  rfl

set_option maxRecDepth 10000 in
set_option maxHeartbeats 2000000 in
/-- What is there is held against what is there. -/
theorem there_same {s st : S} {mp tp n : Nat} {T : Tbl} {A : List Nat} {hv : AV} {cs : List Cp} (H : Ws s st mp tp T.pad T A hv cs) (B : WsB T cs n) {R : Regs} (e7 : R 7 = .ptr tp 0) (e8 : R 8 = .ptr mp 0) (e14 : R 14 = .int .i64 0) :
    WpC tab pf7_11 R st (FinP [PR.tmp 6] fun v _ => v = .bool true) := by
  obtain ⟨l, hl⟩ : ∃ l, l = T.pad.all := ⟨_, rfl⟩
  have hll : l.length = 64 := by rw [hl]; exact pad_length B.few
  have hdead : ∀ o ∈ l, o.there = false → o.value = 0 := by
    intro o ho
    rw [hl] at ho
    rcases List.mem_append.1 ho with h | h
    · exact B.dead o h
    · rw [List.eq_of_mem_replicate h]; intro _; rfl
  have hthere : there l = there T.all := by
    rw [hl]
    show there (T.all ++ List.replicate _ Ob.none) = _
    unfold there
    rw [List.filter_append, List.length_append]
    have : (List.replicate (64 - T.all.length) Ob.none).filter (·.there) = [] := by
      rw [List.filter_eq_nil_iff]
      intro x hx
      rw [List.eq_of_mem_replicate hx]
      simp [Ob.none]
    rw [this]
    rfl
  simp [pf7_11, pf7_10]
  refine WpC.loop (fun m R' st' => ∃ i, i ≤ 64 ∧ m = 64 - i ∧ Ws s st' mp tp T.pad T A hv cs ∧ R' 7 = .ptr tp 0 ∧ R' 8 = .ptr mp 0 ∧ R' 14 = .int .i64 (there (l.take i) : Nat) ∧ R' 15 = .int .i64 (i : Nat)) (m := 64) ?_ ?_
  · exact ⟨0, by omega, by omega, H, by simp [e7], by simp [e8], by simp [e14, there], by simp⟩
  rintro m R st ⟨i, hi, rfl, H, e7, e8, e14, e15⟩
  by_cases hil : i < 64
  · have hili : (i : Int) < 64 := by omega
    have wi : IntKind.i64.wrap ((i : Int) + 1) = ((i + 1 : Nat) : Int) := by rw [wrap_i64] <;> omega
    obtain ⟨o, ho⟩ : ∃ o, l[i]? = some o := ⟨_, List.getElem?_eq_getElem (by omega)⟩
    have hod := hdead o (List.mem_of_getElem? ho)
    have htk : l.take (i + 1) = l.take i ++ [o] := by rw [List.take_add_one, ho]; rfl
    have hth1 : there (l.take (i + 1)) = there (l.take i) + if o.there then 1 else 0 := by
      rw [htk]
      unfold there
      rw [List.filter_append, List.length_append]
      cases hh : o.there <;> simp [hh, List.filter]
    have hle : there (l.take i) ≤ 64 := by
      unfold there
      have h1 := List.length_filter_le (fun x : Ob => x.there) (l.take i)
      rw [List.length_take] at h1
      omega
    have wt : IntKind.i64.wrap ((there (l.take i) : Nat) + 1 : Int) = ((there (l.take i) + 1 : Nat) : Int) := by rw [wrap_i64] <;> omega
    obtain ⟨C, hC⟩ : ∃ C, C = there (l.take i) := ⟨_, rfl⟩
    rw [← hC] at e14 hth1 wt
    obtain ⟨FT, hT, _⟩ := H.t
    have hget : T.get i = if o.there then some o else none := by
      rw [← pad_get]
      unfold Tbl.get
      rw [← hl, ho]
      rfl
    have hval := value_ok hT (i : Nat)
    have h0 : (0 : Int) ≤ (i : Nat) := by omega
    simp only [h0, if_true, Int.toNat_natCast, decide_true, Bool.true_and, hget] at hval
    simp [pf7_9, pf7_8, e15, hili, pf7_6, e7]
    refine Ev.mono hval ?_
    rintro v s2 ⟨rfl, rfl⟩
    obtain ⟨FM, hM, _⟩ := H.m
    have hat : (T.pad.all)[i]? = some o := by rw [← hl]; exact ho
    have r0 : s2.read mp (2 + i * 5) 1 = some [.bool o.there] := hM.rd (j := 0) hat rfl
    have r3 : s2.read mp (2 + i * 5 + 3) 1 = some [.int .i64 o.value] := hM.rd hat rfl
    cases hth : o.there with
    | true =>
      rw [hth] at r0 hth1
      simp [pf7_5, pf7_4, e8, hil, hili, r0, r3, pf7_2, pf7_1, e14, wt, pf7_7, e15, wi, -Int.natCast_add]
      exact ⟨64 - (i + 1), by omega, i + 1, by omega, rfl, H, e7, by rw [hth1]; rfl, rfl⟩
    | false =>
      rw [hth] at r0 hth1
      have hv0 := hod hth
      simp [pf7_5, pf7_4, e8, hil, hili, r0, r3, hv0, pf7_2, pf7_7, e15, wi, -Int.natCast_add]
      exact ⟨64 - (i + 1), by omega, i + 1, by omega, rfl, H, e7, by rw [hth1, e14]; simp, rfl⟩
  · obtain rfl : i = 64 := by omega
    have ht : l.take 64 = l := List.take_of_length_le (by omega)
    rw [ht, hthere] at e14
    obtain ⟨FT, hT, _⟩ := H.t
    simp [pf7_9, pf7_8, e15, pf7_0, e7]
    refine Ev.mono (len_ok hT B.ok) ?_
    rintro v s2 ⟨x2, rfl⟩
    simp [e14]

theorem nums_ext {s s' : S} {v : AV} {ns : List Nat} (h : NumsAt s v ns) (hx : Ext s s') : NumsAt s' v ns := by
  refine ⟨h.1, ?_⟩
  rcases h.2 with h2 | h2 | ⟨A, cap, opn, rfl, hA, hr⟩
  · exact .inl h2
  · exact .inr (.inl h2)
  · refine .inr (.inr ⟨A, cap, opn, rfl, by have := hx.ctr; omega, fun i n hi => ?_⟩)
    have := hr i n hi
    unfold S.read at this ⊢
    rw [hx.get A hA]
    exact this

set_option maxRecDepth 10000 in
set_option maxHeartbeats 2000000 in
theorem script_law {s : S} {v1 v2 : AV} {ns : List Nat} {bs : List (Nat × Nat × Nat × Nat)} (port : Nat) (hp : port < 18446744073709551616) (hN : NumsAt s v1 ns) (hl : ns.length ≤ 17592186044416) (hbv : StepsAt s v2 bs) (hfit : ∀ a ∈ bs, stepFit a) (hbl : bs.length ≤ 1048576) :
    Ev tab 7 [.int .u64 port, v1, v2] s fun v _ => v = .bool true := by
  refine Ev.intro rfl rfl rfl ?_
  simp [pf7, pf7_30, pf7_29, pf7_28]
  refine ev_awake23 ?_
  simp [pf7_26]
  refine Ev.mono (tapeOf_ok hN hl) ?_
  rintro v s1 ⟨hx1, tp0, F0, rfl, hTp, hF0⟩
  simp
  refine Ev.mono (oracleOf_ok hTp) ?_
  rintro v s2 ⟨hx2, op', F1, rfl, hO, hg1⟩
  simp
  refine Ev.mono (objectsOf_ok hO port) ?_
  rintro v s3 ⟨hx3, tp, rfl, htp, hT⟩
  have y3 : Ext s s3 := hx1.trans (hx2.trans hx3)
  simp [pf7_25, -wpI_build]
  refine Ev.mono (tapeOf_ok (nums_ext hN y3) hl) ?_
  rintro v s4 ⟨hx4, up0, G0, rfl, hUp, hG0⟩
  simp [-wpI_build]
  refine Ev.mono (oracleOf_ok hUp) ?_
  rintro v s5 ⟨hx5, op2, G1, rfl, hO2, hg2⟩
  obtain ⟨es, hes⟩ : ∃ es, es = ns.map (· % w48) := ⟨_, rfl⟩
  rw [← hes] at hT hO2
  obtain ⟨s6, hs6⟩ : ∃ t, t = s5.new (.cells (mdCells port op2) 0 false) := ⟨_, rfl⟩
  have x6 : Ext s5 s6 := by rw [hs6]; simp
  have c6 : s6.ctr = s5.ctr + 1 := by rw [hs6]; rfl
  have hmf := model_flat port op2
  simp [model_made (p := port) (op := op2), -wpI_build, hmf, ← hs6]
  have lt := hT.lt
  have lo := hO2.lt
  have k1 := hx1.ctr; have k2 := hx2.ctr; have k3 := hx3.ctr; have k4 := hx4.ctr; have k5 := hx5.ctr
  have y6 : Ext s3 s6 := hx4.trans (hx5.trans x6)
  have loT : ∀ y ∈ tp :: F1, s.ctr ≤ y := fun y hy => by
    rcases List.mem_cons.1 hy with rfl | h
    · omega
    · rcases hg1 y h with h | h
      · exact hF0 y h
      · omega
  have loO : ∀ y ∈ G1, s3.ctr ≤ y := fun y hy => by
    rcases hg2 y hy with h | h
    · exact hG0 y h
    · omega
  have ok0 : Tbl.Ok ⟨port, ⟨[], es, 0⟩, []⟩ := Tbl.Ok.fresh hp (by
    rw [hes]
    intro y hy
    obtain ⟨n, _, rfl⟩ := List.mem_map.1 hy
    exact Nat.mod_lt _ (by decide))
  have hM : Md s6 s5.ctr (⟨port, ⟨[], es, 0⟩, []⟩ : Tbl).pad (s5.ctr :: G1) := by
    refine ⟨op2, G1, by rw [hs6]; simp; rfl, hO2.ext x6, rfl, by omega, fun hx => by have := lo _ hx; omega, by simp [Tbl.pad, Ab.pad]⟩
  have HW : Ws s s6 s5.ctr tp (⟨port, ⟨[], es, 0⟩, []⟩ : Tbl).pad ⟨port, ⟨[], es, 0⟩, []⟩ ((s5.ctr :: G1) ++ ((tp :: F1) ++ [])) .snil [] := by
    refine ⟨(y3.trans y6).keep (Nat.le_refl _), ⟨s5.ctr :: G1, tp :: F1, [], rfl, hM, hT.ext y6, OwnF.nil 4 s6, ?_, fun _ _ h => (by cases h), fun _ _ h => (by cases h)⟩, ?_, by simp⟩
    · intro y hy h
      have q1 := lt y h
      rcases List.mem_cons.1 hy with rfl | hy
      · omega
      · have := loO y hy; omega
    · intro y hy
      rcases List.mem_append.1 hy with hy | hy
      · rcases List.mem_cons.1 hy with rfl | hy
        · omega
        · have := loO y hy; omega
      · rw [List.append_nil] at hy
        exact loT y hy
  have wl := hbv.wlen
  simp [pf7_24, pf7_23, pf7_22, wl]
  refine steps_loop hbv hfit hbl HW ⟨ok0, by simp, by simp, fun x hx => by cases hx⟩ (by simp) (by simp) (by simp) (by simp) (by simp) (by simp) ?_
  intro R2 st2 T2 A2 hv2 cs2 H2 B2 j7 j8
  simp [pf7_12]
  exact there_same H2 B2 (by simp [j7]) (by simp [j8]) (by simp)
end Go.Ab
