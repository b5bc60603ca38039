/- The abstract machine and the model's: a region whose order is drawn, by the machine's steps. -/
import Derived.Test.YtekkglhoeaipbaaDoorAbReg3
namespace Go.Ab

structure Inv (ops : Array Oper) (nt : Nat) (pm : Nat → Nat) (l : List PI) (st : Nat → S) (rg : Nat → Regs) (ν₀ : Nu) (s₀ : S) (w₀ : World) (listed : Array Bool) (r : Regs) (pp : Nat) (ν : Nu) (a : Act) (w : World) : Prop where
  good : Good ν₀ s₀ w₀ st pp ν w
  ra : RA ν nt r a
  done : ∀ (j : Nat) (p : PI) (t : Nat), l[j]? = some p → p.dst = some t → listed.getD p.idx false = true → r t = rg l.length t
  none_ : ∀ t, (∀ (j : Nat) (p : PI), l[j]? = some p → p.dst ≠ some t) → r t = rg l.length t
  free : ∀ t, (∀ (j : Nat) (p : PI), l[j]? = some p → p.dst = some t → listed.getD p.idx false = false) → r t = rg 0 t
  closed : ∀ (j : Nat) (p : PI), l[j]? = some p → listed.getD p.idx false = true → ∀ i, (pm p.idx).testBit i = true → listed.getD i false = true
  lsize : listed.size = ops.size
  le : pp ≤ l.length
  above : ∀ (j : Nat) (p : PI), pp ≤ j → l[j]? = some p → listed.getD p.idx false = false
  below : ∀ (j : Nat) (p : PI), j < pp → l[j]? = some p → p.i.eff = true → listed.getD p.idx false = true
  stop : ∀ (p : PI), l[pp]? = some p → p.i.eff = true
  ghost : ∀ (j : Nat) (p : PI), j < pp → l[j]? = some p → listed.getD p.idx false = false → p.i.alc = true → wantedA p.guard (rg j) = true → ν (st j).ctr = none ∧ ∃ obj, st (j + 1) = (st j).new obj ∧ (st pp).get (st j).ctr = some obj

section
variable {P : Program} {nt : Nat} {ops : Array Oper} {pm : Nat → Nat} {l : List PI} {E : Env} {st : Nat → S} {rg : Nat → Regs} {val : Nat → AV}
variable {ν₀ ν : Nu} {s₀ : S} {w₀ w : World} {listed : Array Bool} {r : Regs} {pp : Nat} {a : Act}

theorem listed_set {i k : Nat} (hi : i < listed.size) : (listed.setIfInBounds i true).getD k false = if k = i then true else listed.getD k false := by
  by_cases h : k = i
  · subst h; simp [Array.getD_eq_getD_getElem?, hi]
  · simp [Array.getD_eq_getD_getElem?, Array.getElem?_setIfInBounds_ne (Ne.symm h), h]

theorem idx_lt (hl : ∀ p ∈ l, ∃ o, OpP P nt ops p o) {j : Nat} {p : PI} (hp : l[j]? = some p) : p.idx < ops.size := by
  obtain ⟨o, ho⟩ := hl p (List.mem_of_getElem? hp)
  exact (Array.getElem?_eq_some_iff.1 ho.at_).1

theorem still_sub {p : PI} {r : Regs} {s s' : S} {v : AV} (hf : Fresh s) (he : p.i.eff = false) (h : evP E p r s = some (v, s')) : Sub s s' := by
  rcases still_step he h with h1 | ⟨obj, h1⟩
  · rw [h1]; exact Sub.refl _
  · rw [h1]; exact hf.sub obj

/-- A read finds at every later stage what it found. -/
theorem read_later (hd : DrawOk ops pm l) (ht : Trace E l st rg val) (h : Inv ops nt pm l st rg ν₀ s₀ w₀ listed r pp ν a w) {j : Nat} {p : PI} (hp : l[j]? = some p) (hjp : j < pp) (hul : listed.getD p.idx false = false) (he : p.i.eff = false) (ha : p.i.alc = false)
    (hrd : p.i.rd = true) (hw : wantedA p.guard (rg j) = true) : ∀ m, j < m → m ≤ pp → evI E p.i (rg j) (st m) = some (val j, st m) := by
  have hstep := ht.step j p hp
  unfold evP at hstep
  rw [if_pos hw] at hstep
  have hq := quiet_ext he ha hstep
  intro m
  induction m with
  | zero => intro h; omega
  | succ m ih =>
    intro h1 h2
    by_cases hm : m = j
    · subst hm
      rw [hq.1] at hstep ⊢
      exact hstep
    · have hml : m < l.length := by have := h.le; omega
      have hmp : l[m]? = some l[m] := List.getElem?_eq_getElem hml
      have hprev := ih (by omega) (by omega)
      cases hem : (l[m]).i.eff with
      | false =>
        have hsub := still_sub (h.good.fresh m (by omega)) hem (ht.step m _ hmp)
        exact (quiet_ext he ha hprev).2 _ (fun _ => hsub)
      | true =>
        have hlm := h.below m _ (by omega) hmp hem
        rcases hd.chk j m p _ (by omega) hp hmp hem hrd he with hbit | ⟨d, hdst, hmem⟩
        · rw [h.closed m _ hmp hlm _ hbit] at hul; cases hul
        · obtain ⟨s', hs'⟩ := chkA_mem (ht.chk m _ hmp) hmem
          have hle : m + 1 ≤ l.length := by have := h.le; omega
          obtain ⟨hal, hwa⟩ := alike_of (p := p) (r := rg (m + 1)) (r' := rg j) (fun t htt => reg_look hd ht hp hrd htt (by omega) hle)
          rw [hwa, if_pos hw, evI_congr E p.i _ hal, reg_end hd ht hp hdst (by omega) hle] at hs'
          have := (quiet_ext he ha hs').1
          rw [this] at hs'
          exact hs'

theorem eff_alc {i : I} (h : i.eff = true) : i.alc = false := by cases i <;> first | rfl | cases h

/-- What is the same whatever operation came. -/
structure Next (ops : Array Oper) (nt : Nat) (pm : Nat → Nat) (l : List PI) (rg : Nat → Regs) (listed : Array Bool) (r : Regs) : Prop where
  done : ∀ (j : Nat) (p : PI) (t : Nat), l[j]? = some p → p.dst = some t → listed.getD p.idx false = true → r t = rg l.length t
  none_ : ∀ t, (∀ (j : Nat) (p : PI), l[j]? = some p → p.dst ≠ some t) → r t = rg l.length t
  free : ∀ t, (∀ (j : Nat) (p : PI), l[j]? = some p → p.dst = some t → listed.getD p.idx false = false) → r t = rg 0 t
  closed : ∀ (j : Nat) (p : PI), l[j]? = some p → listed.getD p.idx false = true → ∀ i, (pm p.idx).testBit i = true → listed.getD i false = true
  lsize : listed.size = ops.size

theorem Inv.regs (hd : DrawOk ops pm l) (ht : Trace E l st rg val) (hl : ∀ p ∈ l, ∃ o, OpP P nt ops p o) (h : Inv ops nt pm l st rg ν₀ s₀ w₀ listed r pp ν a w) {j : Nat} {p : PI} (hp : l[j]? = some p)
    (hbit : ∀ i, (pm p.idx).testBit i = true → listed.getD i false = true) : Next ops nt pm l rg (listed.setIfInBounds p.idx true) (updO r p.dst (val j)) := by
  have hi : p.idx < listed.size := by rw [h.lsize]; exact idx_lt hl hp
  refine ⟨fun k q t hq hdst hlq => ?_, fun t hno => ?_, fun t hno => ?_, fun k q hq hlq i hb => ?_, by simp [h.lsize]⟩
  · rw [listed_set hi] at hlq
    by_cases he : q.idx = p.idx
    · have hkj := hd.inj k j q p hq hp he
      subst hkj
      rw [hp] at hq; cases hq
      rw [reg_end hd ht hp hdst (List.getElem?_eq_some_iff.1 hp).1 (Nat.le_refl _), hdst]
      simp [updO, upd]
    · rw [if_neg he] at hlq
      have hr := h.done k q t hq hdst hlq
      cases hpd : p.dst with
      | none => exact hr
      | some d =>
        by_cases hdt : t = d
        · subst hdt
          have hkj := hd.writer k j q p t hq hp hdst hpd
          subst hkj
          rw [hp] at hq; cases hq
          exact absurd rfl he
        · simp only [updO, upd, hdt, if_false]
          exact hr
  · have hr := h.none_ t hno
    have := hno j p hp
    cases hpd : p.dst with
    | none => exact hr
    | some d =>
      rw [hpd] at this
      simp only [updO, upd]
      rw [if_neg (by rintro rfl; exact this rfl)]
      exact hr
  · have hpt : p.dst ≠ some t := by
      intro he
      have := hno j p hp he
      rw [listed_set hi, if_pos rfl] at this
      cases this
    have hr := h.free t (fun k q hq hdst => by
      have := hno k q hq hdst
      rw [listed_set hi] at this
      split at this
      · cases this
      · exact this)
    cases hpd : p.dst with
    | none => exact hr
    | some d =>
      rw [hpd] at hpt
      simp only [updO, upd]
      rw [if_neg (by rintro rfl; exact hpt rfl)]
      exact hr
  · rw [listed_set hi] at hlq
    rw [listed_set hi]
    split
    · rfl
    · by_cases he : q.idx = p.idx
      · have hkj := hd.inj k j q p hq hp he
        subst hkj
        rw [hp] at hq; cases hq
        exact hbit i hb
      · rw [if_neg he] at hlq
        exact h.closed k q hq hlq i hb

theorem Inv.next (hE : EnvOk P E) (hs₀ : Sim ν₀ s₀ w₀) (h0 : st 0 = s₀) (hd : DrawOk ops pm l) (ht : Trace E l st rg val) (hl : ∀ p ∈ l, ∃ o, OpP P nt ops p o) (h : Inv ops nt pm l st rg ν₀ s₀ w₀ listed r pp ν a w)
    {i : Nat} (hi : i ∈ Region.ready .any ops listed) : listed.getD i false = false ∧ i < listed.size ∧ ∃ r' pp' ν' a' w', Inv ops nt pm l st rg ν₀ s₀ w₀ (listed.setIfInBounds i true) r' pp' ν' a' w' ∧ OpRun P ops i a w a' w' := by
  obtain ⟨hul0, o, ho, hall⟩ := mem_ready.1 hi
  have hio : i < ops.size := (Array.getElem?_eq_some_iff.1 ho).1
  have hil : i < listed.size := by rw [h.lsize]; exact hio
  have hul : listed.getD i false = false := by
    simp [Array.getD_eq_getD_getElem?, hil] at hul0 ⊢
    exact hul0
  refine ⟨hul, hil, ?_⟩
  obtain ⟨j, p, hp, rfl⟩ := hd.onto i hio
  obtain ⟨o', hop⟩ := hl p (List.mem_of_getElem? hp)
  have hoo : o' = o := by have := hop.at_; rw [ho] at this; exact (Option.some.inj this).symm
  subst hoo
  have hbit : ∀ k, (pm p.idx).testBit k = true → listed.getD k false = true := by
    intro k hk
    obtain ⟨e, he, hb, hor⟩ := hd.mask j p hp _ ho k hk
    have hle := hall e he hb
    rcases hor with rfl | hk'
    · exact hle
    · obtain ⟨m, q, _, hq, hqi⟩ := hd.ext j p hp _ ho e he hb
      rw [← hqi] at hk' hle
      exact h.closed m q hq hle k hk'
  have hlen : j < l.length := (List.getElem?_eq_some_iff.1 hp).1
  have hlook : ∀ t ∈ p.looks, r t = rg j t := by
    intro t htl
    by_cases hw : ∃ (k : Nat) (q : PI), l[k]? = some q ∧ q.dst = some t
    · obtain ⟨k, q, hq, hqd⟩ := hw
      rcases hd.uses k j q p t hq hp hqd htl with ⟨u1, u2⟩ | ⟨u1, u2, _⟩
      · rw [h.done k q t hq hqd (hbit _ u2), reg_end hd ht hq hqd (List.getElem?_eq_some_iff.1 hq).1 (Nat.le_refl _), reg_end hd ht hq hqd u1 (Nat.le_of_lt hlen)]
      · have hql : listed.getD q.idx false = false := by
          cases hx : listed.getD q.idx false with
          | false => rfl
          | true => rw [h.closed k q hq hx _ u2] at hul; cases hul
        rw [h.free t (fun k2 q2 hq2 hd2 => by
          have := hd.writer k2 k q2 q t hq2 hq hd2 hqd
          subst this
          rw [hq] at hq2; cases hq2; exact hql)]
        exact (reg_stays ht j 0 (Nat.zero_le _) (Nat.le_of_lt hlen) (fun i q2 _ hi2 hq2 hd2 => by
          have := hd.writer i k q2 q t hq2 hq hd2 hqd
          omega)).symm
    · rw [h.none_ t (fun k q hq hqd => hw ⟨k, q, hq, hqd⟩)]
      exact reg_stays ht l.length j (Nat.le_of_lt hlen) (Nat.le_refl _) (fun i q _ _ hq hqd => hw ⟨i, q, hq, hqd⟩)
  have hstep := ht.step j p hp
  have hN := h.regs hd ht hl hp hbit
  have hset := fun k => listed_set (listed := listed) (k := k) hil
  by_cases hjp : j < pp
  · have heff : p.i.eff = false := by
      cases he : p.i.eff with
      | false => rfl
      | true => rw [h.below j p hjp hp he] at hul; cases hul
    by_cases hla : p.i.alc = true ∧ wantedA p.guard (rg j) = true
    · obtain ⟨hal, hwa⟩ := hla
      obtain ⟨hlk1, hlk2⟩ := alike_of hlook
      have hw' : wantedA p.guard r = true := by rw [hlk2]; exact hwa
      unfold evP at hstep
      rw [if_pos hwa, ← evI_congr E p.i _ hlk1] at hstep
      obtain ⟨mk, obj, hmk, hrw, hval, hst, L, w', v', g1, g2, g3, g4, g5, g6, g7, hrun, hcv⟩ := late_alloc hE hop h.ra h.good.ok.sim.glob h.good.ok.sim.top hal hw' hstep
      obtain ⟨hno, obj', hst', hget⟩ := h.ghost j p hjp hp hul hal hwa
      have hobj : obj' = obj := by
        have e := hst.symm.trans hst'
        have := congrArg (fun s => S.get s (st j).ctr) e
        simp only [S.get_new, if_true, Option.some.injEq] at this
        exact this.symm
      subst hobj
      have hc0 : s₀.ctr ≤ (st j).ctr := by rw [← h0]; exact h.good.mono 0 j (Nat.zero_le _) (by omega)
      have hc1 : (st j).ctr < (st pp).ctr := by
        have := h.good.mono (j + 1) pp (by omega) (Nat.le_refl _)
        rw [hst, S.ctr_new] at this
        omega
      have hok := Ok.late hs₀ h.good.ok hc0 hc1 hget hno g1 g2 g3 g4 g5 g6 g7
      refine ⟨updO r p.dst (val j), pp, nuSet ν (st j).ctr L, a.put p.dst v', w', ?_, hrun⟩
      refine ⟨⟨hok, h.good.mono, h.good.fresh⟩, ?_, hN.done, hN.none_, hN.free, hN.closed, hN.lsize, h.le, fun k q hk hq => ?_, fun k q hk hq hqe => ?_, h.stop, fun k q hk hq hqu hqa hqw => ?_⟩
      · refine (h.ra.mono (le_nuSet hno)).put hop.fits ?_
        rw [hval]
        exact hcv _ _ (by simp [nuSet])
      · rw [hset, if_neg (by intro he; have := hd.inj k j q p hq hp he; omega)]
        exact h.above k q hk hq
      · rw [hset, h.below k q hk hq hqe]; simp
      · rw [hset] at hqu
        have hne : q.idx ≠ p.idx := by intro he; rw [if_pos he] at hqu; cases hqu
        rw [if_neg hne] at hqu
        obtain ⟨b1, b2⟩ := h.ghost k q hk hq hqu hqa hqw
        refine ⟨?_, b2⟩
        have hkj : k ≠ j := by rintro rfl; rw [hp] at hq; cases hq; exact hne rfl
        have hidne : (st k).ctr ≠ (st j).ctr := by
          obtain ⟨objk, hk1, _⟩ := b2
          rcases Nat.lt_or_gt_of_ne hkj with hlt | hgt
          · have := h.good.mono (k + 1) j (by omega) (by omega)
            rw [hk1, S.ctr_new] at this; omega
          · have := h.good.mono (j + 1) k (by omega) (by omega)
            rw [hst, S.ctr_new] at this; omega
        simp only [nuSet, hidne, if_false]
        exact b1
    · have hev : evP E p r (st pp) = some (val j, st pp) := by
        rw [evP_congr hlook]
        unfold evP at hstep ⊢
        cases hwa : wantedA p.guard (rg j) with
        | false =>
          rw [hwa] at hstep
          simp only [Bool.false_eq_true, if_false, Option.some.injEq, Prod.mk.injEq] at hstep ⊢
          exact ⟨hstep.1, trivial⟩
        | true =>
          have hal : p.i.alc = false := by
            cases hx : p.i.alc with
            | false => rfl
            | true => exact absurd ⟨hx, hwa⟩ hla
          rw [hwa] at hstep
          simp only [if_true] at hstep ⊢
          cases hrd : p.i.rd with
          | false => exact (quiet_ext heff hal hstep).2 _ (by rw [hrd]; intro hx; cases hx)
          | true => exact read_later hd ht h hp hjp hul heff hal hrd hwa pp hjp (Nat.le_refl _)
      obtain ⟨ν', w', v', hok, hcv, hrun⟩ := evP_run hE hop h.ra h.good.ok.sim hev
      refine ⟨updO r p.dst (val j), pp, ν', a.put p.dst v', w', ?_, hrun⟩
      refine ⟨⟨h.good.ok.trans hs₀ hok, h.good.mono, h.good.fresh⟩, (h.ra.mono hok.le).put hop.fits hcv, hN.done, hN.none_, hN.free, hN.closed, hN.lsize, h.le, fun k q hk hq => ?_, fun k q hk hq hqe => ?_, h.stop, fun k q hk hq hqu hqa hqw => ?_⟩
      · rw [hset, if_neg (by intro he; have := hd.inj k j q p hq hp he; omega)]
        exact h.above k q hk hq
      · rw [hset, h.below k q hk hq hqe]; simp
      · rw [hset] at hqu
        have hne : q.idx ≠ p.idx := by intro he; rw [if_pos he] at hqu; cases hqu
        rw [if_neg hne] at hqu
        obtain ⟨b1, b2⟩ := h.ghost k q hk hq hqu hqa hqw
        refine ⟨?_, b2⟩
        cases hx : ν' (st k).ctr with
        | none => rfl
        | some M =>
          rcases hok.new _ _ hx with h1 | ⟨_, h1, h2, _⟩
          · rw [b1] at h1; cases h1
          · omega
  · have hjpp : j = pp := by
      rcases Nat.lt_or_ge pp j with hlt | hge
      · exfalso
        have hppl : pp < l.length := by omega
        have hq : l[pp]? = some l[pp] := List.getElem?_eq_getElem hppl
        have hb := hd.behind pp j _ p hlt hq hp (h.stop _ hq)
        have := h.above pp _ (Nat.le_refl _) hq
        rw [hbit _ hb] at this; cases this
      · omega
    subst hjpp
    have heff := h.stop p hp
    rw [← evP_congr hlook] at hstep
    obtain ⟨ν', w', v', hok, hcv, hrun⟩ := evP_run hE hop h.ra h.good.ok.sim hstep
    have hg1 : Good ν₀ s₀ w₀ st (j + 1) ν' w' := by
      refine ⟨h.good.ok.trans hs₀ hok, fun x y hxy hy => ?_, fun x hx => ?_⟩
      · by_cases hy' : y = j + 1
        · subst hy'
          by_cases hx' : x = j + 1
          · subst hx'; exact Nat.le_refl _
          · exact Nat.le_trans (h.good.mono x j (by omega) (Nat.le_refl _)) hok.ctr
        · exact h.good.mono x y hxy (by omega)
      · by_cases hx' : x = j + 1
        · subst hx'; exact hok.sim.fresh
        · exact h.good.fresh x (by omega)
    obtain ⟨pp', a1, a2, a3, a4, a5, a6⟩ := Good.advance ht (l.length - (j + 1)) (j + 1) (by omega) hg1
    refine ⟨updO r p.dst (val j), pp', ν', a.put p.dst v', w', ?_, hrun⟩
    refine ⟨a3, (h.ra.mono hok.le).put hop.fits hcv, hN.done, hN.none_, hN.free, hN.closed, hN.lsize, a2, fun k q hk hq => ?_, fun k q hk hq hqe => ?_, a5, fun k q hk hq hqu hqa hqw => ?_⟩
    · rw [hset, if_neg (by intro he; have := hd.inj k j q p hq hp he; omega)]
      exact h.above k q (by omega) hq
    · rw [hset]
      by_cases hkj : k = j
      · subst hkj; rw [hp] at hq; cases hq; simp
      · rcases Nat.lt_or_ge k j with hlt | hge
        · rw [h.below k q hlt hq hqe]; simp
        · have := a4 k q (by omega) hk hq
          rw [hqe] at this; cases this
    · rw [hset] at hqu
      have hne : q.idx ≠ p.idx := by intro he; rw [if_pos he] at hqu; cases hqu
      rw [if_neg hne] at hqu
      have hkj : k ≠ j := by rintro rfl; rw [hp] at hq; cases hq; exact hne rfl
      rcases Nat.lt_or_gt_of_ne hkj with hlt | hgt
      · obtain ⟨b1, obj, b2, b3⟩ := h.ghost k q hlt hq hqu hqa hqw
        have hlt' : (st k).ctr < (st j).ctr := by
          have := h.good.mono (k + 1) j (by omega) (Nat.le_refl _)
          rw [b2, S.ctr_new] at this; omega
        refine ⟨?_, obj, b2, a6 (j + 1) pp' (Nat.le_refl _) a1 (Nat.le_refl _) _ _ (by rw [hok.keep _ hlt' b1]; exact b3)⟩
        cases hx : ν' (st k).ctr with
        | none => rfl
        | some M =>
          rcases hok.new _ _ hx with h1 | ⟨_, h1, h2, _⟩
          · rw [b1] at h1; cases h1
          · omega
      · have hsk := ht.step k q hq
        unfold evP at hsk
        rw [if_pos hqw] at hsk
        obtain ⟨mk, obj, _, _, _, e1, _⟩ := alc_form hqa hsk
        refine ⟨hok.sim.top _ (a3.mono (j + 1) k (by omega) (by omega)), obj, e1, a6 (k + 1) pp' (by omega) (by omega) (Nat.le_refl _) _ _ (by rw [e1, S.get_new]; simp)⟩

/-- Nothing is ready: all is done. -/
theorem Inv.over (hd : DrawOk ops pm l) (hl : ∀ p ∈ l, ∃ o, OpP P nt ops p o) (h : Inv ops nt pm l st rg ν₀ s₀ w₀ listed r pp ν a w) (hr : Region.ready .any ops listed = []) : ∀ (j : Nat) (p : PI), l[j]? = some p → listed.getD p.idx false = true := by
  intro j
  induction j using Nat.strongRecOn with
  | _ j ih =>
    intro p hp
    cases hx : listed.getD p.idx false with
    | true => rfl
    | false =>
      exfalso
      obtain ⟨o, ho⟩ := hl p (List.mem_of_getElem? hp)
      have hlt : p.idx < listed.size := by rw [h.lsize]; exact idx_lt hl hp
      have : p.idx ∈ Region.ready .any ops listed := mem_ready.2 ⟨by
        simp [Array.getD_eq_getD_getElem?, hlt] at hx ⊢
        exact hx, o, ho.at_, fun e he hb => by
        obtain ⟨i, q, hi, hq, hqi⟩ := hd.ext j p hp o ho.at_ e he hb
        rw [← hqi]
        exact ih i hi q hq⟩
      rw [hr] at this
      cases this

theorem Inv.finish (hd : DrawOk ops pm l) (h : Inv ops nt pm l st rg ν₀ s₀ w₀ listed r pp ν a w) (hall : ∀ (j : Nat) (p : PI), l[j]? = some p → listed.getD p.idx false = true) : Ok ν₀ s₀ w₀ ν (st l.length) w ∧ RA ν nt (rg l.length) a := by
  have hpp : pp = l.length := by
    rcases Nat.lt_or_ge pp l.length with hlt | hge
    · exfalso
      have hq : l[pp]? = some l[pp] := List.getElem?_eq_getElem hlt
      have := h.above pp _ (Nat.le_refl _) hq
      rw [hall pp _ hq] at this; cases this
    · have := h.le; omega
  have hr : r = rg l.length := by
    funext t
    by_cases hw : ∃ (k : Nat) (q : PI), l[k]? = some q ∧ q.dst = some t
    · obtain ⟨k, q, hq, hqd⟩ := hw
      exact h.done k q t hq hqd (hall k q hq)
    · exact h.none_ t (fun k q hq hqd => hw ⟨k, q, hq, hqd⟩)
  subst hpp
  subst hr
  exact ⟨h.good.ok, h.ra⟩

def left (listed : Array Bool) : Nat := listed.toList.countP (!·)

theorem left_set {i : Nat} (hi : i < listed.size) (h : listed.getD i false = false) : left (listed.setIfInBounds i true) + 1 = left listed := by
  have hl : i < listed.toList.length := by simpa using hi
  have hf : listed.toList[i] = false := by simpa [Array.getD_eq_getD_getElem?, hi] using h
  unfold left
  rw [Array.toList_setIfInBounds, List.countP_set hl, hf]
  have : 0 < listed.toList.countP (!·) := List.countP_pos_iff.2 ⟨false, by rw [← hf]; exact List.getElem_mem hl, rfl⟩
  simp only [Bool.not_false, Bool.not_true, if_true, Bool.false_eq_true, if_false]
  omega

theorem left_zero (h : left listed = 0) {i : Nat} (hi : i < listed.size) : listed.getD i false = true := by
  unfold left at h
  rw [List.countP_eq_zero] at h
  have hl : i < listed.toList.length := by simpa using hi
  have := h _ (List.getElem_mem hl)
  simp [Array.getD_eq_getD_getElem?, hi] at this ⊢
  exact this

theorem draw_go (hE : EnvOk P E) (hs₀ : Sim ν₀ s₀ w₀) (h0 : st 0 = s₀) (hd : DrawOk ops pm l) (ht : Trace E l st rg val) (hl : ∀ p ∈ l, ∃ o, OpP P nt ops p o) :
    ∀ (fuel t : Nat) (listed : Array Bool) (r : Regs) (pp : Nat) (ν : Nu) (a : Act) (w : World), left listed ≤ fuel → Inv ops nt pm l st rg ν₀ s₀ w₀ listed r pp ν a w →
      ∃ ν' a' w', Ok ν₀ s₀ w₀ ν' (st l.length) w' ∧ RA ν' nt (rg l.length) a' ∧ SchRun P ops (Region.linearise.go .any ops fuel t listed []) a w a' w' := by
  intro fuel
  induction fuel with
  | zero =>
    intro t listed r pp ν a w hf h
    obtain ⟨h1, h2⟩ := h.finish hd (fun j p hp => left_zero (by omega) (by rw [h.lsize]; exact idx_lt hl hp))
    exact ⟨ν, a, w, h1, h2, by simpa [Region.linearise.go] using SchRun.nil⟩
  | succ fuel ih =>
    intro t listed r pp ν a w hf h
    simp only [Region.linearise.go]
    change ∃ ν' a' w', _ ∧ _ ∧ SchRun P ops (match (Region.ready .any ops listed)[t % (Region.ready .any ops listed).length]? with
      | some i => Region.linearise.go .any ops fuel (t / (Region.ready .any ops listed).length) (listed.setIfInBounds i true) [i]
      | none => [].reverse) a w a' w'
    cases hi : (Region.ready .any ops listed)[t % (Region.ready .any ops listed).length]? with
    | none =>
      have hnil : Region.ready .any ops listed = [] := by
        cases hr : Region.ready .any ops listed with
        | nil => rfl
        | cons x xs =>
          rw [hr] at hi
          have hlt : t % (x :: xs).length < (x :: xs).length := Nat.mod_lt _ (by simp)
          simp at hi
          simp at hlt
          omega
      obtain ⟨h1, h2⟩ := h.finish hd (h.over hd hl hnil)
      exact ⟨ν, a, w, h1, h2, by simpa using SchRun.nil⟩
    | some i =>
      simp only []
      rw [linearise_go_acc, List.reverse_singleton, List.singleton_append]
      obtain ⟨hu, hlt, r', pp', ν', a', w', hinv, hrun⟩ := h.next hE hs₀ h0 hd ht hl (List.mem_of_getElem? hi)
      have := left_set hlt hu
      obtain ⟨ν2, a2, w2, k1, k2, k3⟩ := ih (t / (Region.ready .any ops listed).length) _ r' pp' ν' a' w' (by omega) hinv
      exact ⟨ν2, a2, w2, k1, k2, .cons hrun k3⟩

theorem draw_run (hE : EnvOk P E) (hd : DrawOk ops pm l) (hl : ∀ p ∈ l, ∃ o, OpP P nt ops p o) {k : Regs → S → R} {res : AV × S} {r : Regs} {s : S} (h : evOps E l r s k = some res) :
    ∃ r' s', k r' s' = some res ∧ ∀ ν a w, RA ν nt r a → Sim ν s w → ∀ t, ∃ ν' a' w', Ok ν s w ν' s' w' ∧ RA ν' nt r' a' ∧ SchRun P ops (Region.linearise .any ops t) a w a' w' := by
  obtain ⟨st, rg, val, h0, h1, hk, ht⟩ := evOps_trace l r s h
  refine ⟨_, _, hk, fun ν a w hr hs t => ?_⟩
  have hg : Good ν s w st 0 ν w := by
    refine ⟨by rw [h0]; exact Ok.refl hs, fun i j hi hj => ?_, fun i hi => ?_⟩
    · have : i = j := by omega
      rw [this]; exact Nat.le_refl _
    · have : i = 0 := by omega
      rw [this, h0]; exact hs.fresh
  obtain ⟨pp, a1, a2, a3, a4, a5, a6⟩ := Good.advance ht l.length 0 (by omega) hg
  refine draw_go hE hs h0 hd ht hl ops.size t _ r pp ν a w (by simp [left, List.countP_replicate]) ?_
  have hf : ∀ i, (Array.replicate ops.size false).getD i false = false := fun i => by
    rcases Nat.lt_or_ge i ops.size with h | h
    · simp [Array.getD_eq_getD_getElem?, h]
    · simp [Array.getD_eq_getD_getElem?, h]
  have hset0 : ∀ (r2 : Regs) t, (∀ (j : Nat) (p : PI), l[j]? = some p → p.dst ≠ some t) → r t = rg l.length t := fun _ t hno => by
    rw [← h1]
    exact (reg_stays ht l.length 0 (Nat.zero_le _) (Nat.le_refl _) (fun i q _ _ hq => hno i q hq)).symm
  refine ⟨a3, hr, fun j p t _ _ hx => ?_, hset0 r, fun t _ => by rw [h1], fun j p _ hx => ?_, by simp, a2, fun j p _ _ => hf _, fun j p hj hp he => ?_, a5, fun k q hk hq _ hqa hqw => ?_⟩
  · rw [hf] at hx; cases hx
  · rw [hf] at hx; cases hx
  · have := a4 j p (Nat.zero_le _) hj hp
    rw [he] at this; cases this
  · have hsk := ht.step k q hq
    unfold evP at hsk
    rw [if_pos hqw] at hsk
    obtain ⟨mk, obj, _, _, _, e1, _⟩ := alc_form hqa hsk
    exact ⟨hs.top _ (by rw [← h0]; exact a3.mono 0 k (Nat.zero_le _) (by omega)), obj, e1, a6 (k + 1) pp (by omega) (by omega) (Nat.le_refl _) _ _ (by rw [e1, S.get_new]; simp)⟩
end
end Go.Ab
