/- Nodes (layer 29) over the abstract machine: a call's parts. -/
import Derived.Test.YtjpaahcblnnhaaaDoorNodeB
import Derived.Test.YtjpaahcblnnhaaaDoorMsg
namespace Go.Ab
attribute [local simp] lenV

theorem clone0 (s : S) : Ev tab 55 [.snil] s fun v s' => s' = s ∧ v = .snil := by
  refine Ev.intro rfl rfl rfl ?_
  simp [pf55, pf55_3, pf55_2, pf55_1]

/-- A message without data. -/
def mc (m : Ms) : List AV := [.int .u64 m.to, .int .u64 m.reply, .int .u32 m.id, .int .u16 m.op, .int .u16 m.st, .int .u64 m.p, .int .u32 m.o, .int .u8 m.r, .int .u64 m.k, .int .u64 m.arg, .snil]
theorem mc_eq (m : Ms) : m.cells .snil = mc m := rfl
def mz : List AV := [.int .u64 0, .int .u64 0, .int .u32 0, .int .u16 0, .int .u16 0, .int .u64 0, .int .u32 0, .int .u8 0, .int .u64 0, .int .u64 0, .snil]

theorem copied0 (m : Ms) (s : S) : Ev tab 51 [.agg (mc m)] s fun v s' => Ext s s' ∧ v = .agg (mc m) := by
  refine Ev.intro rfl rfl rfl ?_
  obtain ⟨s1, hs1⟩ : ∃ t, t = s.new (.cells (mc m) 0 false) := ⟨_, rfl⟩
  have x1 : Ext s s1 := by rw [hs1]; simp
  have c1 : s1.ctr = s.ctr + 1 := by rw [hs1]; rfl
  have g1 : s1.get s.ctr = some (.cells (mc m) 0 false) := by rw [hs1]; simp
  obtain ⟨s2, hs2⟩ : ∃ t, t = s1.new (.cells mz 0 false) := ⟨_, rfl⟩
  have x2 : Ext s1 s2 := by rw [hs2]; simp
  have c2 : s2.ctr = s.ctr + 2 := by rw [hs2]; show s1.ctr + 1 = _; omega
  have g2 : s2.get s.ctr = some (.cells (mc m) 0 false) := by rw [x2.get _ (by omega), g1]
  have g2' : s2.get s1.ctr = some (.cells mz 0 false) := by rw [hs2]; simp
  obtain ⟨s3, hs3⟩ : ∃ t, t = s2.set s.ctr (some (.cells (mc m) 0 false)) := ⟨_, rfl⟩
  have g3 : s3.get s.ctr = some (.cells (mc m) 0 false) := by rw [hs3]; simp
  have g3' : s3.get s1.ctr = some (.cells mz 0 false) := by rw [hs3, S.get_set, if_neg (by omega), g2']
  have x3 : Ext s s3 := by rw [hs3]; exact Ext.set (Nat.le_refl _) (x1.trans x2)
  unfold mc at *
  unfold mz at *
  simp [pf51, pf51_2, ← hs1, ← hs2, pf51_1, rd g2]
  refine Ev.mono (clone0 s2) ?_
  rintro v s' ⟨rfl, rfl⟩
  simp [wrc g2, ← hs3, pf51_0, rd g3, wrc g3']
  exact Ext.set (by omega) x3

/-- The message of a touch. -/
def touchM : Ms := ⟨12345, 0, 0, 2, 0, 12345, 0, 0, 0, 0, []⟩
theorem ask0 (s : S) : Ev tab 41 [.agg [.int .u64 12345, .int .u32 0, .int .u8 0, .int .u64 0], .int .u16 2, .int .u64 0, .snil] s fun v s' => Ext s s' ∧ v = .agg (mc touchM) := by
  refine Ev.intro rfl rfl rfl ?_
  obtain ⟨s1, hs1⟩ : ∃ t, t = s.new (.cells [.int .u64 12345, .int .u32 0, .int .u8 0, .int .u64 0] 0 false) := ⟨_, rfl⟩
  have x1 : Ext s s1 := by rw [hs1]; simp
  have c1 : s1.ctr = s.ctr + 1 := by rw [hs1]; rfl
  have g1 : s1.get s.ctr = some (.cells [.int .u64 12345, .int .u32 0, .int .u8 0, .int .u64 0] 0 false) := by rw [hs1]; simp
  obtain ⟨s2, hs2⟩ : ∃ t, t = s1.new (.cells mz 0 false) := ⟨_, rfl⟩
  have x2 : Ext s1 s2 := by rw [hs2]; simp
  have g2 : s2.get s.ctr = some (.cells [.int .u64 12345, .int .u32 0, .int .u8 0, .int .u64 0] 0 false) := by rw [x2.get _ (by omega), g1]
  have g2' : s2.get s1.ctr = some (.cells mz 0 false) := by rw [hs2]; simp
  have ha : s2.app 1 1 .snil .snil = some (.snil, s2) := by simp [S.app, S.cellsOf]
  unfold mz at *
  simp [pf41, pf41_1, ← hs1, ← hs2, pf41_0, rd g2, ha, wrc g2', mc, touchM]
  exact Ext.set (by omega) (x1.trans x2)

theorem touch0 (s : S) : Ev tab 25 [.agg [.int .u64 12345, .int .u32 0, .int .u8 0, .int .u64 0]] s fun v s' => Ext s s' ∧ v = .agg (mc touchM) := by
  refine Ev.intro rfl rfl rfl ?_
  obtain ⟨s1, hs1⟩ : ∃ t, t = s.new (.cells [.int .u64 12345, .int .u32 0, .int .u8 0, .int .u64 0] 0 false) := ⟨_, rfl⟩
  have x1 : Ext s s1 := by rw [hs1]; simp
  have c1 : s1.ctr = s.ctr + 1 := by rw [hs1]; rfl
  have g1 : s1.get s.ctr = some (.cells [.int .u64 12345, .int .u32 0, .int .u8 0, .int .u64 0] 0 false) := by rw [hs1]; simp
  obtain ⟨s2, hs2⟩ : ∃ t, t = s1.new (.cells mz 0 false) := ⟨_, rfl⟩
  have x2 : Ext s1 s2 := by rw [hs2]; simp
  have c2 : s2.ctr = s1.ctr + 1 := by rw [hs2]; rfl
  have g2 : s2.get s.ctr = some (.cells [.int .u64 12345, .int .u32 0, .int .u8 0, .int .u64 0] 0 false) := by rw [x2.get _ (by omega), g1]
  have g2' : s2.get s1.ctr = some (.cells mz 0 false) := by rw [hs2]; simp
  unfold mz at *
  simp [pf25, pf25_1, ← hs1, ← hs2, pf25_0, rd g2]
  refine Ev.mono (ask0 s2) ?_
  rintro v s3 ⟨x3, rfl⟩
  have k3 := x3.ctr
  have g3 : s3.get s1.ctr = some (.cells mz 0 false) := by rw [x3.get _ (by omega), g2']; rfl
  unfold mz at g3
  simp [mc, touchM, wrc g3]
  exact Ext.set (by omega) ((x1.trans x2).trans x3)

theorem find0 {s : S} {pl : Nat} {age : Int} (h : s.get pl = some (.cells [.snil, .int .i64 age] 0 false)) (x : Nat) (now : Int) : Ev tab 52 [.ptr pl 0, .int .u64 x, .int .i64 now] s fun v s' => s' = s ∧ v = .tuple [.int .i64 0, .bool false] := by
  refine Ev.intro rfl rfl rfl ?_
  simp [pf52, pf52_10, pf52_9, pf52_8, rd h]
  refine WpC.loop (fun m R' st' => R' 14 = .int .i64 0 ∧ R' 15 = .int .i64 0 ∧ st' = s) (m := 0) ⟨by simp, by simp, rfl⟩ ?_
  rintro m R st ⟨e14, e15, rfl⟩
  simp [pf52_7, pf52_6, e14, e15, pf52_0]

theorem ctick0 {s : S} {cl : Nat} {a b c : AV} (h : s.get cl = some (.cells [a, b, c, .snil] 0 false)) : Ev tab 37 [.ptr cl 0] s fun v s' => s' = s ∧ v = .snil := by
  refine Ev.intro rfl rfl rfl ?_
  simp [pf37, pf37_18, pf37_17, pf37_16, rd h]
  refine WpC.loop (fun m R' st' => R' 3 = .snil ∧ R' 10 = .int .i64 0 ∧ R' 11 = .int .i64 0 ∧ st' = s) (m := 0) ⟨by simp, by simp, by simp, rfl⟩ ?_
  rintro m R st ⟨e3, e10, e11, rfl⟩
  simp [pf37_15, pf37_14, e10, e11, pf37_0, e3]

theorem tick0 {s : S} {nb op : Nat} {id k : Int} {c : Cfg} {now : Int} {sent reply port : Nat} {r : Cp} {p : Parts} {cl : Nat} {a b d : AV} (hn : s.get nb = some (.cells (ncells id k c op true now sent reply port r p) 0 false)) (hp : p.client = .ptr cl 0)
    (hc : s.get cl = some (.cells [a, b, d, .snil] 0 false)) (hne : nb ≠ cl) (hnow : 0 ≤ now ∧ now < 1000) :
    Ev tab 23 [.ptr nb 0] s fun v s' => v = .snil ∧ Chg [nb] s s' ∧ s'.ctr = s.ctr ∧ s'.get nb = some (.cells (ncells id k c op true (now + 1) sent reply port r p) 0 false) := by
  refine Ev.intro rfl rfl rfl ?_
  obtain ⟨y1, y2, y3, y4, y5, y6, y7⟩ := p
  simp only at hp
  subst hp
  obtain ⟨p, hp⟩ : ∃ p : Parts, p = ⟨y1, y2, y3, .ptr cl 0, y5, y6, y7⟩ := ⟨_, rfl⟩
  rw [← hp] at hn ⊢
  have w : IntKind.i64.wrap (now + 1) = now + 1 := by rw [wrap_i64] <;> omega
  obtain ⟨s1, hs1⟩ : ∃ t, t = s.set nb (some (.cells (ncells id k c op true (now + 1) sent reply port r p) 0 false)) := ⟨_, rfl⟩
  have n1 : s1.get nb = some (.cells (ncells id k c op true (now + 1) sent reply port r p) 0 false) := by rw [hs1]; simp
  have hc1 : s1.get cl = some (.cells [a, b, d, .snil] 0 false) := by rw [hs1, S.get_set, if_neg (fun h => hne h.symm), hc]
  have d1 : Chg [nb] s s1 := by rw [hs1]; simp
  have c1 : s1.ctr = s.ctr := by rw [hs1]; rfl
  have n1' := n1
  simp [ncells, hp] at hn hs1 n1'
  simp [pf23, pf23_12, pf23_11, rd hn, w, wrc hn, ← hs1, pf23_9, rd n1', pf23_10, pf23_7, pf23_6]
  refine Ev.mono (ctick0 hc1) ?_
  rintro v s' ⟨rfl, rfl⟩
  simp
  refine WpC.loop (fun m R' st' => R' 3 = .snil ∧ R' 23 = .int .i64 0 ∧ R' 24 = .int .i64 0 ∧ st' = s') (m := 0) ⟨by simp, by simp, by simp, rfl⟩ ?_
  rintro m R st ⟨e3, e10, e11, rfl⟩
  simp [pf23_5, pf23_4, e10, e11, pf23_0, e3]
  exact ⟨d1, c1, n1⟩
end Go.Ab
/-! Nodes (layer 29) over the abstract machine: bytes as one packet; a message's packets. -/
namespace Go.Ab
attribute [local simp] lenV

theorem split1 {s : S} {b : AV} {l : List UInt8} (hb : Bytes s b l) (h1 : 1 ≤ l.length) {size : Nat} (h2 : l.length ≤ size) (h3 : size ≤ 200) (fr to : Int) (id : Nat) :
    Ev tab 64 [b, .int .i64 fr, .int .i64 to, .int .u64 id, .int .i64 size] s fun v s' => Ext s s' ∧ ∃ pb d, v = .tuple [.slice pb 0 1 1 false, .nilIface] ∧ pb < s'.ctr ∧ isFlat d = true ∧ s'.get pb = some (.cells [.int .i64 fr, .int .i64 to, .int .u64 (id : Int), .int .i64 0, .int .i64 1, d] 0 false) := by
  refine Ev.intro rfl rfl rfl ?_
  have wl := hb.wlen
  have e1 : ¬ (size : Int) < 1 := by omega
  have e2 : ¬ (32768 : Int) < (size : Int) := by omega
  have w1 : IntKind.i64.wrap ((l.length : Int) + (size : Int)) = (l.length : Int) + size := by rw [wrap_i64] <;> omega
  have w2 : IntKind.i64.wrap ((l.length : Int) + (size : Int) - 1) = (l.length : Int) + size - 1 := by rw [wrap_i64] <;> omega
  have q1 : ((l.length : Int) + size - 1).tdiv (size : Int) = 1 := by
    rw [Int.tdiv_eq_ediv_of_nonneg (by omega)]
    have : ((l.length : Int) + size - 1) = ((l.length : Int) - 1) + size * 1 := by omega
    rw [this, Int.add_mul_ediv_left _ _ (by omega), Int.ediv_eq_zero_of_lt (by omega) (by omega)]
    rfl
  have w3 : IntKind.i64.wrap 1 = 1 := by decide
  have e0 : ¬ (size : Int) = 0 := by omega
  have e0' : ¬ size = 0 := by omega
  simp [pf64, pf64_17, pf64_16, pf64_15, e1, e2, pf64_13, wl, w1, w2, w3, q1, e0, e0', foldO, maxV, minV, pf64_12, pf64_11, pf64_9]
  obtain ⟨s1, hs1⟩ : ∃ t, t = s.new (.cells [.int .i64 0, .int .i64 0, .int .u64 0, .int .i64 0, .int .i64 0, .snil] 0 false) := ⟨_, rfl⟩
  have x1 : Ext s s1 := by rw [hs1]; simp
  have c1 : s1.ctr = s.ctr + 1 := by rw [hs1]; rfl
  have g1 : s1.get s.ctr = some (.cells [.int .i64 0, .int .i64 0, .int .u64 0, .int .i64 0, .int .i64 0, .snil] 0 false) := by rw [hs1]; simp
  simp [← hs1, pf64_8, pf64_7]
  refine WpC.loop (fun m R st => R 0 = b ∧ R 1 = .int .i64 fr ∧ R 2 = .int .i64 to ∧ R 3 = .int .u64 id ∧ R 4 = .int .i64 size ∧ R 12 = .int .i64 1 ∧ R 13 = .slice s.ctr 0 1 1 false ∧ R 37 = .int .i64 1 ∧
    ((m = 1 ∧ R 38 = .int .i64 0 ∧ st = s1) ∨ (m = 0 ∧ R 38 = .int .i64 1 ∧ Ext s st ∧ s.ctr < st.ctr ∧ ∃ d, isFlat d = true ∧ st.get s.ctr = some (.cells [.int .i64 fr, .int .i64 to, .int .u64 (id : Int), .int .i64 0, .int .i64 1, d] 0 false)))) (m := 1)
    ⟨by simp, by simp, by simp, by simp, by simp, by simp, by simp, by simp, .inl ⟨rfl, by simp, rfl⟩⟩ ?_
  rintro m R st ⟨e0, e1', e2', e3', e4', e12, e13, e37, ⟨rfl, e38, rfl⟩ | ⟨rfl, e38, hx, hct, d, hd, hg⟩⟩
  · have w4 : IntKind.i64.wrap (size : Int) = size := by rw [wrap_i64] <;> omega
    have hb1 := hb.ext x1
    have wl1 := hb1.wlen
    obtain ⟨u, hu1, hu2, hu3, hu4⟩ := hb1.part (lo := 0) (hi := l.length) (k := .i64) (k2 := .i64) (Nat.zero_le _) (Nat.le_refl _)
    have e5 : (if l.length < size then (l.length : Int) else (size : Int)) = (l.length : Int) := by split <;> omega
    have w0 : IntKind.i64.wrap 0 = 0 := by decide
    have e6 : ¬ (l.length : Int) < 0 := by omega
    simp at hu1
    simp [pf64_6, pf64_5, e37, e38, pf64_3, pf64_2, e0, e4', wl1, foldO, minV, w4, w3, w0, e5, e6, hu1, pf64_1]
    have hu5 : (l.drop 0).take (l.length - 0) = l := by simp
    rw [hu5] at hu2
    refine cont_app_nil hu2 (Nat.le_refl _) (by omega) ?_
    intro v' s2 hown hk2
    have fd := hown.flat
    have k2 := hk2.ctr
    have g2 : s2.get s.ctr = some (.cells [.int .i64 0, .int .i64 0, .int .u64 0, .int .i64 0, .int .i64 0, .snil] 0 false) := by rw [hk2.ext.get _ (by omega), g1]
    have cv : v'.cells = [v'] := by
      rcases hown with ⟨rfl, _⟩ | ⟨b, rfl, _⟩ <;> rfl
    simp [e1', e2', e3', e12, e13, wrc g2, fd, cv]
    simp [pf64_4, e38, w3, e0, e1', e2', e3', e4', e12, e13, e37]
    exact ⟨Ext.set (Nat.le_refl _) (x1.trans hk2.ext), by omega, fd⟩
  · simp [pf64_6, pf64_5, e37, e38, pf64_0, e13]
    exact ⟨hx, hct, d, hd, hg⟩

/-- A node's cells, its clients and its places in memory. -/
structure Nd (s : S) (nb : Nat) (id k : Int) (c : Cfg) (op : Nat) (now : Int) (sent reply port : Nat) (r : Cp) (p : Parts) (cl pl : Nat) (calls : AV) : Prop where
  n : s.get nb = some (.cells (ncells id k c op true now sent reply port r p) 0 false)
  hcl : p.client = .ptr cl 0
  hpl : p.places = .ptr pl 0
  c : s.get cl = some (.cells [.int .u64 (reply : Int), .int .i64 c.wait, .int .i64 c.tries, calls] 0 false)
  p : ∃ a, s.get pl = some (.cells [.snil, .int .i64 a] 0 false)
  ne : nb ≠ cl ∧ nb ≠ pl ∧ cl ≠ pl
  lt : nb < s.ctr ∧ cl < s.ctr ∧ pl < s.ctr

theorem Nd.chg {s s' : S} {nb : Nat} {id k : Int} {c : Cfg} {op : Nat} {now : Int} {sent reply port : Nat} {r : Cp} {p : Parts} {cl pl : Nat} {calls : AV} (h : Nd s nb id k c op now sent reply port r p cl pl calls) {l : List Nat} (hc : Chg l s s') (h1 : nb ∉ l) (h2 : cl ∉ l) (h3 : pl ∉ l) :
    Nd s' nb id k c op now sent reply port r p cl pl calls := by
  obtain ⟨a, ha⟩ := h.p
  obtain ⟨l1, l2, l3⟩ := h.lt
  have := hc.ctr
  exact ⟨by rw [hc.get _ l1 h1, h.n], h.hcl, h.hpl, by rw [hc.get _ l2 h2, h.c], ⟨a, by rw [hc.get _ l3 h3, ha]⟩, h.ne, by omega⟩
theorem Nd.ext {s s' : S} {nb : Nat} {id k : Int} {c : Cfg} {op : Nat} {now : Int} {sent reply port : Nat} {r : Cp} {p : Parts} {cl pl : Nat} {calls : AV} (h : Nd s nb id k c op now sent reply port r p cl pl calls) (hx : Ext s s') :
    Nd s' nb id k c op now sent reply port r p cl pl calls := h.chg (hx.chg []) (by simp) (by simp) (by simp)

theorem packets1 {s : S} {nb : Nat} {id k : Int} {c : Cfg} {op : Nat} {now : Int} {sent reply port : Nat} {r : Cp} {p : Parts} (hn : s.get nb = some (.cells (ncells id k c op true now sent reply port r p) 0 false)) (hb : nb < s.ctr) (m : Ms) (hm : m.may = true) (hf : m.fit) (hd : m.data = [])
    (hc : 50 ≤ c.piece ∧ c.piece ≤ 200) (hs : sent < 1000) (to : Int) :
    Ev tab 53 [.ptr nb 0, .agg (mc m), .int .i64 to] s fun v s' => Chg [nb] s s' ∧ s'.get nb = some (.cells (ncells id k c op true now (sent + 1) reply port r p) 0 false) ∧
      ∃ pb ds, v = .slice pb 0 1 1 false ∧ pb < s'.ctr ∧ ds.length = 6 ∧ ds.all isFlat = true ∧ s'.get pb = some (.cells ds 0 false) := by
  refine Ev.intro rfl rfl rfl ?_
  obtain ⟨s1, hs1⟩ : ∃ t, t = s.new (.cells (mc m) 0 false) := ⟨_, rfl⟩
  have x1 : Ext s s1 := by rw [hs1]; simp
  have c1 : s1.ctr = s.ctr + 1 := by rw [hs1]; rfl
  have g1 : s1.get s.ctr = some (.cells (mc m) 0 false) := by rw [hs1]; simp
  have hbm : Bytes s1 .snil m.data := by rw [hd]; exact Bytes.nil s1
  have hE := headerEncode_ok m hf hm s1 hbm
  rw [mc_eq] at hE
  unfold mc at *
  simp [pf53, pf53_10, ← hs1, pf53_9, rd g1]
  refine Ev.mono hE ?_
  rintro v s2 ⟨x2, w, rfl, hw⟩
  have k2 := x2.ctr
  have n2 : s2.get nb = some (.cells (ncells id k c op true now sent reply port r p) 0 false) := by rw [(x1.trans x2).get _ hb, hn]
  obtain ⟨s3, hs3⟩ : ∃ t, t = s2.set nb (some (.cells (ncells id k c op true now (sent + 1) reply port r p) 0 false)) := ⟨_, rfl⟩
  have n3 : s3.get nb = some (.cells (ncells id k c op true now (sent + 1) reply port r p) 0 false) := by rw [hs3]; simp
  have n3' := n3
  have w1 : IntKind.u64.wrap ((sent : Int) + 1) = (sent : Int) + 1 := by simp [IntKind.wrap, IntKind.signed, IntKind.bits]; omega
  simp [ncells] at n2 hs3 n3'
  simp [pf53_8, pf53_7, pf53_5, rd n2, w1, wrc n2, ← hs3, pf53_4, rd n3']
  have d3 : Chg [nb] s2 s3 := by rw [hs3]; simp
  have hw3 : Bytes s3 w m.bytes := by
    rw [hs3]
    exact hw.bytes.set hw.since (by omega)
  have c3 : s3.ctr = s2.ctr := by rw [hs3]; rfl
  obtain ⟨size, hsz⟩ : ∃ size : Nat, c.piece = (size : Int) := ⟨c.piece.toNat, by omega⟩
  have hbl : m.bytes.length = 46 := by rw [Ms.bytes_length, hd]; rfl
  have hS := split1 (s := s3) hw3 (by omega) (size := size) (by omega) (by omega) id to (sent + 1)
  simp only [Int.natCast_add, Int.cast_ofNat_Int] at hS
  rw [hsz]
  refine Ev.mono hS ?_
  rintro v s4 ⟨x4, pb, d, rfl, hpb, fd, hg⟩
  simp [pf53_3, pf53_2, pf53_0]
  refine ⟨((x1.trans x2).chg _).trans (d3.trans (x4.chg _)), by rw [x4.get _ (by omega), n3], hpb, _, rfl, ?_, hg⟩
  simp only [List.mem_cons, List.not_mem_nil, or_false]
  rintro x (rfl | rfl | rfl | rfl | rfl | rfl) <;> first | rfl | exact fd
end Go.Ab
/-! Nodes (layer 29) over the abstract machine: a request of a node: the question where a port is. -/
namespace Go.Ab
attribute [local simp] lenV

/-- The question where a port is. -/
def locM (reply x : Nat) : Ms := ⟨0, reply, 0, 1, 0, 0, 0, 0, 0, x, []⟩

section
variable {s : S} {nb : Nat} {id k : Int} {c : Cfg} {op : Nat} {now : Int} {sent reply port : Nat} {r : Cp} {p : Parts} {cl pl : Nat} {calls : AV}

theorem request1 (h : Nd s nb 0 k c op now sent reply port r p cl pl calls) (m : Ms) (hx : m.to ≠ port) (hrep : reply < w48) (hto : m.to < w48) (hc : c.nodes = 2 ∧ 50 ≤ c.piece ∧ c.piece ≤ 200) (hs : sent < 1000) :
    Ev tab 38 [.ptr nb 0, .agg (mc m)] s fun v s' => Chg [nb] s s' ∧ Nd s' nb 0 k c op now (sent + 1) reply port r p cl pl calls ∧ ∃ ds F, OwnF 6 s' v 1 ds F ∧ ds.all isFlat = true := by
  refine Ev.intro rfl rfl rfl ?_
  obtain ⟨l1, l2, l3⟩ := h.lt
  obtain ⟨q1, q2, q3⟩ := h.ne
  obtain ⟨y1, y2, y3, y4, y5, y6, y7⟩ := p
  obtain ⟨age, hage⟩ := h.p
  have hcl := h.hcl
  have hpl := h.hpl
  simp only at hcl hpl
  subst hcl hpl
  obtain ⟨p, hp⟩ : ∃ p : Parts, p = ⟨y1, y2, y3, .ptr cl 0, .ptr pl 0, y6, y7⟩ := ⟨_, rfl⟩
  rw [← hp] at h ⊢
  obtain ⟨s1, hs1⟩ : ∃ t, t = s.new (.cells (mc m) 0 false) := ⟨_, rfl⟩
  have x1 : Ext s s1 := by rw [hs1]; simp
  have c1 : s1.ctr = s.ctr + 1 := by rw [hs1]; rfl
  have g1 : s1.get s.ctr = some (.cells (mc m) 0 false) := by rw [hs1]; simp
  have n1 : s1.get nb = some (.cells (ncells 0 k c op true now sent reply port r p) 0 false) := by rw [x1.get _ l1, h.n]
  have n1' := n1
  have hpl1 : s1.get pl = some (.cells [.snil, .int .i64 age] 0 false) := by rw [x1.get _ l3, hage]
  have g1' := g1
  unfold mc at g1' hs1 ⊢
  simp [ncells, hp, hc.1] at n1'
  simp [pf38, pf38_14, ← hs1, pf38_12, rd n1', rd g1']
  refine Ev.mono (find0 hpl1 m.to now) ?_
  rintro v s2 ⟨rfl, rfl⟩
  simp [pf38_11, pf38_13, pf38_9, pf38_8, rd n1']
  have hxp : ¬ (m.to : Int) = (port : Int) := by omega
  refine WpC.loop (fun i R st => R 0 = .ptr nb 0 ∧ R 3 = .ptr s.ctr 0 ∧ R 32 = .int .i64 2 ∧
    ((i = 2 ∧ R 33 = .int .i64 0 ∧ R 7 = .snil ∧ st = s2) ∨ (i = 1 ∧ R 33 = .int .i64 1 ∧ R 7 = .snil ∧ st = s2) ∨
     (i = 0 ∧ R 33 = .int .i64 2 ∧ Chg [nb] s st ∧ Nd st nb 0 k c op now (sent + 1) reply port r p cl pl calls ∧ ∃ ds F, OwnF 6 st (R 7) 1 ds F ∧ ds.all isFlat = true))) (m := 2)
    ⟨by simp, by simp, by simp, .inl ⟨rfl, by simp, by simp, rfl⟩⟩ ?_
  have w1 : IntKind.i64.wrap (0 + 1) = 1 := by decide
  have w1' : IntKind.i64.wrap 1 = 1 := by decide
  have w2 : IntKind.i64.wrap (1 + 1) = 2 := by decide
  have w2' : IntKind.i64.wrap 2 = 2 := by decide
  rintro i R st ⟨e0, e3, e32, ⟨rfl, e33, e7, rfl⟩ | ⟨rfl, e33, e7, rfl⟩ | ⟨rfl, e33, hc3, hN, ds, F, hF, hfl⟩⟩
  · simp [pf38_7, pf38_6, e33, e32, pf38_5, pf38_3, pf38_2, e0, rd n1', e3, rd g1', hxp, pf38_4, w1, w1', e7]
  · simp [pf38_7, pf38_6, e33, e32, pf38_5, pf38_3, pf38_2, e0, rd n1', e3, rd g1', hx, pf38_1, e7]
    have hmay : (locM reply m.to).may = true := by
      show (decide (0 < 281474976710656) && decide (reply < 281474976710656) && capMay 0 0 0 && decide (0 ≤ 4096)) = true
      rw [decide_eq_true (show reply < 281474976710656 from hrep)]
      rfl
    refine Ev.mono (packets1 (s := st) n1 (by omega) (locM reply m.to) hmay (by unfold w48 at hrep hto; simp [Ms.fit, locM]; omega) rfl hc.2 hs 1) ?_
    rintro v s3 ⟨hc3, n3, pb, ds, rfl, hpb, hdl, hdf, hg3⟩
    simp
    refine cont_app_ownF (m := 1) (ds := ds) (OwnF.nil 6 _) rfl (by simp [S.cellsOf, rd hg3, hdl]; exact List.take_of_length_le (by omega)) hdl hdf rfl (by omega) (by omega) (by omega) ?_
    intro v' s4 fa hV hc4 hg4
    have x4 : Ext s3 s4 := hc4.ext0
    simp [pf38_4, e33, w2, w2', e0, e3, e32]
    have hcs3 : Chg [nb] s s3 := (x1.chg _).trans hc3
    have hcs4 : Chg [nb] s s4 := hcs3.trans (x4.chg _)
    have k4 := hcs4.ctr
    have n4 : s4.get nb = some (.cells (ncells 0 k c op true now (sent + 1) reply port r p) 0 false) := by rw [x4.get _ (by have := hcs3.ctr; omega), n3]
    have hN : Nd s4 nb 0 k c op now (sent + 1) reply port r p cl pl calls :=
      ⟨n4, h.hcl, h.hpl, by rw [hcs4.get _ l2 (by simp; omega), h.c], ⟨age, by rw [hcs4.get _ l3 (by simp; omega), hage]⟩, h.ne, by omega⟩
    refine ⟨hcs4, hN, ds, ⟨fa, by simpa using hV⟩, by simpa using hdf⟩
  · simp [pf38_7, pf38_6, e33, e32, pf38_0]
    exact ⟨hc3, hN, ds, ⟨F, hF⟩, by simpa using hfl⟩
end
end Go.Ab
/-! Nodes (layer 29) over the abstract machine: a call is begun. -/
namespace Go.Ab
attribute [local simp] lenV

/-- A call's cells. -/
def callC (m : Ms) (st tries left : Int) : List AV := [.int .u64 m.to, .int .u64 m.reply, .int .u32 m.id, .int .u16 m.op, .int .u16 m.st, .int .u64 m.p, .int .u32 m.o, .int .u8 m.r, .int .u64 m.k, .int .u64 m.arg, .snil, .int .i64 st, .int .i64 tries, .int .i64 left,
  .int .u64 0, .int .u64 0, .int .u32 0, .int .u16 0, .int .u16 0, .int .u64 0, .int .u32 0, .int .u8 0, .int .u64 0, .int .u64 0, .snil]

theorem start1 {s : S} {cl reply : Nat} {w t : Int} (h : s.get cl = some (.cells [.int .u64 (reply : Int), .int .i64 w, .int .i64 t, .snil] 0 false)) (hcl : cl < s.ctr) (m : Ms) :
    Ev tab 40 [.ptr cl 0, .agg (mc m)] s fun v s' => Chg [cl] s s' ∧ v = .tuple [.agg (mc {m with id := 1, reply := reply, st := 0}), .nilIface] ∧
      ∃ kb, s.ctr ≤ kb ∧ kb < s'.ctr ∧ s'.get cl = some (.cells [.int .u64 (reply : Int), .int .i64 w, .int .i64 t, .slice kb 0 1 0 true] 0 false) ∧ s'.get kb = some (.cells (callC {m with id := 1, reply := reply, st := 0} 1 1 w) 25 false) := by
  refine Ev.intro rfl rfl rfl ?_
  obtain ⟨s1, hs1⟩ : ∃ t, t = s.new (.cells (mc m) 0 false) := ⟨_, rfl⟩
  have x1 : Ext s s1 := by rw [hs1]; simp
  have c1 : s1.ctr = s.ctr + 1 := by rw [hs1]; rfl
  have g1 : s1.get s.ctr = some (.cells (mc m) 0 false) := by rw [hs1]; simp
  obtain ⟨s2, hs2⟩ : ∃ t, t = s1.new (.cells mz 0 false) := ⟨_, rfl⟩
  have x2 : Ext s1 s2 := by rw [hs2]; simp
  have c2 : s2.ctr = s1.ctr + 1 := by rw [hs2]; rfl
  have g2 : s2.get s.ctr = some (.cells (mc m) 0 false) := by rw [x2.get _ (by omega), g1]
  have g2' : s2.get s1.ctr = some (.cells mz 0 false) := by rw [hs2]; simp
  have h2 : s2.get cl = some (.cells [.int .u64 (reply : Int), .int .i64 w, .int .i64 t, .snil] 0 false) := by rw [(x1.trans x2).get _ hcl, h]
  obtain ⟨s3, hs3⟩ : ∃ t, t = s2.set s.ctr (some (.cells (mc {m with id := 1}) 0 false)) := ⟨_, rfl⟩
  have g3 : s3.get s.ctr = some (.cells (mc {m with id := 1}) 0 false) := by rw [hs3]; simp
  have h3 : s3.get cl = some (.cells [.int .u64 (reply : Int), .int .i64 w, .int .i64 t, .snil] 0 false) := by rw [hs3, S.get_set, if_neg (by omega), h2]
  obtain ⟨s4, hs4⟩ : ∃ t, t = s3.set s.ctr (some (.cells (mc {m with id := 1, reply := reply}) 0 false)) := ⟨_, rfl⟩
  have g4 : s4.get s.ctr = some (.cells (mc {m with id := 1, reply := reply}) 0 false) := by rw [hs4]; simp
  obtain ⟨m1, hm1⟩ : ∃ x : Ms, x = {m with id := 1, reply := reply, st := 0} := ⟨_, rfl⟩
  rw [← hm1]
  obtain ⟨s5, hs5⟩ : ∃ t, t = s4.set s.ctr (some (.cells (mc m1) 0 false)) := ⟨_, rfl⟩
  have g5 : s5.get s.ctr = some (.cells (mc m1) 0 false) := by rw [hs5]; simp
  have g5' : s5.get s1.ctr = some (.cells mz 0 false) := by rw [hs5, S.get_set, if_neg (by omega), hs4, S.get_set, if_neg (by omega), hs3, S.get_set, if_neg (by omega), g2']
  have h5 : s5.get cl = some (.cells [.int .u64 (reply : Int), .int .i64 w, .int .i64 t, .snil] 0 false) := by rw [hs5, S.get_set, if_neg (by omega), hs4, S.get_set, if_neg (by omega), h3]
  have x5 : Ext s s5 := by rw [hs5, hs4, hs3]; exact Ext.set (Nat.le_refl _) (Ext.set (Nat.le_refl _) (Ext.set (Nat.le_refl _) (x1.trans x2)))
  have c5 : s5.ctr = s2.ctr := by rw [hs5, hs4, hs3]; rfl
  have w1 : IntKind.i64.wrap 1 = 1 := by decide
  have w2 : IntKind.u32.wrap 1 = 1 := by decide
  have g1' := g1
  have g2m := g2
  have g3m := g3
  have g4m := g4
  unfold mc at hs1 g2m
  unfold mz at hs2 g5'
  simp [mc] at hs3 g3m hs4 g4m
  have hs5' := hs5
  rw [hm1] at hs5'
  simp [mc] at hs5'
  have g5m := g5
  unfold mc at g5m
  unfold mc
  simp [pf40, pf40_8, ← hs1, ← hs2, pf40_7, pf40_5, rd h2, pf40_6, pf40_3, w1, w2, wrc g2m, ← hs3, rd h3, wrc g3m, ← hs4, wrc g4m, ← hs5', pf40_2, rd g5m]
  refine Ev.mono (clone0 s5) ?_
  rintro v s' ⟨rfl, rfl⟩
  obtain ⟨s6, hs6⟩ : ∃ t, t = s'.set s.ctr (some (.cells (mc m1) 0 false)) := ⟨_, rfl⟩
  have g6 : s6.get s.ctr = some (.cells (mc m1) 0 false) := by rw [hs6]; simp
  have g6' : s6.get s1.ctr = some (.cells mz 0 false) := by rw [hs6, S.get_set, if_neg (by omega), g5']; rfl
  have h6 : s6.get cl = some (.cells [.int .u64 (reply : Int), .int .i64 w, .int .i64 t, .snil] 0 false) := by rw [hs6, S.get_set, if_neg (by omega), h5]
  have x6 : Ext s s6 := by rw [hs6]; exact Ext.set (Nat.le_refl _) x5
  have c6 : s6.ctr = s2.ctr := by rw [hs6]; exact c5
  have hs6' := hs6
  unfold mc at hs6'
  have g6m := g6
  unfold mc at g6m
  simp [wrc g5m, ← hs6', pf40_1, rd h6, rd g6m]
  refine cont_app_ownF (m := 1) (ds := callC m1 1 1 w) (OwnF.nil 25 _) rfl ?_ rfl rfl rfl (by omega) (by omega) (by omega) ?_
  · simp [S.cellsOf, S.read, callC]
  intro v' s7 fa hV hc7 hg7
  have xn : ∀ o, Ext s6 (s6.new o) := fun o => Ext.new (Ext.refl _)
  have x67 : Ext s6 s7 := (xn _).trans hc7.ext0
  have k67 := x67.ctr
  obtain ⟨kb, rfl, gk, hkb, rfl⟩ : ∃ b, v' = .slice b 0 1 0 true ∧ s7.get b = some (.cells (callC m1 1 1 w) 25 false) ∧ b < s7.ctr ∧ fa = [b] := by
    rcases hV.2 with ⟨_, h0, _⟩ | ⟨b, h1, h2, h3, h4⟩
    · simp at h0
    · exact ⟨b, by simpa using h1, by simpa using h2, h3, h4⟩
  have hkn : s6.ctr ≤ kb := by
    rcases hg7 kb (by simp) with h9 | h9
    · cases h9
    · simp at h9; omega
  have g7 : s7.get s.ctr = some (.cells (mc m1) 0 false) := by rw [x67.get _ (by omega), g6]
  have g7' : s7.get s1.ctr = some (.cells mz 0 false) := by rw [x67.get _ (by omega), g6']
  have h7 : s7.get cl = some (.cells [.int .u64 (reply : Int), .int .i64 w, .int .i64 t, .snil] 0 false) := by rw [x67.get _ (by omega), h6]
  obtain ⟨s8, hs8⟩ : ∃ u, u = s7.set cl (some (.cells [.int .u64 (reply : Int), .int .i64 w, .int .i64 t, .slice kb 0 1 0 true] 0 false)) := ⟨_, rfl⟩
  have h8 : s8.get cl = some (.cells [.int .u64 (reply : Int), .int .i64 w, .int .i64 t, .slice kb 0 1 0 true] 0 false) := by rw [hs8]; simp
  have g8 : s8.get s.ctr = some (.cells (mc m1) 0 false) := by rw [hs8, S.get_set, if_neg (by omega), g7]
  have g8' : s8.get s1.ctr = some (.cells mz 0 false) := by rw [hs8, S.get_set, if_neg (by omega), g7']
  have gk8 : s8.get kb = some (.cells (callC m1 1 1 w) 25 false) := by rw [hs8, S.get_set, if_neg (by omega), gk]
  have d8 : Chg [cl] s s8 := by rw [hs8]; exact Chg.set (.inr (by simp)) ((x6.trans x67).chg _)
  have c8 : s8.ctr = s7.ctr := by rw [hs8]; rfl
  have g8m := g8
  unfold mc at g8m
  have hcop := copied0 m1 s8
  unfold mc at hcop
  simp [wrc h7, ← hs8, pf40_0, rd g8m]
  refine Ev.mono hcop ?_
  rintro v s9 ⟨x9, rfl⟩
  have k9 := x9.ctr
  have g9 : s9.get s1.ctr = some (.cells mz 0 false) := by rw [x9.get _ (by omega), g8']
  unfold mz at g9
  simp [wrc g9]
  refine ⟨Chg.set (.inl (by omega)) (d8.trans (x9.chg _)), kb, by omega, by omega, ?_, ?_⟩
  · rw [if_neg (by omega), x9.get _ (by omega), h8]
  · rw [if_neg (by omega), x9.get _ (by omega), gk8]
end Go.Ab
/-! Nodes (layer 29) over the abstract machine: a call. -/
namespace Go.Ab
attribute [local simp] lenV

section
variable {s : S} {nb : Nat} {k : Int} {c : Cfg} {op : Nat} {now : Int} {sent reply port : Nat} {r : Cp} {p : Parts} {cl pl : Nat}

/-- The request that waits. -/
def waitM (reply : Nat) : Ms := {touchM with id := 1, reply := reply, st := 0}

theorem call1 (h : Nd s nb 0 k c op now sent reply port r p cl pl .snil) (hx : port ≠ 12345) (hrep : reply < w48) (hc : c.nodes = 2 ∧ 50 ≤ c.piece ∧ c.piece ≤ 200) (hs : sent < 1000) :
    Ev tab 24 [.ptr nb 0, .agg (mc touchM)] s fun v s' => Chg [nb, cl] s s' ∧ (∃ ps, v = .tuple [.int .u32 1, ps, .nilIface] ∧ ∃ ds F, OwnF 6 s' ps 1 ds F) ∧ ∃ kb, s.ctr ≤ kb ∧ kb < s'.ctr ∧ Nd s' nb 0 k c op now (sent + 1) reply port r p cl pl (.slice kb 0 1 0 true) ∧
      s'.get kb = some (.cells (callC (waitM reply) 1 1 c.wait) 25 false) := by
  refine Ev.intro rfl rfl rfl ?_
  obtain ⟨l1, l2, l3⟩ := h.lt
  obtain ⟨q1, q2, q3⟩ := h.ne
  obtain ⟨y1, y2, y3, y4, y5, y6, y7⟩ := p
  have hcl := h.hcl
  simp only at hcl
  subst hcl
  obtain ⟨p, hp⟩ : ∃ p : Parts, p = ⟨y1, y2, y3, .ptr cl 0, y5, y6, y7⟩ := ⟨_, rfl⟩
  rw [← hp] at h ⊢
  obtain ⟨s1, hs1⟩ : ∃ t, t = s.new (.cells (mc touchM) 0 false) := ⟨_, rfl⟩
  have x1 : Ext s s1 := by rw [hs1]; simp
  have c1 : s1.ctr = s.ctr + 1 := by rw [hs1]; rfl
  have g1 : s1.get s.ctr = some (.cells (mc touchM) 0 false) := by rw [hs1]; simp
  have h1 := h.ext x1
  have n1 := h1.n
  have g1m := g1
  unfold mc touchM at hs1 g1m
  simp at hs1 g1m
  simp [ncells, hp] at n1
  have hmay := headerMay_ok touchM (by simp [touchM]) s1 (d := .snil) (Bytes.nil s1)
  rw [show touchM.may = true from by decide] at hmay
  simp [Ms.cells, touchM] at hmay
  simp [pf24, pf24_11, mc, touchM, ← hs1, pf24_10, pf24_8, rd n1, pf24_9, pf24_6, rd g1m]
  refine Ev.mono hmay ?_
  rintro v s2 ⟨x2, rfl⟩
  have k2 := x2.ctr
  have h2 := h1.ext x2
  have n2 := h2.n
  simp [ncells, hp] at n2
  have g2 : s2.get s.ctr = some (.cells (mc touchM) 0 false) := by rw [x2.get _ (by omega), g1]
  have g2m := g2
  unfold mc touchM at g2m
  simp at g2m
  simp [pf24_4, rd n2, rd g2m]
  have hst := start1 h2.c (by omega) touchM
  simp [mc, touchM] at hst
  refine Ev.mono hst ?_
  rintro v s3 ⟨d3, rfl, kb, hk1, hk2, hc3, hkb⟩
  have k3 := d3.ctr
  have g3 : s3.get s.ctr = some (.cells (mc touchM) 0 false) := by rw [d3.get _ (by omega) (by simp; omega), g2]
  have g3m := g3
  unfold mc touchM at g3m
  simp at g3m
  have hpl3 : ∃ a, s3.get pl = some (.cells [.snil, .int .i64 a] 0 false) := by
    obtain ⟨a, ha⟩ := h2.p
    exact ⟨a, by rw [d3.get _ (by omega) (by simp; omega), ha]⟩
  have hn3 : s3.get nb = some (.cells (ncells 0 k c op true now sent reply port r p) 0 false) := by rw [d3.get _ (by omega) (by simp; omega), h2.n]
  obtain ⟨s4, hs4⟩ : ∃ u, u = s3.set s.ctr (some (.cells (mc (waitM reply)) 0 false)) := ⟨_, rfl⟩
  have g4 : s4.get s.ctr = some (.cells (mc (waitM reply)) 0 false) := by rw [hs4]; simp
  have d4 : Chg [s.ctr] s3 s4 := by rw [hs4]; simp
  have c4 : s4.ctr = s3.ctr := by rw [hs4]; rfl
  have h4 : Nd s4 nb 0 k c op now sent reply port r p cl pl (.slice kb 0 1 0 true) := by
    obtain ⟨a, ha⟩ := hpl3
    exact ⟨by rw [d4.get _ (by omega) (by simp; omega), hn3], h.hcl, h.hpl, by rw [d4.get _ (by omega) (by simp; omega), hc3], ⟨a, by rw [d4.get _ (by omega) (by simp; omega), ha]⟩, h.ne, by omega⟩
  have hkb4 : s4.get kb = some (.cells (callC (waitM reply) 1 1 c.wait) 25 false) := by rw [d4.get _ (by omega) (by simp; omega), hkb]; rfl
  have g4m := g4
  unfold mc waitM touchM at g4m hs4
  simp at g4m hs4
  simp [wrc g3m, ← hs4, pf24_3, pf24_2, pf24_0, rd g4m]
  have hrq := request1 h4 (waitM reply) (by simp [waitM, touchM]; omega) hrep (by simp [waitM, touchM, w48]) hc hs
  simp [mc, waitM, touchM] at hrq
  refine Ev.mono hrq ?_
  rintro v s5 ⟨d5, hN5, ds, ⟨F, hF⟩, hfl⟩
  have k5 := d5.ctr
  have g5 : s5.get s.ctr = some (.cells (mc (waitM reply)) 0 false) := by rw [d5.get _ (by omega) (by simp; omega), g4]
  unfold mc waitM touchM at g5
  simp at g5
  simp [rd g5]
  have dA : Chg [nb, cl] s s3 := ((x1.trans x2).chg _).trans (d3.sub (fun z hz => by simp at hz; simp [hz]))
  have dB : Chg [nb, cl] s s5 := (dA.comp d4 (fun z hz => by simp at hz; right; omega)).trans (d5.sub (fun z hz => by simp at hz; simp [hz]))
  refine ⟨dB, ⟨ds, F, hF⟩, kb, by omega, by omega, hN5, ?_⟩
  rw [d5.get _ (by omega) (by simp; omega), hkb4]
end
end Go.Ab
/-! Nodes (layer 29) over the abstract machine: a client's tick with one call. -/
namespace Go.Ab
attribute [local simp] lenV

/-- A call's state, how often it was sent, how many ticks are left; a tick of it; is it sent again? -/
structure Cst where
  st : Int
  tries : Int
  left : Int
def Cst.tick (x : Cst) (w t : Int) : Cst := if x.st = 1 then (if 0 < x.left - 1 then {x with left := x.left - 1} else if x.tries = t then {x with st := 3, left := x.left - 1} else ⟨1, x.tries + 1, w⟩) else x
def Cst.again (x : Cst) (t : Int) : Bool := decide (x.st = 1) && !decide (0 < x.left - 1) && !decide (x.tries = t)
def Cst.cells (x : Cst) (m : Ms) : List AV := callC m x.st x.tries x.left

theorem ctick1 {s : S} {cl kb : Nat} {reply : AV} {w t : Int} {m : Ms} {x : Cst} (h : s.get cl = some (.cells [reply, .int .i64 w, .int .i64 t, .slice kb 0 1 0 true] 0 false)) (hk : s.get kb = some (.cells (x.cells m) 25 false)) (hkl : kb < s.ctr) (hne : cl ≠ kb) (hb : -1000 ≤ x.left ∧ x.left ≤ 1000 ∧ 0 ≤ x.tries ∧ x.tries ≤ 1000) :
    Ev tab 37 [.ptr cl 0] s fun v s' => Chg [kb] s s' ∧ s'.get kb = some (.cells ((x.tick w t).cells m) 25 false) ∧ (if x.again t then ∃ F, OwnF 11 s' v 1 (mc m) F else v = .snil) := by
  refine Ev.intro rfl rfl rfl ?_
  simp [pf37, pf37_18, pf37_17, pf37_16, rd h]
  have w1 : IntKind.i64.wrap (0 + 1) = 1 := by decide
  have w1' : IntKind.i64.wrap 1 = 1 := by decide
  have wl : IntKind.i64.wrap (x.left - 1) = x.left - 1 := by rw [wrap_i64] <;> omega
  have wt : IntKind.i64.wrap (x.tries + 1) = x.tries + 1 := by rw [wrap_i64] <;> omega
  refine WpC.loop (fun i R st => R 0 = .ptr cl 0 ∧ R 10 = .int .i64 1 ∧
    ((i = 1 ∧ R 11 = .int .i64 0 ∧ R 3 = .snil ∧ st = s) ∨
     (i = 0 ∧ R 11 = .int .i64 1 ∧ Chg [kb] s st ∧ st.get kb = some (.cells ((x.tick w t).cells m) 25 false) ∧ (if x.again t then ∃ F, OwnF 11 st (R 3) 1 (mc m) F else R 3 = .snil)))) (m := 1)
    ⟨by simp, by simp, .inl ⟨rfl, by simp, by simp, rfl⟩⟩ ?_
  rintro i R st ⟨e0, e10, ⟨rfl, e11, e3, rfl⟩ | ⟨rfl, e11, hc, hg, hv⟩⟩
  · obtain ⟨xs, xt, xl⟩ := x
    simp only [Cst.cells, callC] at hk wl wt hb
    simp [pf37_15, pf37_14, e10, e11, pf37_13, pf37_11, pf37_10, e0, rd h, pf37_9, pf37_8, rd hk]
    by_cases h1 : xs = 1
    · subst h1
      obtain ⟨s1, hs1⟩ : ∃ u, u = st.set kb (some (.cells (callC m 1 xt (xl - 1)) 25 false)) := ⟨_, rfl⟩
      have g1 : s1.get kb = some (.cells (callC m 1 xt (xl - 1)) 25 false) := by rw [hs1]; simp
      have d1 : Chg [kb] st s1 := by rw [hs1]; simp
      have h1 : s1.get cl = some (.cells [reply, .int .i64 w, .int .i64 t, .slice kb 0 1 0 true] 0 false) := by rw [hs1, S.get_set, if_neg hne, h]
      have g1m := g1
      unfold callC at g1m hs1
      simp [pf37_7, rd hk, wl, wrc hk, ← hs1, pf37_6, rd g1m]
      by_cases h2 : 0 < xl - 1
      · have h2' : 1 < xl := by omega
        simp [h2', pf37_5, pf37_12, w1, w1', e0, e10, e11, e3, Cst.again, Cst.tick, Cst.cells]
        exact ⟨d1, g1⟩
      · have h2' : ¬ 1 < xl := by omega
        simp [h2', pf37_5, pf37_4, rd g1m, e0, rd h1]
        by_cases h3 : xt = t
        · subst h3
          obtain ⟨s2, hs2⟩ : ∃ u, u = s1.set kb (some (.cells (callC m 3 xt (xl - 1)) 25 false)) := ⟨_, rfl⟩
          have g2 : s2.get kb = some (.cells (callC m 3 xt (xl - 1)) 25 false) := by rw [hs2]; simp
          have d2 : Chg [kb] s1 s2 := by rw [hs2]; simp
          unfold callC at hs2
          simp [pf37_3, wrc g1m, ← hs2, pf37_12, w1, w1', e0, e10, e11, e3, Cst.again, Cst.tick, Cst.cells, h2']
          exact ⟨d1.trans d2, g2⟩
        · obtain ⟨s2, hs2⟩ : ∃ u, u = s1.set kb (some (.cells (callC m 1 (xt + 1) (xl - 1)) 25 false)) := ⟨_, rfl⟩
          have g2 : s2.get kb = some (.cells (callC m 1 (xt + 1) (xl - 1)) 25 false) := by rw [hs2]; simp
          have d2 : Chg [kb] s1 s2 := by rw [hs2]; simp
          obtain ⟨s3, hs3⟩ : ∃ u, u = s2.set kb (some (.cells (callC m 1 (xt + 1) w) 25 false)) := ⟨_, rfl⟩
          have g3 : s3.get kb = some (.cells (callC m 1 (xt + 1) w) 25 false) := by rw [hs3]; simp
          have d3 : Chg [kb] s2 s3 := by rw [hs3]; simp
          have dd : Chg [kb] st s3 := (d1.trans d2).trans d3
          have cc : st.ctr = s3.ctr := by rw [hs3, hs2, hs1]; rfl
          have g3m := g3
          have hcop := copied0 m s3
          unfold callC at hs2 hs3 g2 g3m
          unfold mc at hcop
          simp [h3, pf37_2, rd g1m, wt, e0, rd h1, wrc g1m, ← hs2, wrc g2, ← hs3, pf37_1, rd g3m]
          refine Ev.mono hcop ?_
          rintro v s4 ⟨x4, rfl⟩
          have k4 := x4.ctr
          simp [e3]
          refine cont_app_ownF (m := 1) (ds := mc m) (OwnF.nil 11 _) rfl ?_ rfl rfl rfl (by omega) (by omega) (by omega) ?_
          · simp [S.cellsOf, S.read, mc]
          intro v' s5 fa hV hc5 hg5
          have xn : ∀ o, Ext s4 (s4.new o) := fun o => Ext.new (Ext.refl _)
          have x5 : Ext s4 s5 := (xn _).trans hc5.ext0
          have hg5' : s5.get kb = some (.cells (callC m 1 (xt + 1) w) 25 false) := by rw [(x4.trans x5).get _ (by omega), g3]
          simp [pf37_12, e11, w1, w1', e0, e10, Cst.again, Cst.tick, Cst.cells, h2', h3]
          exact ⟨dd.trans ((x4.trans x5).chg _), hg5', fa, by simpa using hV⟩
    · simp [h1, pf37_12, w1, w1', e11, e0, e10, e3, Cst.again, Cst.tick, Cst.cells, callC, hk]
  · simp [pf37_15, pf37_14, e10, e11, pf37_0]
    exact ⟨hc, hg, hv⟩
end Go.Ab
/-! Nodes (layer 29) over the abstract machine: a node's tick with one call; what came of it. -/
namespace Go.Ab
attribute [local simp] lenV

section
variable {s : S} {nb : Nat} {k : Int} {c : Cfg} {op : Nat} {now : Int} {sent reply port : Nat} {r : Cp} {p : Parts} {cl pl kb : Nat}

theorem tick1 {x : Cst} (h : Nd s nb 0 k c op now sent reply port r p cl pl (.slice kb 0 1 0 true)) (hk : s.get kb = some (.cells (x.cells (waitM reply)) 25 false)) (hkl : kb < s.ctr) (hne : nb ≠ kb ∧ cl ≠ kb ∧ pl ≠ kb) (hb : -1000 ≤ x.left ∧ x.left ≤ 1000 ∧ 0 ≤ x.tries ∧ x.tries ≤ 1000)
    (hnow : 0 ≤ now ∧ now < 1000) (hx : port ≠ 12345) (hrep : reply < w48) (hc : c.nodes = 2 ∧ 50 ≤ c.piece ∧ c.piece ≤ 200) (hs : sent < 1000) :
    Ev tab 23 [.ptr nb 0] s fun v s' => Chg [nb, kb] s s' ∧ Nd s' nb 0 k c op (now + 1) (if x.again c.tries then sent + 1 else sent) reply port r p cl pl (.slice kb 0 1 0 true) ∧ s'.get kb = some (.cells ((x.tick c.wait c.tries).cells (waitM reply)) 25 false) ∧
      (if x.again c.tries then ∃ ds F, OwnF 6 s' v 1 ds F else v = .snil) := by
  refine Ev.intro rfl rfl rfl ?_
  obtain ⟨l1, l2, l3⟩ := h.lt
  obtain ⟨q1, q2, q3⟩ := h.ne
  obtain ⟨y1, y2, y3, y4, y5, y6, y7⟩ := p
  have hcl := h.hcl
  simp only at hcl
  subst hcl
  obtain ⟨p, hp⟩ : ∃ p : Parts, p = ⟨y1, y2, y3, .ptr cl 0, y5, y6, y7⟩ := ⟨_, rfl⟩
  rw [← hp] at h ⊢
  have w : IntKind.i64.wrap (now + 1) = now + 1 := by rw [wrap_i64] <;> omega
  have w1 : IntKind.i64.wrap (0 + 1) = 1 := by decide
  have w1' : IntKind.i64.wrap 1 = 1 := by decide
  obtain ⟨s1, hs1⟩ : ∃ t, t = s.set nb (some (.cells (ncells 0 k c op true (now + 1) sent reply port r p) 0 false)) := ⟨_, rfl⟩
  have n1 : s1.get nb = some (.cells (ncells 0 k c op true (now + 1) sent reply port r p) 0 false) := by rw [hs1]; simp
  have d1 : Chg [nb] s s1 := by rw [hs1]; simp
  have c1 : s1.ctr = s.ctr := by rw [hs1]; rfl
  have h1 : Nd s1 nb 0 k c op (now + 1) sent reply port r p cl pl (.slice kb 0 1 0 true) := by
    obtain ⟨a, ha⟩ := h.p
    exact ⟨n1, h.hcl, h.hpl, by rw [d1.get _ l2 (by simp; omega), h.c], ⟨a, by rw [d1.get _ l3 (by simp; omega), ha]⟩, h.ne, by omega⟩
  have hk1 : s1.get kb = some (.cells (x.cells (waitM reply)) 25 false) := by rw [d1.get _ hkl (by simp; omega), hk]
  have n0 := h.n
  have n1' := n1
  simp [ncells, hp] at n0 hs1 n1'
  simp [pf23, pf23_12, pf23_11, rd n0, w, wrc n0, ← hs1, pf23_9, rd n1', pf23_10, pf23_7, pf23_6]
  refine Ev.mono (ctick1 h1.c hk1 (by omega) hne.2.1 hb) ?_
  rintro v s2 ⟨d2, hk2, hv⟩
  have k2 := d2.ctr
  have h2 : Nd s2 nb 0 k c op (now + 1) sent reply port r p cl pl (.slice kb 0 1 0 true) := h1.chg d2 (by simp; omega) (by simp; omega) (by simp; omega)
  have dd2 : Chg [nb, kb] s s2 := (d1.sub (fun z hz => by simp at hz; simp [hz])).trans (d2.sub (fun z hz => by simp at hz; simp [hz]))
  cases hag : x.again c.tries with
  | false =>
    rw [hag] at hv
    simp at hv
    subst hv
    simp
    refine WpC.loop (fun m R' st' => R' 3 = .snil ∧ R' 23 = .int .i64 0 ∧ R' 24 = .int .i64 0 ∧ st' = s2) (m := 0) ⟨by simp, by simp, by simp, rfl⟩ ?_
    rintro m R st ⟨e3, e10, e11, rfl⟩
    simp [pf23_5, pf23_4, e10, e11, pf23_0, e3]
    exact ⟨dd2, h2, hk2⟩
  | true =>
    rw [hag] at hv
    simp at hv
    obtain ⟨F, hF⟩ := hv
    have wl := hF.wlen
    obtain ⟨b, rfl, gb, hbl, rfl⟩ : ∃ b, v = .slice b 0 1 0 true ∧ s2.get b = some (.cells (mc (waitM reply)) 11 false) ∧ b < s2.ctr ∧ F = [b] := by
      rcases hF.2 with ⟨_, h0, _⟩ | ⟨b, z1, z2, z3, z4⟩
      · simp at h0
      · exact ⟨b, z1, z2, z3, z4⟩
    simp
    refine WpC.loop (fun i R st => R 0 = .ptr nb 0 ∧ R 22 = .slice b 0 1 0 true ∧ R 23 = .int .i64 1 ∧
      ((i = 1 ∧ R 24 = .int .i64 0 ∧ R 3 = .snil ∧ st = s2) ∨
       (i = 0 ∧ R 24 = .int .i64 1 ∧ Chg [nb, kb] s st ∧ Nd st nb 0 k c op (now + 1) (sent + 1) reply port r p cl pl (.slice kb 0 1 0 true) ∧ st.get kb = some (.cells ((x.tick c.wait c.tries).cells (waitM reply)) 25 false) ∧ ∃ ds F, OwnF 6 st (R 3) 1 ds F))) (m := 1)
      ⟨by simp, by simp, by simp, .inl ⟨rfl, by simp, by simp, rfl⟩⟩ ?_
    rintro i R st ⟨e0, e22, e23, ⟨rfl, e24, e3, rfl⟩ | ⟨rfl, e24, hcc, hN, hkk, ds, F, hF⟩⟩
    · have gbm := gb
      unfold mc at gbm
      obtain ⟨s3, hs3⟩ : ∃ t, t = st.new (.cells mz 0 false) := ⟨_, rfl⟩
      have x3 : Ext st s3 := by rw [hs3]; simp
      have c3 : s3.ctr = st.ctr + 1 := by rw [hs3]; rfl
      have g3 : s3.get st.ctr = some (.cells mz 0 false) := by rw [hs3]; simp
      obtain ⟨s4, hs4⟩ : ∃ t, t = s3.set st.ctr (some (.cells (mc (waitM reply)) 0 false)) := ⟨_, rfl⟩
      have g4 : s4.get st.ctr = some (.cells (mc (waitM reply)) 0 false) := by rw [hs4]; simp
      have x4 : Ext st s4 := by rw [hs4]; exact Ext.set (Nat.le_refl _) x3
      have c4 : s4.ctr = s3.ctr := by rw [hs4]; rfl
      unfold mz at hs3 g3
      have g4m := g4
      unfold mc at hs4 g4m
      simp [pf23_5, pf23_4, e23, e24, pf23_2, e22, rd gbm, ← hs3, wrc g3, ← hs4, pf23_1, e0, rd g4m]
      have hrq := request1 (h2.ext x4) (waitM reply) (by simp [waitM, touchM]; omega) hrep (by simp [waitM, touchM, w48]) hc hs
      unfold mc at hrq
      refine Ev.mono hrq ?_
      rintro v s5 ⟨d5, hN5, ds, F, hF5, hfl⟩
      have k5 := d5.ctr
      obtain ⟨pb, rfl, gp, hpb, rfl⟩ : ∃ b, v = .slice b 0 1 0 true ∧ s5.get b = some (.cells ds 6 false) ∧ b < s5.ctr ∧ F = [b] := by
        rcases hF5.2 with ⟨_, h0, _⟩ | ⟨b, z1, z2, z3, z4⟩
        · simp at h0
        · exact ⟨b, z1, z2, z3, z4⟩
      have hdl : ds.length = 6 := by simpa using hF5.1
      simp [e3]
      refine cont_app_ownF (m := 1) (ds := ds) (OwnF.nil 6 _) rfl (by simp [S.cellsOf, rd gp, hdl]; exact List.take_of_length_le (by omega)) hdl hfl rfl (by omega) (by omega) (by omega) ?_
      intro v' s6 fa hV hc6 hg6
      have x6 : Ext s5 s6 := hc6.ext0
      have hN6 := hN5.ext x6
      have hk6 : s6.get kb = some (.cells ((x.tick c.wait c.tries).cells (waitM reply)) 25 false) := by
        rw [x6.get _ (by omega), d5.get _ (by omega) (by simp; omega), x4.get _ (by omega), hk2]
      have d6 : Chg [nb, kb] s s6 := ((dd2.trans (x4.chg _)).trans (d5.sub (fun z hz => by simp at hz; simp [hz]))).trans (x6.chg _)
      simp [pf23_3, e24, w1, w1', e0, e22, e23]
      exact ⟨d6, hN6, hk6, ds, fa, by simpa using hV⟩
    · simp [pf23_5, pf23_4, e23, e24, pf23_0]
      exact ⟨hcc, hN, hkk, ds, F, hF⟩
end
end Go.Ab
/-! Nodes (layer 29) over the abstract machine: what came of a call; two nodes. -/
namespace Go.Ab
attribute [local simp] lenV

section
variable {s : S} {nb : Nat} {id k : Int} {c : Cfg} {op : Nat} {now : Int} {sent reply port : Nat} {r : Cp} {p : Parts} {cl pl kb : Nat}

theorem get1 {x : Cst} {m : Ms} (h : Nd s nb id k c op now sent reply port r p cl pl (.slice kb 0 1 0 true)) (hk : s.get kb = some (.cells (x.cells m) 25 false)) (hkl : kb < s.ctr) (hx : x.st = 3) :
    Ev tab 26 [.ptr nb 0, .int .u32 1] s fun v s' => Ext s s' ∧ ∃ cs, cs.length = 11 ∧ cs.all isFlat = true ∧ v = .tuple [.int .i64 3, .agg cs, .iface 49 (.int .i64 10)] := by
  refine Ev.intro rfl rfl rfl ?_
  obtain ⟨l1, l2, l3⟩ := h.lt
  obtain ⟨y1, y2, y3, y4, y5, y6, y7⟩ := p
  have hcl := h.hcl
  simp only at hcl
  subst hcl
  obtain ⟨p, hp⟩ : ∃ p : Parts, p = ⟨y1, y2, y3, .ptr cl 0, y5, y6, y7⟩ := ⟨_, rfl⟩
  rw [← hp] at h
  obtain ⟨s1, hs1⟩ : ∃ t, t = s.new (.cells mz 0 false) := ⟨_, rfl⟩
  have x1 : Ext s s1 := by rw [hs1]; simp
  have c1 : s1.ctr = s.ctr + 1 := by rw [hs1]; rfl
  have g1 : s1.get s.ctr = some (.cells mz 0 false) := by rw [hs1]; simp
  have h1 := h.ext x1
  have n1 := h1.n
  have hk1 : s1.get kb = some (.cells (x.cells m) 25 false) := by rw [x1.get _ hkl, hk]
  unfold mz at hs1
  simp [ncells, hp] at n1
  simp [pf26, pf26_4, ← hs1, pf26_3, pf26_2, rd n1, pf26_0]
  -- the client's
  have hget : Ev tab 42 [.ptr cl 0, .int .u32 1] s1 fun v s' => Ext s1 s' ∧ v = .tuple [.int .i64 3, .agg mz, .iface 49 (.int .i64 10)] := by
    refine Ev.intro rfl rfl rfl ?_
    obtain ⟨s2, hs2⟩ : ∃ t, t = s1.new (.cells mz 0 false) := ⟨_, rfl⟩
    have x2 : Ext s1 s2 := by rw [hs2]; simp
    have c2 : s2.ctr = s1.ctr + 1 := by rw [hs2]; rfl
    have g2 : s2.get s1.ctr = some (.cells mz 0 false) := by rw [hs2]; simp
    have hc2 := (h1.ext x2).c
    have hk2 : s2.get kb = some (.cells (x.cells m) 25 false) := by rw [x2.get _ (by omega), hk1]
    unfold mz at hs2 g2
    simp only [Cst.cells, callC, hx] at hk2
    simp [pf42, pf42_8, ← hs2, pf42_7, pf42_6]
    have hg0 : Ev tab 56 [.ptr cl 0, .int .u32 1] s2 fun v s' => s' = s2 ∧ v = .ptr kb 0 := by
      refine Ev.intro rfl rfl rfl ?_
      have w0 : IntKind.i64.wrap 1 = 1 := by decide
      have w1 : IntKind.u32.wrap 0 = 0 := by decide
      have w2 : IntKind.u32.wrap (1 - 1) = 0 := by decide
      simp [pf56, pf56_3, pf56_2, w0, rd hc2, pf56_0, w1, w2]
    refine Ev.mono hg0 ?_
    rintro v s' ⟨rfl, rfl⟩
    simp [pf42_5, pf42_4, pf42_2, rd hk2, pf42_1, wrc g2, mz]
    exact Ext.set (Nat.le_refl _) x2
  refine Ev.mono hget ?_
  rintro v s2 ⟨x2, rfl⟩
  have g2 : s2.get s.ctr = some (.cells mz 0 false) := by rw [x2.get _ (by omega), g1]
  unfold mz at g2
  simp [mz, wrc g2]
  exact Ext.set (Nat.le_refl _) (x1.trans x2)
end

def es20 : List Nat := [1, 2, 3, 4, 5, 6, 7, 8, 9, 10, 11, 12, 13, 14, 15, 16, 17, 18, 19, 20]
def q20 : Orc := ⟨[], es20.map (· % w48), 0⟩
theorem bootA : (bootP q20 0).1 = none ∧ (bootP q20 0).2.1 = 0 ∧ q20.draw.1 = some 1 ∧ (q20.draw.2.ask 0 1).1 = some 2 ∧ (bootP q20 0).2.2.2.rs.length = 1 := by decide
theorem bootB : (bootP (bootP q20 0).2.2.2 3).1 = none := by decide

theorem Born.nd {s : S} {lo reply : Nat} {c : Cfg} {F : List Nat} {p : Parts} {nb : Nat} {id k : Int} {op : Nat} {now : Int} {sent port : Nat} {r : Cp} (h : Born s lo reply c F p) (hn : s.get nb = some (.cells (ncells id k c op true now sent reply port r p) 0 false)) (hlo : nb < lo) (hl2 : nb < s.ctr)
    (hw : 1 ≤ c.wait) (ht : 1 ≤ c.tries) : ∃ cl pl, lo ≤ cl ∧ lo ≤ pl ∧ (∀ z ∈ F, z < cl ∧ z < pl) ∧ Nd s nb id k c op now sent reply port r p cl pl .snil := by
  obtain ⟨a, b, d, e, g, m, x, y, h0, h1, h2, h3, h4, h5, h6, k1, k2, k3, k4, k5, k6, r1, r2, r3, r4, r5, r6, rF⟩ := h
  have ew : mx1 c.wait = c.wait := by unfold mx1; split <;> omega
  have et : mx1 c.tries = c.tries := by unfold mx1; split <;> omega
  rw [ew, et] at h3
  refine ⟨d, e, k3, k4, fun z hz => ⟨(rF z hz).2.2.1, (rF z hz).2.2.2.1⟩, hn, by rw [h0], by rw [h0], h3, ⟨_, h4⟩, ⟨by omega, by omega, ?_⟩, by omega⟩
  rintro rfl
  rw [h3] at h4
  simp at h4

theorem pair_ok {c : Cfg} (hw : 1 ≤ c.wait) (ht : 1 ≤ c.tries) (s : S) : Ev tab 22 [.int .i64 3, .agg c.cells] s fun v s' => Ext s s' ∧ ∃ na nb op cla pla clb plb pa pb portb rb rpb, v = .tuple [.ptr na 0, .ptr nb 0, .bool true] ∧
    Nd s' na 0 0 c op 0 0 2 0 Cp.zero pa cla pla .snil ∧ Nd s' nb 1 3 c op 0 0 rpb portb rb pb clb plb .snil ∧ na ≠ nb ∧ na ≠ clb ∧ na ≠ plb ∧ nb ≠ cla ∧ nb ≠ pla ∧ cla ≠ clb ∧ cla ≠ plb ∧ pla ≠ clb ∧ pla ≠ plb ∧ s.ctr ≤ na ∧ s.ctr ≤ nb := by
  refine Ev.intro rfl rfl rfl ?_
  obtain ⟨s1, hs1⟩ : ∃ t, t = s.new (.cells c.cells 0 false) := ⟨_, rfl⟩
  have x1 : Ext s s1 := by rw [hs1]; simp
  have c1 : s1.ctr = s.ctr + 1 := by rw [hs1]; rfl
  have g1 : s1.get s.ctr = some (.cells c.cells 0 false) := by rw [hs1]; simp
  obtain ⟨s2, hs2⟩ : ∃ t, t = s1.new (.cells (u64s es20) 0 false) := ⟨_, rfl⟩
  have x2 : Ext s1 s2 := by rw [hs2]; simp
  have c2 : s2.ctr = s1.ctr + 1 := by rw [hs2]; rfl
  have g2 : s2.get s1.ctr = some (.cells (u64s es20) 0 false) := by rw [hs2]; simp
  have hv : NumsAt s2 (.slice s1.ctr 0 20 20 false) es20 := by
    refine ⟨rfl, .inr (.inr ⟨s1.ctr, 20, false, rfl, by omega, ?_⟩)⟩
    intro i n hi
    have hi' : (u64s es20)[i]? = some (.int .u64 (n : Int)) := by simp [u64s, hi]
    obtain ⟨q1, q2⟩ := List.getElem?_eq_some_iff.1 hi'
    rw [Nat.zero_add, Nat.mul_one, rd g2 (by omega), List.drop_eq_getElem_cons q1, q2]
    rfl
  have g1m := g1
  unfold Cfg.cells at hs1 g1m
  have hs2m := hs2
  simp [u64s, es20] at hs2m
  simp [pf22, pf22_6, Cfg.cells, ← hs1, pf22_5, ← hs2m]
  refine Ev.mono (tapeOf_ok hv (by decide)) ?_
  rintro v s3 ⟨x3, tp, G, rfl, hT, hG⟩
  simp
  refine Ev.mono (oracleOf_ok hT) ?_
  rintro v s4 ⟨x4, op, F, rfl, hO, hF⟩
  have hO' : Oc s4 op q20 F := hO
  have k3 := x3.ctr
  have k4 := x4.ctr
  have hlt := hO.lt
  have g4 : s4.get s.ctr = some (.cells c.cells 0 false) := by rw [((x2.trans x3).trans x4).get _ (by omega), g1]
  have g4m := g4
  unfold Cfg.cells at g4m
  simp [pf22_4, rd g4m]
  have hno := nodeOf_ok (s := s4) (id := 0) (k := 0) (c := c) (op := op)
  unfold Cfg.cells at hno
  refine Ev.mono hno ?_
  rintro v s5 ⟨x5, c5, rfl, na5⟩
  obtain ⟨na, hna⟩ : ∃ x, x = s4.ctr + 1 := ⟨_, rfl⟩
  rw [← hna] at na5
  have g5 : s5.get s.ctr = some (.cells c.cells 0 false) := by rw [x5.get _ (by omega), g4]
  have g5m := g5
  unfold Cfg.cells at g5m
  simp [← hna, rd g5m]
  have hno := nodeOf_ok (s := s5) (id := 1) (k := 3) (c := c) (op := op)
  unfold Cfg.cells at hno
  refine Ev.mono hno ?_
  rintro v s6 ⟨x6, c6, rfl, nb6⟩
  obtain ⟨nb, hnb⟩ : ∃ x, x = s5.ctr + 1 := ⟨_, rfl⟩
  rw [← hnb] at nb6
  have na6 := (x6.get na (by omega)).trans na5
  have hO6 := (hO'.ext x5).ext x6
  have hnaF : na ∉ F := fun hx => by have := hlt _ hx; omega
  have hnbF : nb ∉ F := fun hx => by have := hlt _ hx; omega
  have fn : Parts.none.Flat := ⟨rfl, rfl, rfl, rfl, rfl, rfl, rfl⟩
  simp [← hnb, pf22_3, pf22_2, pf22_0]
  obtain ⟨b1, b2, b3, b4, b5⟩ := bootA
  refine Ev.mono (boot_ok hO6 (by decide) na6 (by omega) hnaF fn) ?_
  rintro v s7 ⟨rfl, hc7, rpa, pa, F7, hpa, hg7, hO7, na7, hB7⟩
  obtain ⟨hBa, ga, hga1, hga2⟩ := hB7 b1
  rw [b3] at hga1
  cases hga1
  rw [b4] at hga2
  cases hga2
  rw [b1, b2] at na7
  have k7 := hc7.ctr
  have hroot : (bootP q20 0).2.2.1 = Cp.zero := by decide
  rw [hroot] at na7
  obtain ⟨cla, pla, u1, u2, u3, hNa⟩ := hBa.nd (nb := na) (by simpa using na7) (by omega) (by omega) hw ht
  have nb7 : s7.get nb = some (.cells (ncells 1 3 c op false 0 0 0 0 Cp.zero Parts.none) 0 false) := by rw [hc7.get _ (by omega) (by simp; exact ⟨by omega, hnbF⟩), nb6]
  have hnbF7 : nb ∉ F7 := fun hx => by rcases hg7 nb hx with h9 | h9; exact hnbF h9; omega
  have hnaF7 : na ∉ F7 := fun hx => by rcases hg7 na hx with h9 | h9; exact hnaF h9; omega
  simp [b1, errV]
  refine Ev.mono (boot_ok hO7 (by rw [b5]; decide) nb7 (by omega) hnbF7 fn) ?_
  rintro v s8 ⟨rfl, hc8, rpb, pb, F8, hpb, hg8, hO8, nb8, hB8⟩
  obtain ⟨hBb, _⟩ := hB8 bootB
  rw [bootB] at nb8
  have k8 := hc8.ctr
  obtain ⟨clb, plb, v1, v2, v3, hNb⟩ := hBb.nd (nb := nb) (by simpa using nb8) (by omega) (by omega) hw ht
  obtain ⟨z1, z2, z3⟩ := hNa.lt
  have hNa8 := hNa.chg hc8 (by simp; exact ⟨by omega, hnaF7⟩) (by simp; exact ⟨by omega, fun hx => by have := u3 _ hx; omega⟩) (by simp; exact ⟨by omega, fun hx => by have := u3 _ hx; omega⟩)
  simp [bootB, errV]
  have hlow : ∀ z ∈ F, s.ctr ≤ z := fun z hz => by
    rcases hF z hz with h9 | h9
    · have := hG z h9; omega
    · omega
  have hlow7 : ∀ z ∈ F7, s.ctr ≤ z := fun z hz => by
    rcases hg7 z hz with h9 | h9
    · exact hlow z h9
    · omega
  have xx : Ext s s8 := (((x1.trans x2).trans (x3.trans x4)).trans (x5.trans x6)).then ((hc7.keep (n := s.ctr) (fun z hz => by
    rcases List.mem_cons.1 hz with rfl | hz
    · omega
    · exact hlow z hz) (by omega)).trans (hc8.keep (n := s.ctr) (fun z hz => by
    rcases List.mem_cons.1 hz with rfl | hz
    · omega
    · exact hlow7 z hz) (by omega)))
  exact ⟨xx, na, nb, ⟨rfl, rfl⟩, op, cla, pla, ⟨pa, hNa8⟩, clb, plb, ⟨_, _, _, _, hNb⟩, by omega, by omega, by omega, by omega, by omega, by omega, by omega, by omega, by omega, by omega, by omega⟩
end Go.Ab
