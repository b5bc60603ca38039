/- Capabilities as bytes (layer 3) and requests with names (layer 28) over the abstract machine. -/
import Derived.Test.YtecpmilepjbaeaaK2
import Derived.Test.YtecpmilepjbaeaaStubD
namespace Go.Ab
attribute [local simp] S.read S.write

/-- A capability's parts fit into their bits. -/
def capMay (p o k : Int) : Bool := decide (p ≤ 281474976710655) && decide (o < 16777216) && decide (k ≤ 281474976710655)
/-- A capability's bytes. -/
def capBytes (p o r k : Int) : List UInt8 := if capMay p o k then be 6 p.toNat ++ be 3 o.toNat ++ be 1 r.toNat ++ be 6 k.toNat else []

theorem capBytes_length (p o r k : Int) : (capBytes p o r k).length ≤ 16 := by
  unfold capBytes; split <;> simp

theorem may_ok (p o r k : Int) (s : S) : Ev tab 59 [.agg [.int .u64 p, .int .u32 o, .int .u8 r, .int .u64 k]] s fun v s' => Ext s s' ∧ v = .bool (capMay p o k) := by
  refine Ev.intro rfl rfl rfl ?_
  by_cases h1 : p ≤ 281474976710655
  · by_cases h2 : o < 16777216
    · simp [pf59, pf59_1, pf59_0, h1, h2, capMay]
    · simp [pf59, pf59_1, pf59_0, h1, h2, capMay]
  · simp [pf59, pf59_1, pf59_0, h1, capMay]

theorem encode_ok (p o r k : Nat) (hp : p < 18446744073709551616) (ho : o < 4294967296) (hr : r < 256) (s : S) : Ev tab 37 [.agg [.int .u64 p, .int .u32 o, .int .u8 r, .int .u64 k]] s fun v s' => Ext s s' ∧ Own s.ctr s' v (capBytes p o r k) := by
  refine Ev.intro rfl rfl rfl ?_
  have w1 : IntKind.u64.wrap (o : Int) = o := wrap_u64 (by omega) (by omega)
  have w2 : IntKind.u64.wrap (r : Int) = r := wrap_u64 (by omega) (by omega)
  simp [pf37, pf37_7, pf37_5]
  refine Ev.mono (may_ok p o r k _) ?_
  rintro v s1 ⟨hx1, rfl⟩
  have hg := hx1.get
  have hx0 : Ext s (s.new (.cells [.int .u64 p, .int .u32 o, .int .u8 r, .int .u64 k] 0 false)) := by simp
  have y1 := hx0.trans hx1
  unfold capBytes
  cases hc : capMay p o k with
  | false =>
    simp [pf37_4]
    exact ⟨y1, Own.nil _ _⟩
  | true =>
    simp [pf37_6, pf37_3, hg]
    refine Ev.mono (put_ok s1 (Bytes.nil s1) p 6 (by omega) (by simp)) ?_
    rintro v s2 ⟨hx2, ho2⟩
    have g2 := (hx1.trans hx2).get
    have f2 := ho2.flat
    simp [pf37_2, g2, w1]
    refine Ev.mono (put_ok s2 ho2.bytes o 3 (by omega) (by simp)) ?_
    rintro v s3 ⟨hx3, ho3⟩
    have g3 := ((hx1.trans hx2).trans hx3).get
    simp [pf37_1, g3, w2]
    refine Ev.mono (put_ok s3 ho3.bytes r 1 (by omega) (by simp)) ?_
    rintro v s4 ⟨hx4, ho4⟩
    have g4 := (((hx1.trans hx2).trans hx3).trans hx4).get
    simp [pf37_0, g4]
    refine Ev.mono (put_ok s4 ho4.bytes k 6 (by omega) (by simp)) ?_
    rintro v s5 ⟨hx5, ho5⟩
    simp
    refine ⟨(((y1.trans hx2).trans hx3).trans hx4).trans hx5, ?_⟩
    have := (((y1.trans hx2).trans hx3).trans hx4).ctr
    simpa using ho5.le this

/-- A name's bytes. -/
def enc (n : List UInt8) : List UInt8 := be 2 n.length ++ n
/-- A name's bytes, none of one that is too long. -/
def encM (n : List UInt8) : List UInt8 := if n.length ≤ 65535 then enc n else []

/-- A string's bytes laid behind none. -/
theorem putName_ok (n : List UInt8) (s : S) {d : AV} (hd : Bytes s d n) : Ev tab 36 [.snil, d] s fun v s' => Ext s s' ∧ ∃ w ok, v = .tuple [w, .bool ok] ∧ ok = decide (n.length ≤ 65535) ∧ Own s.ctr s' w (encM n) := by
  by_cases h : n.length ≤ 65535
  · refine Ev.mono (putBytes_ok (Bytes.nil s) hd h (by simp)) ?_
    rintro v s' ⟨hx, w, rfl, hw⟩
    exact ⟨hx, w, true, rfl, by simp [h], by simpa [encM, h, enc] using hw⟩
  · refine Ev.mono (putBytes_no (Bytes.nil s) hd (by omega)) ?_
    rintro v s' ⟨rfl, rfl⟩
    exact ⟨Ext.refl _, _, false, rfl, by simp [h], by simp only [encM, if_neg h]; exact Own.nil _ _⟩

theorem encM_length (n : List UInt8) : (encM n).length ≤ 65537 := by
  unfold encM enc
  split
  · simp; omega
  · simp

theorem named_ok (p o r k op arg : Int) (n : List UInt8) (hn : n.length < 9223372036854775807) (b : AV) (l : List UInt8) (s : S) (hb : Bytes s b l) (hl : l.length ≤ 140737488000000) : Ev tab 60 [.agg [.int .u64 p, .int .u32 o, .int .u8 r, .int .u64 k], .int .u16 op, .int .u64 arg, .str n, b] s fun v s' =>
    Ext s s' ∧ Req s.ctr s' v p o r k op arg (encM n ++ l) := by
  refine Ev.intro rfl rfl rfl ?_
  simp [pf60, pf60_5, pf60_4, pf60_3, hn]
  obtain ⟨s1, hs1⟩ : ∃ s1, s1 = (((s.new (.cells [.int .u64 p, .int .u32 o, .int .u8 r, .int .u64 k] 0 false)).new (.cells [.int .u64 0, .int .u64 0, .int .u32 0, .int .u16 0, .int .u16 0, .int .u64 0, .int .u32 0, .int .u8 0, .int .u64 0, .int .u64 0, .snil] 0 false)).new (.cells (n.map fun b => .int .u8 b.toNat) 1 false)) := ⟨_, rfl⟩
  rw [← hs1]
  have hx0 : Ext s s1 := by rw [hs1]; simp (maxDischargeDepth := 30)
  have hc1 : s1.ctr = s.ctr + 3 := by rw [hs1]; simp [Nat.add_assoc]
  have hd : Bytes s1 (.slice (s.ctr + 1 + 1) 0 n.length 0 true) n := by
    refine Bytes.made (n := 1) ?_ ?_ 0 true
    · rw [hs1]; simp [u8s, Nat.add_assoc]
    · omega
  refine Ev.mono (putName_ok n s1 hd) ?_
  rintro v s2 ⟨hx2, w, ok, rfl, hok, hw⟩
  have q1 : s1.get s.ctr = some (.cells [.int .u64 p, .int .u32 o, .int .u8 r, .int .u64 k] 0 false) := by rw [hs1]; simp [Nat.add_assoc]
  have q2 : s1.get (s.ctr + 1) = some (.cells [.int .u64 0, .int .u64 0, .int .u32 0, .int .u16 0, .int .u16 0, .int .u64 0, .int .u32 0, .int .u8 0, .int .u64 0, .int .u64 0, .snil] 0 false) := by rw [hs1]; simp [Nat.add_assoc]
  have key : ∀ (r2 : Regs) (w : AV), Own s1.ctr s2 w (encM n) → r2 1 = .int .u16 op → r2 2 = .int .u64 arg → r2 4 = b → r2 5 = .ptr s.ctr 0 → r2 10 = .ptr (s.ctr + 1) 0 → r2 11 = w → WpC tab pf60_0 r2 s2 (seqK tab .ret (FinP [.cell 10 11 true] fun v s' => Ext s s' ∧ Req s.ctr s' v p o r k op arg (encM n ++ l))) := by
    intro r2 w hw f1 f2 f4 f5 f10 f11
    have g1 : s2.get s.ctr = some (.cells [.int .u64 p, .int .u32 o, .int .u8 r, .int .u64 k] 0 false) := by rw [hx2.get _ (by omega), q1]
    simp [pf60_0, f1, f2, f4, f5, f10, f11, g1]
    have := encM_length n
    refine cont_app_own hw (hb.ext (hx0.trans hx2)) hx2.ctr (by omega) ?_
    intro w3 s3 hw3 hk3
    have g3 : s3.get s.ctr = some (.cells [.int .u64 p, .int .u32 o, .int .u8 r, .int .u64 k] 0 false) := by rw [hk3.get _ (by omega), g1]
    simp [g3, f5]
    refine Ev.mono (ask_ok p o r k op arg w3 (encM n ++ l) s3 hw3.bytes (by simp; omega)) ?_
    rintro v s4 ⟨hx4, d, rfl, hd4, hsi⟩
    have h23 := hx2.then hk3
    have g4 : s4.get (s.ctr + 1) = some (.cells [.int .u64 0, .int .u64 0, .int .u32 0, .int .u16 0, .int .u16 0, .int .u64 0, .int .u32 0, .int .u8 0, .int .u64 0, .int .u64 0, .snil] 0 false) := by rw [hx4.get _ (by have := h23.ctr; omega), h23.get _ (by omega), q2]
    have fd := hd4.flat
    have y4 := (hx0.trans h23).trans hx4
    have hsi2 := since_le (n := s.ctr + 2) (by have := h23.ctr; omega) hsi
    simp [f10, g4, fd, y4, Req]
    exact ⟨hd4.set hsi2 (by omega), since_le (by omega) hsi2⟩
  by_cases hle : n.length ≤ 65535
  · have : ok = true := by simp [hok, hle]
    subst this
    simp [pf60_2, pf60_1]
    refine key _ w hw ?_ ?_ ?_ ?_ ?_ ?_ <;> simp [hc1]
  · have : ok = false := by simp [hok, hle]
    subst this
    simp [pf60_2, pf60_1]
    refine key _ .snil ?_ ?_ ?_ ?_ ?_ ?_ ?_
    · rw [encM, if_neg hle]; exact Own.nil _ _
    all_goals simp [hc1]
end Go.Ab
