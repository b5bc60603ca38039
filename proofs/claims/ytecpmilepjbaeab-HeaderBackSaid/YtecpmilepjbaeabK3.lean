/- Capabilities as bytes (layer 3) over the abstract machine. -/
import Derived.Test.YtecpmilepjbaeabK2
namespace Go.Ab
attribute [local simp] S.read S.write

/-- A capability's parts fit into their bits. -/
def capMay (p o k : Int) : Bool := decide (p ≤ 281474976710655) && decide (o < 16777216) && decide (k ≤ 281474976710655)
/-- A capability's bytes. -/
def capBytes (p o r k : Int) : List UInt8 := if capMay p o k then be 6 p.toNat ++ be 3 o.toNat ++ be 1 r.toNat ++ be 6 k.toNat else []

theorem capBytes_length (p o r k : Int) : (capBytes p o r k).length ≤ 16 := by
  unfold capBytes; split <;> simp

theorem may_ok (p o r k : Int) (s : S) : Ev tab 38 [.agg [.int .u64 p, .int .u32 o, .int .u8 r, .int .u64 k]] s fun v s' => Ext s s' ∧ v = .bool (capMay p o k) := by
  refine Ev.intro rfl rfl rfl ?_
  by_cases h1 : p ≤ 281474976710655
  · by_cases h2 : o < 16777216
    · simp [pf38, pf38_1, pf38_0, h1, h2, capMay]
    · simp [pf38, pf38_1, pf38_0, h1, h2, capMay]
  · simp [pf38, pf38_1, pf38_0, h1, capMay]

theorem encode_ok (p o r k : Nat) (hp : p < 18446744073709551616) (ho : o < 4294967296) (hr : r < 256) (s : S) : Ev tab 28 [.agg [.int .u64 p, .int .u32 o, .int .u8 r, .int .u64 k]] s fun v s' => Ext s s' ∧ Own s.ctr s' v (capBytes p o r k) := by
  refine Ev.intro rfl rfl rfl ?_
  have w1 : IntKind.u64.wrap (o : Int) = o := wrap_u64 (by omega) (by omega)
  have w2 : IntKind.u64.wrap (r : Int) = r := wrap_u64 (by omega) (by omega)
  simp [pf28, pf28_7, pf28_5]
  refine Ev.mono (may_ok p o r k _) ?_
  rintro v s1 ⟨hx1, rfl⟩
  have hg := hx1.get
  have hx0 : Ext s (s.new (.cells [.int .u64 p, .int .u32 o, .int .u8 r, .int .u64 k] 0 false)) := by simp
  have y1 := hx0.trans hx1
  unfold capBytes
  cases hc : capMay p o k with
  | false =>
    simp [pf28_4]
    exact ⟨y1, Own.nil _ _⟩
  | true =>
    simp [pf28_6, pf28_3, hg]
    refine Ev.mono (put_ok s1 (Bytes.nil s1) p 6 (by omega) (by simp)) ?_
    rintro v s2 ⟨hx2, ho2⟩
    have g2 := (hx1.trans hx2).get
    have f2 := ho2.flat
    simp [pf28_2, g2, w1]
    refine Ev.mono (put_ok s2 ho2.bytes o 3 (by omega) (by simp)) ?_
    rintro v s3 ⟨hx3, ho3⟩
    have g3 := ((hx1.trans hx2).trans hx3).get
    simp [pf28_1, g3, w2]
    refine Ev.mono (put_ok s3 ho3.bytes r 1 (by omega) (by simp)) ?_
    rintro v s4 ⟨hx4, ho4⟩
    have g4 := (((hx1.trans hx2).trans hx3).trans hx4).get
    simp [pf28_0, g4]
    refine Ev.mono (put_ok s4 ho4.bytes k 6 (by omega) (by simp)) ?_
    rintro v s5 ⟨hx5, ho5⟩
    simp
    refine ⟨(((y1.trans hx2).trans hx3).trans hx4).trans hx5, ?_⟩
    have := (((y1.trans hx2).trans hx3).trans hx4).ctr
    simpa using ho5.le this

end Go.Ab
