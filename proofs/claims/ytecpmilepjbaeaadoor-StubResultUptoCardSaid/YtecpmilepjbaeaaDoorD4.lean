/- What a reply tells (layer 28) over the abstract machine. -/
import Derived.Test.YtecpmilepjbaeaaDoorD3
import Derived.Test.YtecpmilepjbaeaaDoorD1
namespace Go.Ab
attribute [local simp] S.read S.write

/-- A message's parts. -/
structure Ms where
  to : Nat
  reply : Nat
  id : Nat
  op : Nat
  st : Nat
  p : Nat
  o : Nat
  r : Nat
  k : Nat
  arg : Nat
  data : List UInt8
  deriving DecidableEq

def Ms.cells (m : Ms) (d : AV) : List AV := [.int .u64 m.to, .int .u64 m.reply, .int .u32 m.id, .int .u16 m.op, .int .u16 m.st, .int .u64 m.p, .int .u32 m.o, .int .u8 m.r, .int .u64 m.k, .int .u64 m.arg, d]
def Ms.fit (m : Ms) : Prop := m.to < 18446744073709551616 ∧ m.reply < 18446744073709551616 ∧ m.id < 4294967296 ∧ m.op < 65536 ∧ m.st < 65536 ∧ m.p < 18446744073709551616 ∧ m.o < 4294967296 ∧ m.r < 256 ∧ m.k < 18446744073709551616 ∧ m.arg < 18446744073709551616 ∧ m.data.length ≤ 140737488355328

theorem Own.setLow {n : Nat} {s : S} {v : AV} {l : List UInt8} {i : Nat} {o : Option AO} (h : Own n s v l) (hi : i < n) : Own n (s.set i o) v l := by
  rcases h with ⟨rfl, rfl⟩ | ⟨b, rfl, hg, hb, hn⟩
  · exact Own.nil _ _
  · exact Own.made (by rw [S.get_set, if_neg (by omega)]; exact hg) hb hn

theorem result_err (m : Ms) (hf : m.fit) (h : m.st ≠ 0) (d : AV) (s : S) (hd : Bytes s d m.data) : Ev tab 11 [.agg (m.cells d)] s fun v s' => Ext s s' ∧ v = .tuple [.agg [.int .u64 0, .int .u32 0, .int .u8 0, .int .u64 0, .int .u64 0, .snil], .iface 31 (.int .i64 m.st)] := by
  refine Ev.intro rfl rfl rfl ?_
  obtain ⟨_, _, _, _, hst, _⟩ := hf
  have w1 : IntKind.i64.wrap (m.st : Int) = m.st := wrap_i64 (by omega) (by omega)
  have hc := hd.cells1
  have fl := hd.flat
  simp (maxDischargeDepth := 30) [Ms.cells, pf11, pf11_4, pf11_3, pf11_2, h, pf11_1, w1, fl, hc]

theorem result_ok (m : Ms) (hf : m.fit) (h : m.st = 0) (d : AV) (s : S) (hd : Bytes s d m.data) : Ev tab 11 [.agg (m.cells d)] s fun v s' => Ext s s' ∧ ∃ w, v = .tuple [.agg [.int .u64 m.p, .int .u32 m.o, .int .u8 m.r, .int .u64 m.k, .int .u64 m.arg, w], .nilIface] ∧ Own s.ctr s' w m.data := by
  refine Ev.intro rfl rfl rfl ?_
  have hc := hd.cells1
  have fl := hd.flat
  simp (maxDischargeDepth := 30) [Ms.cells, pf11, pf11_4, pf11_3, pf11_2, h, pf11_0, fl, hc, Nat.add_assoc]
  refine cont_app_nil (n := s.ctr + 1 + 1) (hd.ext (by simp (maxDischargeDepth := 30))) (by simp) hf.2.2.2.2.2.2.2.2.2.2 ?_
  intro w s2 hw hk
  have hx := Keep.ext (a := (s.new _).new _) hk
  have hg := hx.get
  have hc2 := hw.bytes.cells1
  have fl2 := hw.flat
  have hx0 : Ext s s2 := Ext.trans (by simp (maxDischargeDepth := 30)) hx
  simp (maxDischargeDepth := 30) [hg, Nat.add_assoc, hc2, fl2, hx0]
  exact (hw.setLow (by omega)).le (by omega)

theorem epoch_ok (a : Nat) (ha : a < 18446744073709551616) (s : S) : Ev tab 12 [.int .u64 a] s fun v s' => s' = s ∧ v = .tuple [.int .i64 ((a / 4294967296 : Nat) : Int), .int .i64 ((a % 4294967296 : Nat) : Int)] := by
  refine Ev.intro rfl rfl rfl ?_
  simp (maxDischargeDepth := 30) [pf12, pf12_1, pf12_0]
  constructor
  · rw [show (2 : Int) ^ min 32 IntKind.u64.bits = 4294967296 from rfl, Int.fdiv_eq_ediv_of_nonneg _ (by omega)]
    exact wrap_i64 (by omega) (by omega)
  · rw [show 4294967295 % 2 ^ IntKind.u64.bits = 2 ^ 32 - 1 from rfl, show a % 2 ^ IntKind.u64.bits = a from Nat.mod_eq_of_lt ha, Nat.and_two_pow_sub_one_eq_mod, wrap_u64 (by omega) (by omega), wrap_i64 (by omega) (by omega)]
    omega
end Go.Ab
