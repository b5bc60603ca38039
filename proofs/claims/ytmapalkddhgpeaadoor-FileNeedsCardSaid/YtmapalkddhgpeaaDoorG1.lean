/- Which rights the operations of the servers need (layers 25, 26, 27), over the abstract machine. -/
import Derived.Test.YtmapalkddhgpeaaDoorTab
import Derived.Test.YtmapalkddhgpeaaDoorAbFoot
namespace Go.Ab
attribute [local simp] S.read S.write

theorem ev_awake_mem {s : S} {Q : AV → S → Prop} (h : Q (.bool true) s) : Ev tab 6 [] s Q := Ev.prim (p := closedPrim [] (.bool true)) rfl rfl h
def need_mem (op : Nat) : Int × Bool := if op = 100 then (4, true) else if op = 101 then (1, true) else if op = 102 then (2, true) else if op = 103 then (1, true) else if op = 104 then (2, true) else (0, false)
theorem need_mem_ok (p op : Nat) (s : S) : Ev tab 7 [.ptr p 0, .int .u16 op] s fun v s' => s' = s ∧ v = .tuple [.int .u8 (need_mem op).1, .bool (need_mem op).2] := by
  refine Ev.intro rfl rfl rfl ?_
  have hc : op = 100 ∨ op = 101 ∨ op = 102 ∨ op = 103 ∨ op = 104 ∨ (¬ op = 100 ∧ ¬ op = 101 ∧ ¬ op = 102 ∧ ¬ op = 103 ∧ ¬ op = 104) := by omega
  rcases hc with rfl | rfl | rfl | rfl | rfl | ⟨h100, h101, h102, h103, h104⟩
  · simp [pf7, pf7_0, pf7_1, pf7_2, pf7_3, pf7_4, pf7_5, pf7_6, pf7_7, pf7_8, pf7_9, pf7_10, pf7_11, pf7_12, pf7_13, need_mem]
  · simp [pf7, pf7_0, pf7_1, pf7_2, pf7_3, pf7_4, pf7_5, pf7_6, pf7_7, pf7_8, pf7_9, pf7_10, pf7_11, pf7_12, pf7_13, need_mem]
  · simp [pf7, pf7_0, pf7_1, pf7_2, pf7_3, pf7_4, pf7_5, pf7_6, pf7_7, pf7_8, pf7_9, pf7_10, pf7_11, pf7_12, pf7_13, need_mem]
  · simp [pf7, pf7_0, pf7_1, pf7_2, pf7_3, pf7_4, pf7_5, pf7_6, pf7_7, pf7_8, pf7_9, pf7_10, pf7_11, pf7_12, pf7_13, need_mem]
  · simp [pf7, pf7_0, pf7_1, pf7_2, pf7_3, pf7_4, pf7_5, pf7_6, pf7_7, pf7_8, pf7_9, pf7_10, pf7_11, pf7_12, pf7_13, need_mem]
  have i100 : ¬ (op : Int) = 100 := by omega
  have i101 : ¬ (op : Int) = 101 := by omega
  have i102 : ¬ (op : Int) = 102 := by omega
  have i103 : ¬ (op : Int) = 103 := by omega
  have i104 : ¬ (op : Int) = 104 := by omega
  simp [pf7, pf7_0, pf7_1, pf7_2, pf7_3, pf7_4, pf7_5, pf7_6, pf7_7, pf7_8, pf7_9, pf7_10, pf7_11, pf7_12, pf7_13, need_mem, h100, i100, h101, i101, h102, i102, h103, i103, h104, i104]

set_option maxRecDepth 10000 in
theorem law_mem (op : Nat) (h : op < 65536) (s : S) : Ev tab 3 [.int .u16 op] s fun v _ => v = .bool true := by
  refine Ev.intro rfl rfl rfl ?_
  simp [pf3, pf3_10, pf3_9, pf3_7]
  refine ev_awake_mem ?_
  simp [pf3_8, pf3_5, pf3_4]
  refine Ev.mono (need_mem_ok s.ctr op _) ?_
  rintro v s1 ⟨rfl, rfl⟩
  have hc : op = 100 ∨ op = 101 ∨ op = 102 ∨ op = 103 ∨ op = 104 ∨ (op < 100 ∨ 104 < op) := by omega
  rcases hc with rfl | rfl | rfl | rfl | rfl | hlo
  · simp [need_mem, pf3_3, pf3_2, pf3_1, pf3_0, IntKind.wrap, IntKind.signed, IntKind.bits]
  · simp [need_mem, pf3_3, pf3_2, pf3_1, pf3_0, IntKind.wrap, IntKind.signed, IntKind.bits]
  · simp [need_mem, pf3_3, pf3_2, pf3_1, pf3_0, IntKind.wrap, IntKind.signed, IntKind.bits]
  · simp [need_mem, pf3_3, pf3_2, pf3_1, pf3_0, IntKind.wrap, IntKind.signed, IntKind.bits]
  · simp [need_mem, pf3_3, pf3_2, pf3_1, pf3_0, IntKind.wrap, IntKind.signed, IntKind.bits]
  have h100 : ¬ op = 100 := by omega
  have h101 : ¬ op = 101 := by omega
  have h102 : ¬ op = 102 := by omega
  have h103 : ¬ op = 103 := by omega
  have h104 : ¬ op = 104 := by omega
  by_cases hl : op < 100
  · have hli : ¬ (100 : Int) ≤ op := by omega
    have hln : ¬ 100 ≤ op := by omega
    simp [need_mem, pf3_3, pf3_2, pf3_1, pf3_0, hl, hli, hln, h100, h101, h102, h103, h104]
  · have hli : (100 : Int) ≤ op := by omega
    have hln : 100 ≤ op := by omega
    have hhi : ¬ (op : Int) ≤ 104 := by omega
    have hhn : ¬ op ≤ 104 := by omega
    simp [need_mem, pf3_3, pf3_2, pf3_1, pf3_0, hl, hli, hln, hhi, hhn, h100, h101, h102, h103, h104]

theorem ev_awake_dir {s : S} {Q : AV → S → Prop} (h : Q (.bool true) s) : Ev tab 8 [] s Q := Ev.prim (p := closedPrim [] (.bool true)) rfl rfl h
def need_dir (op : Nat) : Int × Bool := if op = 100 then (4, true) else if op = 101 then (1, true) else if op = 102 then (2, true) else if op = 103 then (2, true) else if op = 104 then (8, true) else if op = 105 then (1, true) else (0, false)
theorem need_dir_ok (p op : Nat) (s : S) : Ev tab 9 [.ptr p 0, .int .u16 op] s fun v s' => s' = s ∧ v = .tuple [.int .u8 (need_dir op).1, .bool (need_dir op).2] := by
  refine Ev.intro rfl rfl rfl ?_
  have hc : op = 100 ∨ op = 101 ∨ op = 102 ∨ op = 103 ∨ op = 104 ∨ op = 105 ∨ (¬ op = 100 ∧ ¬ op = 101 ∧ ¬ op = 102 ∧ ¬ op = 103 ∧ ¬ op = 104 ∧ ¬ op = 105) := by omega
  rcases hc with rfl | rfl | rfl | rfl | rfl | rfl | ⟨h100, h101, h102, h103, h104, h105⟩
  · simp [pf9, pf9_0, pf9_1, pf9_2, pf9_3, pf9_4, pf9_5, pf9_6, pf9_7, pf9_8, pf9_9, pf9_10, pf9_11, pf9_12, pf9_13, pf9_14, pf9_15, need_dir]
  · simp [pf9, pf9_0, pf9_1, pf9_2, pf9_3, pf9_4, pf9_5, pf9_6, pf9_7, pf9_8, pf9_9, pf9_10, pf9_11, pf9_12, pf9_13, pf9_14, pf9_15, need_dir]
  · simp [pf9, pf9_0, pf9_1, pf9_2, pf9_3, pf9_4, pf9_5, pf9_6, pf9_7, pf9_8, pf9_9, pf9_10, pf9_11, pf9_12, pf9_13, pf9_14, pf9_15, need_dir]
  · simp [pf9, pf9_0, pf9_1, pf9_2, pf9_3, pf9_4, pf9_5, pf9_6, pf9_7, pf9_8, pf9_9, pf9_10, pf9_11, pf9_12, pf9_13, pf9_14, pf9_15, need_dir]
  · simp [pf9, pf9_0, pf9_1, pf9_2, pf9_3, pf9_4, pf9_5, pf9_6, pf9_7, pf9_8, pf9_9, pf9_10, pf9_11, pf9_12, pf9_13, pf9_14, pf9_15, need_dir]
  · simp [pf9, pf9_0, pf9_1, pf9_2, pf9_3, pf9_4, pf9_5, pf9_6, pf9_7, pf9_8, pf9_9, pf9_10, pf9_11, pf9_12, pf9_13, pf9_14, pf9_15, need_dir]
  have i100 : ¬ (op : Int) = 100 := by omega
  have i101 : ¬ (op : Int) = 101 := by omega
  have i102 : ¬ (op : Int) = 102 := by omega
  have i103 : ¬ (op : Int) = 103 := by omega
  have i104 : ¬ (op : Int) = 104 := by omega
  have i105 : ¬ (op : Int) = 105 := by omega
  simp [pf9, pf9_0, pf9_1, pf9_2, pf9_3, pf9_4, pf9_5, pf9_6, pf9_7, pf9_8, pf9_9, pf9_10, pf9_11, pf9_12, pf9_13, pf9_14, pf9_15, need_dir, h100, i100, h101, i101, h102, i102, h103, i103, h104, i104, h105, i105]

set_option maxRecDepth 10000 in
theorem law_dir (op : Nat) (h : op < 65536) (s : S) : Ev tab 4 [.int .u16 op] s fun v _ => v = .bool true := by
  refine Ev.intro rfl rfl rfl ?_
  simp [pf4, pf4_10, pf4_9, pf4_7]
  refine ev_awake_dir ?_
  simp [pf4_8, pf4_5, pf4_4]
  refine Ev.mono (need_dir_ok s.ctr op _) ?_
  rintro v s1 ⟨rfl, rfl⟩
  have hc : op = 100 ∨ op = 101 ∨ op = 102 ∨ op = 103 ∨ op = 104 ∨ op = 105 ∨ (op < 100 ∨ 105 < op) := by omega
  rcases hc with rfl | rfl | rfl | rfl | rfl | rfl | hlo
  · simp [need_dir, pf4_3, pf4_2, pf4_1, pf4_0, IntKind.wrap, IntKind.signed, IntKind.bits]
  · simp [need_dir, pf4_3, pf4_2, pf4_1, pf4_0, IntKind.wrap, IntKind.signed, IntKind.bits]
  · simp [need_dir, pf4_3, pf4_2, pf4_1, pf4_0, IntKind.wrap, IntKind.signed, IntKind.bits]
  · simp [need_dir, pf4_3, pf4_2, pf4_1, pf4_0, IntKind.wrap, IntKind.signed, IntKind.bits]
  · simp [need_dir, pf4_3, pf4_2, pf4_1, pf4_0, IntKind.wrap, IntKind.signed, IntKind.bits]
  · simp [need_dir, pf4_3, pf4_2, pf4_1, pf4_0, IntKind.wrap, IntKind.signed, IntKind.bits]
  have h100 : ¬ op = 100 := by omega
  have h101 : ¬ op = 101 := by omega
  have h102 : ¬ op = 102 := by omega
  have h103 : ¬ op = 103 := by omega
  have h104 : ¬ op = 104 := by omega
  have h105 : ¬ op = 105 := by omega
  by_cases hl : op < 100
  · have hli : ¬ (100 : Int) ≤ op := by omega
    have hln : ¬ 100 ≤ op := by omega
    simp [need_dir, pf4_3, pf4_2, pf4_1, pf4_0, hl, hli, hln, h100, h101, h102, h103, h104, h105]
  · have hli : (100 : Int) ≤ op := by omega
    have hln : 100 ≤ op := by omega
    have hhi : ¬ (op : Int) ≤ 105 := by omega
    have hhn : ¬ op ≤ 105 := by omega
    simp [need_dir, pf4_3, pf4_2, pf4_1, pf4_0, hl, hli, hln, hhi, hhn, h100, h101, h102, h103, h104, h105]

theorem ev_awake_fil {s : S} {Q : AV → S → Prop} (h : Q (.bool true) s) : Ev tab 10 [] s Q := Ev.prim (p := closedPrim [] (.bool true)) rfl rfl h
def need_fil (op : Nat) : Int × Bool := if op = 100 then (4, true) else if op = 101 then (1, true) else if op = 102 then (1, true) else if op = 103 then (5, true) else (0, false)
theorem need_fil_ok (p op : Nat) (s : S) : Ev tab 11 [.ptr p 0, .int .u16 op] s fun v s' => s' = s ∧ v = .tuple [.int .u8 (need_fil op).1, .bool (need_fil op).2] := by
  refine Ev.intro rfl rfl rfl ?_
  have hc : op = 100 ∨ op = 101 ∨ op = 102 ∨ op = 103 ∨ (¬ op = 100 ∧ ¬ op = 101 ∧ ¬ op = 102 ∧ ¬ op = 103) := by omega
  rcases hc with rfl | rfl | rfl | rfl | ⟨h100, h101, h102, h103⟩
  · simp [pf11, pf11_0, pf11_1, pf11_2, pf11_3, pf11_4, pf11_5, pf11_6, pf11_7, pf11_8, pf11_9, pf11_10, pf11_11, need_fil]
  · simp [pf11, pf11_0, pf11_1, pf11_2, pf11_3, pf11_4, pf11_5, pf11_6, pf11_7, pf11_8, pf11_9, pf11_10, pf11_11, need_fil]
  · simp [pf11, pf11_0, pf11_1, pf11_2, pf11_3, pf11_4, pf11_5, pf11_6, pf11_7, pf11_8, pf11_9, pf11_10, pf11_11, need_fil]
  · simp [pf11, pf11_0, pf11_1, pf11_2, pf11_3, pf11_4, pf11_5, pf11_6, pf11_7, pf11_8, pf11_9, pf11_10, pf11_11, need_fil]
  have i100 : ¬ (op : Int) = 100 := by omega
  have i101 : ¬ (op : Int) = 101 := by omega
  have i102 : ¬ (op : Int) = 102 := by omega
  have i103 : ¬ (op : Int) = 103 := by omega
  simp [pf11, pf11_0, pf11_1, pf11_2, pf11_3, pf11_4, pf11_5, pf11_6, pf11_7, pf11_8, pf11_9, pf11_10, pf11_11, need_fil, h100, i100, h101, i101, h102, i102, h103, i103]

set_option maxRecDepth 10000 in
theorem law_fil (op : Nat) (h : op < 65536) (s : S) : Ev tab 5 [.int .u16 op] s fun v _ => v = .bool true := by
  refine Ev.intro rfl rfl rfl ?_
  simp [pf5, pf5_10, pf5_9, pf5_7]
  refine ev_awake_fil ?_
  simp [pf5_8, pf5_5, pf5_4]
  refine Ev.mono (need_fil_ok s.ctr op _) ?_
  rintro v s1 ⟨rfl, rfl⟩
  have hc : op = 100 ∨ op = 101 ∨ op = 102 ∨ op = 103 ∨ (op < 100 ∨ 103 < op) := by omega
  rcases hc with rfl | rfl | rfl | rfl | hlo
  · simp [need_fil, pf5_3, pf5_2, pf5_1, pf5_0, IntKind.wrap, IntKind.signed, IntKind.bits]
  · simp [need_fil, pf5_3, pf5_2, pf5_1, pf5_0, IntKind.wrap, IntKind.signed, IntKind.bits]
  · simp [need_fil, pf5_3, pf5_2, pf5_1, pf5_0, IntKind.wrap, IntKind.signed, IntKind.bits]
  · simp [need_fil, pf5_3, pf5_2, pf5_1, pf5_0, IntKind.wrap, IntKind.signed, IntKind.bits]
  have h100 : ¬ op = 100 := by omega
  have h101 : ¬ op = 101 := by omega
  have h102 : ¬ op = 102 := by omega
  have h103 : ¬ op = 103 := by omega
  by_cases hl : op < 100
  · have hli : ¬ (100 : Int) ≤ op := by omega
    have hln : ¬ 100 ≤ op := by omega
    simp [need_fil, pf5_3, pf5_2, pf5_1, pf5_0, hl, hli, hln, h100, h101, h102, h103]
  · have hli : (100 : Int) ≤ op := by omega
    have hln : 100 ≤ op := by omega
    have hhi : ¬ (op : Int) ≤ 103 := by omega
    have hhn : ¬ op ≤ 103 := by omega
    simp [need_fil, pf5_3, pf5_2, pf5_1, pf5_0, hl, hli, hln, hhi, hhn, h100, h101, h102, h103]
end Go.Ab
