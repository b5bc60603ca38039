/- Oracles (layer 6) over the abstract machine: what they are asked. -/
import Derived.Test.YtecpmilepjbaeabDoorT2
namespace Go.Ab
attribute [local simp] S.read S.write

/-- An answer, or the tape's error. -/
def ansV : Option Nat → AV
  | some y => .tuple [.int .u64 (y : Int), .nilIface]
  | none => .tuple [.int .u64 0, .iface 32 (.int .i64 7)]

section
variable {s s' : S} {op : Nat} {q : Orc} {F : List Nat}

set_option maxRecDepth 10000 in
theorem ask_ok (h : Oc s op q F) (hq : q.rs.length ≤ 5000000000000) (f x : Nat) : Ev tab 18 [.ptr op 0, .int .i64 f, .int .u64 x] s fun v s' => Chg F s s' ∧ ∃ F', Grow F F' s.ctr ∧ Oc s' op (q.ask f x).2 F' ∧ v = ansV (q.ask f x).1 := by
  refine Ev.intro rfl rfl rfl ?_
  simp [pf18, pf18_9, pf18_8]
  refine Ev.mono (known_ok h f x) ?_
  rintro v s1 ⟨hx1, rfl⟩
  have h1 := h.ext hx1
  cases hk : q.known f x with
  | some y =>
    simp [pf18_7, pf18_6]
    have ha : q.ask f x = (some y, q) := by simp [Orc.ask, hk]
    rw [ha]
    exact ⟨hx1.chg F, F, Grow.refl _ _, h1, rfl⟩
  | none =>
    obtain ⟨av, fa, tp, ft, g1, g2, g3, rfl, g5, g6, g7, g8, g9⟩ := h1
    simp [pf18_7, pf18_5, g1]
    cases he : q.es[q.at_]? with
    | none =>
      have hat : q.at_ = q.es.length := by
        have := List.getElem?_eq_none_iff.1 he
        obtain ⟨_, _, _, _, _, _, a1, _⟩ := g3
        omega
      have g3' := g3
      rw [hat] at g3'
      refine Ev.mono (draw_no g3') ?_
      rintro v s2 ⟨rfl, rfl⟩
      have ha : q.ask f x = (none, q) := by simp [Orc.ask, hk, he]
      rw [ha]
      simp [pf18_4, pf18_3, pf18_2, ansV]
      exact ⟨hx1.chg _, _, Grow.refl _ _, ⟨av, fa, tp, ft, g1, g2, g3, rfl, g5, g6, g7, g8, g9⟩⟩
    | some y =>
      refine Ev.mono (draw_ok g3 he) ?_
      rintro v s2 ⟨hc2, hct2, rfl, hT2⟩
      have ha : q.ask f x = (some y, { q with rs := q.rs ++ [(f, x % w48, y)], at_ := q.at_ + 1 }) := by simp [Orc.ask, hk, he]
      rw [ha]
      have e1 : s2.get op = some (.cells [av, .ptr tp 0] 0 false) := by rw [hc2.get op g5 g9, g1]
      have o2 := g2.chg hc2 g7
      simp [pf18_4, pf18_3, pf18_1, e1]
      refine Ev.mono (cut_ok x s2) ?_
      rintro v s3 ⟨rfl, rfl⟩
      obtain ⟨z, hz⟩ : ∃ z, z = x % w48 := ⟨_, rfl⟩
      rw [← hz]
      simp [e1]
      refine cont_app_ownF (m := 1) (ds := [.int .i64 (f : Int), .int .u64 (z : Int), .int .u64 (y : Int)]) (o2.ext (by simp)) rfl ?_ rfl rfl (rows3_flat _) (by omega) (by omega) (by omega) ?_
      · simp [S.cellsOf]
      intro v4 s4 f4 hO hc hg
      have hopl : op < s3.ctr := by omega
      have hop3 : op ∉ fa := g8
      have e4 : s4.get op = some (.cells [av, .ptr tp 0] 0 false) := by
        rw [hc.get op (by simp; omega) hop3]
        simp [e1, show ¬ op = s3.ctr by omega]
      have f4f := hO.flat
      have c4 := hO.cells1
      have hop4 : op ∉ f4 := hO.other e4 (by decide)
      simp [e4, f4f, c4, pf18_0]
      have hctr := hc.ctr
      simp at hctr
      have hcs : Chg [op] s4 (s4.set op (some (.cells [v4, .ptr tp 0] 0 false))) := by simp
      have hO' := hO.chg hcs (fun w hw => by simp; rintro rfl; exact hop4 hw)
      have k3 : Chg fa s3 s4 := (Ext.chg (by simp) fa : Chg fa s3 (s3.new (.cells [.int .i64 (f : Int), .int .u64 (z : Int), .int .u64 (y : Int)] 0 false))).trans hc
      have hT4 := hT2.chg k3 g7.symm
      have hT5 := hT4.chg hcs (fun w hw => by simp; rintro rfl; exact g9 hw)
      have hftlt := hT2.lt
      refine ⟨?_, op :: (f4 ++ ft), ?_, ⟨v4, f4, tp, ft, by simp, ?_, hT5, rfl, by simp; omega, by simp; omega, ?_, hop4, g9⟩, rfl⟩
      · have q1 : Chg (op :: (fa ++ ft)) s s1 := hx1.chg _
        have q2 : Chg (op :: (fa ++ ft)) s1 s3 := hc2.sub (fun w hw => by simp [hw])
        have q3 : Chg (op :: (fa ++ ft)) s3 s4 := k3.sub (fun w hw => by simp [hw])
        have q4 : Chg (op :: (fa ++ ft)) s4 _ := hcs.sub (fun w hw => by simp at hw; simp [hw])
        exact ((q1.trans q2).trans q3).trans q4
      · intro w hw
        simp only [List.mem_cons, List.mem_append] at hw ⊢
        rcases hw with rfl | hw | hw
        · exact .inl (.inl rfl)
        · rcases hg w hw with hw | hw
          · exact .inl (.inr (.inl hw))
          · simp at hw
            have := hx1.ctr
            exact .inr (by omega)
        · exact .inl (.inr (.inr hw))
      · have : rows3 (q.rs ++ [(f, z, y)]) = rows3 q.rs ++ [.int .i64 (f : Int), .int .u64 (z : Int), .int .u64 (y : Int)] := by simp [rows3]
        show OwnF 3 _ v4 (q.rs ++ [(f, z, y)]).length (rows3 (q.rs ++ [(f, z, y)])) f4
        rw [this, List.length_append]
        exact hO'
      · refine g7.grow hg ?_
        intro w hw
        have := hftlt w hw
        simp; omega

/-- How many draws are left. -/
def Orc.left (q : Orc) : Nat := q.es.length - q.at_
end
end Go.Ab
