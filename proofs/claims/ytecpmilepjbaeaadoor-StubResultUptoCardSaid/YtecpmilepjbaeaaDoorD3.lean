/- Names of a list (layer 28) over the abstract machine. -/
import Derived.Test.YtecpmilepjbaeaaDoorK2
namespace Go.Ab
attribute [local simp] S.read S.write

/-- A name's bytes. -/
def enc (n : List UInt8) : List UInt8 := be 2 n.length ++ n
/-- Names as bytes. -/
def flat (ns : List (List UInt8)) : List UInt8 := (ns.map enc).flatten
def Short (ns : List (List UInt8)) : Prop := ∀ n ∈ ns, n.length ≤ 65535

theorem enc_num {n x : List UInt8} (h : n.length ≤ 65535) : num ((enc n ++ x).take 2) = n.length ∧ (enc n ++ x).drop 2 = n ++ x ∧ 2 ≤ (enc n ++ x).length := by
  have e : enc n ++ x = be 2 n.length ++ (n ++ x) := by simp [enc]
  rw [e, List.take_append_of_le_length (by simp), List.take_of_length_le (by simp), List.drop_append_of_le_length (by simp), List.drop_of_length_le (by simp), num_be]
  refine ⟨by simp; omega, by simp, by simp⟩
theorem enc_prefix {n m x y : List UInt8} (hn : n.length ≤ 65535) (hm : m.length ≤ 65535) (h : enc n ++ x = enc m ++ y) : n = m ∧ x = y := by
  have h1 := enc_num (x := x) hn
  have h2 := enc_num (x := y) hm
  rw [h] at h1
  have hl : n.length = m.length := by rw [← h1.1, h2.1]
  have h3 : n ++ x = m ++ y := by rw [← h1.2.1, h2.2.1]
  exact List.append_inj h3 hl
theorem flat_cons (n : List UInt8) (ns : List (List UInt8)) : flat (n :: ns) = enc n ++ flat ns := by simp [flat]
theorem flat_append (a b : List (List UInt8)) : flat (a ++ b) = flat a ++ flat b := by simp [flat]
theorem enc_length (n : List UInt8) : (enc n).length = n.length + 2 := by simp [enc]; omega
theorem flat_prefix : ∀ {ns ms : List (List UInt8)} {x : List UInt8}, Short ns → Short ms → flat ns ++ x = flat ms → ∃ ms', ms = ns ++ ms' ∧ x = flat ms'
  | [], ms, x, _, _, h => ⟨ms, rfl, by simpa [flat] using h⟩
  | n :: ns, ms, x, hn, hm, h => by
    cases ms with
    | nil =>
      have := congrArg List.length h
      simp [flat_cons, enc_length, flat] at this
    | cons m ms =>
      rw [flat_cons, flat_cons, List.append_assoc] at h
      obtain ⟨rfl, h2⟩ := enc_prefix (hn n (by simp)) (hm m (by simp)) h
      obtain ⟨ms', rfl, h3⟩ := flat_prefix (fun q hq => hn q (by simp [hq])) (fun q hq => hm q (by simp [hq])) h2
      exact ⟨ms', rfl, h3⟩
theorem flat_inj {ns ms : List (List UInt8)} (hn : Short ns) (hm : Short ms) (h : flat ns = flat ms) : ns = ms := by
  obtain ⟨ms', rfl, h2⟩ := flat_prefix (x := []) hn hm (by simpa using h)
  cases ms' with
  | nil => simp
  | cons m ms =>
    have := congrArg List.length h2
    simp [flat_cons, enc_length] at this
    omega
theorem flat_count (ns : List (List UInt8)) : 2 * ns.length ≤ (flat ns).length := by
  induction ns with
  | nil => simp [flat]
  | cons n ns ih => rw [flat_cons]; simp [enc_length]; omega

set_option maxRecDepth 10000 in
theorem names_ok {b : AV} {l : List UInt8} (s : S) (hb : Bytes s b l) (hl : l.length ≤ 1099511627776) : Ev tab 13 [b] s fun v s' => Ext s s' ∧
    ((∃ ns w, l = flat ns ∧ Short ns ∧ v = .tuple [w, .bool true] ∧ OwnL 1 s.ctr s' w ns.length (ns.map .str)) ∨ ((∀ ns, Short ns → l ≠ flat ns) ∧ v = .tuple [.snil, .bool false])) := by
  refine Ev.intro rfl rfl rfl ?_
  simp [pf13, pf13_12, pf13_11, pf13_10, pf13_9]
  refine WpC.loop (fun m r' s' => ∃ (a : Nat) (ns : List (List UInt8)) (w : AV), a ≤ l.length ∧ m = l.length - a ∧ l = flat ns ++ l.drop a ∧ (flat ns).length = a ∧ Short ns ∧ r' 0 = b ∧ r' 5 = .int .i64 a ∧ r' 4 = w ∧ OwnL 1 s.ctr s' w ns.length (ns.map .str) ∧ Keep s.ctr s s') (m := l.length) ?_ ?_
  · exact ⟨0, [], .snil, by omega, rfl, by simp [flat], by simp [flat], by simp [Short], by simp, by simp, by simp, OwnL.nil _ _ _, Keep.refl _ _⟩
  rintro m r' s' ⟨a, ns, w, ha, rfl, hla, hfa, hsh, e0, e5, e4, hw, hk⟩
  have hb' := hb.ext hk.ext
  have wl := hb'.wlen
  by_cases hlt : a < l.length
  · have hlt' : (a : Int) < l.length := by omega
    simp [pf13_8, pf13_7, e5, e0, wl, hlt', pf13_6]
    obtain ⟨q, hq⟩ : ∃ q, q = num ((l.drop a).take 2) := ⟨_, rfl⟩
    by_cases hok : a + 2 + q ≤ l.length
    · obtain ⟨B, hB⟩ : ∃ B, B = a + 2 + q := ⟨_, rfl⟩
      refine Ev.mono (getBytes_ok hb' (by omega) hq.symm hB (by omega)) ?_
      rintro v s1 ⟨hx1, d, rfl, hd⟩
      have kd := hd.bytes.cvbs_at.1
      obtain ⟨x, hx⟩ : ∃ x, x = (l.drop (a + 2)).take q := ⟨_, rfl⟩
      rw [← hx] at kd
      have hc1 := hx1.ctr
      have hkc := hk.ctr
      have hxl : x.length = q := by rw [hx]; simp; omega
      simp [pf13_5, pf13_4, pf13_2, e4, kd, -evI_cvbs, -wpI_cvbs]
      have hcount := flat_count ns
      refine cont_app_ownL (m := 1) (ds := [.str x]) (hw.ext (hx1.trans (by simp))) rfl ?_ rfl rfl ?_ (by omega) (by omega) ?_ ?_ ?_
      · simp [S.cellsOf]
      · simp
      · omega
      · simp; omega
      intro w3 s3 hw3 hk3
      simp [pf13_1]
      refine ⟨l.length - B, by omega, B, by omega, rfl, ns ++ [x], ?_, ?_, ?_, by simp [e0], rfl, ?_, ?_⟩
      · rw [flat_append, show flat [x] = enc x by simp [flat], List.append_assoc]
        have h2 : l.drop a = enc x ++ l.drop B := by
          have h3 : (l.drop a).take 2 = be 2 q := by
            have := be_num ((l.drop a).take 2)
            rw [← hq] at this
            rw [← this]
            congr 1
            simp; omega
          have h4 : l.drop a = (l.drop a).take 2 ++ (l.drop a).drop 2 := (List.take_append_drop 2 _).symm
          rw [h4, h3, enc, hxl, List.drop_drop, List.append_assoc]
          congr 1
          rw [hx, show l.drop B = (l.drop (a + 2)).drop q by rw [List.drop_drop, hB], List.take_append_drop]
        rw [← h2]
        exact hla
      · rw [flat_append, show flat [x] = enc x by simp [flat], List.length_append, enc_length, hfa, hxl, hB]; omega
      · intro n hn
        rcases List.mem_append.1 hn with hn | hn
        · exact hsh n hn
        · have : n = x := by simpa using hn
          subst this
          rw [hxl, hq]
          have := num_lt ((l.drop a).take 2)
          have h6 : ((l.drop a).take 2).length = 2 := by simp; omega
          rw [h6] at this
          omega
      · simpa using hw3
      · exact (hk.trans (Ext.keep (hx1.trans (by simp)) hkc)).trans hk3
    · refine Ev.mono (getBytes_no hb' (by omega) (by omega) (by omega)) ?_
      rintro v s1 ⟨rfl, rfl⟩
      simp [pf13_5, pf13_4, pf13_3]
      refine ⟨hk.ext, ?_⟩
      intro ms hms hlm
      rw [hlm] at hla
      obtain ⟨ms', rfl, h3⟩ := flat_prefix hsh hms hla.symm
      cases ms' with
      | nil =>
        have := congrArg List.length h3
        simp [flat] at this
        have h5 := congrArg List.length hlm
        simp [hfa] at h5
        rw [hlm] at hlt
        simp [hfa] at hlt
      | cons m ms =>
        have hm := hms m (by simp)
        have hld : l.drop a = enc m ++ flat ms := by rw [hlm, ← hfa, flat_append, List.drop_left, flat_cons]
        have h4 := enc_num (x := flat ms) hm
        rw [← hld] at h4
        have h5 := congrArg List.length hld
        simp [enc_length] at h5
        rw [h4.1] at hq
        omega
  obtain rfl : a = l.length := by omega
  have hlt' : ¬ (l.length : Int) < l.length := by omega
  simp [pf13_8, pf13_7, e5, e0, wl, pf13_0, e4]
  refine ⟨hk.ext, ns, ?_, hsh, hw⟩
  simpa using hla

end Go.Ab
