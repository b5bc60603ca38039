/- The server of files (layer 27), in plain Lean. -/
import Derived.Test.YtekkglhoeaipbaaDoorServ
import Derived.Test.YtekkglhoeaipbaaDoorAbMap
namespace Go.Ab

/-- Files by their numbers; how many were made; how many bytes they have. -/
structure Fls where
  files : List (Int × List UInt8)
  next : Nat
  bytes : Int
def Fls.get (x : Fls) (v : Int) : List UInt8 := (lkL v x.files).getD []
def flNeed (op : Nat) : Nat × Bool := if op = 100 then (4, true) else if op = 101 ∨ op = 102 then (1, true) else if op = 103 then (5, true) else (0, false)

/-- A new file. -/
def Fls.make (T : Tbl) (x : Fls) (b : List UInt8) : (Rs × Option Int) × Tbl × Fls :=
  if 65536 - x.bytes < b.length then ((Rs.zero, some 6), T, x)
  else match (T.create x.next).1.2 with
    | some e => ((Rs.zero, some e), (T.create x.next).2, x)
    | none => (({ Rs.zero with cap := (T.create x.next).1.1 }, none), (T.create x.next).2, ⟨setL (x.next : Int) b x.files, x.next + 1, x.bytes + b.length⟩)

/-- A file's bytes with others over them, from a place on. -/
def editL (b : List UInt8) (a : Nat) (d : List UInt8) : List UInt8 := if (b.take a ++ d).length < b.length then b.take a ++ d ++ b.drop (b.take a ++ d).length else b.take a ++ d

def fileV : Sv Fls where
  need := flNeed
  act := fun T x op v m =>
    if (decide (op = 100) != decide (v = -1)) = true then ((Rs.zero, some 3), T, x)
    else if op = 100 then x.make T m.data
    else if op = 102 then (({ Rs.zero with arg := (x.get v).length }, none), T, x)
    else if op = 101 then
      if 4096 < m.arg % 4294967296 then ((Rs.zero, some 4), T, x)
      else if (x.get v).length < m.arg / 4294967296 + m.arg % 4294967296 then ((Rs.zero, some 13), T, x)
      else (({ Rs.zero with data := ((x.get v).drop (m.arg / 4294967296)).take (m.arg % 4294967296) }, none), T, x)
    else if (x.get v).length < m.arg then ((Rs.zero, some 13), T, x)
    else x.make T (editL (x.get v) m.arg m.data)
  gone := fun x v => ⟨delL v x.files, x.next, x.bytes - (x.get v).length⟩

def Fls.fits (x : Fls) : Prop := x.next ≤ 1000000000 ∧ -1000000000 ≤ x.bytes ∧ x.bytes ≤ 1000000000 ∧ ∀ f ∈ x.files, f.2.length ≤ 1000000000

theorem lkL_mem {α : Type} {k : Int} {a : α} : ∀ {l : List (Int × α)}, lkL k l = some a → (k, a) ∈ l
  | (j, b) :: r, h => by
    unfold lkL at h
    split at h
    · rename_i e; subst e; cases h; simp
    · exact List.mem_cons_of_mem _ (lkL_mem h)
theorem Fls.get_len {x : Fls} (h : x.fits) (v : Int) : (x.get v).length ≤ 1000000000 := by
  unfold Fls.get
  cases hl : lkL v x.files with
  | none => simp
  | some l => exact h.2.2.2 _ (lkL_mem hl)
theorem editL_len (b : List UInt8) (a : Nat) (d : List UInt8) : (editL b a d).length ≤ b.length + d.length := by
  unfold editL
  split
  · simp; omega
  · simp; omega

theorem fileV_facts (T : Tbl) (x : Fls) (v : Int) (m : Ms) (hm : m.fit) : errOk (fileV.act T x m.op v m).1.2 ∧ (fileV.act T x m.op v m).1.1.data.length ≤ 140737488355328 := by
  have hmake : ∀ b, errOk (x.make T b).1.2 ∧ (x.make T b).1.1.data.length ≤ 140737488355328 := fun b => by
    unfold Fls.make
    split
    · exact ⟨errOk_some (by omega) (by omega), by simp [Rs.zero]⟩
    · have h := Tbl.create_err T x.next
      cases he : (T.create x.next).1.2 with
      | some e => simp only [he] at h ⊢; exact ⟨h, by simp [Rs.zero]⟩
      | none => exact ⟨errOk_none, by simp [Rs.zero]⟩
  simp only [fileV]
  split
  · exact ⟨errOk_some (by omega) (by omega), by simp [Rs.zero]⟩
  · split
    · exact hmake _
    · split
      · exact ⟨errOk_none, by simp [Rs.zero]⟩
      · split
        · split
          · exact ⟨errOk_some (by omega) (by omega), by simp [Rs.zero]⟩
          · split
            · exact ⟨errOk_some (by omega) (by omega), by simp [Rs.zero]⟩
            · refine ⟨errOk_none, ?_⟩
              simp only [List.length_take, List.length_drop]
              omega
        · split
          · exact ⟨errOk_some (by omega) (by omega), by simp [Rs.zero]⟩
          · exact hmake _
end Go.Ab
/-! The server of files (layer 27) over the abstract machine: its state in memory. -/
namespace Go.Ab

/-- Files in memory: the server's cells, the map, and the files' bytes, which are never changed. -/
def FlX (s : S) (xp tp : Nat) (x : Fls) (F : List Nat) : Prop := ∃ mp es G, s.get xp = some (.cells [.map mp, .int .i64 (x.next : Int), .int .i64 x.bytes, .ptr tp 0] 0 false) ∧ s.get mp = some (.map es) ∧ Ents Bytes s G es x.files ∧ F = xp :: mp :: G ∧ xp ≠ mp ∧ xp ∉ G ∧ mp ∉ G ∧ xp < s.ctr ∧ mp < s.ctr ∧ ∀ y ∈ G, y < s.ctr

section
variable {s s' : S} {xp tp : Nat} {x : Fls} {F : List Nat}
theorem FlX.lt (h : FlX s xp tp x F) : ∀ y ∈ F, y < s.ctr := by
  obtain ⟨mp, es, G, h1, h2, h3, rfl, h5, h6, h7, h8, h9, h10⟩ := h
  intro y hy
  simp only [List.mem_cons] at hy
  rcases hy with rfl | rfl | hy
  · exact h8
  · exact h9
  · exact h10 y hy
theorem FlX.chg {l : List Nat} (h : FlX s xp tp x F) (hc : Chg l s s') (hd : Apart F l) : FlX s' xp tp x F := by
  obtain ⟨mp, es, G, h1, h2, h3, rfl, h5, h6, h7, h8, h9, h10⟩ := h
  have := hc.ctr
  refine ⟨mp, es, G, by rw [hc.get xp h8 (hd xp (by simp)), h1], by rw [hc.get mp h9 (hd mp (by simp)), h2], h3.chg (fun hb ho => hb.chg hc ho) (fun y hy => hd y (by simp [hy])), rfl, h5, h6, h7, by omega, by omega, fun y hy => by have := h10 y hy; omega⟩
theorem FlX.ext (h : FlX s xp tp x F) (hx : Ext s s') : FlX s' xp tp x F := h.chg (hx.chg []) (fun _ _ => by simp)
end
end Go.Ab
/-! Bytes of one's own, cloned; the server of files (layer 27): needs; a file is gone. -/
namespace Go.Ab
attribute [local simp] lenV

/-- Bytes of one's own, or an empty slice of an empty block. -/
def OwnB (n : Nat) (s : S) (v : AV) (l : List UInt8) : Prop := Own n s v l ∨ (l = [] ∧ ∃ b, v = .slice b 0 0 0 false ∧ n ≤ b ∧ b < s.ctr ∧ s.get b = some (.cells [] 0 false))
section
variable {n : Nat} {s s' : S} {v w : AV} {l m : List UInt8}
theorem OwnB.bytes (h : OwnB n s v l) : Bytes s v l := by
  rcases h with h | ⟨rfl, b, rfl, h1, h2, h3⟩
  · exact h.bytes
  · exact ⟨rfl, by simp [S.cellsOf, S.read, h3, u8s], h2, .inr (.inr (.inl ⟨_, _, _, _, _, rfl⟩)), Nat.le_refl 0⟩
theorem OwnB.since (h : OwnB n s v l) : v.since n := by
  rcases h with h | ⟨rfl, b, rfl, h1, h2, h3⟩
  · exact h.since
  · exact h1
theorem OwnB.le {k : Nat} (h : OwnB n s v l) (hk : k ≤ n) : OwnB k s v l := by
  rcases h with h | ⟨rfl, b, rfl, h1, h2, h3⟩
  · exact .inl (h.le hk)
  · exact .inr ⟨rfl, b, rfl, by omega, h2, h3⟩
theorem OwnB.ext (h : OwnB n s v l) (hx : Ext s s') : OwnB n s' v l := by
  rcases h with h | ⟨rfl, b, rfl, h1, h2, h3⟩
  · exact .inl (h.ext hx)
  · exact .inr ⟨rfl, b, rfl, h1, by have := hx.ctr; omega, by rw [hx.get b h2, h3]⟩
theorem OwnB.blk (h : OwnB n s v l) : ∃ f, v.inF f ∧ ∀ y ∈ f, n ≤ y ∧ y < s.ctr := by
  rcases h with (⟨rfl, rfl⟩ | ⟨b, rfl, h1, h2, h3⟩) | ⟨rfl, b, rfl, h1, h2, h3⟩
  · exact ⟨[], trivial, by simp⟩
  · exact ⟨[b], by simp [AV.inF], by simp; exact ⟨h3, h2⟩⟩
  · exact ⟨[b], by simp [AV.inF], by simp; exact ⟨h1, h2⟩⟩
theorem cont_app_ownB {Q : AV → S → Prop} (h : OwnB n s v l) (hw : Bytes s w m) (hn : n ≤ s.ctr) (hl : l.length + m.length ≤ 140737488355328) (hq : ∀ v' s', OwnB n s' v' (l ++ m) → Keep n s s' → Q v' s') : cont (s.app 1 1 v w) Q := by
  rcases h with h | ⟨rfl, b, rfl, h1, h2, h3⟩
  · exact cont_app_own h hw hn hl (fun v' s' h1 h2 => hq v' s' (.inl h1) h2)
  · have e1 := hw.len
    have e2 := hw.cells
    by_cases hm : m = []
    · subst hm
      simp only [S.app, Option.bind_eq_bind, e1, e2, Option.bind_some]
      simp
      exact hq _ _ (.inr ⟨rfl, b, rfl, h1, h2, h3⟩) (Keep.refl _ _)
    · have hm0 : ¬ m.length = 0 := by simpa using hm
      have hr : roomA m.length 1 = true := by simp [roomA]; simp at hl; omega
      simp only [S.app, Option.bind_eq_bind, e1, e2, Option.bind_some]
      have hrd : s.read b 0 0 = some [] := by simp [S.read, h3]
      simp [hm0, hm, hr, hrd, u8s_flat]
      have := Own.made (n := n) (s := s.new (.cells (u8s m) 1 false)) (b := s.ctr) (l := m) (by simp) (by simp) hn
      exact hq _ _ (.inl (by simpa using this)) (Keep.new hn (Keep.refl _ _))

theorem clone_ok (hb : Bytes s v l) (hl : l.length ≤ 140737488355328) : Ev tab 134 [v] s fun w s' => Ext s s' ∧ OwnB s.ctr s' w l := by
  refine Ev.intro rfl rfl rfl ?_
  rcases hb.sort with rfl | hs
  · have hl0 : l = [] := by have := hb.len; simpa using this.symm
    subst hl0
    simp [pf134, pf134_3, pf134_2, pf134_1]
    exact .inl (Own.nil _ _)
  · have he : eqV .sl v .snil = some false := by
      rcases hs with ⟨a, rfl⟩ | ⟨b, o, n, c, opn, rfl⟩ | ⟨b, o1, o2, st, rfl⟩ <;> rfl
    simp [pf134, pf134_3, pf134_2, he, pf134_0]
    obtain ⟨s1, hs1⟩ : ∃ t, t = s.new (.cells [] 0 false) := ⟨_, rfl⟩
    have x1 : Ext s s1 := by rw [hs1]; simp
    have c1 : s1.ctr = s.ctr + 1 := by rw [hs1]; rfl
    have g1 : s1.get s.ctr = some (.cells [] 0 false) := by rw [hs1]; simp
    rw [← hs1]
    refine cont_app_ownB (n := s.ctr) (l := []) (.inr ⟨rfl, s.ctr, rfl, Nat.le_refl _, by omega, g1⟩) (hb.ext x1) (by omega) (by simpa using hl) ?_
    intro v' s2 hO hk
    simp
    exact ⟨x1.then hk, by simpa using hO⟩
end
end Go.Ab
/-! The server of files (layer 27) over the abstract machine: needs; a file is gone. -/
namespace Go.Ab
attribute [local simp] lenV

theorem flNeed_ok (xp op : Nat) (s : S) (hop : op < 65536) : Ev tab 132 [.ptr xp 0, .int .u16 (op : Int)] s fun v s' => s' = s ∧ v = .tuple [.int .u8 ((flNeed op).1 : Nat), .bool (flNeed op).2] := by
  refine Ev.intro rfl rfl rfl ?_
  unfold flNeed
  by_cases h0 : op = 100
  · subst h0
    simp [pf132, pf132_11, pf132_10, pf132_9, pf132_8, pf132_7]
  have h0i : ¬ (op : Int) = 100 := by omega
  by_cases h1 : op = 101
  · subst h1
    simp [pf132, pf132_11, pf132_10, pf132_9, pf132_8, pf132_5, pf132_6, pf132_3]
  have h1i : ¬ (op : Int) = 101 := by omega
  by_cases h2 : op = 102
  · subst h2
    simp [pf132, pf132_11, pf132_10, pf132_9, pf132_8, pf132_5, pf132_4, pf132_6, pf132_3]
  have h2i : ¬ (op : Int) = 102 := by omega
  by_cases h3 : op = 103
  · subst h3
    simp [pf132, pf132_11, pf132_10, pf132_9, pf132_8, pf132_5, pf132_4, pf132_6, pf132_2, pf132_1]
  have h3i : ¬ (op : Int) = 103 := by omega
  simp [pf132, pf132_11, pf132_10, pf132_9, pf132_8, pf132_5, pf132_4, pf132_6, pf132_2, pf132_0, h0, h1, h2, h3, h0i, h1i, h2i, h3i]

section
variable {s s' : S} {xp tp : Nat} {x : Fls} {F : List Nat}

/-- A file's bytes, found. -/
theorem Ents.get {G : List Nat} {es : List (AV × AV)} (h : Ents Bytes s G es x.files) (v : Int) : ∃ o, findA (.int .i64 v) es = some o ∧ Bytes s (o.getD .snil) (x.get v) ∧ (o.getD .snil).inF G := by
  rcases h.find v with ⟨q1, q2⟩ | ⟨u, l, q1, q2, q3, q4⟩
  · exact ⟨none, q1, by unfold Fls.get; rw [q2]; exact Bytes.nil s, trivial⟩
  · exact ⟨some u, q1, by unfold Fls.get; rw [q2]; exact q3, q4⟩

theorem flGone_ok (v : Int) (h : FlX s xp tp x F) (hf : x.fits) : Ev tab 131 [.ptr xp 0, .int .i64 v] s fun _ s' => Chg F s s' ∧ ∃ F', Grow F F' s.ctr ∧ FlX s' xp tp (fileV.gone x v) F' := by
  refine Ev.intro rfl rfl rfl ?_
  have hlen := Fls.get_len hf v
  obtain ⟨f1, f2, f3, f4⟩ := hf
  obtain ⟨mp, es, G, h1, h2, h3, rfl, h5, h6, h7, h8, h9, h10⟩ := h
  obtain ⟨o, q1, q2, q3⟩ := h3.get v
  have wl := q2.wlen
  have w : IntKind.i64.wrap (x.bytes - ((x.get v).length : Int)) = x.bytes - ((x.get v).length : Int) := by rw [wrap_i64] <;> omega
  obtain ⟨s1, hs1⟩ : ∃ t, t = s.set xp (some (.cells [.map mp, .int .i64 (x.next : Int), .int .i64 (x.bytes - ((x.get v).length : Int)), .ptr tp 0] 0 false)) := ⟨_, rfl⟩
  have g1 : s1.get xp = some (.cells [.map mp, .int .i64 (x.next : Int), .int .i64 (x.bytes - ((x.get v).length : Int)), .ptr tp 0] 0 false) := by rw [hs1]; simp
  have m1 : s1.get mp = some (.map es) := by rw [hs1, S.get_set, if_neg (fun e => h5 e.symm), h2]
  have d1 : Chg [xp] s s1 := by rw [hs1]; simp
  have fin : Chg (xp :: mp :: G) s (s1.set mp (some (.map (delA v es)))) ∧ ∃ F', Grow (xp :: mp :: G) F' s.ctr ∧ FlX (s1.set mp (some (.map (delA v es)))) xp tp (fileV.gone x v) F' := by
    have dd : Chg [xp, mp] s (s1.set mp (some (.map (delA v es)))) := Chg.set (.inr (by simp)) (d1.sub (fun y hy => by simp at hy; simp [hy]))
    refine ⟨dd.sub (fun y hy => by simp at hy ⊢; rcases hy with h | h <;> simp [h]), xp :: mp :: G, Grow.refl _ _, mp, delA v es, G, ?_, by simp, ?_, rfl, h5, h6, h7, by rw [hs1]; exact h8, by rw [hs1]; exact h9, fun y hy => by rw [hs1]; exact h10 y hy⟩
    · rw [S.get_set, if_neg h5, g1]; rfl
    · exact (h3.del v).chg (fun hb ho => hb.chg dd ho) (fun y hy => by simp only [List.mem_cons, List.not_mem_nil, or_false, not_or]; exact ⟨fun e => h6 (e ▸ hy), fun e => h7 (e ▸ hy)⟩)
  have he : ∀ s : S, s.get mp = some (.map es) → s.entries (.map mp) = some es := fun s h => by simp [S.entries, h]
  cases o with
  | none =>
    simp only [Option.getD_none] at wl
    simp [pf131, pf131_1, rd h1, he s h2, q1, wl, w, wrc h1, ← hs1, pf131_0, rd g1, m1]
    exact fin
  | some u =>
    simp only [Option.getD_some] at wl
    simp [pf131, pf131_1, rd h1, he s h2, q1, wl, w, wrc h1, ← hs1, pf131_0, rd g1, m1]
    exact fin
end
end Go.Ab
/-! The server of files (layer 27) over the abstract machine: a new file. -/
namespace Go.Ab
attribute [local simp] lenV

section
variable {s : S} {xp tp : Nat} {T : Tbl} {x : Fls} {F1 F2 : List Nat}
set_option maxRecDepth 10000 in
theorem flMake_ok (hT : Tb s tp T F1) (hX : FlX s xp tp x F2) (ha : Apart F1 F2) (ok : T.Ok) (hf : x.fits) {b : AV} {l : List UInt8} (hb : Bytes s b l) (hl : l.length ≤ 10000000000) (ho : b.out (F1 ++ F2)) :
    Ev tab 133 [.ptr xp 0, b] s fun u s' => Chg (F1 ++ F2) s s' ∧ ∃ F1' F2', Grow (F1 ++ F2) (F1' ++ F2') s.ctr ∧ Tb s' tp (x.make T l).2.1 F1' ∧ FlX s' xp tp (x.make T l).2.2 F2' ∧ Apart F1' F2' ∧ u = .tuple [.agg ((x.make T l).1.1.cells .snil), errV (x.make T l).1.2] := by
  refine Ev.intro rfl rfl rfl ?_
  obtain ⟨f1, f2, f3, f4⟩ := hf
  obtain ⟨s0, hs0⟩ : ∃ t, t = s.new (.cells [.int .u64 0, .int .u32 0, .int .u8 0, .int .u64 0, .int .u64 0, .snil] 0 false) := ⟨_, rfl⟩
  have x0 : Ext s s0 := by rw [hs0]; simp
  have c0 : s0.ctr = s.ctr + 1 := by rw [hs0]; rfl
  have g0 : s0.get s.ctr = some (.cells [.int .u64 0, .int .u32 0, .int .u8 0, .int .u64 0, .int .u64 0, .snil] 0 false) := by rw [hs0]; simp
  have hX0 := hX.ext x0
  have hT0 := hT.ext x0
  have hb0 := hb.ext x0
  have wl0 := hb0.wlen
  obtain ⟨mp, es, G, h1, h2, h3, hF2, h5, h6, h7, h8, h9, h10⟩ := hX0
  have w1 : IntKind.i64.wrap (65536 - x.bytes) = 65536 - x.bytes := by rw [wrap_i64] <;> omega
  have hlt1 := hT.lt
  have hlt2 := hX.lt
  have nr : s.ctr ∉ F1 ++ F2 := fun hx => by
    rcases List.mem_append.1 hx with h | h
    · have := hlt1 _ h; omega
    · have := hlt2 _ h; omega
  unfold Fls.make
  by_cases hm : 65536 - x.bytes < (l.length : Int)
  · rw [if_pos hm]
    simp [pf133, pf133_12, ← hs0, pf133_11, pf133_10, wl0, rd h1, w1, hm, pf133_9, wrc g0]
    obtain ⟨s1, hs1⟩ : ∃ t, t = s0.set s.ctr (some (.cells [.int .u64 0, .int .u32 0, .int .u8 0, .int .u64 0, .int .u64 0, .snil] 0 false)) := ⟨_, rfl⟩
    have x1 : Ext s s1 := by rw [hs1]; exact Ext.set (Nat.le_refl _) x0
    rw [← hs1]
    exact ⟨x1.chg _, F1, F2, Grow.refl _ _, hT.ext x1, hX.ext x1, ha, by simp [Rs.cells, Rs.zero, Cp.zero, Cp.cells, errV]⟩
  · rw [if_neg hm]
    obtain ⟨s1, hs1⟩ : ∃ t, t = s0.new (.cells [.int .u64 0, .int .u32 0, .int .u8 0, .int .u64 0] 0 false) := ⟨_, rfl⟩
    have x1 : Ext s0 s1 := by rw [hs1]; simp
    have x01 := x0.trans x1
    have c1 : s1.ctr = s0.ctr + 1 := by rw [hs1]; rfl
    have g1 : s1.get s0.ctr = some (.cells [.int .u64 0, .int .u32 0, .int .u8 0, .int .u64 0] 0 false) := by rw [hs1]; simp
    have g1r : s1.get s.ctr = some (.cells [.int .u64 0, .int .u32 0, .int .u8 0, .int .u64 0, .int .u64 0, .snil] 0 false) := by rw [x1.get _ (by omega), g0]
    have nc : s0.ctr ∉ F1 ++ F2 := fun hx => by
      rcases List.mem_append.1 hx with h | h
      · have := hlt1 _ h; omega
      · have := hlt2 _ h; omega
    simp [pf133, pf133_12, ← hs0, pf133_11, pf133_10, wl0, rd h1, w1, hm, pf133_8, ← hs1]
    refine Ev.mono (create_ok (hT.ext x01) ok (x.next : Int)) ?_
    rintro v s2 ⟨hc2, F1', hg2, hT2, rfl⟩
    have k2 := hc2.ctr
    obtain ⟨c, hcd⟩ : ∃ c, c = (T.create x.next).1.1 := ⟨_, rfl⟩
    obtain ⟨e, hed⟩ : ∃ e, e = (T.create x.next).1.2 := ⟨_, rfl⟩
    rw [← hcd, ← hed]
    have hF1n : ∀ y ∈ F1', y ∈ F1 ∨ s1.ctr ≤ y := hg2
    have hX2 : FlX s2 xp tp x F2 := (hX.ext x01).chg hc2 ha.symm
    have ap2 : Apart F1' F2 := fun y hy hy2 => by
      rcases hF1n y hy with h | h
      · exact ha y h hy2
      · have := hlt2 y hy2; omega
    have hc02 : Chg F1 s s2 := (x01.chg _).trans hc2
    have g2 : s2.get s0.ctr = some (.cells [.int .u64 0, .int .u32 0, .int .u8 0, .int .u64 0] 0 false) := by rw [hc2.get _ (by omega) (fun hx => nc (by simp [hx])), g1]
    have g2r : s2.get s.ctr = some (.cells [.int .u64 0, .int .u32 0, .int .u8 0, .int .u64 0, .int .u64 0, .snil] 0 false) := by rw [hc2.get _ (by omega) (fun hx => nr (by simp [hx])), g1r]
    obtain ⟨s3, hs3⟩ : ∃ t, t = s2.set s0.ctr (some (.cells [.int .u64 (c.p : Int), .int .u32 (c.o : Int), .int .u8 (c.r : Int), .int .u64 (c.k : Int)] 0 false)) := ⟨_, rfl⟩
    have d3 : Chg [s0.ctr] s2 s3 := by rw [hs3]; simp
    have c3 : s3.ctr = s2.ctr := by rw [hs3]; rfl
    have g3 : s3.get s0.ctr = some (.cells [.int .u64 (c.p : Int), .int .u32 (c.o : Int), .int .u8 (c.r : Int), .int .u64 (c.k : Int)] 0 false) := by rw [hs3]; simp
    have g3r : s3.get s.ctr = some (.cells [.int .u64 0, .int .u32 0, .int .u8 0, .int .u64 0, .int .u64 0, .snil] 0 false) := by rw [d3.get _ (by omega) (by simp; omega), g2r]
    have nF1' : ∀ i, s.ctr ≤ i → i < s1.ctr → i ∉ F1' := fun i h1 h2 hx => by
      rcases hF1n i hx with h | h
      · have := hlt1 i h; omega
      · omega
    have nF2 : ∀ i, s.ctr ≤ i → i ∉ F2 := fun i h1 hx => by have := hlt2 i hx; omega
    have hT3 : Tb s3 tp (T.create x.next).2 F1' := hT2.chg d3 (fun y hy => by simp; rintro rfl; exact nF1' _ (by omega) (by omega) hy)
    have hX3 : FlX s3 xp tp x F2 := hX2.chg d3 (fun y hy => by simp; rintro rfl; exact nF2 _ (by omega) hy)
    have hc03 : Chg (F1 ++ F2) s s3 := by rw [hs3]; exact Chg.set (.inl (by omega)) hc02.l1
    have hg13 : Grow (F1 ++ F2) (F1' ++ F2) s.ctr := fun y hy => by
      rcases List.mem_append.1 hy with h | h
      · rcases hF1n y h with h | h
        · exact .inl (by simp [h])
        · exact .inr (by omega)
      · exact .inl (by simp [h])
    cases e with
    | some e =>
      simp [capE, capA, Cp.cells, wrc g2, ← hs3, errV, pf133_7, pf133_5, pf133_4, wrc g3r]
      obtain ⟨s4, hs4⟩ : ∃ t, t = s3.set s.ctr (some (.cells [.int .u64 0, .int .u32 0, .int .u8 0, .int .u64 0, .int .u64 0, .snil] 0 false)) := ⟨_, rfl⟩
      have d4 : Chg [s.ctr] s3 s4 := by rw [hs4]; simp
      rw [← hs4]
      refine ⟨by rw [hs4]; exact Chg.set (.inl (Nat.le_refl _)) hc03, F1', F2, hg13, hT3.chg d4 (fun y hy => by simp; rintro rfl; exact nF1' _ (by omega) (by omega) hy), hX3.chg d4 (fun y hy => by simp; rintro rfl; exact nF2 _ (by omega) hy), ap2, by simp [Rs.cells, Rs.zero, Cp.zero, Cp.cells]⟩
    | none =>
      obtain ⟨mp', es', G', z1, z2, z3, hF2', z5, z6, z7, z8, z9, z10⟩ := hX3
      have he : ∀ s : S, s.get mp' = some (.map es') → s.entries (.map mp') = some es' := fun s h => by simp [S.entries, h]
      simp [capE, capA, Cp.cells, wrc g2, ← hs3, errV, pf133_7, pf133_5, pf133_6, pf133_3, rd z1]
      have hb3 : Bytes s3 b l := hb.chg hc03 ho
      refine Ev.mono (clone_ok hb3 (by omega)) ?_
      rintro w s4 ⟨x4, hw⟩
      have k4 := x4.ctr
      have z1' : s4.get xp = some (.cells [.map mp', .int .i64 (x.next : Int), .int .i64 x.bytes, .ptr tp 0] 0 false) := by rw [x4.get _ z8, z1]
      have z2' : s4.get mp' = some (.map es') := by rw [x4.get _ z9, z2]
      obtain ⟨r, hr⟩ := z3.found (x.next : Int)
      obtain ⟨fw, hw1, hw2⟩ := hw.blk
      obtain ⟨s5, hs5⟩ : ∃ t, t = s4.set mp' (some (.map (setA (.int .i64 (x.next : Int)) w (x.next : Int) es'))) := ⟨_, rfl⟩
      have d5 : Chg [mp'] s4 s5 := by rw [hs5]; simp
      have m5 : s5.get mp' = some (.map (setA (.int .i64 (x.next : Int)) w (x.next : Int) es')) := by rw [hs5]; simp
      have y5 : s5.get xp = some (.cells [.map mp', .int .i64 (x.next : Int), .int .i64 x.bytes, .ptr tp 0] 0 false) := by rw [d5.get _ (by omega) (by simp; exact z5), z1']
      obtain ⟨s6, hs6⟩ : ∃ t, t = s5.set xp (some (.cells [.map mp', .int .i64 ((x.next : Int) + 1), .int .i64 x.bytes, .ptr tp 0] 0 false)) := ⟨_, rfl⟩
      have y6 : s6.get xp = some (.cells [.map mp', .int .i64 ((x.next : Int) + 1), .int .i64 x.bytes, .ptr tp 0] 0 false) := by rw [hs6]; simp
      have d6 : Chg [xp] s5 s6 := by rw [hs6]; simp
      obtain ⟨s7, hs7⟩ : ∃ t, t = s6.set xp (some (.cells [.map mp', .int .i64 ((x.next : Int) + 1), .int .i64 (x.bytes + (l.length : Int)), .ptr tp 0] 0 false)) := ⟨_, rfl⟩
      have y7 : s7.get xp = some (.cells [.map mp', .int .i64 ((x.next : Int) + 1), .int .i64 (x.bytes + (l.length : Int)), .ptr tp 0] 0 false) := by rw [hs7]; simp
      have d7 : Chg [xp] s6 s7 := by rw [hs7]; simp
      have c5 : s5.ctr = s4.ctr := by rw [hs5]; rfl
      have c6 : s6.ctr = s4.ctr := by rw [hs6]; exact c5
      have c7 : s7.ctr = s4.ctr := by rw [hs7]; exact c6
      have wn : IntKind.i64.wrap ((x.next : Int) + 1) = (x.next : Int) + 1 := by rw [wrap_i64] <;> omega
      have wb : IntKind.i64.wrap (x.bytes + (l.length : Int)) = x.bytes + (l.length : Int) := by rw [wrap_i64] <;> omega
      have d57 : Chg [mp', xp] s4 s7 := ((d5.sub (fun y hy => by simp at hy; simp [hy])).trans (d6.sub (fun y hy => by simp at hy; simp [hy]))).trans (d7.sub (fun y hy => by simp at hy; simp [hy]))
      have xpF : xp ∈ F2 := by rw [hF2']; simp
      have mpF : mp' ∈ F2 := by rw [hF2']; simp
      have xl := hlt2 _ xpF
      have ml := hlt2 _ mpF
      have hrne : ∀ i, s.ctr ≤ i → i ∉ [mp', xp] := fun i hi => by simp; omega
      have g7 : s7.get s0.ctr = some (.cells [.int .u64 (c.p : Int), .int .u32 (c.o : Int), .int .u8 (c.r : Int), .int .u64 (c.k : Int)] 0 false) := by rw [d57.get _ (by omega) (hrne _ (by omega)), x4.get _ (by omega), g3]
      have g7r : s7.get s.ctr = some (.cells [.int .u64 0, .int .u32 0, .int .u8 0, .int .u64 0, .int .u64 0, .snil] 0 false) := by rw [d57.get _ (by omega) (hrne _ (by omega)), x4.get _ (by omega), g3r]
      have wl7 : Bytes s4 b l := hb3.ext x4
      simp [rd z1', z2', hr, ← hs5, pf133_2, rd y5, wn, wrc y5, ← hs6]
      have hb6 : Bytes s6 b l := by
        have q1 := (wl7.chg (d5.trans (Chg.refl _ _)) (by
          have hb' := ho
          have hbl := hb.below
          cases b <;> first | trivial | (simp only [AV.out] at hb' ⊢; simp; rintro rfl; exact hb' (by simp [mpF]))))
        exact q1.chg d6 (by
          have hb' := ho
          cases b <;> first | trivial | (simp only [AV.out] at hb' ⊢; simp; rintro rfl; exact hb' (by simp [xpF])))
      have wl6 := hb6.wlen
      simp [pf133_1, rd y6, wl6, wb, wrc y6, ← hs7, pf133_0, rd g7, wrc g7r]
      obtain ⟨s8, hs8⟩ : ∃ t, t = s7.set s.ctr (some (.cells [.int .u64 (c.p : Int), .int .u32 (c.o : Int), .int .u8 (c.r : Int), .int .u64 (c.k : Int), .int .u64 0, .snil] 0 false)) := ⟨_, rfl⟩
      have d8 : Chg [s.ctr] s7 s8 := by rw [hs8]; simp
      have c8 : s8.ctr = s4.ctr := by rw [hs8]; exact c7
      rw [← hs8]
      have hGF : ∀ y ∈ G', y ∈ F2 := fun y hy => by rw [hF2']; simp [hy]
      have d48 : Chg [mp', xp, s.ctr] s4 s8 := (d57.sub (fun y hy => by simp at hy; rcases hy with h | h <;> simp [h])).trans (d8.sub (fun y hy => by simp at hy; simp [hy]))
      have hwo : w.out [mp', xp, s.ctr] := by
        have hsi := hw.since
        cases w <;> first | trivial | (simp only [AV.since] at hsi; simp only [AV.out]; simp; omega)
      have hG8 : ∀ y ∈ G', y ∉ [mp', xp, s.ctr] := fun y hy => by
        have := hlt2 y (hGF y hy)
        simp only [List.mem_cons, List.not_mem_nil, or_false, not_or]
        exact ⟨fun e => z7 (e ▸ hy), fun e => z6 (e ▸ hy), by omega⟩
      have hE : Ents Bytes s8 (G' ++ fw) (setA (.int .i64 (x.next : Int)) w (x.next : Int) es') (setL (x.next : Int) l x.files) := by
        refine Ents.set (x.next : Int) (hw.bytes.chg d48 hwo) (hw1.mono (fun y hy => by simp [hy])) ?_
        refine Ents.mono (F := G') (fun y hy => by simp [hy]) ?_
        exact z3.chg (fun hbb hoo => (hbb.ext x4).chg d48 hoo) hG8
      have hall : Chg (F1 ++ F2) s s8 := (hc03.trans (x4.chg _)).comp d48 (fun y hy => by
        simp only [List.mem_cons, List.not_mem_nil, or_false] at hy
        rcases hy with rfl | rfl | rfl
        · left; simp [mpF]
        · left; simp [xpF]
        · right; exact Nat.le_refl _)
      refine ⟨hall, F1', xp :: mp' :: (G' ++ fw), ?_, ?_, ⟨mp', _, G' ++ fw, ?_, ?_, hE, rfl, z5, ?_, ?_, by omega, by omega, ?_⟩, ?_, by simp [Rs.cells, Rs.zero, Cp.cells]⟩
      · intro y hy
        simp only [List.mem_append, List.mem_cons] at hy
        rcases hy with hy | rfl | rfl | hy | hy
        · exact hg13 y (by simp [hy])
        · left; simp [xpF]
        · left; simp [mpF]
        · left; simp [hGF y hy]
        · right; have := hw2 y hy; omega
      · exact ((hT3.ext x4).chg d57 (fun y hy => by
          simp only [List.mem_cons, List.not_mem_nil, or_false, not_or]
          exact ⟨fun e => ap2 y hy (e ▸ mpF), fun e => ap2 y hy (e ▸ xpF)⟩)).chg d8 (fun y hy => by simp; rintro rfl; exact nF1' _ (by omega) (by omega) hy)
      · rw [d8.get _ (by omega) (by simp; omega), y7]; simp
      · rw [d8.get _ (by omega) (by simp; omega), d7.get _ (by omega) (by simp; exact fun e => z5 e.symm), d6.get _ (by omega) (by simp; exact fun e => z5 e.symm), m5]
      · simp only [List.mem_append, not_or]
        exact ⟨z6, fun hx => by have := hw2 _ hx; omega⟩
      · simp only [List.mem_append, not_or]
        exact ⟨z7, fun hx => by have := hw2 _ hx; omega⟩
      · intro y hy
        rcases List.mem_append.1 hy with hy | hy
        · have := hlt2 y (hGF y hy); omega
        · have := hw2 y hy; omega
      · intro y hy hy2
        simp only [List.mem_cons, List.mem_append] at hy2
        rcases hy2 with rfl | rfl | hy2 | hy2
        · exact ap2 _ hy xpF
        · exact ap2 _ hy mpF
        · exact ap2 _ hy (hGF y hy2)
        · have h1 := hw2 y hy2
          have := hT2.lt y hy
          omega
end
end Go.Ab
/-! The server of files (layer 27) over the abstract machine: what it does. -/
namespace Go.Ab
attribute [local simp] lenV

theorem band32 (x : Nat) (hx : x < 18446744073709551616) : binV .and (.int .u64 (x : Int)) (.int .u64 4294967295) = some (.int .u64 ((x % 4294967296 : Nat) : Int)) := by
  rw [binV_and]
  have e1 : (BitVec.ofInt IntKind.u64.bits (x : Int) &&& BitVec.ofInt IntKind.u64.bits 4294967295).toNat = x % 4294967296 := by
    rw [BitVec.toNat_and]
    have h1 : (BitVec.ofInt IntKind.u64.bits (x : Int)).toNat = x := by simp only [IntKind.bits, BitVec.toNat_ofInt]; omega
    have h2 : (BitVec.ofInt IntKind.u64.bits 4294967295).toNat = 2 ^ 32 - 1 := by decide
    rw [h1, h2, Nat.and_two_pow_sub_one_eq_mod]
  rw [e1, wrap_u64 (by omega) (by omega)]
theorem shr32 (x : Nat) (hx : x < 18446744073709551616) : binV .shr (.int .u64 (x : Int)) (.int .u64 32) = some (.int .u64 ((x / 4294967296 : Nat) : Int)) := by
  simp [IntKind.bits]
  rw [Int.fdiv_eq_ediv_of_nonneg _ (by omega)]

theorem Bytes.head {s : S} {v : AV} {l : List UInt8} (h : Bytes s v l) {hi : Nat} {k2 : IntKind} (h2 : hi ≤ l.length) : ∃ u, S.slice 1 v none (some (.int k2 (hi : Int))) none = some u ∧ Bytes s u (l.take hi) ∧ (∀ n, v.inS n → u.inS n) ∧ (∀ n, v.since n → u.since n) := by
  obtain ⟨u, h1, h3⟩ := h.part (lo := 0) (hi := hi) (k := .i64) (k2 := k2) (by omega) h2
  refine ⟨u, ?_, by simpa using h3⟩
  rw [← h1]
  rcases h.sort with rfl | ⟨za, rfl⟩ | ⟨b, o, n, c, opn, rfl⟩ | ⟨eb, eo1, eo2, est, rfl⟩
  · simp only [S.slice, S.slice2]
    cases hq : asBound 0 (some (.int k2 (hi : Int))) <;> simp [asBound]
  · simp only [S.slice, S.slice2]
    cases hq : asBound 0 (some (.int k2 (hi : Int))) <;> simp [asBound]
  · cases opn with
    | true =>
      simp only [S.slice, S.slice2]
      cases hq : asBound n (some (.int k2 (hi : Int))) <;> simp [asBound]
    | false =>
      simp only [S.slice, S.slice2]
      cases hq : asBound c (some (.int k2 (hi : Int))) <;> simp [asBound]
  · simp only [S.slice, S.slice2]
    cases hq : asBound 0 (some (.int k2 (hi : Int))) <;> simp [asBound]


theorem make_data (T : Tbl) (x : Fls) (l : List UInt8) : (x.make T l).1.1.data = [] := by
  unfold Fls.make
  split
  · rfl
  · cases (T.create x.next).1.2 <;> rfl

section
variable {s : S} {xp tp : Nat} {T : Tbl} {x : Fls} {F1 F2 : List Nat} {m : Ms} {d : AV}
set_option maxRecDepth 10000 in
set_option maxHeartbeats 1000000 in
theorem flDo_ok (op : Nat) (v : Int) (hT : Tb s tp T F1) (hX : FlX s xp tp x F2) (ha : Apart F1 F2) (ok : T.Ok) (hf : x.fits) (hm : m.fit) (hmo : m.data.length ≤ 1000000000) (hd : Bytes s d m.data) (ho : d.out (F1 ++ F2)) :
    Ev tab 130 [.ptr xp 0, .int .u16 (op : Int), .int .i64 v, .agg (m.cells d)] s fun u s' => Chg (F1 ++ F2) s s' ∧ ∃ F1' F2' dv, Grow (F1 ++ F2) (F1' ++ F2') s.ctr ∧ Tb s' tp (fileV.act T x op v m).2.1 F1' ∧ FlX s' xp tp (fileV.act T x op v m).2.2 F2' ∧ Apart F1' F2' ∧
      Bytes s' dv (fileV.act T x op v m).1.1.data ∧ (dv = d ∨ dv.since s.ctr) ∧ u = .tuple [.agg ((fileV.act T x op v m).1.1.cells dv), errV (fileV.act T x op v m).1.2] := by
  refine Ev.intro rfl rfl rfl ?_
  have fl := hd.flat
  obtain ⟨s0, hs0⟩ : ∃ t, t = s.new (.cells (m.cells d) 0 false) := ⟨_, rfl⟩
  have x0 : Ext s s0 := by rw [hs0]; simp
  have c0 : s0.ctr = s.ctr + 1 := by rw [hs0]; rfl
  have b0 : s0.get s.ctr = some (.cells (m.cells d) 0 false) := by rw [hs0]; simp
  obtain ⟨s1, hs1⟩ : ∃ t, t = s0.new (.cells [.int .u64 0, .int .u32 0, .int .u8 0, .int .u64 0, .int .u64 0, .snil] 0 false) := ⟨_, rfl⟩
  have x1 : Ext s0 s1 := by rw [hs1]; simp
  have x01 := x0.trans x1
  have c1 : s1.ctr = s0.ctr + 1 := by rw [hs1]; rfl
  have g1 : s1.get s0.ctr = some (.cells [.int .u64 0, .int .u32 0, .int .u8 0, .int .u64 0, .int .u64 0, .snil] 0 false) := by rw [hs1]; simp
  have b1 : s1.get s.ctr = some (.cells (m.cells d) 0 false) := by rw [x1.get _ (by omega), b0]
  have hlt1 := hT.lt
  have hlt2 := hX.lt
  have hT1 := hT.ext x01
  have hX1 := hX.ext x01
  -- an error
  obtain ⟨sE, hsE⟩ : ∃ t, t = s1.set s0.ctr (some (.cells [.int .u64 0, .int .u32 0, .int .u8 0, .int .u64 0, .int .u64 0, .snil] 0 false)) := ⟨_, rfl⟩
  have xE : Ext s sE := by rw [hsE]; exact Ext.set (by omega) x01
  have err : ∀ (e : Int), Chg (F1 ++ F2) s sE ∧ ∃ F1' F2' dv, Grow (F1 ++ F2) (F1' ++ F2') s.ctr ∧ Tb sE tp T F1' ∧ FlX sE xp tp x F2' ∧ Apart F1' F2' ∧ Bytes sE dv [] ∧ (dv = d ∨ dv.since s.ctr) ∧
      (AV.tuple [.agg [.int .u64 0, .int .u32 0, .int .u8 0, .int .u64 0, .int .u64 0, .snil], .iface 43 (.int .i64 e)]) = .tuple [.agg (Rs.zero.cells dv), errV (some e)] :=
    fun e => ⟨xE.chg _, F1, F2, .snil, Grow.refl _ _, hT.ext xE, hX.ext xE, ha, Bytes.nil _, .inr trivial, by simp [Rs.cells, Rs.zero, Cp.zero, Cp.cells, errV]⟩
  unfold Ms.cells at hs0 b1
  have gE : sE.get s0.ctr = some (.cells [.int .u64 0, .int .u32 0, .int .u8 0, .int .u64 0, .int .u64 0, .snil] 0 false) := by rw [hsE]; simp
  have hX1' := hX1
  obtain ⟨mp, es, G, z1, z2, z3, hF2, z5, z6, z7, z8, z9, z10⟩ := hX1'
  obtain ⟨o, q1, q2, q3⟩ := z3.get v
  have wl := q2.wlen
  obtain ⟨u, hu⟩ : ∃ u, u = o.getD .snil := ⟨_, rfl⟩
  rw [← hu] at q2 q3 wl
  have he : ∀ s : S, s.get mp = some (.map es) → s.entries (.map mp) = some es := fun s h => by simp [S.entries, h]
  have hlk : ∀ (T : Tab) (r : Regs) (a k : Opd) (Q : AV → S → Prop), a.ev r = .map mp → k.ev r = .int .i64 v → WpI T (.lkup .snil a k false) r s1 Q = Q u s1 := by
    intro T r a k Q h1 h2
    rw [wpI_lkup, h1, h2]
    simp only [he s1 z2, q1]
    cases o with
    | none => rw [hu]; rfl
    | some w => rw [hu]; rfl
  have hdb1 : Bytes s1 d m.data := hd.ext x01
  have hgl := Fls.get_len hf v
  -- the end: what 'make' leaves is laid
  have fin : ∀ (l : List UInt8) (s2 s3 : S) (F1' F2' : List Nat), Ext s s2 → s0.ctr < s2.ctr → Chg (F1 ++ F2) s2 s3 → Grow (F1 ++ F2) (F1' ++ F2') s2.ctr → s3.get s0.ctr = some (.cells [.int .u64 0, .int .u32 0, .int .u8 0, .int .u64 0, .int .u64 0, .snil] 0 false) →
      Tb s3 tp (x.make T l).2.1 F1' → FlX s3 xp tp (x.make T l).2.2 F2' → Apart F1' F2' → ∀ s4, s4 = s3.set s0.ctr (some (.cells ((x.make T l).1.1.cells .snil) 0 false)) → Chg (F1 ++ F2) s s4 ∧ Grow (F1 ++ F2) (F1' ++ F2') s.ctr ∧ Tb s4 tp (x.make T l).2.1 F1' ∧ FlX s4 xp tp (x.make T l).2.2 F2' := by
    intro l s2 s3 F1' F2' x2 hl2 hc hg hg3 hT3 hX3 hap s4 hs4
    have k2 := x2.ctr
    have hn : s0.ctr ∉ F1' ++ F2' := hg.mem hl2 (fun hx => by
      rcases List.mem_append.1 hx with h | h
      · have := hlt1 _ h; omega
      · have := hlt2 _ h; omega)
    have d4 : Chg [s0.ctr] s3 s4 := by rw [hs4]; simp
    refine ⟨by rw [hs4]; exact Chg.set (.inl (by omega)) ((x2.chg _).trans hc), hg.le (by omega), hT3.chg d4 (fun y hy => by simp; rintro rfl; exact hn (by simp [hy])), hX3.chg d4 (fun y hy => by simp; rintro rfl; exact hn (by simp [hy]))⟩
  have nres : s0.ctr ∉ F1 ++ F2 := fun hx => by
    rcases List.mem_append.1 hx with h | h
    · have := hlt1 _ h; omega
    · have := hlt2 _ h; omega
  have wlen : IntKind.u64.wrap ((x.get v).length : Int) = ((x.get v).length : Int) := by rw [wrap_u64] <;> omega
  have hmake : ∀ l : List UInt8, (x.make T l).1.1.data = [] := fun l => make_data T x l
  -- a result without an error
  have lays : ∀ (s2 : S), Ext s1 s2 → ∀ (r : Rs) (dv : AV) (rd : List UInt8), r.data = rd → Bytes s2 dv rd → (dv = .snil ∨ dv.since s1.ctr) → Chg (F1 ++ F2) s (s2.set s0.ctr (some (.cells (r.cells dv) 0 false))) ∧ ∃ F1' F2', Grow (F1 ++ F2) (F1' ++ F2') s.ctr ∧ Tb (s2.set s0.ctr (some (.cells (r.cells dv) 0 false))) tp T F1' ∧ FlX (s2.set s0.ctr (some (.cells (r.cells dv) 0 false))) xp tp x F2' ∧ Apart F1' F2' ∧
      ∃ d', Bytes (s2.set s0.ctr (some (.cells (r.cells dv) 0 false))) d' rd ∧ (d' = d ∨ d'.since s.ctr) ∧ r.cells dv = r.cells d' := by
    intro s2 x2 r dv rd hrd hb hdv
    have x02 := x01.trans x2
    have xx : Ext s (s2.set s0.ctr (some (.cells (r.cells dv) 0 false))) := Ext.set (by omega) x02
    refine ⟨xx.chg _, F1, F2, Grow.refl _ _, hT.ext xx, hX.ext xx, ha, dv, ?_, ?_, rfl⟩
    · rcases hdv with rfl | hsi
      · have hl := hb.len
        have : rd = [] := by simpa [lenV] using hl.symm
        rw [this]; exact Bytes.nil _
      · exact hb.set hsi (by omega)
    · rcases hdv with rfl | hsi
      · exact .inr trivial
      · right
        cases dv <;> first | trivial | (simp only [AV.since] at hsi ⊢; omega)
  simp only [fileV]
  by_cases h1 : op = 100
  · subst h1
    by_cases hv : v = -1
    · subst hv
      simp [pf130, pf130_30, Ms.cells, fl, ← hs0, ← hs1, pf130_29, pf130_28, pf130_26, rd z1, hlk, pf130_25, pf130_23, pf130_22, pf130_21, rd b1]
      refine Ev.mono (flMake_ok hT1 hX1 ha ok hf hdb1 (by omega) ho) ?_
      rintro w s3 ⟨hc3, F1', F2', hg3, hT3, hX3, hap3, rfl⟩
      have k3 := hc3.ctr
      have g3 : s3.get s0.ctr = some (.cells [.int .u64 0, .int .u32 0, .int .u8 0, .int .u64 0, .int .u64 0, .snil] 0 false) := by rw [hc3.get _ (by omega) nres, g1]
      obtain ⟨s4, hs4⟩ : ∃ t, t = s3.set s0.ctr (some (.cells ((x.make T m.data).1.1.cells .snil) 0 false)) := ⟨_, rfl⟩
      obtain ⟨f1, f2, f3, f4⟩ := fin m.data s1 s3 F1' F2' x01 (by omega) hc3 hg3 g3 hT3 hX3 hap3 s4 hs4
      have wr : s3.write s0.ctr 0 ((x.make T m.data).1.1.cells .snil) = some s4 := by
        rw [wrc g3 (by simp) (Rs.cells_flat rfl), over6 _ _ _ rfl, hs4]
      have g4 : s4.get s0.ctr = some (.cells ((x.make T m.data).1.1.cells .snil) 0 false) := by rw [hs4]; simp
      have r4 : s4.read s0.ctr 0 6 = some ((x.make T m.data).1.1.cells .snil) := by
        rw [rd g4 (by simp)]
        exact congrArg some (List.take_of_length_le (by simp))
      simp [wr, r4]
      exact ⟨f1, F1', F2', f2, f3, f4, hap3, .snil, by rw [make_data]; exact Bytes.nil _, .inr trivial, rfl⟩
    · simp [pf130, pf130_30, Ms.cells, fl, ← hs0, ← hs1, pf130_29, pf130_28, hv, pf130_27, wrc g1, ← hsE, rd gE]
      simpa [Rs.zero] using err 3
  have h1i : ¬ (op : Int) = 100 := by omega
  by_cases hv : v = -1
  · subst hv
    simp [pf130, pf130_30, Ms.cells, fl, ← hs0, ← hs1, pf130_29, pf130_28, h1, h1i, pf130_27, wrc g1, ← hsE, rd gE]
    simpa [Rs.zero] using err 3
  by_cases h2 : op = 102
  · subst h2
    simp [pf130, pf130_30, Ms.cells, fl, ← hs0, ← hs1, pf130_29, pf130_28, hv, pf130_26, rd z1, hlk, pf130_25, pf130_23, pf130_22, pf130_20, pf130_19, pf130_18, wl, wlen, wrc g1]
    have := lays s1 (Ext.refl _) ⟨Cp.zero, (x.get v).length, []⟩ .snil [] rfl (Bytes.nil _) (.inl rfl)
    simpa [Rs.cells, Cp.zero, Cp.cells, Rs.zero, errV] using this
  have h2i : ¬ (op : Int) = 102 := by omega
  have harg : m.arg < 18446744073709551616 := hm.2.2.2.2.2.2.2.2.2.1
  by_cases h3 : op = 101
  · subst h3
    have hsr := shr32 m.arg harg
    have hba := band32 m.arg harg
    obtain ⟨n, hn⟩ : ∃ n, n = m.arg % 4294967296 := ⟨_, rfl⟩
    obtain ⟨a, haa⟩ : ∃ a, a = m.arg / 4294967296 := ⟨_, rfl⟩
    rw [← haa] at hsr
    rw [← hn] at hba
    rw [← hn, ← haa]
    have hnl : n < 4294967296 := by omega
    have hal : a < 4294967296 := by omega
    simp [pf130, pf130_30, Ms.cells, fl, ← hs0, ← hs1, pf130_29, pf130_28, hv, pf130_26, rd z1, hlk, pf130_25, pf130_23, pf130_22, pf130_20, pf130_19, pf130_17, pf130_16, pf130_15, rd b1, hsr, hba, -binV_and, -binV_shr, pf130_14, pf130_13]
    by_cases hbig : 4096 < n
    · have hbigi : (4096 : Int) < n := by omega
      simp [hbig, hbigi, pf130_12, pf130_11, wrc g1, ← hsE, rd gE]
      simpa [Rs.zero] using err 4
    have hbigi : ¬ (4096 : Int) < n := by omega
    obtain ⟨L, hL⟩ : ∃ L, L = (x.get v).length := ⟨_, rfl⟩
    rw [← hL] at wl wlen hgl ⊢
    by_cases hla : L < a
    · have hlai : (L : Int) < a := by omega
      have hout : L < a + n := by omega
      simp [hbig, hbigi, pf130_12, pf130_10, wl, wlen, hla, hlai, hout, pf130_9, wrc g1, ← hsE, rd gE]
      simpa [Rs.zero] using err 13
    have hlai : ¬ (L : Int) < a := by omega
    have wsub : IntKind.u64.wrap ((L : Int) - (a : Int)) = ((L - a : Nat) : Int) := by rw [wrap_u64] <;> omega
    by_cases hout : L < a + n
    · have hni : ((L - a : Nat) : Int) < n := by omega
      have hni' : L - a < n := by omega
      simp [hbig, hbigi, pf130_12, pf130_10, wl, wlen, hla, hlai, wsub, hni, hni', hout, pf130_9, wrc g1, ← hsE, rd gE]
      simpa [Rs.zero] using err 13
    · have hni : ¬ ((L - a : Nat) : Int) < n := by omega
      have hni' : ¬ L - a < n := by omega
      have wadd : IntKind.u64.wrap ((a : Int) + (n : Int)) = ((a + n : Nat) : Int) := by rw [wrap_u64] <;> omega
      obtain ⟨part, hp1, hp2, hp3, hp4⟩ := q2.part (lo := a) (hi := a + n) (k := .u64) (k2 := .u64) (by omega) (by omega)
      simp [hbig, hbigi, pf130_12, pf130_10, wl, wlen, hla, hlai, wsub, hni, hni', hout, pf130_8, wadd]
      simp only [Int.natCast_add] at hp1
      simp [hp1]
      have e0 : a + n - a = n := by omega
      rw [e0] at hp2
      refine Ev.mono (clone_ok hp2 (by simp; omega)) ?_
      rintro w s2 ⟨x2, hw⟩
      have k2 := x2.ctr
      have g2 : s2.get s0.ctr = some (.cells [.int .u64 0, .int .u32 0, .int .u8 0, .int .u64 0, .int .u64 0, .snil] 0 false) := by rw [x2.get _ (by omega), g1]
      have fw := hw.bytes.flat
      have cw := hw.bytes.cells1
      simp [wrc g2, fw, cw]
      have := lays s2 x2 ⟨Cp.zero, 0, ((x.get v).drop a).take n⟩ w _ rfl hw.bytes (.inr hw.since)
      simpa [Rs.cells, Cp.zero, Cp.cells, Rs.zero, errV] using this
  have h3i : ¬ (op : Int) = 101 := by omega
  simp [pf130, pf130_30, Ms.cells, fl, ← hs0, ← hs1, pf130_29, pf130_28, h1, h1i, hv, pf130_26, rd z1, hlk, pf130_25, pf130_23, pf130_22, pf130_20, pf130_19, h2, h2i, pf130_17, pf130_16, h3, h3i, pf130_24, pf130_7, rd b1, wl, wlen]
  have hxg : ((x.get v).length : Int) < (m.arg : Int) ↔ (x.get v).length < m.arg := by omega
  by_cases hga : (x.get v).length < m.arg
  · simp [hga, pf130_6, wrc g1, ← hsE, rd gE]
    simpa [Rs.zero, h1, h2, h3, hv, hga] using err 13
  have hact : (if (decide (op = 100) != decide (v = -1)) = true then (((Rs.zero, some 3), T, x) : (Rs × Option Int) × Tbl × Fls) else x.make T (editL (x.get v) m.arg m.data)) = x.make T (editL (x.get v) m.arg m.data) := by simp [h1, hv]
  obtain ⟨u1, hu1, hu2, hu3, hu4⟩ := q2.head (hi := m.arg) (k2 := .u64) (by omega)
  simp [hga, pf130_5, rd b1, hu1]
  refine Ev.mono (clone_ok hu2 (by simp; omega)) ?_
  rintro w2 s2 ⟨x2, hw2⟩
  have k2 := x2.ctr
  have b2 : s2.get s.ctr = some (.cells [.int .u64 (m.to : Int), .int .u64 (m.reply : Int), .int .u32 (m.id : Int), .int .u16 (m.op : Int), .int .u16 (m.st : Int), .int .u64 (m.p : Int), .int .u32 (m.o : Int), .int .u8 (m.r : Int), .int .u64 (m.k : Int), .int .u64 (m.arg : Int), d] 0 false) := by rw [x2.get _ (by omega), b1]
  simp [pf130_4, rd b2]
  refine cont_app_ownB hw2 (hdb1.ext x2) (by omega) (by simp; omega) ?_
  intro w3 s3 hw3 hk3
  have x13 : Ext s1 s3 := x2.then hk3
  have k3 := x13.ctr
  have wl3 := hw3.bytes.wlen
  have wlu := (q2.ext x13).wlen
  obtain ⟨Y, hY⟩ : ∃ Y, Y = (x.get v).take m.arg ++ m.data := ⟨_, rfl⟩
  rw [← hY] at hw3 wl3
  have hYl : Y.length ≤ 2000000000 := by rw [hY]; simp; omega
  -- the end
  have endd : ∀ (st : S) (ob : AV), Ext s1 st → OwnB s1.ctr st ob (editL (x.get v) m.arg m.data) → ∀ (R : Regs), R 0 = .ptr xp 0 → R 8 = .ptr s0.ctr 0 → R 13 = ob →
      WpC tab pf130_0 R st (seqK tab .ret (FinP [PR.cell 8 6 true, PR.tmp 9] fun u s' => Chg (F1 ++ F2) s s' ∧ ∃ F1' F2', Grow (F1 ++ F2) (F1' ++ F2') s.ctr ∧ Tb s' tp (x.make T (editL (x.get v) m.arg m.data)).2.1 F1' ∧ FlX s' xp tp (x.make T (editL (x.get v) m.arg m.data)).2.2 F2' ∧ Apart F1' F2' ∧
        ∃ dv, Bytes s' dv (x.make T (editL (x.get v) m.arg m.data)).1.1.data ∧ (dv = d ∨ dv.since s.ctr) ∧ u = .tuple [.agg ((x.make T (editL (x.get v) m.arg m.data)).1.1.cells dv), errV (x.make T (editL (x.get v) m.arg m.data)).1.2])) := by
    intro st ob xs hob R r0 r8 r13
    have ks := xs.ctr
    have hel := editL_len (x.get v) m.arg m.data
    obtain ⟨E, hE⟩ : ∃ E, E = editL (x.get v) m.arg m.data := ⟨_, rfl⟩
    rw [← hE] at hob hel ⊢
    have gs : st.get s0.ctr = some (.cells [.int .u64 0, .int .u32 0, .int .u8 0, .int .u64 0, .int .u64 0, .snil] 0 false) := by rw [xs.get _ (by omega), g1]
    have hobo : ob.out (F1 ++ F2) := by
      have hsi := hob.since
      cases ob <;> first | trivial | (simp only [AV.since] at hsi; intro hx; rcases List.mem_append.1 hx with h | h; (have := hlt1 _ h; omega); (have := hlt2 _ h; omega))
    simp [pf130_0, r0, r13]
    refine Ev.mono (flMake_ok (hT1.ext xs) (hX1.ext xs) ha ok hf hob.bytes (by omega) hobo) ?_
    rintro w s4 ⟨hc4, F1', F2', hg4, hT4, hX4, hap4, rfl⟩
    have k4 := hc4.ctr
    have g4 : s4.get s0.ctr = some (.cells [.int .u64 0, .int .u32 0, .int .u8 0, .int .u64 0, .int .u64 0, .snil] 0 false) := by rw [hc4.get _ (by omega) nres, gs]
    obtain ⟨s5, hs5⟩ : ∃ t, t = s4.set s0.ctr (some (.cells ((x.make T E).1.1.cells .snil) 0 false)) := ⟨_, rfl⟩
    obtain ⟨f1, f2, f3, f4⟩ := fin E st s4 F1' F2' (x01.trans xs) (by omega) hc4 hg4 g4 hT4 hX4 hap4 s5 hs5
    have wr : s4.write s0.ctr 0 ((x.make T E).1.1.cells .snil) = some s5 := by
      rw [wrc g4 (by simp) (Rs.cells_flat rfl), over6 _ _ _ rfl, hs5]
    have g5 : s5.get s0.ctr = some (.cells ((x.make T E).1.1.cells .snil) 0 false) := by rw [hs5]; simp
    have r5 : s5.read s0.ctr 0 6 = some ((x.make T E).1.1.cells .snil) := by
      rw [rd g5 (by simp)]
      exact congrArg some (List.take_of_length_le (by simp))
    simp [wr, r8, r5]
    exact ⟨f1, F1', F2', f2, f3, f4, hap4, .snil, by rw [make_data]; exact Bytes.nil _, .inr trivial, rfl⟩
  by_cases hlt : Y.length < (x.get v).length
  · have hlti : (Y.length : Int) < ((x.get v).length : Int) := by omega
    obtain ⟨u2, hr1, hr2, hr3, hr4⟩ := (q2.ext x13).rest (lo := Y.length) (k := .i64) (by omega)
    simp [pf130_3, pf130_2, wl3, wlu, hlt, hlti, pf130_1, hr1]
    refine cont_app_ownB hw3 hr2 (by omega) (by simp; omega) ?_
    intro w4 s4 hw4 hk4
    simp
    have hed : editL (x.get v) m.arg m.data = Y ++ (x.get v).drop Y.length := by unfold editL; rw [← hY, if_pos hlt]
    refine endd s4 w4 (x13.then (hk4.le (by omega))) (by rw [hed]; exact hw4) _ (by simp) (by simp) (by simp)
  · have hlti : ¬ (Y.length : Int) < ((x.get v).length : Int) := by omega
    simp [pf130_3, pf130_2, wl3, wlu, hlt, hlti]
    have hed : editL (x.get v) m.arg m.data = Y := by unfold editL; rw [← hY, if_neg hlt]
    refine endd s3 w3 x13 (by rw [hed]; exact hw3) _ (by simp) (by simp) (by simp)
end
end Go.Ab
/-! The server of files (layer 27) over the abstract machine: as a service; a new one. -/
namespace Go.Ab
attribute [local simp] lenV

noncomputable def fileB : Svc Fls where
  V := fileV
  ty := 141
  Sx := FlX
  fits := Fls.fits
  okm := fun m => m.data.length ≤ 1000000000
  fN := 132
  fD := 130
  fG := 131
  mN := rfl
  mD := rfl
  mG := rfl
  lt := FlX.lt
  chg := FlX.chg
  ndl := fun op => by unfold fileV flNeed; simp only; split; decide; split; decide; split <;> decide
  nd := fun xp op s h => flNeed_ok xp op s h
  gn := fun v h hf => flGone_ok v h hf
  dv := fun {s xp tp T x F1 F2 m d} v hT hX ha ok _ hf hm hmo _ _ hd ho => flDo_ok m.op v hT hX ha ok hf hm hmo hd ho
  facts := fun T x v m hm => fileV_facts T x v m hm

theorem skelOf_ok (tp : Nat) (ty x : Nat) (s : S) : Ev tab 48 [.ptr tp 0, .iface ty (.ptr x 0)] s fun v s' => v = .ptr s.ctr 0 ∧ s' = s.new (.cells [.ptr tp 0, .iface ty (.ptr x 0)] 0 false) := by
  refine Ev.intro rfl rfl rfl ?_
  simp [pf48, pf48_0]

section
variable {s : S} {tp : Nat} {T : Tbl} {F : List Nat}
set_option maxRecDepth 10000 in
theorem fileOf_ok (hT : Tb s tp T F) (ok : T.Ok) (c : Cp) (T' : Tbl) (hcr : T.create (-1) = ((c, none), T')) :
    Ev tab 30 [.ptr tp 0] s fun v s' => Chg F s s' ∧ ∃ sp xp F1 F2, v = .tuple [.ptr sp 0, capA c, .nilIface] ∧ Sy fileB s' sp tp xp T' ⟨[], 0, 0⟩ F1 F2 ∧ Grow F (F1 ++ F2) s.ctr := by
  refine Ev.intro rfl rfl rfl ?_
  obtain ⟨s0, hs0⟩ : ∃ s0, s0 = s.new (.cells [.int .u64 0, .int .u32 0, .int .u8 0, .int .u64 0] 0 false) := ⟨_, rfl⟩
  have x0 : Ext s s0 := by rw [hs0]; simp
  have hlt := hT.lt
  have g0 : s0.get s.ctr = some (.cells [.int .u64 0, .int .u32 0, .int .u8 0, .int .u64 0] 0 false) := by rw [hs0]; simp
  have c0 : s0.ctr = s.ctr + 1 := by rw [hs0]; rfl
  have hn0 : s.ctr ∉ F := fun hx => by have := hlt _ hx; omega
  simp [pf30, pf30_5, pf30_4, ← hs0]
  refine Ev.mono (create_eq (hT.ext x0) ok hcr) ?_
  rintro v s1 ⟨hc1, F1, hg1, hT1, rfl⟩
  have k1 := hc1.ctr
  have g1 : s1.get s.ctr = some (.cells [.int .u64 0, .int .u32 0, .int .u8 0, .int .u64 0] 0 false) := by rw [hc1.get _ (by omega) hn0, g0]
  have hcs := (x0.chg F).trans hc1
  obtain ⟨sa, hsa⟩ : ∃ t, t = s1.new (.cells [.int .u64 0, .int .u32 0, .int .u8 0, .int .u64 0] 0 false) := ⟨_, rfl⟩
  have ga : sa.get s1.ctr = some (.cells [.int .u64 0, .int .u32 0, .int .u8 0, .int .u64 0] 0 false) := by rw [hsa]; simp
  obtain ⟨s2, hs2⟩ : ∃ t, t = sa.set s1.ctr (some (.cells [.int .u64 (c.p : Int), .int .u32 (c.o : Int), .int .u8 (c.r : Int), .int .u64 (c.k : Int)] 0 false)) := ⟨_, rfl⟩
  have c2 : s2.ctr = s1.ctr + 1 := by rw [hs2, hsa]; rfl
  have x2 : Ext s1 s2 := by rw [hs2, hsa]; simp
  have g2 : s2.get s1.ctr = some (.cells [.int .u64 (c.p : Int), .int .u32 (c.o : Int), .int .u8 (c.r : Int), .int .u64 (c.k : Int)] 0 false) := by rw [hs2]; simp
  have g2' : s2.get s.ctr = some (.cells [.int .u64 0, .int .u32 0, .int .u8 0, .int .u64 0] 0 false) := by rw [x2.get _ (by omega), g1]
  obtain ⟨s3, hs3⟩ : ∃ t, t = s2.new (.map []) := ⟨_, rfl⟩
  have x3 : Ext s2 s3 := by rw [hs3]; simp
  have c3 : s3.ctr = s2.ctr + 1 := by rw [hs3]; rfl
  have m3 : s3.get s2.ctr = some (.map []) := by rw [hs3]; simp
  obtain ⟨s4, hs4⟩ : ∃ t, t = s3.new (.cells [.map s2.ctr, .int .i64 0, .int .i64 0, .ptr tp 0] 0 false) := ⟨_, rfl⟩
  have x4 : Ext s3 s4 := by rw [hs4]; simp
  have c4 : s4.ctr = s3.ctr + 1 := by rw [hs4]; rfl
  have y4 : s4.get s3.ctr = some (.cells [.map s2.ctr, .int .i64 0, .int .i64 0, .ptr tp 0] 0 false) := by rw [hs4]; simp
  have g4 : s4.get s1.ctr = some (.cells [.int .u64 (c.p : Int), .int .u32 (c.o : Int), .int .u8 (c.r : Int), .int .u64 (c.k : Int)] 0 false) := by rw [(x3.trans x4).get _ (by omega), g2]
  have wl : ∀ x : Cp, sa.write s1.ctr 0 [.int .u64 (x.p : Int), .int .u32 (x.o : Int), .int .u8 (x.r : Int), .int .u64 (x.k : Int)] = some (sa.set s1.ctr (some (.cells [.int .u64 (x.p : Int), .int .u32 (x.o : Int), .int .u8 (x.r : Int), .int .u64 (x.k : Int)] 0 false))) := fun x => by
    rw [wrc ga] <;> simp [over, isFlat]
  simp [capE, capA, Cp.cells, ← hsa, wl, ← hs2, pf30_3, pf30_2, pf30_0, errV, rd g2, ← hs3, ← c3, ← hs4, rd g4]
  refine Ev.mono (skelOf_ok tp 141 s3.ctr s4) ?_
  rintro v s5 ⟨rfl, hs5⟩
  have x5 : Ext s4 s5 := by rw [hs5]; simp
  have c5 : s5.ctr = s4.ctr + 1 := by rw [hs5]; rfl
  have x25 := x3.trans (x4.trans x5)
  have g5 : s5.get s1.ctr = some (.cells [.int .u64 (c.p : Int), .int .u32 (c.o : Int), .int .u8 (c.r : Int), .int .u64 (c.k : Int)] 0 false) := by rw [x5.get _ (by omega), g4]
  have g5' : s5.get s.ctr = some (.cells [.int .u64 0, .int .u32 0, .int .u8 0, .int .u64 0] 0 false) := by rw [x25.get _ (by omega), g2']
  obtain ⟨s6, hs6⟩ : ∃ t, t = s5.set s.ctr (some (.cells [.int .u64 (c.p : Int), .int .u32 (c.o : Int), .int .u8 (c.r : Int), .int .u64 (c.k : Int)] 0 false)) := ⟨_, rfl⟩
  have g6 : s6.get s.ctr = some (.cells [.int .u64 (c.p : Int), .int .u32 (c.o : Int), .int .u8 (c.r : Int), .int .u64 (c.k : Int)] 0 false) := by rw [hs6]; simp
  have d6 : Chg [s.ctr] s5 s6 := by rw [hs6]; simp
  have c6 : s6.ctr = s5.ctr := by rw [hs6]; rfl
  have hlt1 := hT1.lt
  have nF1 : s.ctr ∉ F1 := fun hx => by
    rcases hg1 _ hx with h | h
    · have := hlt _ h; omega
    · omega
  have hT6 : Tb s6 tp T' F1 := (hT1.ext (x2.trans x25)).chg d6 (fun y hy => by simp; rintro rfl; exact nF1 hy)
  have y6 : s6.get s3.ctr = some (.cells [.map s2.ctr, .int .i64 0, .int .i64 0, .ptr tp 0] 0 false) := by rw [d6.get _ (by omega) (by simp; omega), x5.get _ (by omega), y4]
  have m6 : s6.get s2.ctr = some (.map []) := by rw [d6.get _ (by omega) (by simp; omega), (x4.trans x5).get _ (by omega), m3]
  have v6 : s6.get s4.ctr = some (.cells [.ptr tp 0, .iface 141 (.ptr s3.ctr 0)] 0 false) := by rw [d6.get _ (by omega) (by simp; omega), hs5]; simp
  have hF1 : ∀ y ∈ F1, y < s1.ctr := hlt1
  have hSy : Sy fileB s6 s4.ctr tp s3.ctr T' ⟨[], 0, 0⟩ F1 [s3.ctr, s2.ctr] := by
    refine ⟨v6, by omega, hT6, ⟨s2.ctr, [], [], y6, m6, trivial, rfl, by omega, by simp, by simp, by omega, by omega, by simp⟩, fun y hy => ?_, ?_⟩
    · have := hF1 y hy
      simp; omega
    · simp only [List.mem_append, List.mem_cons, List.not_mem_nil, or_false, not_or]
      exact ⟨fun hx => by have := hF1 _ hx; omega, by omega, by omega⟩
  simp [rd g5, wrc g5', ← hs6, rd g6]
  refine ⟨by rw [hs6]; exact Chg.set (.inl (Nat.le_refl _)) (hcs.trans ((x2.trans x25).chg _)), s3.ctr, F1, [s3.ctr, s2.ctr], hSy, fun y hy => ?_⟩
  rcases List.mem_append.1 hy with h | h
  · rcases hg1 y h with h | h
    · exact .inl h
    · exact .inr (by omega)
  · simp at h; right; omega
end
end Go.Ab
