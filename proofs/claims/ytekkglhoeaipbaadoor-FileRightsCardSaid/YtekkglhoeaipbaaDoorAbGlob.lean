/- What the relation asks of the world at every step: the one package-level variable holds what its text lays. -/
import Derived.Test.YtekkglhoeaipbaaDoorAbDefs
namespace Go.Ab

/-- The variable's cell: 'errors.errorType', the type 'error' as reflectlite holds it. -/
def gcell : Value := .iface 200 (.agg #[.pointer (some ⟨1, 38, none⟩)])
def Gl (w : World) (own : Nat → Prop) : Prop := w.cell? ⟨0, 0, none⟩ = some gcell ∧ ¬ own 0

theorem Gl.go {w w' : World} {own own' : Nat → Prop} (h : Gl w own) (hf : ∀ b, b < w.heap.size → ¬ own b → w'.heap[b]? = w.heap[b]?) (ho : ∀ b, b < w.heap.size → own' b → own b) : Gl w' own' := by
  have hlt : 0 < w.heap.size := by
    rcases Nat.eq_zero_or_pos w.heap.size with h0 | h0
    · have h1 := h.1
      simp [World.cell?, h0] at h1
    · exact h0
  refine ⟨?_, fun hx => h.2 (ho 0 hlt hx)⟩
  have h1 := h.1
  simp only [World.cell?] at h1 ⊢
  rw [hf 0 hlt h.2]
  exact h1
end Go.Ab
