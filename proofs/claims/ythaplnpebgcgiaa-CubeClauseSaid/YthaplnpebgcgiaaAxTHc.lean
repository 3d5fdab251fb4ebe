import Derived.Test.YthaplnpebgcgiaaAxTH
namespace Go.Ax.Try
open Go Go.Ax
open Go.Proofs.Try (prog)
open Go.RowKit (Below)
theorem head_calls (w : World) : Calls prog 6 #[] w fun e w' => e = .returned (.bool true) ∧ Below w.heap.size w w' := by
  refine Calls.mono (Leads.calls ftok w (by kernel_rfl : ft.get 6 = some a6) leads) fun e w' r => ?_
  obtain ⟨u, β', rfl, s, g⟩ := r
  simp only [VR] at g
  exact ⟨by rw [g], s.below⟩
#print axioms head_calls
end Go.Ax.Try
