/- The reference's Bits at 64 numbers, and cube.Norm at nil, run by the kernel. -/
import Derived.Test.YthaplnpebgcgiaaAxTF2
import Derived.KernelRfl
namespace Go.Ax.Try
open Go Go.Ax
open Go.Proofs.Try (prog)
open Go.RowKit (Below)

def call0 : CallF := callN ft.get 100000 20
def bS (k : Nat) : St := ⟨.run ⟨9, a9.nt, args0 [] [.i .i64 (.ofNat k), .i .i64 (.ofNat 6)] .leaf, [.c a9.body]⟩ [], .leaf, []⟩

def isB : List AV → List Bool → Bool
  | [], [] => true
  | .b x :: l, y :: m => (x == y) && isB l m
  | _, _ => false

def bitsL (k : Nat) : List Bool := (List.range 6).map fun i => Nat.testBit k i

def bitsOk (k : Nat) : Bool := match goO call0 ft.get 400 (bS k) with
  | some ⟨.done (.sl q 0 6 c _), h, _⟩ => match h.get q with
    | some (.cells _ _ _ cs) => Nat.blt 0 c && isB cs (bitsL k)
    | _ => false
  | _ => false

def allB : Nat → Nat → Bool
  | _, 0 => true
  | k, n + 1 => bitsOk k && allB (k + 1) n

theorem allB_get : ∀ {n k : Nat}, allB k n = true → ∀ j, k ≤ j → j < k + n → bitsOk j = true
  | 0, k, _, j, h1, h2 => by omega
  | n + 1, k, e, j, h1, h2 => by
    simp only [allB, Bool.and_eq_true] at e
    by_cases h : j = k
    · subst h; exact e.1
    · exact allB_get e.2 j (by omega) (by omega)

theorem run0 : allB 0 16 = true := by kernel_rfl
theorem run1 : allB 16 16 = true := by kernel_rfl
theorem run2 : allB 32 16 = true := by kernel_rfl
theorem run3 : allB 48 16 = true := by kernel_rfl

theorem bits_ok (k : Nat) (h : k < 64) : bitsOk k = true := by
  by_cases h1 : k < 16
  · exact allB_get run0 k (by omega) (by omega)
  · by_cases h2 : k < 32
    · exact allB_get run1 k (by omega) (by omega)
    · by_cases h3 : k < 48
      · exact allB_get run2 k (by omega) (by omega)
      · exact allB_get run3 k (by omega) (by omega)

theorem isB_get : ∀ {l : List AV} {m : List Bool}, isB l m = true → ∀ (j : Nat) (b : Bool), m[j]? = some b → l[j]? = some (.b b)
  | [], [], _, j, b, h => by simp at h
  | .b x :: l, y :: m, e, j, b, h => by
    simp only [isB, Bool.and_eq_true, beq_iff_eq] at e
    obtain ⟨rfl, e⟩ := e
    cases j with
    | zero => simp at h; subst h; rfl
    | succ j => simp at h; simpa using isB_get e j b h
  | [], _ :: _, e, _, _, _ => by simp [isB] at e
  | .b _ :: _, [], e, _, _, _ => by simp [isB] at e
  | .any :: _, _, e, _, _, _ => by simp [isB] at e
  | .i _ _ :: _, _, e, _, _, _ => by simp [isB] at e
  | .str _ :: _, _, e, _, _, _ => by simp [isB] at e
  | .nilp :: _, _, e, _, _, _ => by simp [isB] at e
  | .p _ _ :: _, _, e, _, _, _ => by simp [isB] at e
  | .nils :: _, _, e, _, _, _ => by simp [isB] at e
  | .sl _ _ _ _ _ :: _, _, e, _, _, _ => by simp [isB] at e
  | .nilm :: _, _, e, _, _, _ => by simp [isB] at e
  | .m _ :: _, _, e, _, _, _ => by simp [isB] at e
  | .f _ _ _ :: _, _, e, _, _, _ => by simp [isB] at e
  | .ag _ :: _, _, e, _, _, _ => by simp [isB] at e
  | .tu _ :: _, _, e, _, _, _ => by simp [isB] at e

theorem mixed : prog.follows .mixedOrders = true := by kernel_rfl

theorem bits_calls (k : Nat) (hk : k < 64) (w : World) :
    Calls prog 9 #[.int .i64 (k : Int), .int .i64 6] w fun e w' => Below w.heap.size w w' ∧ ∃ b o c, e = .returned (.slice (some ⟨b, o, none⟩) 6 c) ∧ b < w'.heap.size ∧
      ∀ j (h : j < (bitsL k).length), w'.cell? ⟨b, o + j, none⟩ = some (.bool (bitsL k)[j]) := by
  have h := bits_ok k hk
  unfold bitsOk at h
  split at h
  · next q c ex hh n e =>
    split at h
    · next ro el esz cs hq =>
      simp only [Bool.and_eq_true] at h
      have hc := Leads.calls_at (β := fun _ => none) (l := #[.int .i64 (k : Int), .int .i64 6]) ftok (by kernel_rfl : ft.get 9 = some a9) (Leads.of_go ftok mixed e) (Sim.nothing w) (by simp only [VRs, VR]; exact ⟨_, _, rfl, rfl, _, _, rfl, rfl, rfl⟩)
      refine hc.mono fun e w' r => ?_
      obtain ⟨u, β', rfl, _, s, g⟩ := r
      refine ⟨s.below, ?_⟩
      simp only [VR] at g
      obtain ⟨I, o', c', hI, rfl, h1, h2, h3, h4⟩ := g
      obtain ⟨I', hI', C, fz, e1, e2, e3, e4, e5⟩ := s.lies q _ hq rfl
      rw [hI] at hI'; cases hI'
      have ho := h3 (Nat.le_of_ble_eq_true h.1)
      refine ⟨I.blk, o', c', rfl, (s.dom q I hI).1, fun j hj => ?_⟩
      obtain ⟨v, v1, v2⟩ := e5 j (.b (bitsL k)[j]) (isB_get h.2 j _ (List.getElem?_eq_getElem hj))
      simp only [VR] at v2
      rw [ho, Nat.add_zero]
      rw [cell_of e1 v1, v2]
    · cases h
  · cases h

def nS : St := ⟨.run ⟨7, a7.nt, args0 [] [.nils] .leaf, [.c a7.body]⟩ [], .leaf, []⟩
def isN : Option St → Bool
  | some ⟨.done (.tu [.nils, .b true]), _, _⟩ => true
  | _ => false
theorem runN0 : isN (goO call0 ft.get 400 nS) = true := by kernel_rfl

theorem norm_nil (w : World) : Calls prog 7 #[.slice none 0 0] w fun e w' => e = .returned (.tuple #[.slice none 0 0, .bool true]) ∧ Below w.heap.size w w' := by
  have h := runN0
  unfold isN at h
  split at h
  · next hh n e =>
    have hc := Leads.calls_at (β := fun _ => none) (l := #[.slice none 0 0]) ftok (by kernel_rfl : ft.get 7 = some a7) (Leads.of_go ftok mixed e) (Sim.nothing w) (by simp only [VRs, VR]; exact ⟨_, _, rfl, rfl, rfl⟩)
    refine hc.mono fun e w' r => ?_
    obtain ⟨u, β', rfl, _, s, g⟩ := r
    simp only [VR, VRs] at g
    obtain ⟨l, rfl, v, vs, h1, rfl, v2, vs2, rfl, rfl, rfl⟩ := g
    refine ⟨?_, s.below⟩
    have : l = #[Value.slice none 0 0, .bool true] := by apply Array.ext'; simpa using h1
    rw [this]
  · cases h

end Go.Ax.Try
