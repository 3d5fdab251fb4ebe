/- The plain law of sorting and dropping equals: what is left rises. -/
import Derived.Lib.SlicesCompact
import Derived.Sort.Statements
namespace Go.Proofs.Ythaplnpebgcgiaa
open Go.Lib Go.Sort

theorem compact_mem_of (d : Array Int) (n : Nat) (hn : n ≤ d.size) (x : Int) : x ∈ compactUpTo d n → x ∈ d := by
  intro h
  unfold compactUpTo at h
  simp only [List.mem_map, List.mem_filter, List.mem_range] at h
  obtain ⟨j, ⟨hj, _⟩, rfl⟩ := h
  rw [getElem!_pos d j (by omega)]
  exact Array.getElem_mem _

theorem compact_mem (d : Array Int) (n : Nat) : ∀ i, i < n → d[i]! ∈ compactUpTo d n := by
  intro i
  induction i with
  | zero =>
    intro h
    unfold compactUpTo
    simp only [List.mem_map, List.mem_filter, List.mem_range]
    exact ⟨0, ⟨h, keeps_lt_one d 0 (by omega)⟩, rfl⟩
  | succ i ih =>
    intro h
    by_cases hk : d[i + 1]! = d[i]!
    · rw [hk]; exact ih (by omega)
    · unfold compactUpTo
      simp only [List.mem_map, List.mem_filter, List.mem_range]
      exact ⟨i + 1, ⟨h, keeps_pos (by simpa using hk)⟩, rfl⟩

theorem compact_rises {lt : Int → Int → Prop} (d : Array Int) (n : Nat) (le : Int → Int → Prop) (hlt : ∀ x y z, le x y → le y z → y ≠ z → lt x z) (hs : ∀ i j, i ≤ j → j < n → le d[i]! d[j]!) :
    (compactUpTo d n).Pairwise lt := by
  unfold compactUpTo
  rw [List.pairwise_map]
  have h1 : (List.range n).Pairwise (· < ·) := List.pairwise_lt_range
  have h2 := h1.filter (keeps d)
  refine h2.imp_of_mem fun {i j} hi hj hij => ?_
  simp only [List.mem_filter, List.mem_range] at hi hj
  have hne : d[j]! ≠ d[j - 1]! := by
    intro e
    rw [keeps_neg (by omega) e] at hj
    cases hj.2
  exact hlt _ d[j - 1]! _ (hs i (j - 1) (by omega) (by omega)) (hs (j - 1) j (by omega) hj.1) (fun e => hne e.symm)

end Go.Proofs.Ythaplnpebgcgiaa
