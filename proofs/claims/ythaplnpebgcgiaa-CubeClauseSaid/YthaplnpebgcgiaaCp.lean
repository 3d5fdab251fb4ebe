/- The plain law of CubeClause. -/
import Derived.Test.YthaplnpebgcgiaaCn
namespace Go.Proofs.Ythaplnpebgcgiaa
open Go.RowKit Go.Lib

/-- Numbers of a state of n latches. -/
def Fits (xs : List Int) (n k : Nat) : Prop := xs.length ≤ k ∧ ∀ x ∈ xs, -(n : Int) ≤ x ∧ x ≤ n ∧ x ≠ 0

theorem Fits.snoc {xs : List Int} {n k : Nat} {x : Int} (h : Fits xs n k) (h1 : -(n : Int) ≤ x) (h2 : x ≤ n) (h3 : x ≠ 0) : Fits (xs ++ [x]) n (k + 1) :=
  ⟨by simp; exact h.1, fun y hy => by
    rcases List.mem_append.1 hy with z | z
    · exact h.2 y z
    · simp at z; subst z; exact ⟨h1, h2, h3⟩⟩
theorem Fits.more {xs : List Int} {n k : Nat} (h : Fits xs n k) : Fits xs n (k + 1) := ⟨by have := h.1; omega, h.2⟩

theorem tmodN (z : Int) (n : Nat) : -(n : Int) ≤ z.tmod ((n : Int) + 1) ∧ z.tmod ((n : Int) + 1) ≤ n := by
  have h1 := Int.emod_nonneg z (show (n : Int) + 1 ≠ 0 by omega)
  have h2 := Int.emod_lt_of_pos z (show 0 < (n : Int) + 1 by omega)
  rw [Int.tmod_eq_emod]
  split
  · omega
  · have : (((n : Int) + 1).natAbs : Int) = (n : Int) + 1 := by omega
    rw [this]; omega

/-- A number and its opposite: a state is in just one of them. -/
theorem bad_neg {bs : List Bool} {x : Int} (h0 : x ≠ 0) (hl : x.natAbs ≤ bs.length) : bad bs (-x) = !bad bs x := by
  unfold bad
  rw [Int.natAbs_neg, decide_eq_false (show ¬ bs.length < x.natAbs by omega)]
  simp only [Bool.false_or]
  by_cases h : 0 < x
  · have : ¬ 0 < -x := by omega
    rw [decide_eq_true h, decide_eq_false this]
    cases bs.getD (x.natAbs - 1) false <;> rfl
  · have : 0 < -x := by omega
    rw [decide_eq_false h, decide_eq_true this]
    cases bs.getD (x.natAbs - 1) false <;> rfl

/-- Is a state in one of a clause's first numbers? -/
def oneOf (cs : List Int) (bs : List Bool) (k : Nat) : Bool := (cs.take k).any fun y => holds [y] bs
theorem oneOf.succ {cs : List Int} {bs : List Bool} {k : Nat} (h : k < cs.length) : oneOf cs bs (k + 1) = (oneOf cs bs k || holds [cs[k]] bs) := by
  unfold oneOf; rw [take_succ h, List.any_append]; simp

theorem one_all {xs : List Int} {bs : List Bool} {k : Nat} (h : Fits xs bs.length k) : oneOf (xs.map fun x => -x) bs (xs.map fun x => -x).length = !holds xs bs := by
  unfold oneOf holds
  rw [List.take_of_length_le (Nat.le_refl _), Bool.not_not, List.any_map]
  have : ∀ (ys : List Int), (∀ y ∈ ys, y ∈ xs) → (ys.any ((fun y => !([y].any (bad bs))) ∘ fun x => -x)) = ys.any (bad bs) := by
    intro ys
    induction ys with
    | nil => intro _; rfl
    | cons y ys ih =>
      intro hy
      have hm := h.2 y (hy y (by simp))
      rw [List.any_cons, List.any_cons, ih fun z hz => hy z (by simp [hz])]
      congr 1
      show (!(bad bs (-y) || false)) = bad bs y
      rw [Bool.or_false, bad_neg hm.2.2 (by omega), Bool.not_not]
  exact this xs fun y hy => hy

theorem neg_neg_map (xs : List Int) : (xs.map fun x => -x).map (fun x => -x) = xs := by
  rw [List.map_map]
  conv => rhs; rw [← List.map_id xs]
  congr 1
  funext x
  simp

theorem own_mem {bs : List Bool} {x : Int} (h : x ∈ Own bs bs.length) : ∃ i, i < bs.length ∧ x = if bs.getD i false then (i : Int) + 1 else -(i : Int) - 1 := by
  unfold Own at h
  simp only [List.mem_map, List.mem_range] at h
  obtain ⟨i, hi, e⟩ := h
  exact ⟨i, hi, e.symm⟩

theorem own_wide {bs : List Bool} (hl : bs.length ≤ 100) : ∀ x ∈ Own bs bs.length, (-1000 ≤ x ∧ x ≤ 1000) ∧ x ≠ 0 := by
  intro x hx
  obtain ⟨i, hi, rfl⟩ := own_mem hx
  split <;> omega

theorem own_bad (bs cs : List Bool) (hl : cs.length = bs.length) (i : Nat) (hi : i < bs.length) : bad cs (if bs.getD i false then (i : Int) + 1 else -(i : Int) - 1) = (cs.getD i false != bs.getD i false) := by
  unfold bad
  cases bs.getD i false with
  | true =>
    simp only [if_true]
    rw [show ((i : Int) + 1).natAbs = i + 1 by omega, decide_eq_false (by omega), Nat.add_sub_cancel, decide_eq_true (by omega)]
    rfl
  | false =>
    simp only [Bool.false_eq_true, if_false]
    rw [show (-(i : Int) - 1).natAbs = i + 1 by omega, decide_eq_false (by omega), Nat.add_sub_cancel, decide_eq_false (by omega)]
    rfl

theorem own_holds (bs : List Bool) : holds (Own bs bs.length) bs = true := by
  rw [holds_iff]
  intro x hx
  obtain ⟨i, hi, rfl⟩ := own_mem hx
  rw [own_bad bs bs rfl i hi]; simp

theorem own_other (bs : List Bool) (j : Nat) (hj : j < bs.length) : holds (Own bs bs.length) (bs.set j (!bs.getD j false)) = false := by
  rw [Bool.eq_false_iff]
  intro h
  rw [holds_iff] at h
  have hm : (if bs.getD j false then (j : Int) + 1 else -(j : Int) - 1) ∈ Own bs bs.length := by
    unfold Own
    simp only [List.mem_map, List.mem_range]
    exact ⟨j, hj, rfl⟩
  have := h _ hm
  rw [own_bad bs _ (by simp) j hj] at this
  rw [show (bs.set j (!bs.getD j false)).getD j false = !bs.getD j false by simp [List.getD_eq_getElem?_getD, hj]] at this
  cases hb : bs.getD j false <;> rw [hb] at this <;> simp at this

end Go.Proofs.Ythaplnpebgcgiaa
