/- The plain law of CubeNorm. -/
import Derived.Test.YthaplnpebgcgiaaCm
namespace Go.Proofs.Ythaplnpebgcgiaa
open Go.RowKit Go.Lib

/-- A cube in order is known by its numbers. -/
theorem Cube.same : ∀ {xs ys : List Int}, Cube xs → Cube ys → (∀ x, x ∈ xs ↔ x ∈ ys) → xs = ys
  | [], [], _, _, _ => rfl
  | [], y :: ys, _, _, h => by have := (h y).2 (by simp); simp at this
  | x :: xs, [], _, _, h => by have := (h x).1 (by simp); simp at this
  | x :: xs, y :: ys, ha, hb, h => by
    have pa := List.pairwise_cons.1 ha.up
    have pb := List.pairwise_cons.1 hb.up
    have exy : x = y := by
      have h1 := (h x).1 (by simp)
      have h2 := (h y).2 (by simp)
      rcases List.mem_cons.1 h1 with e | m1
      · exact e
      · rcases List.mem_cons.1 h2 with e | m2
        · exact e.symm
        · have := pa.1 y m2; have := pb.1 x m1; omega
    subst exy
    have ca : Cube xs := ⟨fun z hz => ha.bd z (by simp [hz]), pa.2⟩
    have cb : Cube ys := ⟨fun z hz => hb.bd z (by simp [hz]), pb.2⟩
    rw [Cube.same ca cb fun z => ⟨fun hz => by
      rcases List.mem_cons.1 ((h z).1 (by simp [hz])) with e | m
      · subst e; have := pa.1 z hz; omega
      · exact m, fun hz => by
      rcases List.mem_cons.1 ((h z).2 (by simp [hz])) with e | m
      · subst e; have := pb.1 z hz; omega
      · exact m⟩]

/-- The list turned round by t. -/
def Turn (xs : List Int) (t k : Nat) : List Int := (List.range k).map fun i => xs.getD ((i + t) % xs.length) 0
theorem Turn.succ (xs : List Int) (t k : Nat) : Turn xs t (k + 1) = Turn xs t k ++ [xs.getD ((k + t) % xs.length) 0] := by
  unfold Turn; rw [List.range_succ, List.map_append]; rfl
theorem Turn.len (xs : List Int) (t k : Nat) : (Turn xs t k).length = k := by unfold Turn; simp
theorem Turn.mem (xs : List Int) (t : Nat) (x : Int) : x ∈ Turn xs t xs.length ↔ x ∈ xs := by
  unfold Turn
  simp only [List.mem_map, List.mem_range]
  constructor
  · rintro ⟨i, hi, rfl⟩
    have hlt := Nat.mod_lt (i + t) (show 0 < xs.length by omega)
    rw [List.getD_eq_getElem?_getD, List.getElem?_eq_getElem hlt]
    exact List.getElem_mem _
  · intro h
    obtain ⟨j, hj, rfl⟩ := List.mem_iff_getElem.1 h
    have hm := Nat.mod_lt t (show 0 < xs.length by omega)
    refine ⟨(j + (xs.length - t % xs.length)) % xs.length, Nat.mod_lt _ (by omega), ?_⟩
    have e : ((j + (xs.length - t % xs.length)) % xs.length + t) % xs.length = j := by
      rw [Nat.mod_add_mod]
      have h1 : j + (xs.length - t % xs.length) + t = j + xs.length + xs.length * (t / xs.length) := by
        have := Nat.div_add_mod t xs.length
        omega
      rw [h1, Nat.add_mul_mod_self_left, Nat.add_mod_right, Nat.mod_eq_of_lt hj]
    rw [e, List.getD_eq_getElem?_getD, List.getElem?_eq_getElem hj]; rfl
theorem Turn.nice {xs : List Int} (h : Nice xs 12) (t : Nat) : Nice (Turn xs t xs.length) 12 :=
  ⟨by rw [Turn.len]; exact h.1, fun x hx => h.2 x ((Turn.mem xs t x).1 hx)⟩

theorem holds_same {xs ys : List Int} (bs : List Bool) (h : ∀ x, x ∈ xs ↔ x ∈ ys) : holds xs bs = holds ys bs := by
  rw [Bool.eq_iff_iff, holds_iff, holds_iff]
  exact ⟨fun g x hx => g x ((h x).2 hx), fun g x hx => g x ((h x).1 hx)⟩

theorem covers_same {xs ys : List Int} (h : ∀ x, x ∈ xs ↔ x ∈ ys) : covers xs ys = true := (covers_iff xs ys).2 fun x hx => (h x).1 hx

theorem holds_twin {xs : List Int} {x : Int} (bs : List Bool) (hx : ∀ x ∈ xs, -6 ≤ x ∧ x ≤ 6 ∧ x ≠ 0) (h1 : x ∈ xs) (h2 : -x ∈ xs) : holds xs bs = false := by
  rw [Bool.eq_false_iff]
  intro h
  rw [holds_iff] at h
  have g1 := h x h1
  have g2 := h (-x) h2
  have b := hx x h1
  unfold bad at g1 g2
  simp only [Bool.or_eq_false_iff, Int.natAbs_neg] at g1 g2
  have e1 : bs.getD (x.natAbs - 1) false = decide (0 < x) := by
    have := g1.2
    cases h1 : bs.getD (x.natAbs - 1) false <;> cases h2 : decide (0 < x) <;> rw [h1, h2] at this <;> first | rfl | cases this
  have e2 : bs.getD (x.natAbs - 1) false = decide (0 < -x) := by
    have := g2.2
    cases h1 : bs.getD (x.natAbs - 1) false <;> cases h2 : decide (0 < -x) <;> rw [h1, h2] at this <;> first | rfl | cases this
  rw [e1] at e2
  have := decide_eq_decide.1 e2
  omega

end Go.Proofs.Ythaplnpebgcgiaa
