/- The plain law of CubeCovers. -/
import Derived.Test.YthaplnpebgcgiaaCj
namespace Go.Proofs.Ythaplnpebgcgiaa

/-- A cube in order. -/
structure Cube (zs : List Int) : Prop where
  bd : ∀ x ∈ zs, -6 ≤ x ∧ x ≤ 6 ∧ x ≠ 0
  up : zs.Pairwise fun a b => a.natAbs < b.natAbs

theorem Cube.one {zs : List Int} (h : Cube zs) {x : Int} (h1 : x ∈ zs) (h2 : -x ∈ zs) : False := by
  obtain ⟨i, hi, rfl⟩ := List.mem_iff_getElem.1 h1
  obtain ⟨j, hj, he⟩ := List.mem_iff_getElem.1 h2
  have hp := List.pairwise_iff_getElem.1 h.up
  have b := h.bd _ h1
  rcases Nat.lt_trichotomy i j with z | z | z
  · have := hp i j hi hj z; omega
  · subst z; omega
  · have := hp j i hj hi z; omega

def bitsOf (k : Nat) : List Bool := (List.range 6).map fun i => Nat.testBit k i

def num6 (a b c d e f : Bool) : Nat := a.toNat + 2 * b.toNat + 4 * c.toNat + 8 * d.toNat + 16 * e.toNat + 32 * f.toNat
theorem bits_all : ∀ a b c d e f : Bool, num6 a b c d e f < 64 ∧ bitsOf (num6 a b c d e f) = [a, b, c, d, e, f] := by decide +kernel

theorem state_num (s : Nat → Bool) : ∃ k, k < 64 ∧ ∀ i, i < 6 → (bitsOf k).getD i false = s i := by
  obtain ⟨h1, h2⟩ := bits_all (s 0) (s 1) (s 2) (s 3) (s 4) (s 5)
  refine ⟨_, h1, fun i hi => ?_⟩
  rw [h2]
  match i, hi with
  | 0, _ => rfl
  | 1, _ => rfl
  | 2, _ => rfl
  | 3, _ => rfl
  | 4, _ => rfl
  | 5, _ => rfl

theorem bits_len (k : Nat) : (bitsOf k).length = 6 := by simp [bitsOf]

theorem holds_iff (zs : List Int) (bs : List Bool) : holds zs bs = true ↔ ∀ x ∈ zs, bad bs x = false := by
  unfold holds; simp

def upTo (za zb : List Int) (n : Nat) : Bool := (List.range n).all fun j => !holds zb (bitsOf j) || holds za (bitsOf j)

theorem upTo_zero (za zb : List Int) : upTo za zb 0 = true := rfl
theorem upTo_succ (za zb : List Int) (n : Nat) : upTo za zb (n + 1) = (upTo za zb n && (!holds zb (bitsOf n) || holds za (bitsOf n))) := by
  unfold upTo; rw [List.range_succ, List.all_append]; simp

theorem covers_iff (za zb : List Int) : covers za zb = true ↔ ∀ x ∈ za, x ∈ zb := by
  unfold covers; simp

theorem covers_up {za zb : List Int} (ha : Cube za) (hb : Cube zb) : covers za zb = upTo za zb 64 := by
  rw [Bool.eq_iff_iff, covers_iff]
  unfold upTo
  simp only [List.all_eq_true, List.mem_range, Bool.or_eq_true, Bool.not_eq_true']
  constructor
  · intro h j _
    by_cases hh : holds zb (bitsOf j) = true
    · right
      rw [holds_iff] at hh ⊢
      exact fun x hx => hh x (h x hx)
    · left; simpa using hh
  · intro h x hx
    by_cases hxb : x ∈ zb
    · exact hxb
    · exfalso
      obtain ⟨k, hk, hs⟩ := state_num fun i => if i + 1 = x.natAbs then decide (x < 0) else decide (((i : Int) + 1) ∈ zb)
      have bx := ha.bd x hx
      rcases h k hk with h1 | h1
      · have : holds zb (bitsOf k) = true := by
          rw [holds_iff]
          intro y hy
          have by_ := hb.bd y hy
          unfold bad
          rw [bits_len, hs (y.natAbs - 1) (by omega)]
          have e0 : decide (6 < y.natAbs) = false := decide_eq_false (by omega)
          rw [e0, Bool.false_or]
          by_cases e : y.natAbs = x.natAbs
          · rw [if_pos (by omega)]
            have : y ≠ x := fun e' => hxb (e' ▸ hy)
            have : y = -x := by omega
            subst this
            by_cases hx0 : x < 0
            · have : 0 < -x := by omega
              simp [hx0]
            · have : ¬ 0 < -x := by omega
              simp [hx0]
          · rw [if_neg (by omega)]
            have ei : (((y.natAbs - 1 : Nat) : Int) + 1) = (y.natAbs : Int) := by omega
            rw [ei]
            by_cases hy0 : 0 < y
            · have : (y.natAbs : Int) = y := by omega
              rw [this]; simp [hy, hy0]
            · have : (y.natAbs : Int) = -y := by omega
              rw [this]
              have hn : -y ∉ zb := fun hm => hb.one hy hm
              simp [hn, hy0]
        rw [this] at h1; cases h1
      · rw [holds_iff] at h1
        have := h1 x hx
        unfold bad at this
        rw [bits_len, hs (x.natAbs - 1) (by omega), if_pos (by omega)] at this
        simp at this
        have := this.2
        by_cases hx0 : x < 0
        · have : ¬ 0 < x := by omega
          simp_all
        · have : 0 < x := by omega
          simp_all

end Go.Proofs.Ythaplnpebgcgiaa
