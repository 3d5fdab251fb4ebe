/- What cube.Norm makes of numbers of six latches. -/
import Derived.Test.YthaplnpebgcgiaaCf
namespace Go.Proofs.Ythaplnpebgcgiaa
open Go.RowKit Go.Lib

theorem clone_own (g c n : Nat) (xs : List Int) (w : World) (hn : n = xs.length) (h0 : 0 < n) (hl : n ≤ 1000) (hc : ∀ j (h : j < xs.length), w.cell? ⟨g, j, none⟩ = some (.int .i64 xs[j])) :
    Calls Try.prog 19 #[.slice (some ⟨g, 0, none⟩) n c] w fun e w' => ∃ g' cap, e = .returned (.slice (some ⟨g', 0, none⟩) n cap) ∧ w.heap.size ≤ g' ∧ g' < w'.heap.size ∧ n ≤ cap ∧ cap ≤ maxLen ∧
      Go.Sort.Holds (Value.int .i64) w' g' 0 xs.toArray ∧ Below w.heap.size w w' := by
  subst hn
  refine (Try.slices_Clone_int g 0 xs.length c xs w (Nat.le_refl _) (by omega) (fun j hj => by rw [Nat.zero_add, hc j hj]; simp [hj])).mono fun e w' ⟨v', he, hown, hne, hb⟩ => ?_
  rcases hown.2 with ⟨_, e⟩ | ⟨g', cap, cur, rfl, hB, hh, hcc, hm, hs, ht⟩
  · omega
  · refine ⟨g', cap, he, hB, ?_, hcc, hm, fun j hj => ?_, hb⟩
    · rcases Nat.lt_or_ge g' w'.heap.size with z | z
      · exact z
      · rw [Array.getElem?_eq_none z] at hh; cases hh
    · have hj' : j < xs.length := by simpa using hj
      refine ⟨?_, ?_⟩
      · have := hown.cells (g := g') rfl j (.int .i64 xs[j]) (by simp [hj'])
        rw [addr0] at this
        rw [Nat.zero_add, this, getElem!_pos _ j hj]
        simp
      · rw [Nat.zero_add]; exact hown.frozenAt j

theorem sort_n (B g cap n : Nat) (zs : List Int) (w : World) (hn : n = zs.length) (hB : B ≤ g) (hg : g < w.heap.size) (hH : Go.Sort.Holds (Value.int .i64) w g 0 zs.toArray) (hl : n ≤ 1000) :
    Calls Try.prog 20 #[.slice (some ⟨g, 0, none⟩) n cap, .func (.func 21) #[] #[]] w fun e w' => e = .returned (.tuple #[]) ∧
      ∃ ys : List Int, ys.Perm zs ∧ (∀ i j, i ≤ j → j < ys.length → le2 ys.toArray[i]! ys.toArray[j]!) ∧ Go.Sort.Holds (Value.int .i64) w' g 0 ys.toArray ∧ g < w'.heap.size ∧ Below B w w' := by
  subst hn; exact sort_own B g cap zs w hB hg hH hl

theorem compact_n (B g cap n : Nat) (zs : List Int) (w : World) (hn : n = zs.length) (hB : B ≤ g) (hg : g < w.heap.size) (hH : Go.Sort.Holds (Value.int .i64) w g 0 zs.toArray) (hl : n ≤ 1000) (hc : n ≤ cap) :
    Calls Try.prog 25 #[.slice (some ⟨g, 0, none⟩) n cap] w fun e w' => e = .returned (.slice (some ⟨g, 0, none⟩) (Lib.compact zs).length cap) ∧
      (∀ j (h : j < (Lib.compact zs).length), w'.cell? ⟨g, j, none⟩ = some (.int .i64 (Lib.compact zs)[j])) ∧ g < w'.heap.size ∧ Below B w w' := by
  subst hn; exact compact_own B g cap zs w hB hg hH hl hc

theorem lat_small {x : Int} (h1 : -1000 ≤ x) (h2 : x ≤ 1000) : lat x = x.natAbs := by
  unfold lat
  rw [IntWalk.wrap64_in _ ⟨by omega, by omega⟩]
  omega

/-- What Norm leaves of numbers: they rise, and are the same; or one stands beside its opposite. -/
def Normed (W : World) (xs : List Int) (e : Ending) (w' : World) : Prop :=
  Below W.heap.size W w' ∧
  ((∃ v zs, e = .returned (.tuple #[v, .bool true]) ∧ RS (Value.int .i64) w' w'.heap.size v zs ∧ (∀ x, x ∈ zs ↔ x ∈ xs) ∧ zs.Pairwise fun a b => a.natAbs < b.natAbs) ∨
   (e = .returned (.tuple #[.slice none 0 0, .bool false]) ∧ ∃ x ∈ xs, -x ∈ xs))

/-- Numbers that rise by latch, or at one latch. -/
theorem lists_rise {c : List Int} (hb : ∀ x ∈ c, -6 ≤ x ∧ x ≤ 6 ∧ x ≠ 0) (hp : c.Pairwise fun x y => lat x < lat y ∨ (lat x = lat y ∧ x < y)) (hd : ∀ j, 0 < j → (h : j < c.length) → lat c[j - 1] ≠ lat c[j]) :
    c.Pairwise fun a b => a.natAbs < b.natAbs := by
  rw [List.pairwise_iff_getElem] at hp ⊢
  intro i j hi hj hij
  have b1 := hb c[i] (List.getElem_mem _)
  have b2 := hb c[j] (List.getElem_mem _)
  have l1 := lat_small (x := c[i]) (by omega) (by omega)
  have l2 := lat_small (x := c[j]) (by omega) (by omega)
  have h := hd j (by omega) hj
  have b3 := hb c[j - 1] (List.getElem_mem _)
  have l3 := lat_small (x := c[j - 1]) (by omega) (by omega)
  have h3 := hp (j - 1) j (by omega) hj (by omega)
  by_cases e : i = j - 1
  · subst e; omega
  · have h4 := hp i (j - 1) hi (by omega) (by omega)
    omega

theorem twin {c : List Int} (hb : ∀ x ∈ c, -6 ≤ x ∧ x ≤ 6 ∧ x ≠ 0) (hp : c.Pairwise fun x y => lat x < lat y ∨ (lat x = lat y ∧ x < y)) {j : Nat} (h0 : j + 1 < c.length) (he : lat c[j] = lat c[j + 1]) : ∃ x ∈ c, -x ∈ c := by
  rw [List.pairwise_iff_getElem] at hp
  have b1 := hb c[j] (List.getElem_mem _)
  have b2 := hb c[j + 1] (List.getElem_mem _)
  have l1 := lat_small (x := c[j]) (by omega) (by omega)
  have l2 := lat_small (x := c[j + 1]) (by omega) (by omega)
  have h3 := hp j (j + 1) (by omega) h0 (by omega)
  refine ⟨c[j], List.getElem_mem _, ?_⟩
  have : -c[j] = c[j + 1] := by omega
  rw [this]; exact List.getElem_mem _

end Go.Proofs.Ythaplnpebgcgiaa
