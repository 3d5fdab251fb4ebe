/- Sorting and dropping equals, as cube.Norm calls them. -/
import Derived.Test.YthaplnpebgcgiaaCd
import Derived.Test.YthaplnpebgcgiaaCe
import Derived.Shelf.SlSortCmp.Whole1
import Derived.Ground.SlsfProg
import Derived.Shelf.SlGeneric
namespace Go.Proofs
open Go.Shelf
shelf_lay_g SlLaysF.n6 Slsf 6 at Try 20 as Try.sortL
end Go.Proofs
namespace Go.Proofs.Ythaplnpebgcgiaa
open Go.Lib

theorem below_sort (B : Nat) (enc : Int → Value) (w : World) (blk off m : Nat) (dk : Array Int) (os : Array Obj) (hB : B ≤ blk) (hw : B ≤ w.heap.size) : Go.RowKit.Below B w (sortWorld enc w blk off m dk os) := by
  refine ⟨rfl, rfl, rfl, ?_, fun k hk => ?_⟩
  · unfold sortWorld Go.Sort.grow Go.Sort.putRow Go.Sort.mapBlock Go.Sort.ahead
    simp
  · unfold sortWorld Go.Sort.grow Go.Sort.putRow Go.Sort.mapBlock Go.Sort.ahead
    simp only
    rw [Array.getElem?_append_left (by simp; omega), Array.getElem?_modify, if_neg (by omega)]

def le2 (x y : Int) : Prop := lat x < lat y ∨ (lat x = lat y ∧ x ≤ y)

theorem sort_own (B g cap : Nat) (zs : List Int) (w : World) (hB : B ≤ g) (hg : g < w.heap.size) (hH : Go.Sort.Holds (Value.int .i64) w g 0 zs.toArray) (hl : zs.length ≤ 1000) :
    Calls Try.prog 20 #[.slice (some ⟨g, 0, none⟩) zs.length cap, .func (.func 21) #[] #[]] w fun e w' => e = .returned (.tuple #[]) ∧
      ∃ ys : List Int, ys.Perm zs ∧ (∀ i j, i ≤ j → j < ys.length → le2 ys.toArray[i]! ys.toArray[j]!) ∧ Go.Sort.Holds (Value.int .i64) w' g 0 ys.toArray ∧ g < w'.heap.size ∧ Go.RowKit.Below B w w' := by
  have eg : ∀ args w, (callFunc 21 args).run Try.prog w = .ok (.enter 21 args) w := enters_of Try.func21 (by kernel_rfl) rfl
  have hcon := Any.slices_SortFunc Try.sortL (Value.int .i64) (fun _ => rfl) cf cf_swo 21 #[] g 0 cap zs.toArray w eg (cmpLays g 0 zs.toArray.size w) hH hg (by simp; omega)
  refine Calls.mono (R := fun e w' => e = .returned (.tuple #[]) ∧ ∃ d' n os, Go.Sort.PermIn 0 zs.toArray.size zs.toArray d' ∧ Go.Sort.SortedIn (ltOf cf) 0 zs.toArray.size d' ∧ w' = sortWorld (Value.int .i64) w g 0 n d' os) hcon fun e w' ⟨he, d', n, os, ⟨p1, _, p3⟩, hs, hw⟩ => ⟨he, d'.toList, ?_, ?_, ?_, ?_, ?_⟩
  · have h := p3
    simp only [Array.toList_extract, List.extract_eq_take_drop, List.drop_zero, Nat.sub_zero, List.size_toArray] at h
    rw [List.take_of_length_le (by simp at p1 ⊢; omega), List.take_of_length_le (Nat.le_refl _)] at h
    exact h
  · intro i j hij hj
    by_cases e : i = j
    · subst e; exact .inr ⟨rfl, Int.le_refl _⟩
    · have := hs i j (Nat.zero_le _) (by omega) (by simp at hj p1 ⊢; omega)
      rw [cf_lt] at this
      simp only [Array.toArray_toList]
      simp at this
      unfold le2
      omega
  · rw [hw]; simp only [Array.toArray_toList]; exact holds_sortWorld _ _ _ _ _ zs.toArray _ _ hg hH p1
  · rw [hw]; exact lt_sortWorld _ _ _ _ _ _ _ hg
  · rw [hw]; exact below_sort B _ _ _ _ _ _ _ hB (by omega)

theorem compact_own (B g cap : Nat) (zs : List Int) (w : World) (hB : B ≤ g) (hg : g < w.heap.size) (hH : Go.Sort.Holds (Value.int .i64) w g 0 zs.toArray) (hl : zs.length ≤ 1000) (hc : zs.length ≤ cap) :
    Calls Try.prog 25 #[.slice (some ⟨g, 0, none⟩) zs.length cap] w fun e w' => e = .returned (.slice (some ⟨g, 0, none⟩) (Lib.compact zs).length cap) ∧
      (∀ j (h : j < (Lib.compact zs).length), w'.cell? ⟨g, j, none⟩ = some (.int .i64 (Lib.compact zs)[j])) ∧ g < w'.heap.size ∧ Go.RowKit.Below B w w' := by
  refine (Try.slices_Compact_int g 0 cap zs w hH (by omega) hc).mono fun e w' ⟨he, q, hw⟩ => ?_
  have hle : (Lib.compact zs).length ≤ zs.length := by
    unfold Lib.compact compactUpTo
    simp only [List.length_map]
    refine Nat.le_trans (List.length_filter_le _ _) ?_
    simp
  have hsz : (Lib.compact zs ++ List.replicate (zs.length - (Lib.compact zs).length) 0).toArray.size = zs.toArray.size := by simp; omega
  have hw' : w' = sortWorld (Value.int .i64) w g 0 q (Lib.compact zs ++ List.replicate (zs.length - (Lib.compact zs).length) 0).toArray #[] := by
    rw [hw]; unfold sortWorld; rw [Go.Sort.grow_empty]
  have h2 := holds_sortWorld (Value.int .i64) w g 0 q zs.toArray _ #[] hg hH hsz
  refine ⟨he, fun j hj => ?_, ?_, ?_⟩
  · have := (h2 j (by simp; omega)).1
    rw [hw', Nat.zero_add] at *
    rw [this]
    congr 2
    rw [getElem!_pos _ j (by simp; omega)]
    simp [List.getElem_append_left hj]
  · rw [hw']; exact lt_sortWorld _ _ _ _ _ _ _ hg
  · rw [hw']; exact below_sort B _ _ _ _ _ _ _ hB (by omega)

end Go.Proofs.Ythaplnpebgcgiaa
