/- cube.Covers, and the reference's SameInts, walked. -/
import Derived.Test.YthaplnpebgcgiaaCi
import Derived.Test.YthaplnpebgcgiaaShelf
namespace Go.Proofs.Ythaplnpebgcgiaa
open Go.RowKit Go.Lib

def covers (xs ys : List Int) : Bool := !xs.any fun x => !ys.contains x

theorem has_any (v : Value) (ys : List Int) (x : Int) (W : World) (B : Nat) (hv : RS (Value.int .i64) W B v ys) (hl : ys.length ≤ 1000) :
    Calls Try.prog 29 #[v, .int .i64 x] W fun e w' => e = .returned (.bool (ys.contains x)) ∧ W = w' := by
  rcases hv with ⟨rfl, rfl⟩ | ⟨a, c, rfl, _, _, _, _, hc⟩
  · exact (Try.slices_Contains_int_empty none 0 x W).mono fun e w' ⟨he, hw⟩ => ⟨he, hw.symm⟩
  · refine (Try.slices_Contains_int a 0 ys.length c ys x W (Nat.le_refl _) (by omega) (fun j hj => by rw [Nat.zero_add, hc j hj]; simp [hj])).mono fun e w' ⟨he, hw⟩ => ⟨?_, hw.symm⟩
    rw [he, List.take_of_length_le (Nat.le_refl _)]

set_option maxRecDepth 1000000 in
theorem lacks_pred (v : Value) (ys : List Int) (B : Nat) (w : World) (hB : B < w.heap.size) (hbox : w.cell? ⟨B, 0, none⟩ = some v) (hv : RS (Value.int .i64) w w.heap.size v ys) (hl : ys.length ≤ 1000) :
    PredAt Try.prog 28 #[.pointer (some ⟨B, 0, none⟩)] encN (fun x => !ys.contains x.1) w := by
  intro W x hW
  have hbW : W.cell? ⟨B, 0, none⟩ = some v := (hW.cell (p := ⟨B, 0, none⟩) hB).trans hbox
  have h := has_any v ys x.1 W _ (hv.below hW) hl
  obtain ⟨x, hx⟩ := x
  simp only at h ⊢
  show Calls Try.prog 28 #[.int .i64 x, .pointer (some ⟨B, 0, none⟩)] W _
  generalize ys.contains x = r at h ⊢
  have H := Lib.hid h; clear h hv hbox hW hx
  go_enter Try.func28, Try.ntmps28
  go_wp2_with (go_at_call 29; refine H.out.mono ?_; rintro e w' ⟨rfl, rfl⟩)
  go_ret
  exact ⟨rfl, 0, rfl⟩

set_option maxHeartbeats 1000000 in
set_option maxRecDepth 1000000 in
theorem covers_any (v u : Value) (xs ys : List Int) (w : World) (hv : RS (Value.int .i64) w w.heap.size v xs) (hx : ∀ x ∈ xs, (-1000 ≤ x ∧ x ≤ 1000) ∧ x ≠ 0) (hl : xs.length ≤ 1000)
    (hu : RS (Value.int .i64) w w.heap.size u ys) (hl2 : ys.length ≤ 1000) :
    Calls Try.prog 11 #[v, u] w fun e w' => e = .returned (.bool (covers xs ys)) ∧ Below w.heap.size w w' := by
  unfold covers
  obtain ⟨A, n, c, rfl⟩ : ∃ A n c, u = .slice A n c := by
    rcases hu with ⟨rfl, _⟩ | ⟨g, c, rfl, _⟩
    · exact ⟨_, _, _, rfl⟩
    · exact ⟨_, _, _, rfl⟩
  have eg : ∀ args w, (callFunc 28 args).run Try.prog w = .ok (.enter 28 args) w := enters_of Try.func28 (by kernel_rfl) rfl
  have hbel := (Below.refl w.heap.size w).alloc (Nat.le_refl _) (.cells #[.slice A n c] 24)
  have hbox : (w.alloc (.cells #[.slice A n c] 24)).cell? ⟨w.heap.size, 0, none⟩ = some (.slice A n c) := by simp
  have hp := lacks_pred (.slice A n c) ys w.heap.size (w.alloc (.cells #[.slice A n c] 24)) (by simp) hbox ((hu.below hbel).more (by simp)) hl2
  have h := contains_any (fun x => !ys.contains x) 28 #[.pointer (some ⟨w.heap.size, 0, none⟩)] v xs _ _ (hv.below hbel) hx hl eg hp
  generalize (xs.any fun x => !ys.contains x) = r at h ⊢
  have H := Lib.hid h; clear h hp hv hx hbox
  have HB := Lib.hid hbel; clear hbel
  have hmf : ∀ (fn : Fn) (first cap : Array Value) (w : World), (Instr.makeFunc fn first cap).run Try.prog w = .ok (.func fn first cap) w := fun _ _ _ _ => rfl
  clear hu
  go_enter Try.func11, Try.ntmps11
  go_wp2_with fail
  refine H.out.mono ?_
  rintro e w' ⟨rfl, q, rfl⟩
  go_wp2
  go_ret
  exact ⟨rfl, HB.out.trans (below_drewN _ _ _)⟩

/-- Two slices of ints, element by element. -/
def Same (xs ys : List Int) (k : Nat) : Prop := ∀ j, j < k → xs.getD j 0 = ys.getD j 0
theorem Same.next {xs ys : List Int} {k : Nat} (h : Same xs ys k) (he : xs.getD k 0 = ys.getD k 0) : Same xs ys (k + 1) := by
  intro j hj
  by_cases e : j = k
  · subst e; exact he
  · exact h j (by omega)
theorem Same.all {xs ys : List Int} (h : Same xs ys xs.length) (hl : xs.length = ys.length) : xs = ys := by
  refine List.ext_getElem hl fun j h1 h2 => ?_
  have := h j h1
  simpa [List.getD_eq_getElem?_getD, h1, h2] using this

set_option maxHeartbeats 1000000 in
set_option maxRecDepth 1000000 in
theorem same_any (v u : Value) (xs ys : List Int) (w : World) (hv : RS (Value.int .i64) w w.heap.size v xs) (hl : xs.length ≤ 1000) (hu : RS (Value.int .i64) w w.heap.size u ys) (hl2 : ys.length ≤ 1000) :
    Calls Try.prog 14 #[v, u] w fun e w' => e = .returned (.bool (decide (xs = ys))) ∧ Below w.heap.size w w' := by
  have fa : ∀ (v : Value) (xs : List Int), RS (Value.int .i64) w w.heap.size v xs → ∃ A c, v = .slice A xs.length c ∧ ∀ j, (h : j < xs.length) → ∃ g, A = some ⟨g, 0, none⟩ ∧ w.cell? ⟨g, j, none⟩ = some (.int .i64 (xs.getD j 0)) := by
    intro v xs hv
    rcases hv with ⟨rfl, rfl⟩ | ⟨g, c, rfl, _, _, _, _, hc⟩
    · exact ⟨none, 0, rfl, fun j h => by simp at h⟩
    · exact ⟨_, c, rfl, fun j h => ⟨g, rfl, by rw [hc j h]; simp [h]⟩⟩
  obtain ⟨A, c, rfl, ha⟩ := fa v xs hv
  obtain ⟨A', c', rfl, hb⟩ := fa u ys hu
  clear hv hu fa
  generalize hn : xs.length = n at ha hl
  generalize hm : ys.length = m at hb hl2
  have HN := Lib.hid hn; clear hn
  have HM := Lib.hid hm; clear hm
  have HA := Lib.hid ha; clear ha
  have HB := Lib.hid hb; clear hb
  by_cases hnm : n = m
  · subst hnm
    go_enter Try.func14, Try.ntmps14
    go_wp2
    go_loopw [5] (fun i wr => ∃ k : Nat, k ≤ n ∧ i = .int .i64 k ∧ Same xs ys k ∧ ∃ q, wr = w.drewN q) (fun i _ => n - (intOf i).toNat)
    case atStart => exact ⟨0, Nat.zero_le _, rfl, fun j hj => by omega, 0, rfl⟩
    case round =>
      obtain ⟨k, hk, rfl, hs, q, rfl⟩ := hrel
      have HS := Lib.hid hs; clear hs
      by_cases h1 : k < n
      · obtain ⟨g, rfl, hc⟩ := HA.out k h1
        obtain ⟨g', rfl, hc'⟩ := HB.out k h1
        by_cases he : xs.getD k 0 = ys.getD k 0
        · have HS2 := Lib.hid (HS.out.next he)
          rw [he] at hc
          clear he
          generalize ys.getD k 0 = y at hc hc'
          go_wp2_with fail
          go_quiet (fail)
          go_wp2
          go_roundw
          case rel => exact ⟨k + 1, by omega, by go_num, HS2.out, _, rfl⟩
          case measure => simp [intOf]; omega
        · have HE := Lib.hid (show decide (xs = ys) = false from decide_eq_false (fun e => he (by rw [e])))
          generalize xs.getD k 0 = x at hc he
          generalize ys.getD k 0 = y at hc' he
          have hd : (x != y) = true := by simpa using he
          clear he
          go_wp2_with fail
          go_quiet (fail)
          go_wp2
          go_ret
          exact ⟨by rw [HE.out]; rfl, (below_drewN _ _ _).trans (below_drewN _ _ _)⟩
      · have e : k = n := by omega
        have HE := Lib.hid (show decide (xs = ys) = true from decide_eq_true ((by rw [HN.out, ← e]; exact HS.out : Same xs ys xs.length).all (by rw [HN.out, HM.out])))
        clear e
        go_wp2
        go_ret
        exact ⟨by rw [HE.out]; rfl, below_drewN _ _ _⟩
  · have HE := Lib.hid (show decide (xs = ys) = false from decide_eq_false (fun e => hnm (by rw [← HN.out, ← HM.out, e])))
    have hd : ((n : Int) != (m : Int)) = true := by simp; omega
    go_enter Try.func14, Try.ntmps14
    go_wp2
    go_ret
    exact ⟨by rw [HE.out]; rfl, Below.refl _ _⟩

end Go.Proofs.Ythaplnpebgcgiaa
