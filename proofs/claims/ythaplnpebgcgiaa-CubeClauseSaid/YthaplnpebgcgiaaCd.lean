/- The order by which cube.Norm sorts. -/
import Derived.Test.YthaplnpebgcgiaaCb
import Derived.Test.YthaplnpebgcgiaaShelf
import Derived.Handy
import Derived.Shelf.SlSortCmp.Kit1
namespace Go.Proofs.Ythaplnpebgcgiaa
open Go.RowKit Go.Lib

/-- A number's latch. -/
def lat (x : Int) : Int := max x (wrap64 (-x))

set_option maxRecDepth 1000000 in
theorem latch_any (x : Int) (w : World) : Calls Try.prog 24 #[.int .i64 x] w fun e w' => e = .returned (.int .i64 (lat x)) ∧ w = w' := by
  go_enter Try.func24, Try.ntmps24
  go_wp2
  go_ret
  exact ⟨rfl, rfl⟩

set_option maxRecDepth 1000000 in
theorem or_hit (g : Nat) (a b : Int) (w : World) (h0 : w.cell? ⟨g, 0, none⟩ = some (.int .i64 a)) (ha : a ≠ 0) :
    Calls Try.prog 22 #[.slice (some ⟨g, 0, none⟩) 2 2] w fun e w' => e = .returned (.int .i64 a) ∧ w = w' := by
  have hb : (a != 0) = true := by simpa using ha
  go_enter Try.func22, Try.ntmps22
  go_wp2
  go_rounds 1
  all_goals (go_ret; exact ⟨rfl, rfl⟩)

set_option maxRecDepth 1000000 in
theorem or_next (g : Nat) (b : Int) (w : World) (h0 : w.cell? ⟨g, 0, none⟩ = some (.int .i64 0)) (h1 : w.cell? ⟨g, 1, none⟩ = some (.int .i64 b)) :
    Calls Try.prog 22 #[.slice (some ⟨g, 0, none⟩) 2 2] w fun e w' => e = .returned (.int .i64 b) ∧ w = w' := by
  by_cases hz : b = 0
  · subst hz
    go_enter Try.func22, Try.ntmps22
    go_wp2
    go_rounds 3
    all_goals (go_ret; exact ⟨rfl, rfl⟩)
  · have hb : (b != 0) = true := by simpa using hz
    go_enter Try.func22, Try.ntmps22
    go_wp2
    go_rounds 3
    all_goals (go_ret; exact ⟨rfl, rfl⟩)

def cf (x y : Int) : Int := if Lib.compareInt (lat x) (lat y) ≠ 0 then Lib.compareInt (lat x) (lat y) else Lib.compareInt x y

theorem or_any (g : Nat) (a b : Int) (w : World) (h0 : w.cell? ⟨g, 0, none⟩ = some (.int .i64 a)) (h1 : w.cell? ⟨g, 1, none⟩ = some (.int .i64 b)) :
    Calls Try.prog 22 #[.slice (some ⟨g, 0, none⟩) 2 2] w fun e w' => e = .returned (.int .i64 (if a ≠ 0 then a else b)) ∧ w = w' := by
  by_cases ha : a = 0
  · subst ha
    simpa using or_next g b w h0 h1
  · simpa [ha] using or_hit g a b w h0 ha

set_option maxRecDepth 1000000 in
theorem order_any (x y : Int) (w : World) :
    Calls Try.prog 21 #[.int .i64 x, .int .i64 y] w fun e w' => e = .returned (.int .i64 (cf x y)) ∧ w' = w.alloc (.cells #[.int .i64 (Lib.compareInt (lat x) (lat y)), .int .i64 (Lib.compareInt x y)] 3) := by
  have hc1 := Try.cmp_Compare_int (lat x) (lat y)
  have hc2 := Try.cmp_Compare_int x y
  have hl := latch_any x
  have hl2 := latch_any y
  unfold cf
  generalize Lib.compareInt (lat x) (lat y) = a at hc1 ⊢
  generalize Lib.compareInt x y = b at hc2 ⊢
  generalize lat x = lx at hc1 hl
  generalize lat y = ly at hc1 hl2
  have ho := or_any w.heap.size a b (w.alloc (.cells #[.int .i64 a, .int .i64 b] 3)) (by simp) (by simp)
  have HC1 := Lib.hid hc1; clear hc1
  have HC2 := Lib.hid hc2; clear hc2
  have HL := Lib.hid hl; clear hl
  have HL2 := Lib.hid hl2; clear hl2
  have HO := Lib.hid ho; clear ho
  go_enter Try.func21, Try.ntmps21
  go_wp2_with (first
    | ((go_at_call 24; with_reducible refine (HL.out _).mono ?_); rintro e w' ⟨rfl, rfl⟩)
    | ((go_at_call 24; with_reducible refine (HL2.out _).mono ?_); rintro e w' ⟨rfl, rfl⟩)
    | ((go_at_call 23; with_reducible refine (HC1.out _).mono ?_); rintro e w' ⟨rfl, rfl⟩)
    | ((go_at_call 23; with_reducible refine (HC2.out _).mono ?_); rintro e w' ⟨rfl, rfl⟩)
    | (go_at_call 22; refine HO.out.mono ?_; rintro e w' ⟨rfl, rfl⟩))
  all_goals (go_ret; exact ⟨rfl, rfl⟩)

open Go.Sort in
theorem grow_alloc (W : World) (o : Obj) : W.alloc o = grow (W.drewN 0) #[o] := by
  unfold grow
  rw [show W.drewN 0 = W from rfl, Array.append_singleton]
  rfl

open Go.Sort in
theorem cmpLays (blk off size : Nat) (w : World) : CmpLays1 Try.prog 21 #[] (Value.int .i64) cf blk off size w :=
  fun _ _ _ _ x y => (order_any x y _).mono fun e w' ⟨he, hw⟩ => ⟨he, 0, #[.cells #[.int .i64 (Lib.compareInt (lat x) (lat y)), .int .i64 (Lib.compareInt x y)] 3], hw.trans (grow_alloc _ _)⟩

open Go.Sort in
theorem cf_lt (x y : Int) : ltOf cf x y = decide (lat x < lat y ∨ (lat x = lat y ∧ x < y)) := by
  unfold ltOf cf Lib.compareInt
  by_cases h1 : lat x < lat y
  · simp [h1]
  · by_cases h2 : lat y < lat x
    · simp [h1, h2]; omega
    · have : lat x = lat y := by omega
      simp [this]
      by_cases h3 : x < y
      · simp [h3]
      · by_cases h4 : y < x
        · simp [h3, h4]
        · simp [h3, h4]

open Go.Sort in
theorem cf_swo : SWO (ltOf cf) where
  irrefl x := by rw [cf_lt]; simp
  trans x y z h1 h2 := by rw [cf_lt] at *; simp at *; omega
  ntrans x y z h1 h2 := by rw [cf_lt] at *; simp at *; omega

end Go.Proofs.Ythaplnpebgcgiaa
