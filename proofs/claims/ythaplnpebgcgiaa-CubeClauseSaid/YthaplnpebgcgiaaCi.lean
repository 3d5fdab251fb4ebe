/- cube.Holds, walked: by the library's ContainsFunc. -/
import Derived.Test.YthaplnpebgcgiaaCd
import Derived.Shelf.SlicesE.IndexFunc
import Derived.Ground.SlgfProg
import Derived.Shelf.SlGeneric
import Derived.BigQuiet
import Derived.Deep.QuietTactic
namespace Go.Proofs
open Go.Shelf
shelf_lay_g SlLaysH.n8 Slgf 8 at Try 26 as Try.containsL
end Go.Proofs
namespace Go.Proofs.Ythaplnpebgcgiaa
open Go.RowKit Go.Lib

theorem below_drewN (B : Nat) (w : World) (n : Nat) : Below B w (w.drewN n) := ⟨rfl, rfl, rfl, Nat.le_refl _, fun _ _ => rfl⟩

/-- Numbers of a cube. -/
abbrev Num : Type := { x : Int // (-1000 ≤ x ∧ x ≤ 1000) ∧ x ≠ 0 }
instance : Inhabited Num := ⟨⟨1, ⟨by omega, by omega⟩, by omega⟩⟩
def encN (x : Num) : Value := .int .i64 x.1

/-- Is a state not in a number? -/
def bad (bs : List Bool) (x : Int) : Bool := decide (bs.length < x.natAbs) || (bs.getD (x.natAbs - 1) false != decide (0 < x))
def holds (xs : List Int) (bs : List Bool) : Bool := !xs.any (bad bs)

theorem lat_abs {x : Int} (h1 : -1000 ≤ x) (h2 : x ≤ 1000) : lat x = x.natAbs := by
  unfold lat
  rw [IntWalk.wrap64_in _ ⟨by omega, by omega⟩]
  omega

set_option maxHeartbeats 1000000 in
set_option maxRecDepth 1000000 in
theorem bad_walk (A : Option Addr) (c n k : Nat) (bs : List Bool) (x : Int) (B : Nat) (W : World) (hn : n = bs.length) (hbox : W.cell? ⟨B, 0, none⟩ = some (.slice A n c)) (b : Bool)
    (hb : k < n → ∃ ad, A = some ad ∧ W.cell? (ad.add k) = some (.bool b)) (hk : lat x = (k : Int) + 1) (hl : n ≤ maxLen) (hk1 : k ≤ 1000) :
    Calls Try.prog 27 #[.int .i64 x, .pointer (some ⟨B, 0, none⟩)] W fun e w' => e = .returned (.bool (decide (n < k + 1) || (b != decide (0 < x)))) ∧ ∃ q, w' = W.drewN q := by
  have hlc : ∀ w, Calls Try.prog 24 #[.int .i64 x] w fun e w' => e = .returned (.int .i64 ((k : Int) + 1)) ∧ w' = w := fun w => by
    rw [← hk]; exact (latch_any x w).mono fun _ _ ⟨h1, h2⟩ => ⟨h1, h2.symm⟩
  have HLC := Lib.hid hlc; clear hlc
  clear hk hn
  unfold maxLen at hl
  by_cases h : n < k + 1
  · have hd : decide ((n : Int) < (k : Int) + 1) = true := by simp; omega
    clear hb
    go_enter Try.func27, Try.ntmps27
    go_wp2_with fail
    go_quiet ((go_at_call 24; exact Calls.quiet_of_same (HLC.out _)))
    go_wp2
    go_ret
    exact ⟨by rw [show decide (n < k + 1) = true from decide_eq_true h]; rfl, _, rfl⟩
  · have hd : decide ((n : Int) < (k : Int) + 1) = false := by simp; omega
    have hf : decide (n < k + 1) = false := decide_eq_false h
    obtain ⟨ad, rfl, hcell⟩ := hb (by omega)
    have e1 : IntKind.i64.wrap ((k : Int) + 1 - 1) = (k : Int) := by rw [show (k : Int) + 1 - 1 = k by omega]; exact IntWalk.i64_in _ (by omega)
    have e2 : (0 : Int) ≤ (k : Int) := by omega
    have e3 : (k : Int) < (n : Int) := by omega
    clear hb
    have HF := Lib.hid hf; clear hf
    go_enter Try.func27, Try.ntmps27
    go_wp2_with fail
    go_quiet ((go_at_call 24; exact Calls.quiet_of_same (HLC.out _)))
    go_wp2
    go_ret
    exact ⟨by rw [HF.out]; rfl, _, rfl⟩

theorem bad_pred (A : Option Addr) (c n : Nat) (bs : List Bool) (B : Nat) (w : World) (hn : n = bs.length) (hB : B < w.heap.size) (hbox : w.cell? ⟨B, 0, none⟩ = some (.slice A n c)) (hA : AS Value.bool w w.heap.size A bs) (hl : n ≤ maxLen) :
    PredAt Try.prog 27 #[.pointer (some ⟨B, 0, none⟩)] encN (fun x => bad bs x.1) w := by
  intro W x hW
  obtain ⟨x, ⟨hx1, hx2⟩, hx0⟩ := x
  have hbW : W.cell? ⟨B, 0, none⟩ = some (.slice A n c) := (hW.cell (p := ⟨B, 0, none⟩) hB).trans hbox
  have h := bad_walk A c n (x.natAbs - 1) bs x B W hn hbW (bs.getD (x.natAbs - 1) false) (fun hk => by
    obtain ⟨ad, e, hb, hcell⟩ := (hA.below hW).at_ (k := x.natAbs - 1) (by rw [← hn]; exact hk)
    refine ⟨ad, e, hcell.trans ?_⟩
    rw [List.getD_eq_getElem?_getD, List.getElem?_eq_getElem (by rw [← hn]; exact hk)]; rfl) (by rw [lat_abs hx1 hx2]; omega) hl (by omega)
  have e : decide (n < x.natAbs - 1 + 1) = decide (bs.length < x.natAbs) := by rw [← hn]; congr 1; simp; omega
  rw [e] at h
  exact h

def nums (xs : List Int) (h : ∀ x ∈ xs, (-1000 ≤ x ∧ x ≤ 1000) ∧ x ≠ 0) : List Num := xs.pmap (fun x hx => ⟨x, hx⟩) h

theorem nums_any (p : Int → Bool) : ∀ (xs : List Int) (h : ∀ x ∈ xs, (-1000 ≤ x ∧ x ≤ 1000) ∧ x ≠ 0), (nums xs h).any (fun x => p x.1) = xs.any p
  | [], _ => rfl
  | x :: xs, h => by
    have := nums_any p xs (fun y hy => h y (List.mem_cons_of_mem _ hy))
    unfold nums at *
    simp only [List.pmap, List.any_cons, this]

theorem nums_len (xs : List Int) (h : ∀ x ∈ xs, (-1000 ≤ x ∧ x ≤ 1000) ∧ x ≠ 0) : (nums xs h).length = xs.length := by unfold nums; simp
theorem nums_get (xs : List Int) (h : ∀ x ∈ xs, (-1000 ≤ x ∧ x ≤ 1000) ∧ x ≠ 0) (j : Nat) (hj : j < (nums xs h).length) : encN (nums xs h)[j]! = .int .i64 (xs[j]'(by rw [nums_len] at hj; exact hj)) := by
  rw [getElem!_pos _ j hj]
  have : (nums xs h)[j] = ⟨xs[j]'(by rw [nums_len] at hj; exact hj), h _ (List.getElem_mem _)⟩ := List.getElem_pmap (h := h) _ hj
  rw [this]; rfl

/-- A cube's slice, met by a test of its numbers. -/
theorem contains_any (p : Int → Bool) (g : Nat) (lb : Array Value) (v : Value) (xs : List Int) (w : World) (B : Nat) (hv : RS (Value.int .i64) w B v xs) (hx : ∀ x ∈ xs, (-1000 ≤ x ∧ x ≤ 1000) ∧ x ≠ 0) (hl : xs.length ≤ 1000)
    (eg : ∀ args w, (callFunc g args).run Try.prog w = .ok (.enter g args) w) (hp : PredAt Try.prog g lb encN (fun x => p x.1) w) :
    Calls Try.prog 26 #[v, .func (.func g) #[] lb] w fun e w' => e = .returned (.bool (xs.any p)) ∧ ∃ q, w' = w.drewN q := by
  rcases hv with ⟨rfl, rfl⟩ | ⟨a, c, rfl, _, _, _, _, hc⟩
  · exact Calls.mono (AnyE.slices_ContainsFunc_empty Try.containsL none 0 (.func (.func g) #[] lb) w) fun e w' ⟨he, hw⟩ => ⟨he, 0, hw⟩
  · have h := AnyE.slices_ContainsFunc Try.containsL encN (fun x => p x.1) g lb eg a 0 xs.length c (nums xs hx) w hp (by rw [nums_len]; exact Nat.le_refl _) (by omega) (fun j hj => by
      rw [Nat.zero_add, nums_get xs hx j hj]; exact hc j (by rw [nums_len] at hj; exact hj))
    rw [List.take_of_length_le (by rw [nums_len]; exact Nat.le_refl _), nums_any] at h
    exact h

set_option maxHeartbeats 1000000 in
set_option maxRecDepth 1000000 in
theorem holds_any (v : Value) (xs : List Int) (A : Option Addr) (c : Nat) (bs : List Bool) (w : World) (hv : RS (Value.int .i64) w w.heap.size v xs) (hx : ∀ x ∈ xs, (-1000 ≤ x ∧ x ≤ 1000) ∧ x ≠ 0) (hl : xs.length ≤ 1000)
    (hA : AS Value.bool w w.heap.size A bs) (hb : bs.length ≤ maxLen) :
    Calls Try.prog 10 #[v, .slice A bs.length c] w fun e w' => e = .returned (.bool (holds xs bs)) ∧ Below w.heap.size w w' := by
  unfold holds
  generalize hn : bs.length = n at hb
  have eg : ∀ args w, (callFunc 27 args).run Try.prog w = .ok (.enter 27 args) w := enters_of Try.func27 (by kernel_rfl) rfl
  have hbel := (Below.refl w.heap.size w).alloc (Nat.le_refl _) (.cells #[.slice A n c] 28)
  have hp := bad_pred A c n bs w.heap.size (w.alloc (.cells #[.slice A n c] 28)) hn.symm (by simp) (by simp) ((hA.below hbel).more (by simp)) hb
  have h := contains_any (bad bs) 27 #[.pointer (some ⟨w.heap.size, 0, none⟩)] v xs _ _ (hv.below hbel) hx hl eg hp
  generalize xs.any (bad bs) = r at h ⊢
  have H := Lib.hid h; clear h hp hv hA hx
  have HN := Lib.hid hn; clear hn
  have HB := Lib.hid hbel; clear hbel
  have hmf : ∀ (fn : Fn) (first cap : Array Value) (w : World), (Instr.makeFunc fn first cap).run Try.prog w = .ok (.func fn first cap) w := fun _ _ _ _ => rfl
  go_enter Try.func10, Try.ntmps10
  go_wp2_with fail
  refine H.out.mono ?_
  rintro e w' ⟨rfl, q, rfl⟩
  go_wp2
  go_ret
  exact ⟨rfl, HB.out.trans (Go.Proofs.Ythaplnpebgcgiaa.below_drewN _ _ _)⟩

end Go.Proofs.Ythaplnpebgcgiaa
