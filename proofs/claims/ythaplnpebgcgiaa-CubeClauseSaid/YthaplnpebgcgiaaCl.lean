/- The callees of the cube's laws, as the laws call them. -/
import Derived.Test.YthaplnpebgcgiaaCh
import Derived.Test.YthaplnpebgcgiaaCk
import Derived.Test.YthaplnpebgcgiaaCc
import Derived.Test.YthaplnpebgcgiaaAxTB
import Derived.Test.YthaplnpebgcgiaaAxTHc
import Derived.Handy
namespace Go.Proofs.Ythaplnpebgcgiaa
open Go.RowKit Go.Lib

/-- A slice of int8 that came in. -/
def In8 (w : World) (B : Nat) (a : Option Addr) (len : Nat) (zs : List Int) : Prop :=
  0 < len → ∃ x, a = some x ∧ x.block < B ∧ len ≤ zs.length ∧ zs.length ≤ maxLen ∧ (∀ i, i < zs.length → w.cell? (x.add i) = some (.int .i8 (zs.getD i 0))) ∧ ∀ n ∈ zs, (Lit.int .i8 n).wf = true

theorem In8.below {w w' : World} {B : Nat} {a : Option Addr} {len : Nat} {zs : List Int} (h : In8 w B a len zs) (hb : Below B w w') : In8 w' B a len zs := fun hl => by
  obtain ⟨x, e, h1, h2, h3, h4, h5⟩ := h hl
  exact ⟨x, e, h1, h2, h3, fun i hi => (hb.cell (p := x.add i) (by rw [addr_add_block]; exact h1)).trans (h4 i hi), h5⟩
theorem In8.more {w : World} {B B' : Nat} {a : Option Addr} {len : Nat} {zs : List Int} (h : In8 w B a len zs) (hb : B ≤ B') : In8 w B' a len zs := fun hl => by
  obtain ⟨x, e, h1, h2⟩ := h hl
  exact ⟨x, e, by omega, h2⟩

set_option maxRecDepth 1000000 in
theorem narrow_zero (a : Option Addr) (c : Nat) (w : World) : Calls Try.prog 8 #[.slice a 0 c] w fun e w' => ∃ v, e = .returned v ∧ NarRel w 12 v w' := by
  go_enter Try.func8, Try.ntmps8
  go_wp2
  go_rounds 1
  all_goals (go_ret; exact ⟨_, rfl, [], ⟨by simp, by simp⟩, Coll.start _⟩)

theorem narrow_in (a : Option Addr) (len c : Nat) (zs : List Int) (w : World) (B : Nat) (h : In8 w B a len zs) (hB : B ≤ w.heap.size) :
    Calls Try.prog 8 #[.slice a len c] w fun e w' => ∃ v xs, e = .returned v ∧ Nice xs 12 ∧ RS (Value.int .i64) w' w'.heap.size v xs ∧ Below w.heap.size w w' := by
  by_cases hl : 0 < len
  · obtain ⟨x, rfl, h1, h2, h3, h4, h5⟩ := h hl
    refine (narrow_some x len c zs w h2 h3 (by omega) h4 h5).mono fun e w' ⟨v, he, xs, hn, hc⟩ => ⟨v, xs, he, hn, hc.rs, hc.bel⟩
  · obtain rfl : len = 0 := by omega
    refine (narrow_zero a c w).mono fun e w' ⟨v, he, xs, hn, hc⟩ => ⟨v, xs, he, hn, hc.rs, hc.bel⟩

theorem norm_any (v : Value) (xs : List Int) (w : World) (hv : RS (Value.int .i64) w w.heap.size v xs) (hx : Nice xs 12) : Calls Try.prog 7 #[v] w (Normed w xs) := by
  rcases hv with ⟨rfl, rfl⟩ | ⟨g, c, rfl, h1, h2, h3, h4, h5⟩
  · refine (Go.Ax.Try.norm_nil w).mono fun e w' ⟨he, hb⟩ => ⟨hb, .inl ⟨_, [], he, .inl ⟨rfl, rfl⟩, by simp, List.Pairwise.nil⟩⟩
  · exact norm_some g c xs w hx h1 h4 h5

theorem head_any (w : World) : Calls Try.prog 6 #[] w fun e w' => e = .returned (.bool true) ∧ Below w.heap.size w w' := Go.Ax.Try.head_calls w

theorem bits_in (k : Nat) (hk : k < 64) (w : World) : Calls Try.prog 9 #[.int .i64 (k : Int), .int .i64 6] w fun e w' => Below w.heap.size w w' ∧ ∃ A c, e = .returned (.slice A 6 c) ∧ AS Value.bool w' w'.heap.size A (bitsOf k) :=
  (Go.Ax.Try.bits_calls k hk w).mono fun e w' ⟨hb, b, o, c, he, h1, h2⟩ => ⟨hb, _, c, he, fun _ => ⟨⟨b, o, none⟩, rfl, h1, fun j hj => by
    have := h2 j hj
    unfold Addr.add
    split
    · next e => subst e; exact this
    · exact this⟩⟩

end Go.Proofs.Ythaplnpebgcgiaa
