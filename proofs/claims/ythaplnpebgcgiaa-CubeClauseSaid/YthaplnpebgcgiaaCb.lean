/- What cube.Clause, cube.Of, the law's bits and SameInts compute. -/
import Derived.Test.YthaplnpebgcgiaaCa
import Derived.BigQuiet
import Derived.Deep.QuietTactic
namespace Go.Proofs.Ythaplnpebgcgiaa
open Go.RowKit Go.Lib

/-- A slice that reads as a list, below a block. -/
def AS {α : Type} (enc : α → Value) (w : World) (B : Nat) (A : Option Addr) (xs : List α) : Prop :=
  xs ≠ [] → ∃ ad, A = some ad ∧ ad.block < B ∧ ∀ j (h : j < xs.length), w.cell? (ad.add j) = some (enc xs[j])

theorem AS.at_ {α : Type} {enc : α → Value} {w : World} {B : Nat} {A : Option Addr} {xs : List α} (h : AS enc w B A xs) {k : Nat} (hk : k < xs.length) :
    ∃ ad, A = some ad ∧ ad.block < B ∧ w.cell? (ad.add k) = some (enc xs[k]) := by
  obtain ⟨ad, e, hb, hc⟩ := h (by intro e; subst e; simp at hk)
  exact ⟨ad, e, hb, hc k hk⟩
theorem AS.below {α : Type} {enc : α → Value} {w w' : World} {B : Nat} {A : Option Addr} {xs : List α} (h : AS enc w B A xs) (hb : Below B w w') : AS enc w' B A xs := fun hn => by
  obtain ⟨ad, e, hl, hc⟩ := h hn
  exact ⟨ad, e, hl, fun j hj => (hb.cell (p := ad.add j) (by rw [addr_add_block]; exact hl)).trans (hc j hj)⟩
theorem AS.more {α : Type} {enc : α → Value} {w : World} {B B' : Nat} {A : Option Addr} {xs : List α} (h : AS enc w B A xs) (hb : B ≤ B') : AS enc w B' A xs := fun hn => by
  obtain ⟨ad, e, hl, hc⟩ := h hn
  exact ⟨ad, e, by omega, hc⟩

theorem take_succ {α : Type} {xs : List α} {k : Nat} (h : k < xs.length) : xs.take (k + 1) = xs.take k ++ [xs[k]] := by
  rw [List.take_succ_eq_append_getElem h]

def Opp (xs : List Int) (k : Nat) : List Int := (xs.take k).map fun x => -x
theorem Opp.succ {xs : List Int} {k : Nat} (h : k < xs.length) : Opp xs (k + 1) = Opp xs k ++ [-xs[k]] := by
  unfold Opp; rw [take_succ h, List.map_append]; rfl
theorem Opp.len (xs : List Int) (k : Nat) (h : k ≤ xs.length) : (Opp xs k).length = k := by unfold Opp; simp; omega

set_option maxHeartbeats 1000000 in
set_option maxRecDepth 1000000 in
theorem clause_any (A : Option Addr) (c : Nat) (xs : List Int) (w : World) (hA : AS (Value.int .i64) w w.heap.size A xs) (hl : xs.length ≤ 1000) (hb : ∀ x ∈ xs, -1000 ≤ x ∧ x ≤ 1000) :
    Calls Try.prog 12 #[.slice A xs.length c] w fun e w' => ∃ v, e = .returned v ∧ Coll 3 (Value.int .i64) w w' v (xs.map fun x => -x) := by
  obtain ⟨i0, hi, hz0, hz1, hz2⟩ := info_parts info3
  generalize hn : xs.length = n at hl
  have HN := Lib.hid hn; clear hn
  have HA := Lib.hid hA; clear hA
  have HB := Lib.hid hb; clear hb
  go_enter Try.func12, Try.ntmps12
  go_wp2
  go_loopw [3, 8] (fun v i wr => ∃ k : Nat, k ≤ n ∧ i = .int .i64 k ∧ Coll 3 (Value.int .i64) w wr v (Opp xs k)) (fun _ i _ => n - (intOf i).toNat)
  case atStart => exact ⟨0, Nat.zero_le _, rfl, by unfold Opp; simp; exact Coll.start _⟩
  case round =>
    obtain ⟨k, hk, rfl, hcol⟩ := hrel
    by_cases h1 : k < n
    · have hkl : k < xs.length := by rw [HN.out]; exact h1
      obtain ⟨ad, rfl, hbl, hcell⟩ := (HA.out.below hcol.bel).at_ hkl
      have hx := HB.out xs[k] (List.getElem_mem _)
      have hlen := Opp.len xs k (by rw [HN.out]; exact hk)
      have hown := hcol.own
      rw [hlen] at hown
      have hsz := hcol.bel.size
      have HS := Lib.hid (Opp.succ hkl)
      generalize xs[k] = x at hcell hx HS
      clear hkl
      have H2 := Lib.hid hcol; clear hcol
      have H3 := Lib.hid hlen; clear hlen
      go_wp2_with (at_builtin; refine wpList_append_own _ rfl _ _ 24 rfl w.heap.size 3 i0 (.int .i64 0) 1 8 Try.underlying24 hi hz0 hz1 hz2 rfl (by decide) _ _ _ rfl (hown.alloc _) ⟨wr.heap.size, 0, none⟩ 1 1 [.int .i64 (-x)] rfl rfl (new_cell _ _ _) (by intro u hu; simp at hu; subst hu; rfl) (by unfold maxLen; omega) (by omega) (by simp; omega) ?_)
      intro v' w1 hown' hgrow _
      have R : Coll 3 (Value.int .i64) w w1 v' (Opp xs (k + 1)) := by rw [HS.out]; exact H2.out.app (by rw [H3.out]; exact hown') hgrow
      clear hown' hgrow hown
      go_wp2
      go_roundw
      case rel => exact ⟨k + 1, by omega, by go_num, R⟩
      case measure => simp [intOf]; omega
    · have R : Coll 3 (Value.int .i64) w wr u3 (xs.map fun x => -x) := by
        have : Opp xs k = xs.map fun x => -x := by unfold Opp; rw [List.take_of_length_le (by rw [HN.out]; omega)]
        rw [← this]; exact hcol
      clear hcol
      go_wp2
      go_ret
      exact ⟨_, rfl, R⟩

end Go.Proofs.Ythaplnpebgcgiaa
