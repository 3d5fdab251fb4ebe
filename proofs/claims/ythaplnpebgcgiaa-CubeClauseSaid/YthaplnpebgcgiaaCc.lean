/- What cube.Of and the law's bits compute. -/
import Derived.Test.YthaplnpebgcgiaaCb
namespace Go.Proofs.Ythaplnpebgcgiaa
open Go.RowKit Go.Lib

def Own (bs : List Bool) (k : Nat) : List Int := (List.range k).map fun i => if bs.getD i false then (i : Int) + 1 else -(i : Int) - 1
theorem Own.yes {bs : List Bool} {k : Nat} (h : k < bs.length) (hb : bs[k] = true) : Own bs (k + 1) = Own bs k ++ [(k : Int) + 1] := by
  unfold Own; rw [List.range_succ, List.map_append]; simp [List.getD_eq_getElem?_getD, h, hb]
theorem Own.no {bs : List Bool} {k : Nat} (h : k < bs.length) (hb : bs[k] = false) : Own bs (k + 1) = Own bs k ++ [-(k : Int) - 1] := by
  unfold Own; rw [List.range_succ, List.map_append]; simp [List.getD_eq_getElem?_getD, h, hb]
theorem Own.len (bs : List Bool) (k : Nat) : (Own bs k).length = k := by unfold Own; simp

set_option maxHeartbeats 1000000 in
set_option maxRecDepth 1000000 in
theorem of_any (A : Option Addr) (c : Nat) (bs : List Bool) (w : World) (hA : AS Value.bool w w.heap.size A bs) (hl : bs.length ≤ 1000) :
    Calls Try.prog 13 #[.slice A bs.length c] w fun e w' => ∃ v, e = .returned v ∧ Coll 3 (Value.int .i64) w w' v (Own bs bs.length) := by
  obtain ⟨i0, hi, hz0, hz1, hz2⟩ := info_parts info3
  generalize hn : bs.length = n at hl
  have HN := Lib.hid hn; clear hn
  have HA := Lib.hid hA; clear hA
  go_enter Try.func13, Try.ntmps13
  go_wp2
  go_loopw [3, 8] (fun v i wr => ∃ k : Nat, k ≤ n ∧ i = .int .i64 k ∧ Coll 3 (Value.int .i64) w wr v (Own bs k)) (fun _ i _ => n - (intOf i).toNat)
  case atStart => exact ⟨0, Nat.zero_le _, rfl, by unfold Own; simp; exact Coll.start _⟩
  case round =>
    obtain ⟨k, hk, rfl, hcol⟩ := hrel
    by_cases h1 : k < n
    · have hkl : k < bs.length := by rw [HN.out]; exact h1
      obtain ⟨ad, rfl, hbl, hcell⟩ := (HA.out.below hcol.bel).at_ hkl
      have hown := hcol.own
      rw [Own.len] at hown
      have hsz := hcol.bel.size
      have H2 := Lib.hid hcol; clear hcol
      cases hbk : bs[k] with
      | true =>
        rw [hbk] at hcell
        have HS := Lib.hid (Own.yes hkl hbk)
        clear hbk hkl
        go_wp2_with (at_builtin; refine wpList_append_own _ rfl _ _ 24 rfl w.heap.size 3 i0 (.int .i64 0) 1 8 Try.underlying24 hi hz0 hz1 hz2 rfl (by decide) _ _ _ rfl (hown.alloc _) ⟨wr.heap.size, 0, none⟩ 1 1 [.int .i64 ((k : Int) + 1)] rfl rfl (new_cell _ _ _) (by intro u hu; simp at hu; subst hu; rfl) (by unfold maxLen; omega) (by omega) (by simp; omega) ?_)
        intro v' w1 hown' hgrow _
        have R : Coll 3 (Value.int .i64) w w1 v' (Own bs (k + 1)) := by rw [HS.out]; exact H2.out.app (by rw [Own.len]; exact hown') hgrow
        clear hown' hgrow hown
        go_wp2
        go_roundw
        case rel => exact ⟨k + 1, by omega, by go_num, R⟩
        case measure => simp [intOf]; omega
      | false =>
        rw [hbk] at hcell
        have HS := Lib.hid (Own.no hkl hbk)
        clear hbk hkl
        go_wp2_with (at_builtin; refine wpList_append_own _ rfl _ _ 24 rfl w.heap.size 3 i0 (.int .i64 0) 1 8 Try.underlying24 hi hz0 hz1 hz2 rfl (by decide) _ _ _ rfl (hown.alloc _) ⟨wr.heap.size, 0, none⟩ 1 1 [.int .i64 (-(k : Int) - 1)] rfl rfl (new_cell _ _ _) (by intro u hu; simp at hu; subst hu; rfl) (by unfold maxLen; omega) (by omega) (by simp; omega) ?_)
        intro v' w1 hown' hgrow _
        have R : Coll 3 (Value.int .i64) w w1 v' (Own bs (k + 1)) := by rw [HS.out]; exact H2.out.app (by rw [Own.len]; exact hown') hgrow
        clear hown' hgrow hown
        go_wp2
        go_roundw
        case rel => exact ⟨k + 1, by omega, by go_num, R⟩
        case measure => simp [intOf]; omega
    · have e : k = n := by omega
      subst e
      go_wp2
      go_ret
      exact ⟨_, rfl, hcol⟩

def Bt (bs : List Bool) (k : Nat) : List Bool := (List.range k).map fun i => bs.getD i false
theorem Bt.succ (bs : List Bool) (k : Nat) : Bt bs (k + 1) = Bt bs k ++ [bs.getD k false] := by
  unfold Bt; rw [List.range_succ, List.map_append]; rfl
theorem Bt.len (bs : List Bool) (k : Nat) : (Bt bs k).length = k := by unfold Bt; simp

set_option maxHeartbeats 1000000 in
set_option maxRecDepth 1000000 in
theorem bits_any (A : Option Addr) (c : Nat) (bs : List Bool) (w : World) (hA : AS Value.bool w w.heap.size A bs) (hl : bs.length ≤ maxLen) :
    Calls Try.prog 15 #[.slice A bs.length c, .int .i64 6] w fun e w' => ∃ v, e = .returned v ∧ Coll 4 Value.bool w w' v (Bt bs 6) := by
  obtain ⟨i0, hi, hz0, hz1, hz2⟩ := info_parts info4
  unfold maxLen at hl
  generalize hn : bs.length = n at hl
  have HN := Lib.hid hn; clear hn
  have HA := Lib.hid hA; clear hA
  go_enter Try.func15, Try.ntmps15
  go_wp2
  go_loopw [5, 6] (fun v i wr => ∃ k : Nat, k ≤ 6 ∧ i = .int .i64 k ∧ Coll 4 Value.bool w wr v (Bt bs k)) (fun _ i _ => 6 - (intOf i).toNat)
  case atStart => exact ⟨0, Nat.zero_le _, rfl, by unfold Bt; simp; exact Coll.start _⟩
  case round =>
    obtain ⟨k, hk, rfl, hcol⟩ := hrel
    by_cases h1 : k < 6
    · have hown := hcol.own
      rw [Bt.len] at hown
      have hsz := hcol.bel.size
      have hi6 : (k : Int) < 6 := by omega
      have HS := Lib.hid (Bt.succ bs k)
      by_cases h2 : k < n
      · have hkl : k < bs.length := by rw [HN.out]; exact h2
        obtain ⟨ad, rfl, hbl, hcell⟩ := (HA.out.below hcol.bel).at_ hkl
        have hg := Lib.hid (show bs.getD k false = bs[k] by simp [List.getD_eq_getElem?_getD, hkl])
        have H2 := Lib.hid hcol; clear hcol
        generalize bs[k] = b at hcell hg
        clear hkl
        go_wp2_with (at_builtin; refine wpList_append_own _ rfl _ _ 28 rfl w.heap.size 4 i0 (.bool false) 1 1 Try.underlying28 hi hz0 hz1 hz2 rfl (by decide) _ _ _ rfl (hown.alloc _) ⟨wr.heap.size, 0, none⟩ 1 1 [.bool b] rfl rfl (new_cell _ _ _) (by intro u hu; simp at hu; subst hu; rfl) (by unfold maxLen; omega) (by omega) (by simp; omega) ?_)
        intro v' w1 hown' hgrow _
        have R : Coll 4 Value.bool w w1 v' (Bt bs (k + 1)) := by rw [HS.out, hg.out]; exact H2.out.app (by rw [Bt.len]; exact hown') hgrow
        clear hown' hgrow hown
        go_wp2
        go_roundw
        case rel => exact ⟨k + 1, by omega, by go_num, R⟩
        case measure => simp [intOf]; omega
      · have hg := Lib.hid (show bs.getD k false = false by rw [List.getD_eq_getElem?_getD, List.getElem?_eq_none (by rw [HN.out]; omega)]; rfl)
        have H2 := Lib.hid hcol; clear hcol
        go_wp2_with (at_builtin; refine wpList_append_own _ rfl _ _ 28 rfl w.heap.size 4 i0 (.bool false) 1 1 Try.underlying28 hi hz0 hz1 hz2 rfl (by decide) _ _ _ rfl (hown.alloc _) ⟨wr.heap.size, 0, none⟩ 1 1 [.bool false] rfl rfl (new_cell _ _ _) (by intro u hu; simp at hu; subst hu; rfl) (by unfold maxLen; omega) (by omega) (by simp; omega) ?_)
        intro v' w1 hown' hgrow _
        have R : Coll 4 Value.bool w w1 v' (Bt bs (k + 1)) := by rw [HS.out, hg.out]; exact H2.out.app (by rw [Bt.len]; exact hown') hgrow
        clear hown' hgrow hown
        go_wp2
        go_roundw
        case rel => exact ⟨k + 1, by omega, by go_num, R⟩
        case measure => simp [intOf]; omega
    · have e : k = 6 := by omega
      subst e
      go_wp2
      go_ret
      exact ⟨_, rfl, hcol⟩

end Go.Proofs.Ythaplnpebgcgiaa
