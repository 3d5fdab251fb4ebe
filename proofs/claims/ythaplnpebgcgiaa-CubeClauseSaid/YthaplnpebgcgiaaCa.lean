/- Words for the cube's proofs: what the functions of package cube, and the law's helpers, compute; callees by contract. -/
import Derived.Test.YthaplnpebgcgiaaProg
import Derived.WalkKit
import Derived.Below
import Derived.Lib.Hide
import Derived.IntWalk
import Derived.OwnWalk
import Derived.Laws.AppendOwn
namespace Go.Proofs.Ythaplnpebgcgiaa
open Go.RowKit Go.Lib

theorem info3 : (Try.prog.info? 3).map (fun i => (i.zero, i.size, i.bytes)) = some (some (.int .i64 0), 1, 8) := by kernel_rfl
theorem info4 : (Try.prog.info? 4).map (fun i => (i.zero, i.size, i.bytes)) = some (some (.bool false), 1, 1) := by kernel_rfl

/-- A cube's numbers, of six latches. -/
def Nice (xs : List Int) (k : Nat) : Prop := xs.length ≤ k ∧ ∀ x ∈ xs, -6 ≤ x ∧ x ≤ 6 ∧ x ≠ 0

theorem Nice.snoc {xs : List Int} {k : Nat} {x : Int} (h : Nice xs k) (h1 : -6 ≤ x) (h2 : x ≤ 6) (h3 : x ≠ 0) : Nice (xs ++ [x]) (k + 1) :=
  ⟨by simp; exact h.1, fun y hy => by
    rcases List.mem_append.1 hy with z | z
    · exact h.2 y z
    · simp at z; subst z; exact ⟨h1, h2, h3⟩⟩
theorem Nice.more {xs : List Int} {k : Nat} (h : Nice xs k) : Nice xs (k + 1) := ⟨by have := h.1; omega, h.2⟩

/-- What a loop has collected: a row of the call's own. -/
structure Coll {α : Type} (E : Nat) (enc : α → Value) (W wr : World) (v : Value) (xs : List α) : Prop where
  own : wr.ownsRow W.heap.size E 1 v xs.length (xs.map enc)
  bel : Below W.heap.size W wr
  nil : xs = [] → v = .slice none 0 0

theorem Coll.start {α : Type} {E : Nat} {enc : α → Value} (W : World) : Coll E enc W W (.slice none 0 0) [] := ⟨World.ownsRow_nil _ _ _ _, Below.refl _ _, fun _ => rfl⟩

theorem Coll.app {α : Type} {E : Nat} {enc : α → Value} {W wr w1 : World} {v v' : Value} {xs : List α} {x : α} {o : Obj} (h : Coll E enc W wr v xs)
    (hown : w1.ownsRow W.heap.size E 1 v' (xs.length + 1) (xs.map enc ++ [enc x])) (hg : (wr.alloc o).grownBy w1 v.ownBlock) : Coll E enc W w1 v' (xs ++ [x]) :=
  ⟨by simpa using hown, (h.bel.alloc h.bel.size o).grown hg (by have := h.bel.size; simp; omega) (fun k hk => (h.own.lt k hk).1), fun e => by simp at e⟩

theorem addr0 (g j : Nat) : (⟨g, 0, none⟩ : Addr).add j = ⟨g, j, none⟩ := by
  unfold Addr.add
  split
  · next h => subst h; rfl
  · simp

/-- A slice that reads as a list: nil, or a row's head. -/
def RS {α : Type} (enc : α → Value) (w : World) (B : Nat) (v : Value) (xs : List α) : Prop :=
  (v = .slice none 0 0 ∧ xs = []) ∨ ∃ g c, v = .slice (some ⟨g, 0, none⟩) xs.length c ∧ xs ≠ [] ∧ xs.length ≤ c ∧ c ≤ maxLen ∧ g < B ∧ ∀ j (h : j < xs.length), w.cell? ⟨g, j, none⟩ = some (enc xs[j])

theorem RS.below {α : Type} {enc : α → Value} {w w' : World} {B : Nat} {v : Value} {xs : List α} (h : RS enc w B v xs) (hb : Below B w w') : RS enc w' B v xs := by
  rcases h with h | ⟨g, c, e, h1, h2, h3, h4, h5⟩
  · exact .inl h
  · exact .inr ⟨g, c, e, h1, h2, h3, h4, fun j hj => (hb.cell (p := ⟨g, j, none⟩) h4).trans (h5 j hj)⟩
theorem RS.more {α : Type} {enc : α → Value} {w : World} {B B' : Nat} {v : Value} {xs : List α} (h : RS enc w B v xs) (hb : B ≤ B') : RS enc w B' v xs := by
  rcases h with h | ⟨g, c, e, h1, h2, h3, h4, h5⟩
  · exact .inl h
  · exact .inr ⟨g, c, e, h1, h2, h3, by omega, h5⟩

theorem Coll.rs {α : Type} {E : Nat} {enc : α → Value} {W wr : World} {v : Value} {xs : List α} (h : Coll E enc W wr v xs) : RS enc wr wr.heap.size v xs := by
  by_cases hn : xs = []
  · exact .inl ⟨h.nil hn, hn⟩
  · have hpos : 0 < xs.length := List.length_pos_iff.2 hn
    rcases h.own.2 with ⟨_, e⟩ | ⟨g, cap, cur, rfl, hb, hh, hc, hm, hs, ht⟩
    · exact absurd (by simpa using e) hn
    · refine .inr ⟨g, cap, rfl, hn, hc, hm, ?_, fun j hj => ?_⟩
      · rcases Nat.lt_or_ge g wr.heap.size with z | z
        · exact z
        · rw [Array.getElem?_eq_none z] at hh; cases hh
      · have := h.own.cells (g := g) rfl j (enc xs[j]) (by simp [hj])
        rw [addr0] at this
        exact this

theorem new_cell (w : World) (v : Value) (t : TypeId) : ∀ j u, [v][j]? = some u → (w.alloc (.cells #[v] t)).cell? ((⟨w.heap.size, 0, none⟩ : Addr).add j) = some u := by
  intro j u hj
  match j, hj with
  | 0, hj => simp at hj; subst hj; simp [Addr.add]

theorem addr_add_block (x : Addr) (k : Nat) : (x.add k).block = x.block := by unfold Addr.add; split <;> rfl

theorem wf8 {z : Int} (h : (Lit.int .i8 z).wf = true) : -128 ≤ z ∧ z ≤ 127 := by
  simp [Lit.wf, IntKind.min, IntKind.max, IntKind.bits, IntKind.signed] at h
  omega

/-- The loop of 'narrow', from a round to the next. -/
def NarRel (W : World) (k : Nat) (v : Value) (wr : World) : Prop := ∃ xs, Nice xs k ∧ Coll 3 (Value.int .i64) W wr v xs

theorem tmod7 (z : Int) : -6 ≤ z.tmod 7 ∧ z.tmod 7 ≤ 6 := by
  rw [Int.tmod_eq_emod]
  split <;> omega

set_option maxHeartbeats 1000000 in
set_option maxRecDepth 1000000 in
theorem narrow_some (x : Addr) (len cap : Nat) (zs : List Int) (w : World) (hz : len ≤ zs.length) (hcm : zs.length ≤ maxLen)
    (hb : x.block < w.heap.size) (hc : ∀ i, i < zs.length → w.cell? (x.add i) = some (.int .i8 (zs.getD i 0))) (hw : ∀ n ∈ zs, (Lit.int .i8 n).wf = true) :
    Calls Try.prog 8 #[.slice (some x) len cap] w fun e w' => ∃ v, e = .returned v ∧ NarRel w 12 v w' := by
  obtain ⟨i0, hi, hz0, hz1, hz2⟩ := info_parts info3
  unfold maxLen at hcm
  have hlm : len ≤ 9223372036854775807 := by omega
  go_enter Try.func8, Try.ntmps8
  go_wp2
  go_loopw [3, 4] (fun v i wr => ∃ k : Nat, k ≤ len ∧ k ≤ 12 ∧ i = .int .i64 k ∧ NarRel w k v wr) (fun _ i _ => len - (intOf i).toNat)
  case atStart => exact ⟨0, Nat.zero_le _, Nat.zero_le _, rfl, [], ⟨Nat.le_refl _, by simp⟩, Coll.start _⟩
  case round =>
    obtain ⟨k, hk, hk12, rfl, xs, hn, hcol⟩ := hrel
    by_cases h1 : k < len
    · by_cases h2 : k < 12
      · obtain ⟨z, hcell, hz7⟩ : ∃ z : Int, wr.cell? (x.add k) = some (.int .i8 z) ∧ -128 ≤ z ∧ z ≤ 127 := by
          refine ⟨_, (hcol.bel.cell (p := x.add k) (by rw [addr_add_block]; exact hb)).trans (hc k (by omega)), ?_⟩
          exact wf8 (hw (zs.getD k 0) (by rw [List.getD_eq_getElem?_getD, List.getElem?_eq_getElem (by omega)]; exact List.getElem_mem _))
        have hown := hcol.own
        have hsz := hcol.bel.size
        have hlen := hn.1
        have H1 := Lib.hid hn; clear hn
        have H2 := Lib.hid hcol; clear hcol
        have H3 := Lib.hid hc; clear hc
        have H4 := Lib.hid hw; clear hw
        have h12 : (k : Int) < 12 := by omega
        go_wp2_with (at_builtin; refine wpList_append_own _ rfl _ _ 24 rfl w.heap.size 3 i0 (.int .i64 0) 1 8 Try.underlying24 hi hz0 hz1 hz2 rfl (by decide) _ _ _ rfl (hown.alloc _) ⟨wr.heap.size, 0, none⟩ 1 1 [.int .i64 (z.tmod 7)] rfl rfl (new_cell _ _ _) (by intro u hu; simp at hu; subst hu; rfl) (by unfold maxLen; omega) (by omega) (by simp; omega) ?_)
        · intro v' w1 hown' hgrow _
          have h7 : (z.tmod 7 != 0) = true := by assumption
          have R : NarRel w (k + 1) v' w1 := ⟨_, H1.out.snoc (tmod7 z).1 (tmod7 z).2 (by simpa using h7), H2.out.app hown' hgrow⟩
          clear hown' hgrow hown
          go_wp2
          go_roundw
          case rel => exact ⟨k + 1, by omega, by omega, by go_num, R⟩
          case measure => simp [intOf]; omega
        · go_roundw
          case rel => exact ⟨k + 1, by omega, by omega, by go_num, xs, H1.out.more, H2.out⟩
          case measure => simp [intOf]; omega
      · have R : NarRel w 12 u3 wr := ⟨xs, ⟨by have := hn.1; omega, hn.2⟩, hcol⟩
        have h12 : ¬ (k : Int) < 12 := by omega
        clear hn hcol hc hw
        go_wp2
        go_ret
        exact ⟨_, rfl, R⟩
    · have R : NarRel w 12 u3 wr := ⟨xs, ⟨by have := hn.1; omega, hn.2⟩, hcol⟩
      clear hn hcol hc hw
      go_wp2
      go_ret
      exact ⟨_, rfl, R⟩

end Go.Proofs.Ythaplnpebgcgiaa
