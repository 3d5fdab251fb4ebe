/- CubeCovers, walked. -/
import Derived.Test.YthaplnpebgcgiaaCl
namespace Go.Proofs.Ythaplnpebgcgiaa
open Go.RowKit Go.Lib

theorem below_then {w w1 w2 : World} (h1 : Below w.heap.size w w1) (h2 : Below w1.heap.size w1 w2) : Below w.heap.size w w2 := h1.trans (h2.mono h1.size)

theorem Cube.of {xs zs : List Int} (hx : Nice xs 12) (hm : ∀ x, x ∈ zs ↔ x ∈ xs) (hp : zs.Pairwise fun a b => a.natAbs < b.natAbs) : Cube zs := ⟨fun x h => hx.2 x ((hm x).1 h), hp⟩

theorem Cube.len {zs : List Int} (h : Cube zs) : zs.length ≤ 1000 := by
  have hb : ∀ i, (hi : i < zs.length) → i + 1 ≤ zs[i].natAbs := by
    intro i
    induction i with
    | zero => intro hi; have := h.bd zs[0] (List.getElem_mem _); omega
    | succ i ih =>
      intro hi
      have h1 := ih (by omega)
      have h2 := List.pairwise_iff_getElem.1 h.up i (i + 1) (by omega) hi (by omega)
      omega
  rcases Nat.eq_zero_or_pos zs.length with z | z
  · omega
  · have h1 := hb (zs.length - 1) (by omega)
    have h2 := h.bd zs[zs.length - 1] (List.getElem_mem _)
    omega

theorem Cube.wide {zs : List Int} (h : Cube zs) : ∀ x ∈ zs, (-1000 ≤ x ∧ x ≤ 1000) ∧ x ≠ 0 := fun x hx => by
  have := h.bd x hx; omega

theorem holds_n (v : Value) (xs : List Int) (A : Option Addr) (c n : Nat) (bs : List Bool) (w : World) (hn : n = bs.length) (hv : RS (Value.int .i64) w w.heap.size v xs) (hx : ∀ x ∈ xs, (-1000 ≤ x ∧ x ≤ 1000) ∧ x ≠ 0) (hl : xs.length ≤ 1000)
    (hA : AS Value.bool w w.heap.size A bs) (hb : n ≤ maxLen) :
    Calls Try.prog 10 #[v, .slice A n c] w fun e w' => e = .returned (.bool (holds xs bs)) ∧ Below w.heap.size w w' := by
  subst hn; exact holds_any v xs A c bs w hv hx hl hA hb

set_option maxHeartbeats 4000000 in
set_option maxRecDepth 1000000 in
theorem covers_walk (a0 : Option Addr) (len0 cap0 : Nat) (z0 : List Int) (a1 : Option Addr) (len1 cap1 : Nat) (z1 : List Int) (w : World) (h0 : In8 w w.heap.size a0 len0 z0) (h1 : In8 w w.heap.size a1 len1 z1) :
    Calls Try.prog 3 #[.slice a0 len0 cap0, .slice a1 len1 cap1] w fun e w' => e = .returned (.bool true) ∧ Below w.heap.size w w' := by
  have H0 := Lib.hid h0; clear h0
  have H1 := Lib.hid h1; clear h1
  go_enter Try.func3, Try.ntmps3
  go_wp2_with fail
  refine (head_any w).mono ?_
  rintro e w1 ⟨rfl, hb1⟩
  have A1 := Lib.hid hb1; clear hb1
  go_wp2_with fail
  refine (narrow_in a0 len0 cap0 z0 w1 _ (H0.out.below A1.out) A1.out.size).mono ?_
  rintro e w2 ⟨v, xs, rfl, hx, hv, hb2⟩
  have A2 := Lib.hid (below_then A1.out hb2)
  have HX := Lib.hid hx; clear hx
  have HV := Lib.hid hv; clear hv
  clear hb2 A1
  go_wp2_with fail
  refine (norm_any v xs w2 HV.out HX.out).mono ?_
  rintro e w3 ⟨hb3, hN⟩
  have A3 := Lib.hid (below_then A2.out hb3)
  clear hb3 A2 HV
  rcases hN with ⟨va, za, rfl, hra, hma, hua⟩ | ⟨rfl, _⟩
  · have CA := Lib.hid (Cube.of HX.out hma hua)
    have RA := Lib.hid hra
    clear hra hma hua HX
    go_wp2_with fail
    refine (narrow_in a1 len1 cap1 z1 w3 _ (H1.out.below A3.out) A3.out.size).mono ?_
    rintro e w4 ⟨u, ys, rfl, hy, hu, hb4⟩
    have A4 := Lib.hid (below_then A3.out hb4)
    have RA4 := Lib.hid ((RA.out.below hb4).more hb4.size)
    have HY := Lib.hid hy; clear hy
    have HU := Lib.hid hu; clear hu
    clear hb4 A3 RA
    go_wp2_with fail
    refine (norm_any u ys w4 HU.out HY.out).mono ?_
    rintro e w5 ⟨hb5, hN⟩
    have A5 := Lib.hid (below_then A4.out hb5)
    have RA5 := Lib.hid ((RA4.out.below hb5).more hb5.size)
    clear hb5 A4 RA4 HU
    rcases hN with ⟨vb, zb, rfl, hrb, hmb, hub⟩ | ⟨rfl, _⟩
    · have CB := Lib.hid (Cube.of HY.out hmb hub)
      have RB5 := Lib.hid hrb
      clear hrb hmb hub HY
      go_wp2_with fail
      go_loopw [10, 11] (fun all i wr => ∃ k : Nat, k ≤ 64 ∧ i = .int .i64 k ∧ all = .bool (upTo za zb k) ∧ Below w5.heap.size w5 wr) (fun _ i _ => 64 - (intOf i).toNat)
      case atStart => exact ⟨0, Nat.zero_le _, rfl, rfl, Below.refl _ _⟩
      case round =>
        obtain ⟨k, hk, rfl, rfl, hbr⟩ := hrel
        have RAr := Lib.hid ((RA5.out.below hbr).more hbr.size)
        have RBr := Lib.hid ((RB5.out.below hbr).more hbr.size)
        have A6 := Lib.hid (below_then A5.out hbr)
        have AR := Lib.hid hbr; clear hbr
        have HS := Lib.hid (upTo_succ za zb k)
        by_cases hk64 : k < 64
        · have hi : (k : Int) < 64 := by omega
          generalize upTo za zb k = all0 at HS
          go_wp2_with fail
          refine (bits_in k hk64 wr).mono ?_
          rintro e w6 ⟨hb6, A, c, rfl, has⟩
          have AS6 := Lib.hid has; clear has
          have B6 := Lib.hid hb6; clear hb6
          go_wp2_with fail
          refine (holds_n vb zb A c 6 (bitsOf k) w6 (bits_len k).symm ((RBr.out.below B6.out).more B6.out.size) CB.out.wide CB.out.len AS6.out (by decide)).mono ?_
          rintro e w7 ⟨rfl, hb7⟩
          have B7 := Lib.hid (below_then B6.out hb7)
          have AS7 := Lib.hid ((AS6.out.below hb7).more hb7.size)
          clear hb7
          cases hh : holds zb (bitsOf k) with
          | false =>
            rw [hh] at HS
            clear hh
            go_wp2_with fail
            go_roundw
            case rel => exact ⟨k + 1, by omega, by go_num, by rw [HS.out]; simp, below_then AR.out B7.out⟩
            case measure => simp [intOf]; omega
          | true =>
            rw [hh] at HS
            clear hh
            go_wp2_with fail
            refine (holds_n va za A c 6 (bitsOf k) w7 (bits_len k).symm ((RAr.out.below B7.out).more B7.out.size) CA.out.wide CA.out.len AS7.out (by decide)).mono ?_
            rintro e w8 ⟨rfl, hb8⟩
            have B8 := Lib.hid (below_then B7.out hb8)
            clear hb8
            cases hh : holds za (bitsOf k) with
            | false =>
              rw [hh] at HS
              clear hh
              go_wp2_with fail
              go_roundw
              case rel => exact ⟨k + 1, by omega, by go_num, by rw [HS.out]; simp, below_then AR.out B8.out⟩
              case measure => simp [intOf]; omega
            | true =>
              rw [hh] at HS
              clear hh
              go_wp2_with fail
              go_roundw
              case rel => exact ⟨k + 1, by omega, by go_num, by rw [HS.out]; simp, below_then AR.out B8.out⟩
              case measure => simp [intOf]; omega
        · have e : k = 64 := by omega
          subst e
          have HC := Lib.hid (covers_up CA.out CB.out)
          generalize upTo za zb 64 = all0 at HC
          go_wp2_with fail
          refine (covers_any va vb za zb wr RAr.out CA.out.wide CA.out.len RBr.out CB.out.len).mono ?_
          rintro e w9 ⟨rfl, hb9⟩
          have A9 := Lib.hid (below_then A6.out hb9)
          clear hb9
          generalize covers za zb = cv at HC
          obtain rfl : cv = all0 := HC.out
          go_wp2_with fail
          go_ret
          exact ⟨by simp, A9.out⟩
    · go_wp2_with fail
      go_ret
      exact ⟨rfl, A5.out⟩
  · go_wp2_with fail
    refine (narrow_in a1 len1 cap1 z1 w3 _ (H1.out.below A3.out) A3.out.size).mono ?_
    rintro e w4 ⟨u, ys, rfl, hy, hu, hb4⟩
    have A4 := Lib.hid (below_then A3.out hb4)
    have HY := Lib.hid hy; clear hy
    have HU := Lib.hid hu; clear hu
    clear hb4 A3
    go_wp2_with fail
    refine (norm_any u ys w4 HU.out HY.out).mono ?_
    rintro e w5 ⟨hb5, hN⟩
    have A5 := Lib.hid (below_then A4.out hb5)
    clear hb5 A4 HU
    rcases hN with ⟨vb, zb, rfl, _, _, _⟩ | ⟨rfl, _⟩
    · go_wp2_with fail
      go_ret
      exact ⟨rfl, A5.out⟩
    · go_wp2_with fail
      go_ret
      exact ⟨rfl, A5.out⟩

end Go.Proofs.Ythaplnpebgcgiaa
