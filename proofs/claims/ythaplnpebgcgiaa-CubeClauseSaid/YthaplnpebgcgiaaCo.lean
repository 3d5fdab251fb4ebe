/- CubeNorm, walked. -/
import Derived.Test.YthaplnpebgcgiaaCn
namespace Go.Proofs.Ythaplnpebgcgiaa
open Go.RowKit Go.Lib

theorem bits_n (A : Option Addr) (c n : Nat) (bs : List Bool) (w : World) (hn : n = bs.length) (hA : AS Value.bool w w.heap.size A bs) (hl : n ≤ maxLen) :
    Calls Try.prog 15 #[.slice A n c, .int .i64 6] w fun e w' => ∃ A' c', e = .returned (.slice A' 6 c') ∧ AS Value.bool w' w'.heap.size A' (Bt bs 6) ∧ Below w.heap.size w w' := by
  subst hn
  refine (bits_any A c bs w hA hl).mono fun e w' ⟨v, he, hc⟩ => ?_
  rcases hc.rs with ⟨_, h⟩ | ⟨g, c', rfl, _, _, _, hg, hcell⟩
  · have := congrArg List.length h
    rw [Bt.len] at this; simp at this
  · rw [Bt.len] at he
    exact ⟨_, c', he, fun _ => ⟨⟨g, 0, none⟩, rfl, hg, fun j hj => by rw [addr0]; exact hcell j hj⟩, hc.bel⟩

/-- How a cube's slice stands in the walk. -/
theorem RS.form {α : Type} {enc : α → Value} {w : World} {B : Nat} {v : Value} {xs : List α} (h : RS enc w B v xs) :
    ∃ A c, v = .slice A xs.length c ∧ ∀ j, (hj : j < xs.length) → ∃ g, A = some ⟨g, 0, none⟩ ∧ g < B ∧ w.cell? ⟨g, j, none⟩ = some (enc xs[j]) := by
  rcases h with ⟨rfl, rfl⟩ | ⟨g, c, rfl, _, _, _, hg, hc⟩
  · exact ⟨none, 0, rfl, fun j h => by simp at h⟩
  · exact ⟨_, c, rfl, fun j h => ⟨g, rfl, hg, hc j h⟩⟩

/-- What Norm told: its slice, and whether it is in order. -/
def NF (W : World) (xs : List Int) (v : Value) (ok : Bool) : Prop :=
  (ok = true ∧ ∃ zs, RS (Value.int .i64) W W.heap.size v zs ∧ Cube zs ∧ ∀ x, x ∈ zs ↔ x ∈ xs) ∨ (ok = false ∧ v = .slice none 0 0 ∧ ∃ x ∈ xs, -x ∈ xs)

theorem NF.below {W W' : World} {xs : List Int} {v : Value} {ok : Bool} (h : NF W xs v ok) (hb : Below W.heap.size W W') : NF W' xs v ok := by
  rcases h with ⟨h1, zs, h2, h3⟩ | h
  · exact .inl ⟨h1, zs, (h2.below hb).more hb.size, h3⟩
  · exact .inr h

theorem norm_told (v : Value) (xs : List Int) (w : World) (hv : RS (Value.int .i64) w w.heap.size v xs) (hx : Nice xs 12) :
    Calls Try.prog 7 #[v] w fun e w' => Below w.heap.size w w' ∧ ∃ va ok, e = .returned (.tuple #[va, .bool ok]) ∧ NF w' xs va ok := by
  refine (norm_any v xs w hv hx).mono fun e w' ⟨hb, h⟩ => ⟨hb, ?_⟩
  rcases h with ⟨va, za, he, hr, hm, hu⟩ | ⟨he, ht⟩
  · exact ⟨va, true, he, .inl ⟨rfl, za, hr, Cube.of hx hm hu, hm⟩⟩
  · exact ⟨_, false, he, .inr ⟨rfl, rfl, ht⟩⟩

/-- Two orders of the same numbers are told alike. -/
theorem NF.alike {W : World} {xs ys : List Int} {va vb : Value} {oa ob : Bool} (ha : NF W xs va oa) (hb : NF W ys vb ob) (h : ∀ x, x ∈ ys ↔ x ∈ xs) (hx : ∀ x ∈ xs, -6 ≤ x ∧ x ≤ 6 ∧ x ≠ 0) :
    (oa = true ∧ ob = true ∧ ∃ zs, RS (Value.int .i64) W W.heap.size va zs ∧ RS (Value.int .i64) W W.heap.size vb zs ∧ Cube zs ∧ ∀ x, x ∈ zs ↔ x ∈ xs) ∨
    (oa = false ∧ ob = false ∧ va = .slice none 0 0 ∧ vb = .slice none 0 0 ∧ ∀ bs, holds xs bs = false) := by
  rcases ha with ⟨rfl, za, r1, c1, m1⟩ | ⟨rfl, rfl, x, x1, x2⟩
  · rcases hb with ⟨rfl, zb, r2, c2, m2⟩ | ⟨rfl, rfl, x, x1, x2⟩
    · have : zb = za := Cube.same c2 c1 fun x => (m2 x).trans ((h x).trans (m1 x).symm)
      subst this
      exact .inl ⟨rfl, rfl, zb, r1, r2, c1, m1⟩
    · exact (c1.one ((m1 x).2 ((h x).1 x1)) ((m1 _).2 ((h _).1 x2))).elim
  · rcases hb with ⟨rfl, zb, r2, c2, m2⟩ | ⟨rfl, rfl, _⟩
    · exact (c2.one ((m2 x).2 ((h x).2 x1)) ((m2 _).2 ((h _).2 x2))).elim
    · exact .inr ⟨rfl, rfl, rfl, rfl, fun bs => holds_twin bs hx x1 x2⟩

/-- The last latch of a part of a cube. -/
def Last (zs : List Int) (k : Nat) : Int := if k = 0 then 0 else (zs.getD (k - 1) 0).natAbs
theorem Last.succ {zs : List Int} {k : Nat} (h : k < zs.length) : Last zs (k + 1) = max zs[k] (-zs[k]) := by
  unfold Last
  rw [if_neg (by omega), Nat.add_sub_cancel, List.getD_eq_getElem?_getD, List.getElem?_eq_getElem h]
  simp only [Option.getD_some]
  omega
theorem Last.lt {zs : List Int} (c : Cube zs) {k : Nat} (h : k < zs.length) : Last zs k < max zs[k] (-zs[k]) := by
  unfold Last
  have b := c.bd zs[k] (List.getElem_mem _)
  split
  · omega
  · have h1 := List.pairwise_iff_getElem.1 c.up (k - 1) k (by omega) h (by omega)
    rw [List.getD_eq_getElem?_getD, List.getElem?_eq_getElem (by omega)]
    simp only [Option.getD_some]
    omega

theorem Cube.nice {zs : List Int} (h : Cube zs) : Nice zs 12 := by
  refine ⟨?_, h.bd⟩
  have hb : ∀ i, (hi : i < zs.length) → i + 1 ≤ zs[i].natAbs := by
    intro i
    induction i with
    | zero => intro hi; have := h.bd zs[0] (List.getElem_mem _); omega
    | succ i ih =>
      intro hi
      have h1 := ih (by omega)
      have h2 := List.pairwise_iff_getElem.1 h.up i (i + 1) (by omega) hi (by omega)
      omega
  rcases Nat.eq_zero_or_pos zs.length with z | z
  · omega
  · have h1 := hb (zs.length - 1) (by omega)
    have h2 := h.bd zs[zs.length - 1] (List.getElem_mem _)
    omega

/-- Once more it is the same. -/
theorem NF.again {W : World} {zs : List Int} {v : Value} {ok : Bool} (h : NF W zs v ok) (c : Cube zs) : ok = true ∧ RS (Value.int .i64) W W.heap.size v zs := by
  rcases h with ⟨rfl, zc, r, cc, m⟩ | ⟨_, _, x, x1, x2⟩
  · have : zc = zs := Cube.same cc c m
    subst this
    exact ⟨rfl, r⟩
  · exact (c.one x1 x2).elim

set_option maxHeartbeats 4000000 in
set_option maxRecDepth 1000000 in
theorem norm_walk (a0 : Option Addr) (len0 cap0 : Nat) (z0 : List Int) (t : Nat) (ht : t ≤ 255) (a1 : Option Addr) (len1 cap1 : Nat) (bs : List Bool) (w : World) (h0 : In8 w w.heap.size a0 len0 z0)
    (hbs : len1 = bs.length) (h1 : AS Value.bool w w.heap.size a1 bs) (hl1 : len1 ≤ maxLen) :
    Calls Try.prog 5 #[.slice a0 len0 cap0, .int .u8 (t : Int), .slice a1 len1 cap1] w fun e w' => e = .returned (.bool true) ∧ Below w.heap.size w w' := by
  obtain ⟨i0, hi, hz0, hz1, hz2⟩ := info_parts info3
  have H0 := Lib.hid h0; clear h0
  have H1 := Lib.hid h1; clear h1
  have HB := Lib.hid hbs; clear hbs
  have HL := Lib.hid hl1; clear hl1
  go_enter Try.func5, Try.ntmps5
  go_wp2_with fail
  refine (head_any w).mono ?_
  rintro e w1 ⟨rfl, hb1⟩
  have A1 := Lib.hid hb1; clear hb1
  go_wp2_with fail
  refine (narrow_in a0 len0 cap0 z0 w1 _ (H0.out.below A1.out) A1.out.size).mono ?_
  rintro e w2 ⟨v, xs, rfl, hx, hv, hb2⟩
  have A2 := Lib.hid (below_then A1.out hb2)
  have HX := Lib.hid hx; clear hx
  have HV := Lib.hid hv; clear hv
  clear hb2 A1
  go_wp2_with fail
  refine (norm_told v xs w2 HV.out HX.out).mono ?_
  rintro e w3 ⟨hb3, va, oka, rfl, hna⟩
  have A3 := Lib.hid (below_then A2.out hb3)
  have HV3 := Lib.hid ((HV.out.below hb3).more hb3.size)
  have NA := Lib.hid hna
  clear hb3 A2 HV hna
  obtain ⟨A, c, rfl, hcells⟩ := HV3.out.form
  have HC := Lib.hid hcells; clear hcells
  have hn12 := HX.out.1
  generalize hn : xs.length = n at hn12
  have HN := Lib.hid hn
  rw [hn] at HV3
  clear hn
  go_wp2_with fail
  go_loopw [11, 12] (fun v i wr => ∃ k : Nat, k ≤ n ∧ i = .int .i64 k ∧ Coll 3 (Value.int .i64) w3 wr v (Turn xs t k)) (fun _ i _ => n - (intOf i).toNat)
  case atStart => exact ⟨0, Nat.zero_le _, rfl, by unfold Turn; simp; exact Coll.start _⟩
  case round =>
    obtain ⟨k, hk, rfl, hcol⟩ := hrel
    by_cases hkn : k < n
    · have hlt : (k + t) % n < xs.length := by rw [HN.out]; exact Nat.mod_lt _ (by omega)
      obtain ⟨g, rfl, hg3, hcell3⟩ := HC.out ((k + t) % n) hlt
      have hcell := (hcol.bel.cell (p := ⟨g, (k + t) % n, none⟩) hg3).trans hcell3
      have hs := Turn.succ xs t k
      have hget : xs.getD ((k + t) % n) 0 = xs[(k + t) % n] := by rw [List.getD_eq_getElem?_getD, List.getElem?_eq_getElem hlt]; rfl
      rw [HN.out, hget] at hs
      have HS := Lib.hid hs; clear hs
      have hlen := Turn.len xs t k
      have hown := hcol.own
      rw [hlen] at hown
      have hsz := hcol.bel.size
      have H2 := Lib.hid hcol; clear hcol
      have H3 := Lib.hid hlen; clear hlen
      clear hcell3 hget
      generalize xs[(k + t) % n] = x at hcell HS
      clear hlt
      have hmod : (k + t) % n < n := Nat.mod_lt _ (by omega)
      have hm0 : (0 : Int) ≤ ((k : Int) + (t : Int)) % (n : Int) := Int.emod_nonneg _ (by omega)
      have hm1 : ((k : Int) + (t : Int)) % (n : Int) < (n : Int) := Int.emod_lt_of_pos _ (by omega)
      go_wp2_with (at_builtin; refine wpList_append_own _ rfl _ _ 24 rfl w3.heap.size 3 i0 (.int .i64 0) 1 8 Try.underlying24 hi hz0 hz1 hz2 rfl (by decide) _ _ _ rfl (hown.alloc _) ⟨wr.heap.size, 0, none⟩ 1 1 [.int .i64 x] rfl rfl (new_cell _ _ _) (by intro u hu; simp at hu; subst hu; rfl) (by unfold maxLen; omega) (by omega) (by simp; omega) ?_)
      intro v' w4 hown' hgrow _
      have R : Coll 3 (Value.int .i64) w3 w4 v' (Turn xs t (k + 1)) := by rw [HS.out]; exact H2.out.app (by rw [H3.out]; exact hown') hgrow
      clear hown' hgrow hown
      go_wp2_with fail
      go_roundw
      case rel => exact ⟨k + 1, by omega, by go_num, R⟩
      case measure => simp [intOf]; omega
    · have e : k = n := by omega
      subst e
      have HY := Lib.hid (Turn.nice HX.out t)
      have HYm := Lib.hid (Turn.mem xs t)
      rw [HN.out] at HY HYm
      generalize Turn xs t k = ys at hcol HY HYm
      have HU := Lib.hid hcol.rs
      have B4 := Lib.hid hcol.bel
      have A4 := Lib.hid (below_then A3.out hcol.bel)
      clear hcol
      go_wp2_with fail
      refine (norm_told u11 ys wr HU.out HY.out).mono ?_
      rintro e w5 ⟨hb5, vb, okb, rfl, hnb⟩
      have NAB := Lib.hid (NF.alike ((NA.out.below B4.out).below hb5) hnb HYm.out HX.out.2)
      have A5 := Lib.hid (below_then A4.out hb5)
      have B5 := Lib.hid (below_then B4.out hb5)
      clear hb5 hnb NA HU
      have SB := Lib.hid (below_then A5.out (Below.refl _ _))
      rcases NAB.out with ⟨rfl, rfl, zs, ra, rb, cz, mz⟩ | ⟨rfl, rfl, rfl, rfl, hno⟩
      · obtain ⟨Aa, ca, rfl, hform⟩ := ra.form
        have HF := Lib.hid hform; clear hform
        generalize hm : zs.length = m at ra ⊢
        have HM := Lib.hid hm; clear hm
        have RA := Lib.hid ra
        have RB := Lib.hid rb
        have CZ := Lib.hid cz
        have MZ := Lib.hid mz
        have hml : m ≤ 1000 := by have := CZ.out.len; rw [HM.out] at this; exact this
        clear ra rb cz mz NAB
        go_wp2_with fail
        refine (same_any (.slice Aa m ca) vb zs zs w5 RA.out CZ.out.len RB.out CZ.out.len).mono ?_
        rintro e w6 ⟨he, hb6⟩
        rw [decide_eq_true rfl] at he
        subst he
        have A6 := Lib.hid (below_then A5.out hb6)
        have B6 := Lib.hid (below_then B5.out hb6)
        have RA6 := Lib.hid ((RA.out.below hb6).more hb6.size)
        have C6 := Lib.hid hb6
        clear hb6 RA RB
        go_wp2_with fail
        refine (bits_n a1 cap1 len1 bs w6 HB.out ((H1.out.below A6.out).more A6.out.size) HL.out).mono ?_
        rintro e w7 ⟨A', c', rfl, has, hb7⟩
        have A7 := Lib.hid (below_then A6.out hb7)
        have B7 := Lib.hid (below_then B6.out hb7)
        have RA7 := Lib.hid ((RA6.out.below hb7).more hb7.size)
        have AS7 := Lib.hid has
        have C7 := Lib.hid (below_then C6.out hb7)
        clear hb7 RA6 has
        go_wp2_with fail
        refine (norm_told (.slice Aa m ca) zs w7 RA7.out CZ.out.nice).mono ?_
        rintro e w8 ⟨hb8, vc, okc, rfl, hnc⟩
        have A8 := Lib.hid (below_then A7.out hb8)
        have B8 := Lib.hid (below_then B7.out hb8)
        have RA8 := Lib.hid ((RA7.out.below hb8).more hb8.size)
        have AS8 := Lib.hid ((AS7.out.below hb8).more hb8.size)
        obtain ⟨rfl, hrc⟩ := hnc.again CZ.out
        have RC8 := Lib.hid hrc
        have C8 := Lib.hid (below_then C7.out hb8)
        clear hb8 hnc hrc RA7 AS7
        go_wp2_with fail
        go_loopw [18, 19] (fun l i wr => ∃ j : Nat, j ≤ m ∧ i = .int .i64 j ∧ l = .int .i64 (Last zs j) ∧ Below w8.heap.size w8 wr) (fun _ i _ => m - (intOf i).toNat)
        case atStart => exact ⟨0, Nat.zero_le _, rfl, rfl, Below.refl _ _⟩
        case round =>
          obtain ⟨j, hj, rfl, rfl, hbr⟩ := hrel
          have B9 := Lib.hid (below_then B8.out hbr)
          have A9 := Lib.hid (below_then A8.out hbr)
          have BR := Lib.hid hbr; clear hbr
          by_cases hjm : j < m
          · have hjl : j < zs.length := by rw [HM.out]; exact hjm
            obtain ⟨g, rfl, hg, hcell5⟩ := HF.out j hjl
            have hcell := ((below_then C8.out BR.out).cell (p := ⟨g, j, none⟩) hg).trans hcell5
            clear hcell5
            have hb := CZ.out.bd zs[j] (List.getElem_mem _)
            have HS := Lib.hid (Last.succ hjl)
            have hlt := Last.lt CZ.out hjl
            generalize zs[j] = x at hcell hb HS hlt
            clear hjl
            generalize Last zs j = lj at hlt
            have hd : decide (max x (-x) ≤ lj) = false := decide_eq_false (by omega)
            have hw : IntKind.i64.wrap (-x) = -x := IntWalk.i64_in _ (by omega)
            clear hlt hb
            go_wp2_with fail
            go_quiet (fail)
            go_wp2_with fail
            go_quiet (fail)
            go_wp2_with fail
            go_roundw
            case rel => exact ⟨j + 1, by omega, by go_num, by rw [HS.out], BR.out.trans (below_drewN _ _ _)⟩
            case measure => simp [intOf]; omega
          · have e : j = m := by omega
            subst e
            have RAr := Lib.hid ((RA8.out.below BR.out).more BR.out.size)
            have RCr := Lib.hid ((RC8.out.below BR.out).more BR.out.size)
            have ASr := Lib.hid ((AS8.out.below BR.out).more BR.out.size)
            have RXr := Lib.hid ((HV3.out.below B9.out).more B9.out.size)
            have WX := Lib.hid (show ∀ x ∈ xs, (-1000 ≤ x ∧ x ≤ 1000) ∧ x ≠ 0 from fun x hx => by have := HX.out.2 x hx; omega)
            have LX := Lib.hid (show xs.length ≤ 1000 by have := HX.out.1; omega)
            have HSA := Lib.hid (holds_same (Bt bs 6) MZ.out)
            have HC1 := Lib.hid (covers_same MZ.out)
            have HC2 := Lib.hid (covers_same fun x => (MZ.out x).symm)
            go_wp2_with fail
            refine (same_any (.slice Aa j ca) vc zs zs wr RAr.out CZ.out.len RCr.out CZ.out.len).mono ?_
            rintro e w10 ⟨he, hb10⟩
            rw [decide_eq_true rfl] at he
            subst he
            have D10 := Lib.hid hb10; clear hb10
            go_wp2_with fail
            refine (holds_n (.slice Aa j ca) zs A' c' 6 (Bt bs 6) w10 (Bt.len bs 6).symm ((RAr.out.below D10.out).more D10.out.size) CZ.out.wide CZ.out.len ((ASr.out.below D10.out).more D10.out.size) (by decide)).mono ?_
            rintro e w11 ⟨he, hb11⟩
            rw [HSA.out] at he
            have D11 := Lib.hid (below_then D10.out hb11); clear hb11
            have h2 := holds_n (.slice A k c) xs A' c' 6 (Bt bs 6) w11 (Bt.len bs 6).symm ((RXr.out.below D11.out).more D11.out.size) WX.out LX.out ((ASr.out.below D11.out).more D11.out.size) (by decide)
            generalize holds xs (Bt bs 6) = r at he h2
            subst he
            have H2 := Lib.hid h2; clear h2
            go_wp2_with fail
            refine H2.out.mono ?_
            rintro e w12 ⟨rfl, hb12⟩
            have D12 := Lib.hid (below_then D11.out hb12); clear hb12
            go_wp2_with fail
            refine (covers_any (.slice Aa j ca) (.slice A k c) zs xs w12 ((RAr.out.below D12.out).more D12.out.size) CZ.out.wide CZ.out.len ((RXr.out.below D12.out).more D12.out.size) LX.out).mono ?_
            rintro e w13 ⟨he, hb13⟩
            rw [HC1.out] at he
            subst he
            have D13 := Lib.hid (below_then D12.out hb13); clear hb13
            go_wp2_with fail
            refine (covers_any (.slice A k c) (.slice Aa j ca) xs zs w13 ((RXr.out.below D13.out).more D13.out.size) WX.out LX.out ((RAr.out.below D13.out).more D13.out.size) CZ.out.len).mono ?_
            rintro e w14 ⟨he, hb14⟩
            rw [HC2.out] at he
            subst he
            have D14 := Lib.hid (below_then A9.out (below_then D13.out hb14)); clear hb14
            go_wp2_with fail
            go_ret
            exact ⟨rfl, D14.out⟩
      · go_wp2_with fail
        refine (same_any (.slice none 0 0) (.slice none 0 0) [] [] w5 (.inl ⟨rfl, rfl⟩) (by simp) (.inl ⟨rfl, rfl⟩) (by simp)).mono ?_
        rintro e w6 ⟨he, hb6⟩
        rw [decide_eq_true rfl] at he
        subst he
        have A6 := Lib.hid (below_then A5.out hb6)
        have B6 := Lib.hid (below_then B5.out hb6)
        clear hb6
        have HNo := Lib.hid (hno (Bt bs 6))
        clear hno NAB
        go_wp2_with fail
        refine (bits_n a1 cap1 len1 bs w6 HB.out ((H1.out.below A6.out).more A6.out.size) HL.out).mono ?_
        rintro e w7 ⟨A', c', rfl, has, hb7⟩
        have A7 := Lib.hid (below_then A6.out hb7)
        have AS7 := Lib.hid has
        have HVx := Lib.hid ((HV3.out.below (below_then B6.out hb7)).more (below_then B6.out hb7).size)
        clear hb7 has
        go_wp2_with fail
        refine (holds_n (.slice A k c) xs A' c' 6 (Bt bs 6) w7 (Bt.len bs 6).symm HVx.out (fun x hx => by have := HX.out.2 x hx; omega) (by have := HX.out.1; omega) AS7.out (by decide)).mono ?_
        rintro e w8 ⟨he, hb8⟩
        rw [HNo.out] at he
        subst he
        have A8 := Lib.hid (below_then A7.out hb8)
        clear hb8
        go_wp2_with fail
        go_ret
        exact ⟨rfl, A8.out⟩

end Go.Proofs.Ythaplnpebgcgiaa
