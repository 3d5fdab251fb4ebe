/- CubeClause, walked. -/
import Derived.Test.YthaplnpebgcgiaaCo
import Derived.Test.YthaplnpebgcgiaaCp
namespace Go.Proofs.Ythaplnpebgcgiaa
open Go.RowKit Go.Lib

/-- A slice of ints that came in. -/
def In64 (w : World) (B : Nat) (a : Option Addr) (len : Nat) (zs : List Int) : Prop :=
  0 < len → ∃ x, a = some x ∧ x.block < B ∧ len ≤ zs.length ∧ (∀ i, i < zs.length → w.cell? (x.add i) = some (.int .i64 (zs.getD i 0))) ∧ ∀ n ∈ zs, (Lit.int .i64 n).wf = true

theorem wf64 {z : Int} (h : (Lit.int .i64 z).wf = true) : -9223372036854775808 ≤ z ∧ z ≤ 9223372036854775807 := by
  simp [Lit.wf, IntKind.min, IntKind.max, IntKind.bits, IntKind.signed] at h
  omega

theorem AS.of_rs {α : Type} {enc : α → Value} {w : World} {B n : Nat} {A : Option Addr} {c : Nat} {xs : List α} (h : RS enc w B (.slice A n c) xs) : AS enc w B A xs := by
  rcases h with ⟨_, rfl⟩ | ⟨g, c', e, _, _, _, hg, hc⟩
  · exact fun h => absurd rfl h
  · injection e with e1 _ _
    subst e1
    exact fun _ => ⟨⟨g, 0, none⟩, rfl, hg, fun j hj => by rw [addr0]; exact hc j hj⟩

theorem clause_n (A : Option Addr) (c n : Nat) (xs : List Int) (w : World) (hn : n = xs.length) (hA : RS (Value.int .i64) w w.heap.size (.slice A n c) xs) (hl : n ≤ 1000) (hb : ∀ x ∈ xs, -1000 ≤ x ∧ x ≤ 1000) :
    Calls Try.prog 12 #[.slice A n c] w fun e w' => ∃ A' c', e = .returned (.slice A' n c') ∧ RS (Value.int .i64) w' w'.heap.size (.slice A' n c') (xs.map fun x => -x) ∧ Below w.heap.size w w' := by
  subst hn
  refine (clause_any A c xs w (AS.of_rs hA) hl hb).mono fun e w' ⟨v, he, hc⟩ => ?_
  obtain ⟨A', c', rfl, _⟩ := hc.rs.form
  have h := hc.rs
  rw [List.length_map] at he h
  exact ⟨A', c', he, h, hc.bel⟩

theorem of_n (A : Option Addr) (c n : Nat) (bs : List Bool) (w : World) (hn : n = bs.length) (hA : AS Value.bool w w.heap.size A bs) (hl : n ≤ 1000) :
    Calls Try.prog 13 #[.slice A n c] w fun e w' => ∃ A' c', e = .returned (.slice A' n c') ∧ RS (Value.int .i64) w' w'.heap.size (.slice A' n c') (Own bs bs.length) ∧ Below w.heap.size w w' := by
  subst hn
  refine (of_any A c bs w hA hl).mono fun e w' ⟨v, he, hc⟩ => ?_
  obtain ⟨A', c', rfl, _⟩ := hc.rs.form
  have h := hc.rs
  rw [Own.len] at he h
  exact ⟨A', c', he, h, hc.bel⟩

theorem own_form {w : World} {B E n : Nat} {v : Value} {xs : List Value} (h : w.ownsRow B E 1 v n xs) (hn : 0 < n) : ∃ g c, v = .slice (some ⟨g, 0, none⟩) n c ∧ B ≤ g := by
  rcases h.2 with ⟨_, e⟩ | ⟨g, c, cur, rfl, hB, _⟩
  · omega
  · exact ⟨g, c, rfl, hB⟩

theorem other_as {w : World} {B g c n : Nat} {bs : List Bool} (j : Nat) (b : Bool) (h : w.ownsRow B 4 1 (.slice (some ⟨g, 0, none⟩) n c) n (bs.map Value.bool)) :
    AS Value.bool ((w.setCell ⟨g, j, none⟩ (.bool b)).drew) ((w.setCell ⟨g, j, none⟩ (.bool b)).drew).heap.size (some ⟨g, 0, none⟩) (bs.set j b) := by
  have h2 := (h.stored j (.bool b)).1
  intro _
  refine ⟨⟨g, 0, none⟩, rfl, ?_, fun i hi => ?_⟩
  · have := h2.lt g rfl
    exact this.2
  · have hc := h2.cells (g := g) rfl i (.bool (bs.set j b)[i]) (by
      have : (bs.map Value.bool).set j (Value.bool b) = (bs.set j b).map Value.bool := by rw [List.map_set]
      rw [this, List.getElem?_map, List.getElem?_eq_getElem hi]; rfl)
    exact hc

theorem state_cells {bs : List Bool} {w : World} {ad : Addr} {o : Obj} (h : AS Value.bool w w.heap.size (some ad) bs) : ∀ j u, (bs.map Value.bool)[j]? = some u → (w.alloc o).cell? (ad.add j) = some u := by
  intro j u hu
  have hj : j < bs.length := by
    rcases Nat.lt_or_ge j bs.length with z | z
    · exact z
    · rw [List.getElem?_eq_none (by simpa using z)] at hu; cases hu
  obtain ⟨ad', e, hb, hc⟩ := h.at_ hj
  cases e
  have : u = Value.bool bs[j] := by simp [hj] at hu; exact hu.symm
  rw [this, ← hc]
  exact World.cell?_alloc_lt w o _ (by rw [addr_add_block]; exact hb)

/-- The first loop of CubeClause, from a round to the next. -/
def ClRel (W : World) (n k : Nat) (v : Value) (wr : World) : Prop := ∃ xs, Fits xs n k ∧ Coll 3 (Value.int .i64) W wr v xs

set_option maxHeartbeats 4000000 in
set_option maxRecDepth 1000000 in
theorem clause_walk (a0 : Option Addr) (len0 cap0 : Nat) (z0 : List Int) (a1 : Option Addr) (n cap1 : Nat) (bs : List Bool) (t : Nat) (ht : t ≤ 255) (w : World) (h0 : In64 w w.heap.size a0 len0 z0) (hl0 : len0 ≤ maxLen)
    (hbs : n = bs.length) (h1 : AS Value.bool w w.heap.size a1 bs) (hn0 : 0 < n) (hn1 : n ≤ 100) :
    Calls Try.prog 4 #[.slice a0 len0 cap0, .slice a1 n cap1, .int .u8 (t : Int)] w fun e w' => e = .returned (.bool true) ∧ Below w.heap.size w w' := by
  obtain ⟨i0, hi, hz0, hz1, hz2⟩ := info_parts info3
  obtain ⟨i4, hi4, hy0, hy1, hy2⟩ := info_parts info4
  unfold maxLen at hl0
  have H0 := Lib.hid h0; clear h0
  have H1 := Lib.hid h1; clear h1
  have HB := Lib.hid hbs; clear hbs
  have hgt : ¬ (100 : Int) < (n : Int) := by omega
  have hne : ((n : Int) == 0) = false := by simp; omega
  go_enter Try.func4, Try.ntmps4
  go_wp2_with fail
  refine (head_any w).mono ?_
  rintro e w1 ⟨rfl, hb1⟩
  have A1 := Lib.hid hb1; clear hb1
  go_wp2_with fail
  go_loopw [8, 9] (fun v i wr => ∃ k : Nat, k ≤ len0 ∧ k ≤ 40 ∧ i = .int .i64 k ∧ ClRel w1 n k v wr) (fun _ i _ => len0 - (intOf i).toNat)
  case atStart => exact ⟨0, Nat.zero_le _, Nat.zero_le _, rfl, [], ⟨Nat.le_refl _, by simp⟩, Coll.start _⟩
  case round =>
    obtain ⟨k, hk, hk40, rfl, xs, hf, hcol⟩ := hrel
    have hcase : (k < len0 ∧ k < 40) ∨ (¬ k < len0 ∨ k < len0 ∧ ¬ (k : Int) < 40) := by omega
    rcases hcase with ⟨h1, h2⟩ | hcase
    · · obtain ⟨z, x, rfl, hcell, hz7⟩ : ∃ (z : Int) (x : Addr), a0 = some x ∧ wr.cell? (x.add k) = some (.int .i64 z) ∧ -9223372036854775808 ≤ z ∧ z ≤ 9223372036854775807 := by
          obtain ⟨x, e, hb, hl, hc, hw⟩ := H0.out (by omega)
          refine ⟨_, x, e, ((below_then A1.out hcol.bel).cell (p := x.add k) (by rw [addr_add_block]; exact hb)).trans (hc k (by omega)), ?_⟩
          exact wf64 (hw (z0.getD k 0) (by rw [List.getD_eq_getElem?_getD, List.getElem?_eq_getElem (by omega)]; exact List.getElem_mem _))
        have hown := hcol.own
        have hsz := hcol.bel.size
        have hlen := hf.1
        have HF := Lib.hid hf; clear hf
        have H2 := Lib.hid hcol; clear hcol
        have h40 : (k : Int) < 40 := by omega
        go_wp2_with (at_builtin; refine wpList_append_own _ rfl _ _ 24 rfl w1.heap.size 3 i0 (.int .i64 0) 1 8 Try.underlying24 hi hz0 hz1 hz2 rfl (by decide) _ _ _ rfl (hown.alloc _) ⟨wr.heap.size, 0, none⟩ 1 1 [.int .i64 (z.tmod ((n : Int) + 1))] rfl rfl (new_cell _ _ _) (by intro u hu; simp at hu; subst hu; rfl) (by unfold maxLen; omega) (by omega) (by simp; omega) ?_)
        · intro v' w2 hown' hgrow _
          have h7 : (z.tmod ((n : Int) + 1) != 0) = true := by assumption
          have R : ClRel w1 n (k + 1) v' w2 := ⟨_, HF.out.snoc (tmodN z n).1 (tmodN z n).2 (by simpa using h7), H2.out.app hown' hgrow⟩
          clear hown' hgrow hown
          go_wp2_with fail
          go_roundw
          case rel => exact ⟨k + 1, by omega, by omega, by go_num, R⟩
          case measure => simp [intOf]; omega
        · go_roundw
          case rel => exact ⟨k + 1, by omega, by omega, by go_num, xs, HF.out.more, H2.out⟩
          case measure => simp [intOf]; omega
    · have hrs := hcol.rs
      obtain ⟨Ax, cx, rfl, hform⟩ := hrs.form
      clear hform
      have hlen := hf.1
      have hm40 : xs.length ≤ 40 := by omega
      generalize hm : xs.length = m at hrs hm40 ⊢
      have HM := Lib.hid hm; clear hm
      rw [HB.out] at hf
      have HF := Lib.hid hf; clear hf
      have RX := Lib.hid hrs; clear hrs
      have A2 := Lib.hid (below_then A1.out hcol.bel)
      clear hcol hlen A1
      rcases hcase with h1 | ⟨h1, h2⟩
      all_goals
        go_wp2_with fail
        refine (clause_n Ax cx m xs wr HM.out.symm RX.out (by omega) (fun x hx => by have := HF.out.2 x hx; rw [← HB.out] at this; omega)).mono ?_
        rintro e w3 ⟨Ac, cc, rfl, hrc, hb3⟩
        have A3 := Lib.hid (below_then A2.out hb3)
        have B3 := Lib.hid hb3
        have RX3 := Lib.hid ((RX.out.below hb3).more hb3.size)
        have RC := Lib.hid hrc
        clear hb3 hrc
        go_wp2_with fail
        go_loopw [11, 13] (fun one i wr => ∃ j : Nat, j ≤ m ∧ i = .int .i64 j ∧ one = .bool (oneOf (xs.map fun x => -x) bs j) ∧ Below w3.heap.size w3 wr) (fun _ i _ => m - (intOf i).toNat)
        case atStart => exact ⟨0, Nat.zero_le _, rfl, rfl, Below.refl _ _⟩
        case round =>
          obtain ⟨j, hj, rfl, rfl, hbr⟩ := hrel
          have BR := Lib.hid hbr; clear hbr
          have A4 := Lib.hid (below_then A3.out BR.out)
          have AS4 := Lib.hid ((H1.out.below A4.out).more A4.out.size)
          by_cases hjm : j < m
          · have hjl : j < (xs.map fun x => -x).length := by rw [List.length_map, HM.out]; exact hjm
            have HS := Lib.hid (oneOf.succ (bs := bs) hjl)
            have hy : (-1000 ≤ (xs.map fun x => -x)[j] ∧ (xs.map fun x => -x)[j] ≤ 1000) ∧ (xs.map fun x => -x)[j] ≠ 0 := by
              rw [List.getElem_map]
              have := HF.out.2 (xs[j]'(by simpa using hjl)) (List.getElem_mem _)
              rw [← HB.out] at this
              omega
            obtain ⟨ad, rfl, _, hcell⟩ := ((AS.of_rs RC.out).below BR.out).at_ hjl
            generalize (xs.map fun x => -x)[j] = y at hcell hy HS
            clear hjl
            cases hone : oneOf (xs.map fun x => -x) bs j with
            | true =>
              rw [hone] at HS
              clear hone
              go_wp2_with fail
              go_roundw
              case rel => exact ⟨j + 1, by omega, by go_num, by rw [HS.out]; simp, BR.out⟩
              case measure => simp [intOf]; omega
            | false =>
              rw [hone] at HS
              clear hone
              have hbel := (Below.refl wr.heap.size wr).alloc (Nat.le_refl _) (.cells #[.int .i64 y] 3)
              have h5 := holds_n (.slice (some ⟨wr.heap.size, 0, none⟩) 1 1) [y] a1 cap1 n bs (wr.alloc (.cells #[.int .i64 y] 3)) HB.out (.inr ⟨_, 1, rfl, by simp, by simp, by decide, by simp, fun i hi => by
                have : i = 0 := by simp at hi; omega
                subst this; simp⟩) (fun x hx => by have : x = y := by simpa using hx
                                                   subst this; exact hy) (by simp) ((AS4.out.below hbel).more (by simp)) (by unfold maxLen; omega)
              have H5 := Lib.hid h5; clear h5
              have HBl := Lib.hid hbel; clear hbel
              clear hy
              go_wp2_with fail
              refine H5.out.mono ?_
              rintro e w5 ⟨rfl, hb5⟩
              have BR2 := Lib.hid (BR.out.trans ((HBl.out.trans (hb5.mono (by simp))).mono BR.out.size))
              clear hb5
              go_wp2_with fail
              go_roundw
              case rel => exact ⟨j + 1, by omega, by go_num, by rw [HS.out]; simp, BR2.out⟩
              case measure => simp [intOf]; omega
          · have e : j = m := by omega
            subst e
            have ho := one_all HF.out
            rw [List.length_map, HM.out] at ho
            have HO := Lib.hid ho; clear ho
            generalize oneOf (xs.map fun x => -x) bs j = one0 at HO ⊢
            go_wp2_with fail
            refine (of_n a1 cap1 n bs wr HB.out AS4.out (by omega)).mono ?_
            rintro e w5 ⟨Ao, co, rfl, hro, hb5⟩
            have A5 := Lib.hid (below_then A4.out hb5)
            have B5 := Lib.hid (below_then BR.out hb5)
            have AS5 := Lib.hid ((AS4.out.below hb5).more hb5.size)
            have RO5 := Lib.hid hro
            clear hb5 hro AS4
            obtain ⟨ad, rfl, hadB, _⟩ := AS5.out.at_ (k := 0) (by rw [← HB.out]; exact hn0)
            have hcs := state_cells (o := .cells #[] 4) AS5.out
            have HCS := Lib.hid hcs; clear hcs
            have hlen : (bs.map Value.bool).length = n * 1 := by rw [List.length_map, ← HB.out, Nat.mul_one]
            have HLn := Lib.hid hlen; clear hlen
            go_wp2_with (at_builtin; refine wpList_append_own _ rfl _ _ 28 rfl w5.heap.size 4 i4 (.bool false) 1 1 Try.underlying28 hi4 hy0 hy1 hy2 rfl (by decide) _ 0 [] rfl (World.ownsRow_made w5 #[] 0 (Nat.le_refl _) (by decide) rfl) ad n cap1 (bs.map Value.bool) rfl HLn.out HCS.out (by intro u hu; simp at hu; rcases hu with ⟨_, rfl⟩ | ⟨_, rfl⟩ <;> rfl) (by unfold maxLen; omega) (by omega) (by simp) ?_)
            intro v' w6 hown' hgrow _
            obtain ⟨go, cgo, rfl, hge⟩ := own_form hown' hn0
            have B6 := Lib.hid (((Below.refl w5.heap.size w5).alloc (Nat.le_refl _) (.cells #[] 4)).grown hgrow (by simp) (fun k hk => by simp [Value.ownBlock] at hk; omega))
            have HO6 := Lib.hid hown'
            have hcj : w6.cell? ⟨go, t % n, none⟩ = some (.bool (bs.getD (t % n) false)) := by
              have := hown'.cellAt (t % n) (by rw [Nat.mul_one]; exact Nat.mod_lt _ hn0)
              rw [this]
              have hlt : t % n < bs.length := by rw [← HB.out]; exact Nat.mod_lt _ hn0
              simp [List.getD_eq_getElem?_getD, hlt]
            have hfj : w6.frozen? ⟨go, t % n, none⟩ = false := hown'.frozenAt _
            clear hown' hgrow
            generalize hbj : bs.getD (t % n) false = bj at hcj
            have HBJ := Lib.hid hbj; clear hbj
            have hmod : t % n < n := Nat.mod_lt _ hn0
            have hm0 : (0 : Int) ≤ (t : Int) % (n : Int) := Int.emod_nonneg _ (by omega)
            have hm1 : (t : Int) % (n : Int) < (n : Int) := Int.emod_lt_of_pos _ (by omega)
            go_wp2_with fail
            go_region
            have BW0 := B6.out.setCell (p := ⟨go, t % n, none⟩) hge (.bool !bj)
            have BW := Lib.hid (show Below w5.heap.size w5 ((w6.setCell ⟨go, t % n, none⟩ (.bool !bj)).drew) from BW0.drew)
            have ASO := Lib.hid (other_as (t % n) (!bj) HO6.out)
            clear BW0 hcj hfj hge HO6 B6 HCS HLn hadB
            generalize (w6.setCell ⟨go, t % n, none⟩ (.bool !bj)).drew = W at BW ASO ⊢
            rw [← HBJ.out] at ASO
            have HOO := Lib.hid (own_other bs (t % n) (by rw [← HB.out]; exact hmod))
            have HOS := Lib.hid (own_holds bs)
            have OWW := Lib.hid (own_wide (bs := bs) (by rw [← HB.out]; omega))
            have OLL := Lib.hid (show (Own bs bs.length).length ≤ 1000 by rw [Own.len, ← HB.out]; omega)
            have AW := Lib.hid (below_then A5.out BW.out)
            have ASW := Lib.hid ((AS5.out.below BW.out).more BW.out.size)
            have ROW := Lib.hid ((RO5.out.below BW.out).more BW.out.size)
            have BXW := Lib.hid (below_then B5.out BW.out)
            have RXW := Lib.hid ((RX3.out.below BXW.out).more BXW.out.size)
            have RCW := Lib.hid ((RC.out.below BXW.out).more BXW.out.size)
            have XW := Lib.hid (show ∀ x ∈ xs, (-1000 ≤ x ∧ x ≤ 1000) ∧ x ≠ 0 from fun x hx => by have := HF.out.2 x hx; rw [← HB.out] at this; omega)
            have h7 := holds_n (.slice Ax j cx) xs (some ad) cap1 n bs W HB.out RXW.out XW.out (by rw [HM.out]; omega) ASW.out (by unfold maxLen; omega)
            generalize holds xs bs = r at HO h7
            obtain rfl : one0 = !r := HO.out
            have H7 := Lib.hid h7; clear h7
            have hrr : ((!r) != r) = true := by cases r <;> rfl
            go_wp2_with fail
            refine H7.out.mono ?_
            rintro e w7 ⟨rfl, hb7⟩
            have D7 := Lib.hid hb7; clear hb7
            go_wp2_with fail
            refine (clause_n Ac cc j (xs.map fun x => -x) w7 (by rw [List.length_map]; exact HM.out.symm) ((RCW.out.below D7.out).more D7.out.size) (by omega) (fun y hy => by
              obtain ⟨x, hx, rfl⟩ := List.mem_map.1 hy
              have := XW.out x hx
              omega)).mono ?_
            rintro e w8 ⟨A8, c8, rfl, hr8, hb8⟩
            rw [neg_neg_map] at hr8
            have D8 := Lib.hid (below_then D7.out hb8); clear hb8
            have R8 := Lib.hid hr8; clear hr8
            go_wp2_with fail
            refine (same_any (.slice A8 j c8) (.slice Ax j cx) xs xs w8 R8.out (by rw [HM.out]; omega) ((RXW.out.below D8.out).more D8.out.size) (by rw [HM.out]; omega)).mono ?_
            rintro e w9 ⟨he, hb9⟩
            rw [decide_eq_true rfl] at he
            subst he
            have D9 := Lib.hid (below_then D8.out hb9); clear hb9
            go_wp2_with fail
            refine (holds_n (.slice Ao n co) (Own bs bs.length) (some ad) cap1 n bs w9 HB.out ((ROW.out.below D9.out).more D9.out.size) OWW.out OLL.out ((ASW.out.below D9.out).more D9.out.size) (by unfold maxLen; omega)).mono ?_
            rintro e w10 ⟨he, hb10⟩
            rw [HOS.out] at he
            subst he
            have D10 := Lib.hid (below_then D9.out hb10); clear hb10
            go_wp2_with fail
            refine (holds_n (.slice Ao n co) (Own bs bs.length) (some ⟨go, 0, none⟩) cgo n (bs.set (t % n) (!bs.getD (t % n) false)) w10 (by rw [List.length_set]; exact HB.out) ((ROW.out.below D10.out).more D10.out.size) OWW.out OLL.out ((ASO.out.below D10.out).more D10.out.size) (by unfold maxLen; omega)).mono ?_
            rintro e w11 ⟨he, hb11⟩
            rw [HOO.out] at he
            subst he
            have D11 := Lib.hid (below_then AW.out (below_then D10.out hb11)); clear hb11
            go_wp2_with fail
            go_ret
            exact ⟨rfl, D11.out⟩

end Go.Proofs.Ythaplnpebgcgiaa
