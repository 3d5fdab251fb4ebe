/- cube.Norm, walked. -/
import Derived.Test.YthaplnpebgcgiaaCg
namespace Go.Proofs.Ythaplnpebgcgiaa
open Go.RowKit Go.Lib

theorem le2_lt (x y z : Int) (h1 : le2 x y) (h2 : le2 y z) (h : y ≠ z) : lat x < lat z ∨ (lat x = lat z ∧ x < z) := by
  unfold le2 at *; omega

def Apart (cs : List Int) (k : Nat) : Prop := ∀ j, 0 < j → j < k → (h : j < cs.length) → lat cs[j - 1] ≠ lat cs[j]
theorem Apart.next {cs : List Int} {k : Nat} (h : Apart cs (k + 1)) (hk : k + 1 < cs.length) (hd : lat cs[k] ≠ lat cs[k + 1]) : Apart cs (k + 1 + 1) := by
  intro j h0 hj hl
  by_cases e : j = k + 1
  · subst e; exact hd
  · exact h j h0 (by omega) hl
theorem Apart.one (cs : List Int) : Apart cs 1 := fun j h0 hj _ => by omega
theorem Apart.none_ (cs : List Int) : Apart cs 0 := fun j h0 hj _ => by omega

set_option maxHeartbeats 4000000 in
set_option maxRecDepth 1000000 in
theorem norm_some (g c : Nat) (xs : List Int) (w : World) (hx : Nice xs 12) (hne : xs ≠ []) (hg : g < w.heap.size) (hc : ∀ j (h : j < xs.length), w.cell? ⟨g, j, none⟩ = some (.int .i64 xs[j])) :
    Calls Try.prog 7 #[.slice (some ⟨g, 0, none⟩) xs.length c] w (Normed w xs) := by
  have h0 : 0 < xs.length := List.length_pos_iff.2 hne
  have hl := hx.1
  generalize hn : xs.length = n at h0 hl
  have h1 := clone_own g c n xs w hn.symm h0 (by omega) hc
  have H1 := Lib.hid h1; clear h1
  have HN := Lib.hid hn; clear hn
  have HX := Lib.hid hx; clear hx
  clear hc hne
  go_enter Try.func7, Try.ntmps7
  go_wp2_with fail
  refine H1.out.mono ?_
  rintro e w1 ⟨g', cap, rfl, hB, hg', hcap, hmax, hH, hb1⟩
  have HX2 := Lib.hid hmax; clear hmax
  clear H1
  have h2 := sort_n w.heap.size g' cap n xs w1 HN.out.symm hB hg' hH (by omega)
  have H2 := Lib.hid h2; clear h2 hH
  go_wp2_with fail
  refine H2.out.mono ?_
  rintro e w2 ⟨rfl, ys, hp, hs, hH, hg2, hb2⟩
  clear H2
  have h3 := compact_n w.heap.size g' cap n ys w2 (by rw [hp.length_eq]; exact HN.out.symm) hB hg2 hH (by omega) hcap
  have hmem : ∀ x, x ∈ Lib.compact ys ↔ x ∈ xs := fun x => by
    rw [← hp.mem_iff]
    constructor
    · intro h; have := compact_mem_of ys.toArray ys.length (by simp) x h; simpa using this
    · intro h
      obtain ⟨i, hi, rfl⟩ := List.mem_iff_getElem.1 h
      have := compact_mem ys.toArray ys.length i hi
      rw [getElem!_pos _ i (by simpa using hi)] at this
      simpa [Lib.compact] using this
  have hrise : (Lib.compact ys).Pairwise fun x y => lat x < lat y ∨ (lat x = lat y ∧ x < y) := compact_rises ys.toArray ys.length le2 le2_lt hs
  have hbd : ∀ x ∈ Lib.compact ys, -6 ≤ x ∧ x ≤ 6 ∧ x ≠ 0 := fun x h => HX.out.2 x ((hmem x).1 h)
  have hpos : 0 < (Lib.compact ys).length := by
    rcases Nat.eq_zero_or_pos (Lib.compact ys).length with z | z
    · exfalso
      have hz := List.eq_nil_of_length_eq_zero z
      have hxl : 0 < xs.length := by rw [HN.out]; exact h0
      have := (hmem xs[0]).2 (List.getElem_mem _)
      rw [hz] at this; cases this
    · exact z
  have hcl : (Lib.compact ys).length ≤ n := by
    have : (Lib.compact ys).length ≤ ys.length := by
      unfold Lib.compact compactUpTo
      simp only [List.length_map]
      refine Nat.le_trans (List.length_filter_le _ _) ?_
      simp
    rw [hp.length_eq, HN.out] at this; exact this
  clear hs hH hp
  generalize Lib.compact ys = cs at h3 hmem hrise hbd hpos hcl
  obtain ⟨m, hm, h3⟩ : ∃ m, m = cs.length ∧ Calls Try.prog 25 #[.slice (some ⟨g', 0, none⟩) n cap] w2 fun e w' => e = .returned (.slice (some ⟨g', 0, none⟩) m cap) ∧
      (∀ j (h : j < cs.length), w'.cell? ⟨g', j, none⟩ = some (.int .i64 cs[j])) ∧ g' < w'.heap.size ∧ Below w.heap.size w2 w' := ⟨_, rfl, h3⟩
  have H3 := Lib.hid h3; clear h3
  have HM := Lib.hid hmem; clear hmem
  have HR := Lib.hid hrise; clear hrise
  have HB := Lib.hid hbd; clear hbd
  rw [← hm] at hpos hcl
  have HL := Lib.hid hm; clear hm
  go_wp2_with fail
  refine H3.out.mono ?_
  rintro e w3 ⟨rfl, hc3, hg3, hb3⟩
  have HC := Lib.hid hc3; clear hc3 H3
  have hbel := (hb1.trans hb2).trans hb3
  have hcap3 : m ≤ cap := by omega
  go_wp2_with fail
  go_loop [15] (fun i => ∃ k : Nat, k ≤ m ∧ i = .int .i64 k ∧ Apart cs k) (fun i => m - (intOf i).toNat)
  case atStart => exact ⟨0, Nat.zero_le _, rfl, Apart.none_ _⟩
  case round =>
    obtain ⟨k, hk, rfl, hap⟩ := hrel
    have HA := Lib.hid hap; clear hap
    by_cases hkm : k < m
    · have hkl : k < cs.length := by rw [← HL.out]; exact hkm
      have hcell := HC.out k hkl
      have hbx := HB.out cs[k] (List.getElem_mem _)
      have hlx := lat_small (x := cs[k]) (by omega) (by omega)
      cases k with
      | zero =>
        have hlc := latch_any cs[0] w3
        generalize cs[0] = x at hcell hbx hlx hlc
        clear hkl
        generalize lat x = lx at hlx hlc
        have h1x : 1 ≤ lx ∧ lx ≤ 6 := by omega
        clear hlx
        have HLC := Lib.hid hlc; clear hlc
        go_wp2_with (go_at_call 24; refine HLC.out.mono ?_; rintro e w' ⟨rfl, rfl⟩)
        go_round
        case rel => exact ⟨1, by omega, rfl, Apart.one _⟩
        case measure => simp [intOf]; omega
      | succ k =>
        have hcell' := HC.out k (by omega)
        have hby := HB.out cs[k] (List.getElem_mem _)
        have hly := lat_small (x := cs[k]) (by omega) (by omega)
        have hlc := latch_any cs[k + 1] w3
        have hlc' := latch_any cs[k] w3
        have HLe := Lib.hid HL.out
        by_cases hsame : lat cs[k] = lat cs[k + 1]
        · have HT := Lib.hid (twin HB.out HR.out hkl hsame)
          generalize cs[k + 1] = x at hcell hbx hlx hlc hsame
          generalize cs[k]'(by omega) = y at hcell' hby hly hlc' hsame
          clear hkl
          generalize lat x = lx at hlx hlc hsame
          generalize lat y = ly at hly hlc' hsame
          have h1x : 1 ≤ lx ∧ lx ≤ 6 := by omega
          clear hlx hly
          subst hsame
          have HLC := Lib.hid hlc; clear hlc
          have HLC' := Lib.hid hlc'; clear hlc'
          go_wp2_with (go_at_call 24; (first | ((with_reducible refine HLC.out.mono ?_); rintro e w' ⟨rfl, rfl⟩) | ((with_reducible refine HLC'.out.mono ?_); rintro e w' ⟨rfl, rfl⟩)))
          go_ret2
          obtain ⟨t, ht1, ht2⟩ := HT.out
          exact ⟨hbel, .inr ⟨rfl, t, (HM.out t).1 ht1, (HM.out _).1 ht2⟩⟩
        · have HN2 := Lib.hid (Apart.next HA.out hkl hsame)
          generalize cs[k + 1] = x at hcell hbx hlx hlc hsame
          generalize cs[k]'(by omega) = y at hcell' hby hly hlc' hsame
          clear hkl
          generalize lat x = lx at hlx hlc hsame
          generalize lat y = ly at hly hlc' hsame
          have h1x : 1 ≤ lx ∧ lx ≤ 6 := by omega
          have h1y : 1 ≤ ly ∧ ly ≤ 6 := by omega
          clear hlx hly
          have hne : (ly == lx) = false := by simpa using hsame
          clear hsame
          have HLC := Lib.hid hlc; clear hlc
          have HLC' := Lib.hid hlc'; clear hlc'
          go_wp2_with (go_at_call 24; (first | ((with_reducible refine HLC.out.mono ?_); rintro e w' ⟨rfl, rfl⟩) | ((with_reducible refine HLC'.out.mono ?_); rintro e w' ⟨rfl, rfl⟩)))
          go_round
          case rel => exact ⟨k + 1 + 1, by omega, by go_num, HN2.out⟩
          case measure => simp [intOf]; omega
    · have e : k = m := by omega
      have HR2 : cs.Pairwise fun a b => a.natAbs < b.natAbs := lists_rise HB.out HR.out fun j h0 hj => HA.out j h0 (by rw [e, HL.out]; exact hj) hj
      have HR3 := Lib.hid HR2; clear HR2
      clear e
      go_wp2
      go_ret2
      refine ⟨hbel, .inl ⟨_, cs, rfl, .inr ⟨g', cap, by (show Value.slice (some ⟨g', 0, none⟩) m cap = _); rw [HL.out], ?_, by rw [← HL.out]; exact hcap3, ?_, hg3, HC.out⟩, HM.out, HR3.out⟩⟩
      · intro e; rw [e] at HL; have := HL.out; simp at this; omega
      · exact HX2.out

end Go.Proofs.Ythaplnpebgcgiaa
