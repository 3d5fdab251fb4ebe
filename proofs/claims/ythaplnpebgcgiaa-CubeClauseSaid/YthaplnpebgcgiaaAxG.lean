/- AX, part G: append, copy, clear. -/
import Derived.Test.YthaplnpebgcgiaaAxF
import Derived.Lib.AppendZerosOnto
namespace Go.Ax
open Go.RowKit (Below)

section
variable {P : Program} {B : Nat} {w0 : World} {β : K → Option BI} {h : T Blk} {w : World} {n : K} {lg : Log}

/-- A new key for a block of the world that no live block has. -/
theorem Sim.claim {k : K} {b : Blk} {I : BI} (s : Sim B w0 β h w) (hk : h.get k = none) (hB : B ≤ I.blk) (hlt : I.blk < w.heap.size) (hfree : ∀ q c J, h.get q = some c → c.live = true → β q = some J → J.blk ≠ I.blk)
    (hb : BR (upd β k I) I b w.heap[I.blk]?) : Sim B w0 (upd β k I) (h.ins b k) w ∧ Ext β (upd β k I) := by
  have hx : Ext β (upd β k I) := ext_upd (s.fresh hk)
  refine ⟨⟨s.below, s.base, ?_, ?_, ?_, ?_⟩, hx⟩
  · intro q J hq
    rw [T.get_ins]
    unfold upd at hq
    split at hq
    · next e => cases hq; exact ⟨hlt, by rw [if_pos e]; exact ⟨_, rfl⟩⟩
    · next e => rw [if_neg e]; exact s.dom q J hq
  · intro q c hq hc
    rw [T.get_ins] at hq
    split at hq
    · next e => cases hq; subst e; exact ⟨I, by simp [upd], hb⟩
    · next e => obtain ⟨J, h1, h2⟩ := s.lies q c hq hc; exact ⟨J, hx _ _ h1, h2.mono hx⟩
  · intro q c J hq hc hJ
    rw [T.get_ins] at hq
    unfold upd at hJ
    split at hq
    · next e => rw [if_pos e] at hJ; cases hJ; exact hB
    · next e => rw [if_neg e] at hJ; exact s.own q c J hq hc hJ
  · intro q q' c c' J J' hne hq hq' hc hc' hJ hJ'
    rw [T.get_ins] at hq hq'
    unfold upd at hJ hJ'
    split at hq
    · next e =>
      rw [if_pos e] at hJ; cases hJ
      split at hq'
      · next e' => exact absurd (e.trans e'.symm) hne
      · next e' => rw [if_neg e'] at hJ'; exact fun x => hfree q' c' J' hq' hc' hJ' x.symm
    · next e =>
      rw [if_neg e] at hJ
      split at hq'
      · next e' => rw [if_pos e'] at hJ'; cases hJ'; exact hfree q c J hq (Blk.live_of_rw hc) hJ
      · next e' => rw [if_neg e'] at hJ'; exact s.apart q q' c c' J J' hne hq hq' hc hc' hJ hJ'

/-- The first cells of a slice. -/
def rd (esz : Nat) (v : AV) (f : Nat → List AV → AM ARes) : AM ARes := match v with
  | .nils => f 0 []
  | .sl k o len c _ => match Nat.beq len 0 with
    | true => f 0 []
    | false => match Nat.ble len c with
      | true => .get k fun b => match b with
        | .cells _ _ _ cs => match sub cs o (len * esz) with
          | some l => f len l
          | none => .fail
        | _ => .fail
      | false => .fail
  | _ => .fail

/-- What is known of it. -/
structure First (β : K → Option BI) (esz : Nat) (w : World) (u : Value) (len : Nat) (l : List AV) (vs : List Value) : Prop where
  rel : VRs β l vs
  hl : vs.length = len * esz
  val : (∃ cap, len = 0 ∧ vs = [] ∧ u = .slice none 0 cap) ∨ ∃ a cap, u = .slice (some a) len cap ∧ ∀ j v, vs[j]? = some v → w.cell? (a.add j) = some v

theorem rd_sound {esz : Nat} {v : AV} {u : Value} {f : Nat → List AV → AM ARes} {r : R ARes} (m : Sim B w0 β h w) (g : VR β v u) (x : (rd esz v f).run h n lg = some r) : ∃ len l lg' vs, (f len l).run h n lg' = some r ∧ First β esz w u len l vs := by
  unfold rd at x
  split at x
  · simp only [VR] at g; subst g
    exact ⟨0, [], lg, [], x, by simp [VRs], by simp, .inl ⟨0, rfl, rfl, rfl⟩⟩
  · next k o len c ex =>
    simp only [VR] at g
    obtain ⟨I, o', c', hI, rfl, q1, q2, q3, q4⟩ := g
    split at x
    · next e0 =>
      have e0 := Nat.eq_of_beq_eq_true e0
      subst e0
      exact ⟨0, [], lg, [], x, by simp [VRs], by simp, .inr ⟨_, _, rfl, fun j v hv => by simp at hv⟩⟩
    · next e0 =>
      have e0 := Nat.ne_of_beq_eq_false e0
      split at x
      · next hle =>
        have hle := Nat.le_of_ble_eq_true hle
        rw [AM.run_get] at x
        obtain ⟨y, hy, hl, x⟩ := x
        obtain ⟨I', hI', hb⟩ := m.lies k y hy hl
        rw [hI] at hI'; cases hI'
        split at x
        · next ro el e cs =>
          split at x
          · next l hsub =>
            obtain ⟨C, fz, hb, hsz, hesz, hfz, hcc⟩ := hb
            obtain ⟨_, hlen, _⟩ := sub_some hsub
            have ho := q3 (by omega)
            subst ho
            have hc' : ∀ j a, l[j]? = some a → ∃ v, C[I.off + o + j]? = some v ∧ VR β a v := by
              intro j a ha
              have hj : j < len * esz := by
                rcases Nat.lt_or_ge j l.length with z | z
                · omega
                · rw [List.getElem?_eq_none z] at ha; cases ha
              rw [sub_get hsub j hj] at ha
              obtain ⟨v, h1, h2⟩ := hcc _ a ha
              exact ⟨v, by rw [Nat.add_assoc]; exact h1, h2⟩
            obtain ⟨vs, hv1, hv2, _, hv4⟩ := load_cells (P := default) hb hc'
            exact ⟨_, l, _, vs, x, hv2, by omega, .inr ⟨_, _, rfl, fun j v hv => by rw [addr_add]; exact cell_of hb (hv4 j v hv)⟩⟩
          · simp [AM.run_fail] at x
        · simp [AM.run_fail] at x
      · simp [AM.run_fail] at x
  · simp [AM.run_fail] at x

theorem First.src {esz len : Nat} {u : Value} {l : List AV} {vs : List Value} (f : First β esz w u len l vs) (hs : allSc l = true) {tx e' : TypeId} (hk : P.underlying tx = some (.slice e')) : Src P esz tx u len vs w := by
  rcases f.val with ⟨cap, rfl, rfl, rfl⟩ | ⟨a, cap, rfl, hc⟩
  · exact Src.ofNil w hk cap
  · exact Src.ofSlice w hk a len cap vs f.hl hc (allSc_get hs f.rel)

theorem First.hold {esz len : Nat} {u : Value} {l : List AV} {vs : List Value} (f : First β esz w u len l vs) : (Builtin.firstCells esz len u).run P w.drew = .ok vs.toArray w.drew := by
  rcases f.val with ⟨cap, rfl, rfl, rfl⟩ | ⟨a, cap, rfl, hc⟩
  · exact run_firstCells_none w.drew esz 0 0 cap
  · exact run_firstCells_some w.drew esz len a len cap vs f.hl (by simpa using hc)

def exApp1 (el esz k : Nat) (news : List AV) (x : AV) : AM ARes := match allSc news with
  | false => .fail
  | true => match x with
    | .nils => match Nat.beq k 0 with
      | true => .ret (.v .nils)
      | false => match Nat.ble k 1073741824 with
        | true => .new (.cells false el esz news) fun z => .ret (.v (.sl z 0 k k false))
        | false => .fail
    | .sl q o len c ex => match Nat.ble (len + k) c with
      | true => match Nat.beq k 0 with
        | true => .ret (.v (.sl q o len c ex))
        | false => .get q fun b => match b with
          | .cells ro el' esz' cs => match Nat.beq esz' esz with
            | true => match wr cs (o + len * esz) news with
              | some cs' => .put q (.cells ro el' esz' cs') (.ret (.v (.sl q o (len + k) c ex)))
              | none => .fail
            | false => .fail
          | _ => .fail
      | false => match Nat.ble (len + k) 1073741824, Nat.ble len c with
        | true, true => rd esz x fun _ olds => match ex with
          | true => .new (.cells false el esz (olds ++ news)) fun z => .ret (.v (.sl z 0 (len + k) (len + k) false))
          | false => .get q fun b => match b with
            | .cells _ el' esz' _ => match Nat.beq el' el, Nat.beq esz' esz with
              | true, true => .put q .dead (.new (.cells false el esz (olds ++ news)) fun z => .ret (.v (.sl z 0 (len + k) (len + k) false)))
              | _, _ => .fail
            | _ => .fail
        | _, _ => .fail
    | _ => .fail

theorem run_append_room_row (t tx ty e : TypeId) (i : TypeInfo) (ht : P.underlying t = some (.slice e)) (hi : P.info? e = some i) (b off sLen sCap : Nat) (x : Value) (n : Nat) (news : List Value) (hs : Src P i.size tx x n news w)
    (hroom : sLen + n ≤ sCap) {C : Array Value} {el : TypeId} (hb : w.heap[b]? = some (.cells C el (0, 0))) (hfit : off + sLen * i.size + news.length ≤ C.size) :
    (Builtin.append_ #[t, tx] ty #[.slice (some ⟨b, off, none⟩) sLen sCap, x]).run P w = .ok (.slice (some ⟨b, off, none⟩) (sLen + n) sCap) (w.setRow b (C.toList.take (off + sLen * i.size) ++ news ++ C.toList.drop (off + sLen * i.size + news.length)).toArray) := by
  have hst := run_storeCells_at P b (off + sLen * i.size) el news 0 C w hb (by omega) hs.one
  simp only [Nat.add_zero] at hst
  rcases hs.kind with ⟨e', hk⟩ | hk <;> simp [Builtin.append_, run_underlying ht, run_underlying hk, sizeOf, typeInfo, hi, hs.len, hroom, hs.cells, Addr.add_lit, hst]

/-- A new row behind a draw: what it holds first. -/
theorem grown_get {vs : List Value} {Z : Array Value} {l : List AV} (g : VRs β l vs) (j : Nat) (a : AV) (ha : l[j]? = some a) : ∃ v, (vs.toArray ++ Z)[j]? = some v ∧ VR β a v := by
  obtain ⟨v, h1, h2⟩ := VRs.get l _ g j a ha
  refine ⟨v, ?_, h2⟩
  have hj : j < vs.toArray.size := by
    rcases Nat.lt_or_ge j vs.length with z | z
    · simpa using z
    · rw [List.getElem?_eq_none z] at h1; cases h1
  rw [Array.getElem?_append_left hj]
  simpa using h1

/-- What append's second argument comes to. -/
structure Srk (P : Program) (t tx rt el : TypeId) (i : TypeInfo) (zv : Value) (z : Value) (k : Nat) (nv : List Value) (w : World) : Prop where
  hl : nv.length = k * i.size
  fit0 : ∀ base sLen sCap, k = 0 → sLen ≤ sCap → (base = none → sLen = 0) → (Builtin.append_ #[t, tx] rt #[.slice base sLen sCap, z]).run P w = .ok (.slice base sLen sCap) w
  fit : ∀ b off sLen sCap C el', sLen + k ≤ sCap → w.heap[b]? = some (.cells C el' (0, 0)) → off + sLen * i.size + nv.length ≤ C.size →
    (Builtin.append_ #[t, tx] rt #[.slice (some ⟨b, off, none⟩) sLen sCap, z]).run P w = .ok (.slice (some ⟨b, off, none⟩) (sLen + k) sCap) (w.setRow b (C.toList.take (off + sLen * i.size) ++ nv ++ C.toList.drop (off + sLen * i.size + nv.length)).toArray)
  grow : ∀ base sLen sCap (olds : List Value), (Builtin.firstCells i.size sLen (.slice base sLen sCap)).run P w.drew = .ok olds.toArray w.drew → sCap < sLen + k → 0 < k → sLen + k ≤ 1073741824 → Builtin.nextslicecap (sLen + k) sCap * i.bytes ≤ 281474976710656 →
    (Builtin.append_ #[t, tx] rt #[.slice base sLen sCap, z]).run P w = .ok (.slice (some ⟨w.heap.size, 0, none⟩) (sLen + k) (grownCap w (sLen + k) sCap el)) (w.drew.alloc (.cells ((olds ++ nv).toArray ++ Builtin.zeroCells zv.cells (grownCap w (sLen + k) sCap el - (sLen + k))) el))

theorem app_core {t tx el bytes k : Nat} {rt : TypeId} {x : AV} {u z : Value} {zv : Value} {i : TypeInfo} {news : List AV} {nv : List Value} {r : R ARes} {lg1 : Log} (hib : i.bytes = bytes) (hbb : bytes ≤ 65536)
    (hz : zv.cells.size = i.size) (m : Sim B w0 β h w) (gx : VR β x u) (fr : VRs β news nv) (src : allSc news = true → Srk P t tx rt el i zv z k nv w) (hx : (exApp1 el i.size k news x).run h n lg1 = some r) :
    Good P B w0 β w (do pure (.value (← Builtin.append_ #[t, tx] rt #[u, z]))) r := by
  unfold exApp1 at hx
  split at hx
  · simp [AM.run_fail] at hx
  · next hsc =>
    have src := src hsc
    have grow48 : ∀ need old, old < need → need ≤ 1073741824 → Builtin.nextslicecap need old * i.bytes ≤ 281474976710656 := by
      intro need old h1 h2
      refine growslice_fits h1 (Nat.le_trans (Nat.mul_le_mul h2 (by omega : i.bytes ≤ 65536)) (by decide))
    split at hx
    · simp only [VR] at gx; subst gx
      split at hx
      · next e0 =>
        have e0 := Nat.eq_of_beq_eq_true e0
        subst e0
        rw [AM.run_ret] at hx; subst hx
        refine Good.val m (u := .slice none 0 0) ?_ (by simp [VR])
        simp only [Sem.run_bind, src.fit0 none 0 0 rfl (Nat.le_refl _) (fun _ => rfl), Result.andThen_ok, Sem.run_pure]
      · next e0 =>
        have e0 := Nat.ne_of_beq_eq_false e0
        split at hx
        · next hle =>
          have hle := Nat.le_of_ble_eq_true hle
          rw [AM.run_new] at hx
          obtain ⟨hk0, hx⟩ := hx
          rw [AM.run_ret] at hx; subst hx
          have hrun := src.grow none 0 0 [] (by simp [Builtin.firstCells]) (by omega) (by omega) (by omega) (grow48 _ _ (by omega) (by omega))
          have hge := grownCap_ge w (0 + k) 0 el
          obtain ⟨β', hx, m', hb'⟩ := new_cells (el := el) (esz := i.size) (m.drew (w.drawn + 1)) hk0 (z := news) (grown_get (Z := Builtin.zeroCells zv.cells (grownCap w (0 + k) 0 el - (0 + k))) fr)
          refine ⟨_, β', hx, m', _, by simp only [Sem.run_bind, hrun, Result.andThen_ok, Sem.run_pure, List.nil_append]; rfl, ?_⟩
          simp only [VR]
          have hnl := src.hl
          refine ⟨_, 0, grownCap w (0 + k) 0 el, hb', by simp, by omega, fun x => (by cases x), fun _ => rfl, ?_⟩
          simp only [Array.size_append, size_zeroCells, List.size_toArray, hnl, hz, Nat.zero_add]
          rw [← Nat.add_mul]
          exact Nat.mul_le_mul_right _ (by omega)
        · simp [AM.run_fail] at hx
    · next q o len c ex =>
      have gx' := gx
      simp only [VR] at gx
      obtain ⟨I, o', c', hI, rfl, q1, q2, q3, q4⟩ := gx
      split at hx
      · next hle =>
        have hle := Nat.le_of_ble_eq_true hle
        split at hx
        · next e0 =>
          have e0 := Nat.eq_of_beq_eq_true e0
          subst e0
          rw [AM.run_ret] at hx; subst hx
          have hnv : nv = [] := List.eq_nil_of_length_eq_zero (by have := src.hl; omega)
          subst hnv
          refine Good.val m (u := .slice (some ⟨I.blk, o', none⟩) len c') ?_ gx'
          have : len + 0 ≤ c' := by omega
          simp only [Sem.run_bind, src.fit0 (some ⟨I.blk, o', none⟩) len c' rfl (by omega) (fun x => by cases x), Result.andThen_ok, Sem.run_pure]
        · next e0 =>
          have e0 := Nat.ne_of_beq_eq_false e0
          rw [AM.run_get] at hx
          obtain ⟨b, hy, hl, hx⟩ := hx
          split at hx
          · next ro el' esz' cs =>
            split at hx
            · next e1 =>
             have e1 := Nat.eq_of_beq_eq_true e1
             split at hx
             · next cs' hw =>
              rw [AM.run_put] at hx
              obtain ⟨b, hy', hrw, hx⟩ := hx
              rw [hy] at hy'; cases hy'
              rw [AM.run_ret] at hx; subst hx
              have hro : ro = false := by simpa [Blk.rw] using hrw
              obtain ⟨I', hI', hb⟩ := m.lies q _ hy hl
              rw [hI] at hI'; cases hI'
              obtain ⟨C, fz, hb, hsz, hesz, hfz, hcc⟩ := hb
              have hf := hfz hro; subst hf
              have ho := q3 (by omega)
              subst ho
              have hnl := src.hl
              have hfit : I.off + o + len * i.size + nv.length ≤ C.size := by
                rw [hnl, Nat.add_assoc, ← Nat.add_mul, ← hsz]
                refine Nat.le_trans ?_ q4
                rw [hesz, e1]
                have := Nat.mul_le_mul_right i.size (show len + k ≤ c' by omega)
                omega
              have hrun := src.fit I.blk (I.off + o) len c' C _ (by omega) hb hfit
              have hfit' : I.off + (o + len * i.size) + nv.length ≤ C.size := by rw [← Nat.add_assoc]; exact hfit
              have ms := write_sim m hy hro hI hb hsz hesz hcc hw fr hfit'
              rw [← Nat.add_assoc] at ms
              refine ⟨_, β, .refl _, ms, _, by simp only [Sem.run_bind, hrun, Result.andThen_ok, Sem.run_pure]; rfl, ?_⟩
              simp only [VR]
              exact ⟨I, _, c', hI, rfl, q1, q2, q3, q4⟩
             · simp [AM.run_fail] at hx
            · simp [AM.run_fail] at hx
          · simp [AM.run_fail] at hx
      · next hle =>
        have hgt : ¬ (len + k ≤ c) := by
          intro x; rw [Nat.ble_eq_true_of_le x] at hle; cases hle
        split at hx
        · next hle1 hle2 =>
          have hle1 := Nat.le_of_ble_eq_true hle1
          have hle2 := Nat.le_of_ble_eq_true hle2
          obtain ⟨len', olds, lg2, ov, hx, fo⟩ := rd_sound m gx' hx
          have hlen : len' = len := by
            rcases fo.val with ⟨cap, rfl, rfl, hq⟩ | ⟨a, cap, hq, _⟩
            · cases hq
            · injection hq with _ h2 _; exact h2.symm
          subst hlen
          have hboth : VRs β (olds ++ news) (ov ++ nv) := fo.rel.append _ _ _ _ fr
          have hol := fo.hl
          have hnl := src.hl
          -- the arm that makes a new row
          have arm : c' < len' + k → ∀ h' : T Blk, Sim B w0 β h' w → h'.get n = none → ∃ w' β', Ext β β' ∧ Sim B w0 β' (h'.ins (.cells false el i.size (olds ++ news)) n) w' ∧ ∃ u', (do pure (.value (← Builtin.append_ #[t, tx] rt #[.slice (some ⟨I.blk, o', none⟩) len' c', z])) : Sem Next).run P w = .ok (.value u') w' ∧ VR β' (.sl n 0 (len' + k) (len' + k) false) u' := by
            intro hg h' m' hk0
            have hrun := src.grow (some ⟨I.blk, o', none⟩) len' c' ov fo.hold hg (by omega) hle1 (grow48 _ _ hg hle1)
            have hge := grownCap_ge w (len' + k) c' el
            obtain ⟨β', hx, m'', hb'⟩ := new_cells (el := el) (esz := i.size) (m'.drew (w.drawn + 1)) hk0 (z := olds ++ news) (grown_get (Z := Builtin.zeroCells zv.cells (grownCap w (len' + k) c' el - (len' + k))) hboth)
            refine ⟨_, β', hx, m'', _, by simp only [Sem.run_bind, hrun, Result.andThen_ok, Sem.run_pure]; rfl, ?_⟩
            simp only [VR]
            refine ⟨_, 0, grownCap w (len' + k) c' el, hb', by simp, by omega, fun x => (by cases x), fun _ => rfl, ?_⟩
            simp only [Array.size_append, size_zeroCells, List.size_toArray, List.length_append, hnl, hol, hz, Nat.zero_add]
            rw [← Nat.add_mul, ← Nat.add_mul]
            exact Nat.mul_le_mul_right _ (by omega)
          split at hx
          · next hex =>
            rw [AM.run_new] at hx
            obtain ⟨hk0, hx⟩ := hx
            rw [AM.run_ret] at hx; subst hx
            have := q2 rfl
            exact arm (by omega) h m hk0
          · rw [AM.run_get] at hx
            obtain ⟨b, hy, hl, hx⟩ := hx
            split at hx
            · next ro el' esz' cs =>
              split at hx
              · next e1 e2 =>
                have e1 := Nat.eq_of_beq_eq_true e1
                have e2 := Nat.eq_of_beq_eq_true e2
                subst e1 e2
                rw [AM.run_put] at hx
                obtain ⟨b, hy', hrw, hx⟩ := hx
                rw [hy] at hy'; cases hy'
                rw [AM.run_new] at hx
                obtain ⟨hk0, hx⟩ := hx
                rw [AM.run_ret] at hx; subst hx
                have hro : ro = false := by simpa [Blk.rw] using hrw
                obtain ⟨I', hI', hb⟩ := m.lies q _ hy hl
                rw [hI] at hI'; cases hI'
                obtain ⟨C, fz, hb, hsz, hesz, hfz, hcc⟩ := hb
                have hf := hfz hro; subst hf
                by_cases hroom : len' + k ≤ c'
                · have hfit : o' + len' * i.size + nv.length ≤ C.size := by
                    rw [hnl, Nat.add_assoc, ← Nat.add_mul, ← hsz]
                    refine Nat.le_trans ?_ q4
                    rw [hesz]
                    have := Nat.mul_le_mul_right i.size hroom
                    omega
                  have hrun := src.fit I.blk o' len' c' C _ hroom hb hfit
                  have md := m.put (w' := w.setRow I.blk (C.toList.take (o' + len' * i.size) ++ nv ++ C.toList.drop (o' + len' * i.size + nv.length)).toArray) hy hrw hI (b' := .dead) (.inr (setRow_below w I.blk _)) trivial
                  have hBI := m.own q _ I hy hrw hI
                  have hlt := (m.dom q I hI).1
                  have hfree : ∀ q' c'' J, (h.ins .dead q).get q' = some c'' → c''.live = true → β q' = some J → J.blk ≠ I.blk := by
                    intro q' c'' J h1 h2 h3
                    rw [T.get_ins] at h1
                    split at h1
                    · cases h1; simp [Blk.live] at h2
                    · next hne => exact fun x => m.apart q q' _ c'' I J (fun z => hne z.symm) hy h1 hrw h2 hI h3 x.symm
                  have hx0 : Ext β (upd β n ⟨I.blk, o', i.size, C.size⟩) := ext_upd (md.fresh hk0)
                  obtain ⟨m2, hx⟩ := md.claim (k := n) (b := .cells false el' i.size (olds ++ news)) (I := ⟨I.blk, o', i.size, C.size⟩) hk0 hBI (by rw [(setRow_below w I.blk _).2.2.2.1]; exact hlt) hfree (by
                    rw [setRow_at hb]
                    refine ⟨_, _, rfl, (over_size hfit).symm, rfl, fun _ => rfl, fun j a ha => ?_⟩
                    rw [over_get hfit]
                    obtain ⟨v, h1, h2⟩ := VRs.get _ _ hboth j a ha
                    refine ⟨v, ?_, VR.mono hx0 a v h2⟩
                    have hjl : j < ov.length + nv.length := by
                      rcases Nat.lt_or_ge j (ov ++ nv).length with z | z
                      · simpa using z
                      · rw [List.getElem?_eq_none z] at h1; cases h1
                    by_cases hj : j < ov.length
                    · rw [List.getElem?_append_left hj] at h1
                      rw [if_neg (by simp only; omega)]
                      rcases fo.val with ⟨cap, h0, hov, hq⟩ | ⟨a', cap, hq, hcell⟩
                      · subst hov; simp at hj
                      · injection hq with h5 _ _; cases h5
                        have := hcell j v h1
                        rw [addr_add] at this
                        simp only [World.cell?, hb] at this
                        simpa using this
                    · rw [List.getElem?_append_right (by omega)] at h1
                      rw [if_pos (by simp only; omega)]
                      simp only
                      rw [show o' + j - (o' + len' * i.size) = j - ov.length by omega]; exact h1)
                  refine ⟨_, _, hx, m2, _, by simp only [Sem.run_bind, hrun, Result.andThen_ok, Sem.run_pure]; rfl, ?_⟩
                  simp only [VR]
                  refine ⟨⟨I.blk, o', i.size, C.size⟩, o', c', by simp [upd], rfl, hroom, fun x => (by cases x), fun _ => by simp, ?_⟩
                  rw [hsz, hesz] at q4; exact q4
                · have md := m.put (w' := w) hy hrw hI (b' := .dead) (.inr ⟨rfl, rfl, rfl, rfl, fun _ _ => rfl⟩) trivial
                  exact arm (by omega) _ md hk0
              · simp [AM.run_fail] at hx
            · simp [AM.run_fail] at hx
        · simp [AM.run_fail] at hx
    · simp [AM.run_fail] at hx

theorem info_of {el esz bytes : Nat} {zv : Value} (hs : szOf P el = some esz) (hb : byOf P el = some bytes) (e : zOf P el = some zv) : ∃ i, P.info? el = some i ∧ i.size = esz ∧ i.bytes = bytes ∧ i.zero = some zv := by
  unfold szOf at hs; unfold byOf at hb; unfold zOf at e
  cases hq : P.info? el with
  | none => simp [hq] at hs
  | some i => simp [hq] at hs hb e; exact ⟨i, rfl, hs, hb, e⟩

def exApp (el esz : Nat) (x y : AV) : AM ARes := rd esz y fun k news => exApp1 el esz k news x

theorem app_sound {t tx el e' esz bytes : Nat} {rt : TypeId} {x y : AV} {u z : Value} {zv : Value} {r : R ARes} (hu : P.underlying t = some (.slice el)) (hk : P.underlying tx = some (.slice e')) (hs : szOf P el = some esz) (hb : byOf P el = some bytes) (hbb : Nat.ble bytes 65536 = true)
    (e : zOf P el = some zv) (hz : zv.cells.size = esz) (m : Sim B w0 β h w) (gx : VR β x u) (gy : VR β y z) (hx : (exApp el esz x y).run h n lg = some r) :
    Good P B w0 β w (do pure (.value (← Builtin.append_ #[t, tx] rt #[u, z]))) r := by
  unfold exApp at hx
  obtain ⟨k, news, lg1, nv, hx, fn⟩ := rd_sound m gy hx
  obtain ⟨i, hi, his, hib, hiz⟩ := info_of hs hb e
  subst his
  refine app_core hib (Nat.le_of_ble_eq_true hbb) hz m gx fn.rel (fun hsc => ?_) hx
  have src := fn.src (P := P) hsc hk
  refine ⟨fn.hl, ?_, ?_, ?_⟩
  · intro base sLen sCap hk0 hle hb0
    subst hk0
    have hnv : nv = [] := List.eq_nil_of_length_eq_zero (by have := fn.hl; omega)
    subst hnv
    rcases src.kind with ⟨e'', hk'⟩ | hk' <;> cases base <;> simp [Builtin.append_, run_underlying hu, run_underlying hk', sizeOf, typeInfo, hi, src.len, src.cells, storeCells] <;> omega
  · intro b off sLen sCap C el' h1 h2 h3
    exact run_append_room_row t tx rt el i hu hi b off sLen sCap z k nv src h1 h2 h3
  · intro base sLen sCap olds h1 h2 _ h3 h4
    exact run_append_grow_src w t tx rt el i zv hu hi hiz base sLen sCap olds h1 z k nv src h2 (by omega) h4

def exAppz (el esz : Nat) (z : List AV) (x y : AV) : AM ARes := match natOf y with
  | some k => match Nat.ble k 16777216 with
    | true => exApp1 el esz k (rep z k) x
    | false => .fail
  | none => .fail

theorem appz_sound {t tx el esz bytes : Nat} {kn : IntKind} {rt : TypeId} {x y : AV} {u v : Value} {zv : Value} {z : List AV} {r : R ARes} (hu : P.underlying t = some (.slice el)) (hk : P.underlying tx = some (.int kn)) (hs : szOf P el = some esz) (hs0 : esz ≠ 0) (hb : byOf P el = some bytes) (hbb : Nat.ble bytes 65536 = true)
    (e : zOf P el = some zv) (hz : zv.cells.size = esz) (c : cvrs z zv.cells.toList = true) (m : Sim B w0 β h w) (gx : VR β x u) (gy : VR β y v) (hx : (exAppz el esz z x y).run h n lg = some r) :
    Good P B w0 β w (do pure (.value (← Builtin.append_ #[t, tx] rt #[u, v]))) r := by
  unfold exAppz at hx
  split at hx
  · next k hk0 =>
    split at hx
    · next hle =>
      have hle := Nat.le_of_ble_eq_true hle
      obtain ⟨kq, rfl⟩ := natOf_some hk0 gy
      obtain ⟨i, hi, his, hib, hiz⟩ := info_of hs hb e
      subst his
      have hzs := cvrs_sound (β := β) _ _ c
      have hbb' := Nat.le_of_ble_eq_true hbb
      have hzl := hzs.length
      simp only [Array.length_toList] at hzl
      have hfr : VRs β (rep z k) (Builtin.zeroCells zv.cells k).toList := by
        refine VRs.of_get _ _ ?_ fun j a ha => ?_
        · have : ∀ b, (rep z b).length = b * z.length := by
            intro b; induction b with
            | zero => simp [rep]
            | succ b ih => simp only [rep, List.length_append, ih, Nat.succ_mul]; omega
          simp only [Array.length_toList, size_zeroCells, this, hzl]
        · obtain ⟨v, h1, h2⟩ := rep_zero hzs k j a ha
          exact ⟨v, by rw [Array.getElem?_toList]; exact h1, h2⟩
      refine app_core hib hbb' hz m gx hfr (fun hsc => ?_) hx
      have hone := allSc_get hsc hfr
      have hw : IntKind.i64.wrap (k : Int) = k := IntWalk.i64_in _ (by omega)
      have hneg : ¬ ((k : Int) < 0) := by omega
      have h48i : ¬ (281474976710656 < (k : Int) * (i.bytes : Int)) := by
        have h1 : k * i.bytes ≤ 1099511627776 := Nat.le_trans (Nat.mul_le_mul hle (by omega : i.bytes ≤ 65536)) (by decide)
        have h2 : ((k * i.bytes : Nat) : Int) ≤ ((1099511627776 : Nat) : Int) := Int.ofNat_le.2 h1
        rw [Int.natCast_mul] at h2
        exact Int.not_lt.2 (Int.le_trans h2 (by decide))
      refine ⟨by simp [size_zeroCells, hz], ?_, ?_, ?_⟩
      · intro base sLen sCap hk9 hle9 hb0
        subst hk9
        have hw0 : IntKind.i64.wrap 0 = 0 := rfl
        cases base with
        | none =>
          have := hb0 rfl; subst this
          simp [Builtin.append_, run_underlying hu, run_underlying hk, sizeOf, typeInfo, hi, asInt, asIntOf, hw0]
        | some a => simp [Builtin.append_, run_underlying hu, run_underlying hk, sizeOf, typeInfo, hi, asInt, asIntOf, hw0, storeCells, hle9]
      · intro b off sLen sCap C el' h1 h2 h3
        have hst := run_storeCells_at P b (off + sLen * i.size) el' (Builtin.zeroCells zv.cells k).toList 0 C w h2 (by omega) hone
        simp only [Nat.add_zero] at hst
        by_cases hk1 : k = 0
        · subst hk1
          have hn0 : (Builtin.zeroCells zv.cells 0).toList = [] := by simp [Builtin.zeroCells]
          rw [hn0] at hst ⊢
          have hw0 : IntKind.i64.wrap 0 = 0 := rfl
          have h1' : sLen ≤ sCap := h1
          simp only [List.append_nil, List.length_nil, Nat.add_zero] at hst
          simp [Builtin.append_, run_underlying hu, run_underlying hk, sizeOf, typeInfo, hi, asInt, asIntOf, hw0, h1', Addr.add_lit, hst]
        · have hns : ¬ (k * i.size = 0) := Nat.mul_ne_zero hk1 hs0
          simp [Builtin.append_, run_underlying hu, run_underlying hk, sizeOf, typeInfo, zeroValue, hi, hiz, asInt, asIntOf, hw, hneg, h48i, hns, h1, Addr.add_lit, hst]
      · intro base sLen sCap olds h1 h2 h3 h4 h5
        have := Lib.run_append_grow_zeros w t tx rt el i zv kq kn hu hk hi hiz base sLen sCap olds h1 k h3 (by omega) h2 (by omega) (by
          refine Nat.le_trans (Nat.mul_le_mul hle (by omega : i.bytes ≤ 65536)) (by decide)) h5
        rw [this]
        congr 4
        apply Array.ext'
        simp
    · simp [AM.run_fail] at hx
  · simp [AM.run_fail] at hx

end
end Go.Ax
