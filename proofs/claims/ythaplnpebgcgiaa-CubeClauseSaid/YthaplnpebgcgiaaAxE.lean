/- AX, part E: the operations, on. -/
import Derived.Test.YthaplnpebgcgiaaAxD
import Derived.Laws.Slices
namespace Go.Ax
open Go.RowKit (Below)

def natOf : AV → Option Nat
  | .i _ (.ofNat n) => some n
  | _ => none

section
variable {P : Program} {B : Nat} {w0 : World} {β : K → Option BI} {h : T Blk} {w : World} {n : K} {lg : Log}

theorem natOf_some {v : AV} {u : Value} {q : Nat} (e : natOf v = some q) (g : VR β v u) : ∃ k, u = .int k (q : Int) := by
  unfold natOf at e
  split at e
  · next k m => cases e; simp only [VR] at g; exact ⟨k, g⟩
  · cases e

/-- So many copies of a row. -/
def rep (z : List AV) : Nat → List AV
  | 0 => []
  | b + 1 => z ++ rep z b

theorem rep_get (z : List AV) : ∀ (b j : Nat), (rep z b)[j]? = if j < b * z.length then z[j % z.length]? else none
  | 0, j => by simp [rep]
  | b + 1, j => by
    simp only [rep]
    by_cases h1 : j < z.length
    · rw [List.getElem?_append_left h1, if_pos (by rw [Nat.succ_mul]; omega), Nat.mod_eq_of_lt h1]
    · rw [List.getElem?_append_right (by omega), rep_get z b]
      have h2 : (j - z.length < b * z.length) ↔ (j < (b + 1) * z.length) := by rw [Nat.succ_mul]; omega
      by_cases h3 : j - z.length < b * z.length
      · rw [if_pos h3, if_pos (h2.1 h3), ← Nat.mod_eq_sub_mod (by omega)]
      · rw [if_neg h3, if_neg (fun q => h3 (h2.2 q))]

/-- Zero cells, as the model lays them. -/
theorem rep_zero {z : List AV} {Z : Array Value} (g : VRs β z Z.toList) (b : Nat) (j : Nat) (a : AV) (ha : (rep z b)[j]? = some a) : ∃ v, ((Array.range (b * Z.size)).map (fun i => Z[i % Z.size]!))[j]? = some v ∧ VR β a v := by
  have hl := g.length
  simp only [Array.length_toList] at hl
  rw [rep_get] at ha
  split at ha
  · next hj =>
    obtain ⟨v, h1, h2⟩ := VRs.get z _ g _ a ha
    refine ⟨v, ?_, h2⟩
    rw [hl]
    simp only [Array.getElem?_toList] at h1
    have hz : z.length ≠ 0 := by intro e; rw [e] at hj; omega
    have hm : j % z.length < Z.size := by rw [hl]; exact Nat.mod_lt _ (by omega)
    have hv : Z[j % z.length]! = v := by rw [getElem!_pos Z _ hm]; rw [Array.getElem?_eq_getElem hm] at h1; exact Option.some.inj h1
    simp [hj, hv]
  · cases ha

def exMks (el esz : Nat) (z : List AV) (x y : AV) : AM ARes := match natOf x, natOf y with
  | some a, some b => match Nat.ble a b, Nat.ble b 16777216 with
    | true, true => .new (.cells false el esz (rep z b)) fun k => .ret (.v (.sl k 0 a b true))
    | _, _ => .fail
  | _, _ => .fail

theorem mks_sound {t el esz bytes : Nat} {z : List AV} {zv : Value} {x y : AV} {u v : Value} {r : R ARes} (hu : P.underlying t = some (.slice el)) (hs : szOf P el = some esz) (hb : byOf P el = some bytes) (hbb : Nat.ble bytes 65536 = true)
    (e : zOf P el = some zv) (hz : zv.cells.size = esz) (c : cvrs z zv.cells.toList = true) (m : Sim B w0 β h w) (gx : VR β x u) (gy : VR β y v) (hx : (exMks el esz z x y).run h n lg = some r) :
    Good P B w0 β w (do pure (.value (← Instr.makeSlice t u v))) r := by
  unfold exMks at hx
  split at hx
  · next a b ha hb' =>
    split at hx
    · next e1 e2 =>
      have e1 := Nat.le_of_ble_eq_true e1
      have e2 := Nat.le_of_ble_eq_true e2
      have hbb := Nat.le_of_ble_eq_true hbb
      obtain ⟨k1, rfl⟩ := natOf_some ha gx
      obtain ⟨k2, rfl⟩ := natOf_some hb' gy
      rw [AM.run_new] at hx
      obtain ⟨hk, hx⟩ := hx
      rw [AM.run_ret] at hx; subst hx
      obtain ⟨i, hi, hib⟩ := run_byOf hb w
      have w1 : IntKind.i64.wrap (a : Int) = a := IntWalk.i64_in _ (by omega)
      have w2 : IntKind.i64.wrap (b : Int) = b := IntWalk.i64_in _ (by omega)
      have hmul : ¬ ((bytes : Int) * (b : Int) > 2 ^ 48) := by
        have h1 : bytes * b ≤ 1099511627776 := Nat.le_trans (Nat.mul_le_mul hbb e2) (by decide)
        have h2 : ((bytes * b : Nat) : Int) ≤ ((1099511627776 : Nat) : Int) := Int.ofNat_le.2 h1
        rw [Int.natCast_mul] at h2
        exact Int.not_lt.2 (Int.le_trans h2 (by decide))
      subst hz
      have hzs := cvrs_sound (β := β) _ _ c
      have hcond : ¬ ((((decide ((b : Int) < 0) || decide ((bytes : Int) * (b : Int) > 2 ^ 48)) || decide ((a : Int) < 0)) || decide ((a : Int) > (b : Int))) = true) := by
        rw [decide_eq_false (show ¬ ((b : Int) < 0) by omega), decide_eq_false hmul, decide_eq_false (show ¬ ((a : Int) < 0) by omega), decide_eq_false (show ¬ ((a : Int) > (b : Int)) by omega)]; decide
      by_cases h0 : b * zv.cells.size = 0
      · obtain ⟨β', hx, m', hb''⟩ := new_cells (el := el) (esz := zv.cells.size) (C := (Array.range (b * zv.cells.size)).map (fun i => (#[] : Array Value)[i % (#[] : Array Value).size]!)) m hk (z := rep z b) (fun j a ha => by
          obtain ⟨v, h1, h2⟩ := rep_zero hzs b j a ha
          rw [h0] at h1; simp at h1)
        refine ⟨_, β', hx, m', .slice (some ⟨w.heap.size, 0, none⟩) a b, ?_, ?_⟩
        · simp only [Instr.makeSlice, Sem.run_bind, run_underlying hu, Result.andThen_ok, asInt, asIntOf, Sem.run_pure, hi, w1, w2]
          rw [hib, if_neg hcond]
          simp only [Sem.run_bind, run_askRoom, Result.andThen_ok, Int.toNat_natCast, run_szOf hs]
          rw [if_pos h0]
          simp only [Sem.run_bind, Sem.run_pure, Result.andThen_ok, newRow, run_newObj, World.alloc_eq]
        · simp only [VR]; exact ⟨_, 0, b, hb'', rfl, Nat.le_refl _, fun _ => rfl, fun _ => rfl, by simp⟩
      · obtain ⟨β', hx, m', hb''⟩ := new_cells (el := el) (esz := zv.cells.size) (C := (Array.range (b * zv.cells.size)).map (fun i => zv.cells[i % zv.cells.size]!)) m hk (z := rep z b) (fun j a ha => rep_zero hzs b j a ha)
        refine ⟨_, β', hx, m', .slice (some ⟨w.heap.size, 0, none⟩) a b, ?_, ?_⟩
        · simp only [Instr.makeSlice, Sem.run_bind, run_underlying hu, Result.andThen_ok, asInt, asIntOf, Sem.run_pure, hi, w1, w2]
          rw [hib, if_neg hcond]
          simp only [Sem.run_bind, run_askRoom, Result.andThen_ok, Int.toNat_natCast, run_szOf hs]
          rw [if_neg h0]
          simp only [Sem.run_bind, run_zOf e, Sem.run_pure, Result.andThen_ok, newRow, run_newObj, World.alloc_eq]
        · simp only [VR]; exact ⟨_, 0, b, hb'', rfl, Nat.le_refl _, fun _ => rfl, fun _ => rfl, by simp⟩
    · simp [AM.run_fail] at hx
  · simp [AM.run_fail] at hx

def optNat : Option AV → Option (Option Nat)
  | none => some none
  | some v => match natOf v with
    | some q => some (some q)
    | none => none

def OR (β : K → Option BI) : Option AV → Option Value → Prop
  | none, none => True
  | some a, some v => VR β a v
  | _, _ => False

def ORN : Option Nat → Option Value → Prop
  | none, none => True
  | some q, some v => ∃ k, v = .int k (q : Int)
  | _, _ => False

theorem optNat_some {o : Option AV} {v : Option Value} {q : Option Nat} (e : optNat o = some q) (g : OR β o v) : ORN q v := by
  cases o <;> cases v <;> simp only [OR] at g
  · simp [optNat] at e; subst e; trivial
  · simp only [optNat] at e
    split at e
    · next q hq => cases e; exact natOf_some hq g
    · cases e

/-- The bounds of a slice expression: from, to, and how far, if that is said. -/
def tri (len c : Nat) (lo hi mx : Option Nat) : Option (Nat × Nat × Option Nat) :=
  let a := lo.getD 0
  match hi with
  | none => match mx with
    | none => match Nat.ble a len, Nat.ble len c with
      | true, true => some (a, len, none)
      | _, _ => none
    | some _ => none
  | some b => match mx with
    | none => match Nat.ble a b, Nat.ble b c with
      | true, true => some (a, b, none)
      | _, _ => none
    | some m => match Nat.ble a b, Nat.ble b m, Nat.ble m c with
      | true, true, true => some (a, b, some m)
      | _, _, _ => none

theorem tri_sound {len c cap a b : Nat} {lo hi mx mm : Option Nat} {lo' hi' mx' : Option Value} (e : tri len c lo hi mx = some (a, b, mm)) (g1 : ORN lo lo') (g2 : ORN hi hi') (g3 : ORN mx mx') (hc : c ≤ cap) :
    (Instr.sliceBounds true len cap lo' hi' mx').run P w = .ok (a, b, mm.getD cap) w ∧ a ≤ b ∧ b ≤ mm.getD c ∧ mm.getD c ≤ c ∧ (mm = none ∨ ∃ q, mm = some q ∧ q ≤ c) := by
  have hlo : ∀ (y : Nat) (code : BoundsCode) (q : Nat), lo.getD 0 = q → q ≤ y → (match lo' with | some v => Instr.sliceBound v y code | none => pure 0 : Sem Nat).run P w = .ok q w := by
    intro y code q hq hy
    cases lo <;> cases lo' <;> simp only [ORN] at g1
    · subst hq; rfl
    · obtain ⟨k, rfl⟩ := g1
      simp only [Option.getD_some] at hq; subst hq
      rw [run_sliceBound _ _ _ _ _ (by omega) (by omega)]; simp
  unfold tri at e
  simp only at e
  cases hi with
  | none =>
    cases hi' with
    | some _ => simp only [ORN] at g2
    | none =>
      cases mx with
      | some _ => simp at e
      | none =>
        cases mx' with
        | some _ => simp only [ORN] at g3
        | none =>
          simp only at e
          split at e
          · next h1 h2 =>
            have h1 := Nat.le_of_ble_eq_true h1
            have h2 := Nat.le_of_ble_eq_true h2
            simp only [Option.some.injEq, Prod.mk.injEq] at e
            obtain ⟨e1, e2, e3⟩ := e
            subst e2 e3
            rw [e1] at h1
            have := hlo len .sliceB a e1 h1
            refine ⟨?_, h1, by simpa using h2, by simp, .inl rfl⟩
            simp only [Instr.sliceBounds, Sem.run_bind, Sem.run_pure, Result.andThen_ok, Option.isSome_none, Bool.false_eq_true, if_false]
            cases lo' <;> simp_all
          · cases e
  | some hb =>
    cases hi' with
    | none => simp only [ORN] at g2
    | some hv =>
      obtain ⟨kh, rfl⟩ := g2
      cases mx with
      | none =>
        cases mx' with
        | some _ => simp only [ORN] at g3
        | none =>
          simp only at e
          split at e
          · next h1 h2 =>
            have h1 := Nat.le_of_ble_eq_true h1
            have h2 := Nat.le_of_ble_eq_true h2
            simp only [Option.some.injEq, Prod.mk.injEq] at e
            obtain ⟨e1, e2, e3⟩ := e
            subst e2 e3
            rw [e1] at h1
            have := hlo hb .sliceB a e1 h1
            refine ⟨?_, h1, by simpa using h2, by simp, .inl rfl⟩
            simp only [Instr.sliceBounds, Sem.run_bind, Sem.run_pure, Result.andThen_ok, Option.isSome_none, Bool.false_eq_true, if_false, if_true]
            rw [run_sliceBound _ _ _ _ _ (by omega) (by omega)]
            cases lo' <;> simp_all
          · cases e
      | some mq =>
        cases mx' with
        | none => simp only [ORN] at g3
        | some mv =>
          obtain ⟨km, rfl⟩ := g3
          simp only at e
          split at e
          · next h1 h2 h3 =>
            have h1 := Nat.le_of_ble_eq_true h1
            have h2 := Nat.le_of_ble_eq_true h2
            have h3 := Nat.le_of_ble_eq_true h3
            simp only [Option.some.injEq, Prod.mk.injEq] at e
            obtain ⟨e1, e2, e3⟩ := e
            subst e2 e3
            rw [e1] at h1
            have := hlo hb .slice3C a e1 h1
            refine ⟨?_, h1, by simpa using h2, by simpa using h3, .inr ⟨mq, rfl, h3⟩⟩
            simp only [Instr.sliceBounds, Sem.run_bind, Sem.run_pure, Result.andThen_ok, Option.isSome_some, if_true]
            rw [run_sliceBound _ _ _ _ _ (by omega) (by omega)]
            simp only [Result.andThen_ok, Int.toNat_natCast]
            rw [run_sliceBound _ _ _ _ _ (by omega) (by omega)]
            cases lo' <;> simp_all
          · cases e

def exSlice (esz : Nat) (v : AV) (lo hi mx : Option AV) : AM ARes := match optNat lo, optNat hi, optNat mx with
  | some lo, some hi, some mx => match v with
    | .sl k o n c ex => match tri n c lo hi mx with
      | some (a, b, mm) => .get k fun y => match y with
        | .cells _ _ e _ => match Nat.beq e esz with
          | true => match mm with
            | none => .ret (.v (.sl k (o + a * esz) (b - a) (c - a) ex))
            | some m => .ret (.v (.sl k (o + a * esz) (b - a) (m - a) true))
          | false => .fail
        | _ => .fail
      | none => .fail
    | .nils => match tri 0 0 lo hi mx with
      | some _ => .ret (.v .nils)
      | none => .fail
    | _ => .fail
  | _, _, _ => .fail

theorem slice_val {I : BI} {o o' c c' a b m m' esz : Nat} {k : K} {ex ex' : Bool} (hI : β k = some I) (hesz : I.esz = esz) (q1 : c ≤ c') (q2 : ex = true → c' = c) (q3 : 0 < c → o' = I.off + o) (q4 : o' + c' * I.esz ≤ I.size) (ham : a ≤ m) (hm : m ≤ c) (hm' : m ≤ m') (hmc : m' ≤ c') (hex : ex' = true → m' = m) :
    VR β (.sl k (o + a * esz) (b - a) (m - a) ex') (.slice (if m' = a then some ⟨I.blk, o', none⟩ else some ⟨I.blk, o' + a * esz, none⟩) (b - a) (m' - a)) := by
  simp only [VR]
  by_cases hma : m' = a
  · refine ⟨I, o', m' - a, hI, by rw [if_pos hma], by omega, fun z => by omega, fun z => by omega, ?_⟩
    have h0 : m' - a = 0 := by omega
    rw [h0, Nat.zero_mul]
    exact Nat.le_trans (Nat.le_add_right _ _) q4
  · refine ⟨I, o' + a * esz, m' - a, hI, by rw [if_neg hma], by omega, fun z => by have := hex z; omega, fun z => by have := q3 (by omega); omega, ?_⟩
    rw [hesz] at q4 ⊢
    have h1 : a * esz + (m' - a) * esz = m' * esz := by rw [← Nat.add_mul]; congr 1; omega
    have h2 : m' * esz ≤ c' * esz := Nat.mul_le_mul_right _ hmc
    omega

theorem slice_sound {t el esz : Nat} {x : AV} {u : Value} {lo hi mx : Option AV} {lo' hi' mx' : Option Value} {r : R ARes} (hu : P.underlying t = some (.slice el)) (hs : szOf P el = some esz) (m : Sim B w0 β h w) (gx : VR β x u) (g1 : OR β lo lo') (g2 : OR β hi hi') (g3 : OR β mx mx')
    (hx : (exSlice esz x lo hi mx).run h n lg = some r) : Good P B w0 β w (do pure (.value (← Instr.sliceAt t u lo' hi' mx'))) r := by
  unfold exSlice at hx
  have hat : ∀ u : Value, (Instr.sliceAt t u lo' hi' mx').run P w = (Instr.slice t u lo' hi' mx').run P w := by
    intro u; simp only [Instr.sliceAt, Sem.run_bind, run_underlying hu, Result.andThen_ok]
  split at hx
  · next l1 l2 l3 e1 e2 e3 =>
    have g1 := optNat_some e1 g1
    have g2 := optNat_some e2 g2
    have g3 := optNat_some e3 g3
    cases x <;> simp only [AM.run_fail] at hx
    case sl k o len c ex =>
      split at hx
      · next a b mm e =>
        rw [AM.run_get] at hx
        obtain ⟨y, hy, hl, hx⟩ := hx
        simp only [VR] at gx
        obtain ⟨I, o', c', hI, rfl, q1, q2, q3, q4⟩ := gx
        obtain ⟨I', hI', hb⟩ := m.lies k y hy hl
        rw [hI] at hI'; cases hI'
        cases y <;> simp only [AM.run_fail] at hx
        case cells ro el' esz' cs =>
          obtain ⟨C, fz, hb, hsz, hesz, _, _⟩ := hb
          split at hx
          · next e5 =>
            have e5 := Nat.eq_of_beq_eq_true e5
            obtain ⟨t1, t2, t3, t4, t5⟩ := tri_sound (P := P) (w := w) e g1 g2 g3 q1
            have hrun : (do pure (.value (← Instr.sliceAt t (.slice (some ⟨I.blk, o', none⟩) len c') lo' hi' mx')) : Sem Next).run P w = .ok (.value (.slice (if mm.getD c' = a then some ⟨I.blk, o', none⟩ else some ⟨I.blk, o' + a * esz, none⟩) (b - a) (mm.getD c' - a))) w := by
              simp only [Sem.run_bind, hat, Instr.slice, run_underlying hu, Result.andThen_ok, t1, run_szOf hs, Sem.run_pure, Option.map_some, addr_add]
            cases mm with
            | none =>
              simp only at hx
              rw [AM.run_ret] at hx; subst hx
              exact Good.val m hrun (slice_val hI (hesz.trans e5) q1 q2 q3 q4 (Nat.le_trans t2 t3) (Nat.le_refl _) q1 (Nat.le_refl _) q2)
            | some mq =>
              simp only at hx
              rw [AM.run_ret] at hx; subst hx
              exact Good.val m hrun (slice_val hI (hesz.trans e5) q1 q2 q3 q4 (Nat.le_trans t2 t3) t4 (Nat.le_refl _) (Nat.le_trans t4 q1) (fun _ => rfl))
          · simp [AM.run_fail] at hx
      · simp [AM.run_fail] at hx
    case nils =>
      split at hx
      · next q e =>
        obtain ⟨a, b, mm⟩ := q
        obtain ⟨t1, t2, t3, t4, t5⟩ := tri_sound (P := P) (w := w) e g1 g2 g3 (Nat.le_refl 0)
        rw [AM.run_ret] at hx; subst hx
        simp only [VR] at gx; subst gx
        refine Good.val m (u := .slice none 0 0) ?_ (by simp [VR])
        have h0 : mm.getD 0 = 0 := by omega
        have ha : a = 0 := by omega
        have hb : b = 0 := by omega
        rw [h0, ha, hb] at t1
        simp only [Sem.run_bind, hat, Instr.slice, run_underlying hu, Result.andThen_ok, t1, run_szOf hs, Sem.run_pure, Option.map_none]
        simp
      · simp [AM.run_fail] at hx
  · simp [AM.run_fail] at hx

end
end Go.Ax
