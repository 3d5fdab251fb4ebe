/- AX, part B: abstract programs over abstract memory; operands; integers. -/
import Derived.Test.YthaplnpebgcgiaaAxA
import Derived.IntWalk
namespace Go.Ax
open Go.RowKit (Below)

abbrev Log := List (K × Bool)

/-- A short program over abstract memory. -/
inductive AM (α : Type) where
  | ret (a : α)
  | fail
  | get (k : K) (f : Blk → AM α)
  | put (k : K) (y : Blk) (r : AM α)
  | new (y : Blk) (f : K → AM α)

/-- What a program leaves. -/
structure R (α : Type) where
  a : α
  h : T Blk
  n : K
  lg : Log

def AM.run {α : Type} : AM α → T Blk → K → Log → Option (R α)
  | .ret a, h, n, lg => some ⟨a, h, n, lg⟩
  | .fail, _, _, _ => none
  | .get k f, h, n, lg => match h.get k with
    | some y => match y.live with
      | true => (f y).run h n ((k, false) :: lg)
      | false => none
    | none => none
  | .put k y r, h, n, lg => match h.get k with
    | some z => match z.rw with
      | true => r.run (h.ins y k) n ((k, true) :: lg)
      | false => none
    | none => none
  | .new y f, h, n, lg => match h.get n with
    | some _ => none
    | none => (f n).run (h.ins y n) (kinc n) ((n, true) :: lg)

theorem AM.run_ret {α : Type} {a : α} {h : T Blk} {n : K} {lg : Log} {r : R α} : (AM.ret a).run h n lg = some r ↔ r = ⟨a, h, n, lg⟩ := by
  simp only [AM.run, Option.some.injEq]; exact eq_comm
theorem AM.run_fail {α : Type} {h : T Blk} {n : K} {lg : Log} {r : R α} : (AM.fail : AM α).run h n lg = some r ↔ False := by simp [AM.run]
theorem AM.run_get {α : Type} {k : K} {f : Blk → AM α} {h : T Blk} {n : K} {lg : Log} {r : R α} :
    (AM.get k f).run h n lg = some r ↔ ∃ y, h.get k = some y ∧ y.live = true ∧ (f y).run h n ((k, false) :: lg) = some r := by
  simp only [AM.run]
  cases h.get k with
  | none => simp
  | some y => cases e : y.live <;> simp [e]
theorem AM.run_put {α : Type} {k : K} {y : Blk} {f : AM α} {h : T Blk} {n : K} {lg : Log} {r : R α} :
    (AM.put k y f).run h n lg = some r ↔ ∃ z, h.get k = some z ∧ z.rw = true ∧ f.run (h.ins y k) n ((k, true) :: lg) = some r := by
  simp only [AM.run]
  cases h.get k with
  | none => simp
  | some y => cases e : y.rw <;> simp [e]
theorem AM.run_new {α : Type} {y : Blk} {f : K → AM α} {h : T Blk} {n : K} {lg : Log} {r : R α} :
    (AM.new y f).run h n lg = some r ↔ h.get n = none ∧ (f n).run (h.ins y n) (kinc n) ((n, true) :: lg) = some r := by
  simp only [AM.run]
  cases h.get n <;> simp

/-- Operands. -/
inductive AO where
  | t (k : K)
  | c (v : AV)
  | fn (f : Nat)

def ev (tm : T AV) : AO → AV
  | .t k => match tm.get k with
    | some v => v
    | none => .any
  | .c v => v
  | .fn f => .f f [] []

def cvr0 : AV → Value → Bool
  | .any, _ => true
  | .b v, .bool w => v == w
  | .i k n, .int j m => decide (k = j) && n == m
  | .str s, .string t => decide (s = t)
  | .nilp, .pointer none => true
  | .nils, .slice none 0 0 => true
  | .nilm, .map none => true
  | .f f [] [], .func (.func g) ⟨[]⟩ ⟨[]⟩ => f == g
  | _, _ => false

theorem cvr0_sound {β : K → Option BI} {a : AV} {v : Value} (h : cvr0 a v = true) : VR β a v := by
  unfold cvr0 at h
  split at h <;> simp_all [VR, VRs]

mutual
def cvr : AV → Value → Bool
  | .ag l, v => match v with
    | .agg l' => cvrs l l'.toList
    | _ => false
  | .tu l, v => match v with
    | .tuple l' => cvrs l l'.toList
    | _ => false
  | a, v => cvr0 a v
def cvrs : List AV → List Value → Bool
  | [], l => l.isEmpty
  | a :: as, l => match l with
    | [] => false
    | v :: vs => cvr a v && cvrs as vs
end

mutual
theorem cvr_sound {β : K → Option BI} : ∀ (a : AV) (v : Value), cvr a v = true → VR β a v
  | .any, _, h => cvr0_sound (by simpa [cvr] using h)
  | .b _, _, h => cvr0_sound (by simpa [cvr] using h)
  | .i _ _, _, h => cvr0_sound (by simpa [cvr] using h)
  | .str _, _, h => cvr0_sound (by simpa [cvr] using h)
  | .nilp, _, h => cvr0_sound (by simpa [cvr] using h)
  | .nils, _, h => cvr0_sound (by simpa [cvr] using h)
  | .nilm, _, h => cvr0_sound (by simpa [cvr] using h)
  | .p _ _, _, h => cvr0_sound (by simpa [cvr] using h)
  | .sl _ _ _ _ _, _, h => cvr0_sound (by simpa [cvr] using h)
  | .m _, _, h => cvr0_sound (by simpa [cvr] using h)
  | .f _ _ _, _, h => cvr0_sound (by simpa [cvr] using h)
  | .ag l, v, h => by
    simp only [cvr] at h
    split at h
    · next l' => simp only [VR]; exact ⟨_, rfl, cvrs_sound l _ h⟩
    · cases h
  | .tu l, v, h => by
    simp only [cvr] at h
    split at h
    · next l' => simp only [VR]; exact ⟨_, rfl, cvrs_sound l _ h⟩
    · cases h
theorem cvrs_sound {β : K → Option BI} : ∀ (a : List AV) (v : List Value), cvrs a v = true → VRs β a v
  | [], v, h => by simp only [cvrs, List.isEmpty_iff] at h; simp [VRs, h]
  | a :: as, v, h => by
    simp only [cvrs] at h
    split at h
    · cases h
    · next v vs =>
      simp only [Bool.and_eq_true] at h
      simp only [VRs]; exact ⟨v, vs, rfl, cvr_sound a v h.1, cvrs_sound as vs h.2⟩
end

def chkO : Operand → AO → Bool
  | .tmp t, .t k => kval k == t
  | .const v, .c a => cvr a v
  | .func f, .fn g => f == g
  | _, _ => false

def chkOs : List Operand → List AO → Bool
  | [], [] => true
  | x :: xs, o :: os => chkO x o && chkOs xs os
  | _, _ => false

/-- Slots. -/
def TR (β : K → Option BI) (tm : T AV) (a : Array Value) : Prop := ∀ k v, tm.get k = some v → VR β v (a.getD (kval k) undef)

theorem TR.mono {β β' : K → Option BI} (h : Ext β β') {tm : T AV} {a : Array Value} (g : TR β tm a) : TR β' tm a := fun k v e => VR.mono h v _ (g k v e)

theorem TR.set {β : K → Option BI} {tm : T AV} {a : Array Value} (g : TR β tm a) {k : K} {v : AV} {w : Value} (hk : kval k < a.size) (hv : VR β v w) : TR β (tm.ins v k) (a.setIfInBounds (kval k) w) := by
  intro q u e
  rw [T.get_ins] at e
  split at e
  · next h => cases e; subst h; simpa [Array.getD, hk] using hv
  · next h =>
    have hne : kval k ≠ kval q := fun x => h (kval_inj _ _ x).symm
    have : (a.setIfInBounds (kval k) w).getD (kval q) undef = a.getD (kval q) undef := by
      simp only [Array.getD_eq_getD_getElem?, Array.getElem?_setIfInBounds]
      rw [if_neg hne]
    rw [this]; exact g q u e

theorem ev_sound {β : K → Option BI} {tm : T AV} {a : Act} (g : TR β tm a.tmps) {x : Operand} {o : AO} (h : chkO x o = true) : VR β (ev tm o) (a.eval x) := by
  cases x <;> cases o <;> simp [chkO] at h
  · next t k =>
    subst h
    simp only [ev]
    cases e : tm.get k with
    | none => simp [VR]
    | some v => exact g k v e
  · next v a => exact cvr_sound _ _ h
  · next f g' => subst h; simp [ev, Act.eval, VR, VRs]

def evs (tm : T AV) : List AO → List AV
  | [] => []
  | o :: os => ev tm o :: evs tm os

theorem evs_sound {β : K → Option BI} {tm : T AV} {a : Act} (g : TR β tm a.tmps) : ∀ {x : List Operand} {o : List AO}, chkOs x o = true → VRs β (evs tm o) (x.map a.eval)
  | [], [], _ => by simp [evs, VRs]
  | [], _ :: _, h => by simp [chkOs] at h
  | _ :: _, [], h => by simp [chkOs] at h
  | x :: xs, o :: os, h => by
    simp [chkOs] at h
    simp only [evs, List.map_cons, VRs]
    exact ⟨_, _, rfl, ev_sound g h.1, evs_sound g h.2⟩

/-- Integers: no number that would have to be wrapped. -/
def inr : IntKind → Int → Bool
  | .i64, n => Nat.blt n.natAbs 9223372036854775808
  | .i32, n => Nat.blt n.natAbs 2147483648
  | .i16, n => Nat.blt n.natAbs 32768
  | .i8, n => Nat.blt n.natAbs 128
  | .u64, .ofNat n => Nat.blt n 18446744073709551616
  | .u32, .ofNat n => Nat.blt n 4294967296
  | .u16, .ofNat n => Nat.blt n 65536
  | .u8, .ofNat n => Nat.blt n 256
  | _, _ => false

theorem wrap_inr {k : IntKind} {n : Int} (h : inr k n = true) : k.wrap n = n := by
  cases k
  case i64 => have := Nat.lt_of_lt_of_le (Nat.le_of_ble_eq_true h) (Nat.le_refl _); exact IntWalk.i64_in n (by omega)
  case i32 => have := Nat.lt_of_lt_of_le (Nat.le_of_ble_eq_true h) (Nat.le_refl _); exact IntWalk.i32_in n (by omega)
  case i16 => have := Nat.lt_of_lt_of_le (Nat.le_of_ble_eq_true h) (Nat.le_refl _); exact IntWalk.i16_in n (by omega)
  case i8 => have := Nat.lt_of_lt_of_le (Nat.le_of_ble_eq_true h) (Nat.le_refl _); exact IntWalk.i8_in n (by omega)
  all_goals
    cases n with
    | negSucc m => simp [inr] at h
    | ofNat m =>
      have := Nat.lt_of_lt_of_le (Nat.le_of_ble_eq_true h) (Nat.le_refl _)
      first
        | exact IntWalk.u64_in (Int.ofNat m) (by simp only [Int.ofNat_eq_natCast]; omega)
        | exact IntWalk.u32_in (Int.ofNat m) (by simp only [Int.ofNat_eq_natCast]; omega)
        | exact IntWalk.u16_in (Int.ofNat m) (by simp only [Int.ofNat_eq_natCast]; omega)
        | exact IntWalk.u8_in (Int.ofNat m) (by simp only [Int.ofNat_eq_natCast]; omega)

def rg (k : IntKind) (n : Int) : Option AV := match inr k n with
  | true => some (.i k n)
  | false => none

theorem rg_some {k : IntKind} {n : Int} {v : AV} (h : rg k n = some v) : v = .i k n ∧ k.wrap n = n := by
  unfold rg at h
  split at h
  · next e => cases h; exact ⟨rfl, wrap_inr e⟩
  · cases h

/-- Tests, cheap for the kernel. -/
def ilt (a b : Int) : Bool := match a - b with
  | .ofNat _ => false
  | .negSucc _ => true
theorem ilt_eq (a b : Int) : ilt a b = decide (a < b) := by
  unfold ilt; split
  · next e => simp only [Int.ofNat_eq_natCast] at e; symm; simp; omega
  · next e => simp only [Int.negSucc_eq] at e; symm; simp; omega
def ieq (a b : Int) : Bool := match a - b with
  | .ofNat n => Nat.beq n 0
  | .negSucc _ => false
theorem ieq_eq (a b : Int) : ieq a b = (a == b) := by
  unfold ieq; split
  · next n e =>
    simp only [Int.ofNat_eq_natCast] at e
    have : Nat.beq n 0 = decide (n = 0) := by cases n <;> simp [Nat.beq]
    rw [this, Bool.eq_iff_iff]; simp; omega
  · next e => simp only [Int.negSucc_eq] at e; symm; simp; omega

/-- The greatest number of bits that are surely a sign's and more: bits below it are a number's own. -/
def half (k : IntKind) : Nat := match k with
  | .i8 | .u8 => 128
  | .i16 | .u16 => 32768
  | .i32 | .u32 => 2147483648
  | .i64 | .u64 => 9223372036854775808

theorem half_eq (k : IntKind) : half k = 2 ^ (k.bits - 1) := by cases k <;> rfl

theorem wrap_half {k : IntKind} {n : Nat} (h : n < half k) : k.wrap (n : Int) = n := by
  cases k <;> simp only [half] at h
  · exact IntWalk.i8_in _ (by omega)
  · exact IntWalk.i16_in _ (by omega)
  · exact IntWalk.i32_in _ (by omega)
  · exact IntWalk.i64_in _ (by omega)
  · exact IntWalk.u8_in _ (by omega)
  · exact IntWalk.u16_in _ (by omega)
  · exact IntWalk.u32_in _ (by omega)
  · exact IntWalk.u64_in _ (by omega)

theorem bv_of_half {k : IntKind} {n : Nat} (h : n < half k) : (BitVec.ofInt k.bits (n : Int)).toNat = n := by
  rw [BitVec.toNat_ofInt]
  have h1 : n < 2 ^ k.bits := by
    rw [half_eq] at h
    exact Nat.lt_of_lt_of_le h (Nat.pow_le_pow_right (by omega) (by omega))
  have : ((n : Int) % ((2 ^ k.bits : Nat) : Int)) = n := Int.emod_eq_of_lt (by omega) (by omega)
  omega

/-- Two numbers that a shift has not made negative. -/
def ibit (f : Nat → Nat → Nat) (k : IntKind) (a b : Int) : Option AV := match a, b with
  | .ofNat x, .ofNat y => match Nat.blt x (half k), Nat.blt y (half k) with
    | true, true => some (.i k (.ofNat (f x y)))
    | _, _ => none
  | _, _ => none

theorem ibit_some {f : Nat → Nat → Nat} {k : IntKind} {a b : Int} {v : AV} (h : ibit f k a b = some v) : ∃ x y : Nat, a = x ∧ b = y ∧ x < half k ∧ y < half k ∧ v = .i k (f x y) := by
  unfold ibit at h
  split at h
  · next x y =>
    split at h
    · next h1 h2 => cases h; exact ⟨x, y, rfl, rfl, Nat.le_of_ble_eq_true h1, Nat.le_of_ble_eq_true h2, rfl⟩
    · cases h
  · cases h

def ibin (op : BinOp) (k : IntKind) (a b : Int) : Option AV :=
  match op with
  | .add => rg k (a + b)
  | .sub => rg k (a - b)
  | .mul => rg k (a * b)
  | .quo => match ieq b 0 with
    | true => none
    | false => rg k (a.tdiv b)
  | .rem => match ieq b 0 with
    | true => none
    | false => some (.i k (a.tmod b))
  | .and => ibit Nat.land k a b
  | .or => ibit Nat.lor k a b
  | .xor => ibit Nat.xor k a b
  | .eql => some (.b (ieq a b))
  | .neq => some (.b (!ieq a b))
  | .lss => some (.b (ilt a b))
  | .leq => some (.b (!ilt b a))
  | .gtr => some (.b (ilt b a))
  | .geq => some (.b (!ilt a b))
  | _ => none

def ishf (op : BinOp) (k : IntKind) (a b : Int) : Option AV := match ilt b 0 with
  | true => none
  | false => match op with
    | .shl => rg k (a * 2 ^ (min b.toNat k.bits))
    | .shr => some (.i k (a.fdiv (2 ^ (min b.toNat k.bits))))
    | _ => none

theorem ibin_sound {β : K → Option BI} {P : Program} {op : BinOp} {k : IntKind} {a b : Int} {v : AV} (h : ibin op k a b = some v) (t : TypeId) (w : World) :
    ∃ u, (binOp op t (.int k a) (.int k b)).run P w = .ok u w ∧ VR β v u := by
  cases op <;> simp only [ibin] at h
  case add => obtain ⟨rfl, e⟩ := rg_some h; exact ⟨_, by simp [binOp, Op.intArith, e]; rfl, by simp [VR]⟩
  case sub => obtain ⟨rfl, e⟩ := rg_some h; exact ⟨_, by simp [binOp, Op.intArith, e]; rfl, by simp [VR]⟩
  case mul => obtain ⟨rfl, e⟩ := rg_some h; exact ⟨_, by simp [binOp, Op.intArith, e]; rfl, by simp [VR]⟩
  case quo =>
    split at h
    · cases h
    · next e0 =>
      rw [ieq_eq] at e0; simp at e0
      obtain ⟨rfl, e⟩ := rg_some h; exact ⟨_, by simp [binOp, Op.intDiv, e0, e]; rfl, by simp [VR]⟩
  case rem =>
    split at h
    · cases h
    · next e0 =>
      rw [ieq_eq] at e0; simp at e0
      cases h; exact ⟨_, by simp [binOp, Op.intDiv, e0]; rfl, by simp [VR]⟩
  case and =>
    obtain ⟨x, y, rfl, rfl, hx, hy, rfl⟩ := ibit_some h
    refine ⟨.int k ((Nat.land x y : Nat) : Int), ?_, by simp [VR]⟩
    have h1 : ((BitVec.ofInt k.bits (x : Int)) &&& (BitVec.ofInt k.bits (y : Int))).toNat = Nat.land x y := by
      rw [BitVec.toNat_and, bv_of_half hx, bv_of_half hy]; rfl
    have h2 : Nat.land x y < half k := by rw [half_eq] at *; exact Nat.and_lt_two_pow x hy
    simp only [binOp, ne_eq, not_true_eq_false, if_false, Op.intBits, Sem.run_pure, h1, wrap_half h2]
  case or =>
    obtain ⟨x, y, rfl, rfl, hx, hy, rfl⟩ := ibit_some h
    refine ⟨.int k ((Nat.lor x y : Nat) : Int), ?_, by simp [VR]⟩
    have h1 : ((BitVec.ofInt k.bits (x : Int)) ||| (BitVec.ofInt k.bits (y : Int))).toNat = Nat.lor x y := by
      rw [BitVec.toNat_or, bv_of_half hx, bv_of_half hy]; rfl
    have h2 : Nat.lor x y < half k := by rw [half_eq] at *; exact Nat.or_lt_two_pow hx hy
    simp only [binOp, ne_eq, not_true_eq_false, if_false, Op.intBits, Sem.run_pure, h1, wrap_half h2]
  case xor =>
    obtain ⟨x, y, rfl, rfl, hx, hy, rfl⟩ := ibit_some h
    refine ⟨.int k ((Nat.xor x y : Nat) : Int), ?_, by simp [VR]⟩
    have h1 : ((BitVec.ofInt k.bits (x : Int)) ^^^ (BitVec.ofInt k.bits (y : Int))).toNat = Nat.xor x y := by
      rw [BitVec.toNat_xor, bv_of_half hx, bv_of_half hy]; rfl
    have h2 : Nat.xor x y < half k := by rw [half_eq] at *; exact Nat.xor_lt_two_pow hx hy
    simp only [binOp, ne_eq, not_true_eq_false, if_false, Op.intBits, Sem.run_pure, h1, wrap_half h2]
  case eql => cases h; exact ⟨_, by simp [binOp, Op.intCmp, ← ieq_eq]; rfl, by simp [VR]⟩
  case neq => cases h; exact ⟨_, by simp [binOp, Op.intCmp, bne, ← ieq_eq]; rfl, by simp [VR]⟩
  case lss => cases h; exact ⟨_, by simp [binOp, Op.intCmp, ← ilt_eq]; rfl, by simp [VR]⟩
  case leq => cases h; exact ⟨.bool (decide (a ≤ b)), by simp [binOp, Op.intCmp], by simp only [VR, ilt_eq]; congr 1; rw [Bool.eq_iff_iff]; simp⟩
  case gtr => cases h; exact ⟨.bool (decide (a > b)), by simp [binOp, Op.intCmp], by simp [VR, ilt_eq]⟩
  case geq => cases h; exact ⟨.bool (decide (a ≥ b)), by simp [binOp, Op.intCmp], by simp only [VR, ilt_eq]; congr 1; rw [Bool.eq_iff_iff]; simp⟩
  all_goals cases h

theorem ishf_sound {β : K → Option BI} {P : Program} {op : BinOp} {k j : IntKind} {a b : Int} {v : AV} (h : ishf op k a b = some v) (t : TypeId) (w : World) :
    ∃ u, (binOp op t (.int k a) (.int j b)).run P w = .ok u w ∧ VR β v u := by
  unfold ishf at h
  split at h
  · cases h
  · next e =>
    rw [ilt_eq] at e; simp at e
    have e' : ¬ b < 0 := by omega
    cases op <;> simp at h
    case shl => obtain ⟨rfl, e⟩ := rg_some h; exact ⟨_, by simp [binOp, Op.shift, e', e]; rfl, by simp [VR]⟩
    case shr => subst h; exact ⟨_, by simp [binOp, Op.shift, e']; rfl, by simp [VR]⟩

end Go.Ax
