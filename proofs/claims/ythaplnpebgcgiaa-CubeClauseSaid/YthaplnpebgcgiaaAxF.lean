/- AX, part F: the operations, on. -/
import Derived.Test.YthaplnpebgcgiaaAxE
namespace Go.Ax
open Go.RowKit (Below)

section
variable {P : Program} {B : Nat} {w0 : World} {β : K → Option BI} {h : T Blk} {w : World} {n : K} {lg : Log}

/-- A part of a value of cells. -/
def part (q : Option Nat) (l : List AV) (o : Nat) : Option AV := match q with
  | none => nth l o
  | some k => match sub l o k with
    | some r => some (.ag r)
    | none => none

theorem part_sound {t : TypeId} {q : Option Nat} {l : List AV} {C : Array Value} {o : Nat} {a : AV} (e : aggOf P t = some q) (g : VRs β l C.toList) (x : part q l o = some a) : ∃ u, (Go.part t C o).run P w = .ok u w ∧ VR β a u := by
  cases q with
  | none =>
    simp only [part, nth_eq] at x
    obtain ⟨v, h1, h2⟩ := g.cells_get o a x
    refine ⟨v, ?_, h2⟩
    simp only [Go.part, Sem.run_bind, isAgg_none e, Result.andThen_ok, Bool.false_eq_true, if_false, h1, Sem.run_pure]
  | some k =>
    simp only [part] at x
    split at x
    · next r hr =>
      cases x
      obtain ⟨e1, e2⟩ := isAgg_some e w
      obtain ⟨_, hlen, hle⟩ := sub_some hr
      refine ⟨.agg (C.extract o (o + k)), ?_, ?_⟩
      · simp only [Go.part, Sem.run_bind, e1, e2, Result.andThen_ok, if_true, Sem.run_pure]
      · simp only [VR]
        refine ⟨_, rfl, VRs.of_get _ _ ?_ fun j x hx => ?_⟩
        · have hl := g.length
          simp only [Array.length_toList] at hl
          simp only [Array.length_toList, Array.size_extract, hlen, hl]; omega
        · have hj : j < k := by
            rcases Nat.lt_or_ge j r.length with z | z
            · omega
            · rw [List.getElem?_eq_none z] at hx; cases hx
          rw [sub_get hr j hj] at hx
          obtain ⟨v, h1, h2⟩ := g.cells_get _ x hx
          refine ⟨v, ?_, h2⟩
          simp only [Array.getElem?_toList, Array.getElem?_extract]
          have : o + j < C.size := by
            rcases Nat.lt_or_ge (o + j) C.size with z | z
            · exact z
            · rw [Array.getElem?_eq_none z] at h1; cases h1
          rw [if_pos (by omega)]; exact h1
    · cases x

def exIa (esz : Nat) (arr : Option Nat) (x y : AV) : AM ARes := match natOf y with
  | some i => match arr with
    | none => match x with
      | .sl k o len c _ => match Nat.blt i len, Nat.blt i c with
        | true, true => .ret (.v (.p k (o + i * esz)))
        | _, _ => .fail
      | _ => .fail
    | some len => match x with
      | .p k o => match Nat.blt i len with
        | true => .ret (.v (.p k (o + i * esz)))
        | false => .fail
      | _ => .fail
  | none => .fail

def elOf (P : Program) (t : TypeId) : Option (TypeId × Option Nat) := match P.underlying t with
  | some (.slice e) => some (e, none)
  | some (.array k e) => some (e, some k)
  | _ => none

theorem ia_sound {t el esz : Nat} {arr : Option Nat} {x y : AV} {u v : Value} {r : R ARes} (he : elOf P t = some (el, arr)) (hs : szOf P el = some esz) (m : Sim B w0 β h w) (gx : VR β x u) (gy : VR β y v) (hx : (exIa esz arr x y).run h n lg = some r) :
    Good P B w0 β w (do pure (.value (← Instr.indexAt t u v))) r := by
  unfold exIa at hx
  split at hx
  · next i hi =>
    obtain ⟨ki, rfl⟩ := natOf_some hi gy
    unfold elOf at he
    split at he
    · next e hu =>
      simp only [Option.some.injEq, Prod.mk.injEq] at he
      obtain ⟨rfl, rfl⟩ := he
      simp only at hx
      split at hx
      · next k o len c ex =>
        split at hx
        · next h1 h2 =>
          have h1 : i < len := Nat.le_of_ble_eq_true h1
          have h2 : i < c := Nat.le_of_ble_eq_true h2
          rw [AM.run_ret] at hx; subst hx
          simp only [VR] at gx
          obtain ⟨I, o', c', hI, rfl, q1, q2, q3, q4⟩ := gx
          refine Good.val m (u := .pointer (some ⟨I.blk, o' + i * esz, none⟩)) ?_ (by simp only [VR]; exact ⟨I, hI, by rw [q3 (by omega), Nat.add_assoc]⟩)
          have hb : (0 : Int) ≤ (i : Int) ∧ (i : Int) < (len : Int) := by omega
          simp only [Instr.indexAt, asIntOf, Sem.run_bind, Sem.run_pure, Result.andThen_ok, run_underlying hu, if_pos hb, run_szOf hs, Int.toNat_natCast, addr_add]
        · simp [AM.run_fail] at hx
      · simp [AM.run_fail] at hx
    · next k0 e hu =>
      simp only [Option.some.injEq, Prod.mk.injEq] at he
      obtain ⟨rfl, rfl⟩ := he
      simp only at hx
      split at hx
      · next k o =>
        split at hx
        · next h1 =>
          have h1 : i < k0 := Nat.le_of_ble_eq_true h1
          rw [AM.run_ret] at hx; subst hx
          simp only [VR] at gx
          obtain ⟨I, hI, rfl⟩ := gx
          refine Good.val m (u := .pointer (some ⟨I.blk, I.off + o + i * esz, none⟩)) ?_ (by simp only [VR]; exact ⟨I, hI, by rw [Nat.add_assoc]⟩)
          have hb : (0 : Int) ≤ (i : Int) ∧ (i : Int) < (k0 : Int) := by omega
          simp only [Instr.indexAt, asIntOf, Sem.run_bind, Sem.run_pure, Result.andThen_ok, run_underlying hu, Instr.sureAddr, if_pos hb, run_szOf hs, Int.toNat_natCast, addr_add]
        · simp [AM.run_fail] at hx
      · simp [AM.run_fail] at hx
    · cases he
  · simp [AM.run_fail] at hx

def exFa (off : Nat) (x : AV) : AM ARes := match x with
  | .p k o => .ret (.v (.p k (o + off)))
  | _ => .fail

def fieldOf (P : Program) (t f : Nat) : Option Field := match P.underlying t with
  | some (.struct fs) => fs[f]?
  | _ => none

theorem fa_sound {s f q : Nat} {fd : Field} {x : AV} {u : Value} {r : R ARes} (he : fieldOf P s f = some fd) (hs : szOf P fd.type = some q) (hq : q ≠ 0) (m : Sim B w0 β h w) (gx : VR β x u) (hx : (exFa fd.offset x).run h n lg = some r) :
    Good P B w0 β w (do pure (.value (← Instr.fieldAt s u f))) r := by
  unfold fieldOf at he
  split at he
  · next fs hu =>
    unfold exFa at hx
    split at hx
    · next k o =>
      rw [AM.run_ret] at hx; subst hx
      simp only [VR] at gx
      obtain ⟨I, hI, rfl⟩ := gx
      refine Good.val m (u := .pointer (some ⟨I.blk, I.off + o + fd.offset, none⟩)) ?_ (by simp only [VR]; exact ⟨I, hI, by rw [Nat.add_assoc]⟩)
      simp only [Instr.fieldAt, Sem.run_bind, run_underlying hu, Result.andThen_ok, he, Instr.sureAddr, Sem.run_pure, fieldPlace, run_szOf hs, if_neg hq, addr_add]
    · simp [AM.run_fail] at hx
  · cases he

def exFld (off : Nat) (q : Option Nat) (x : AV) : AM ARes := match x with
  | .ag l => match part q l off with
    | some a => .ret (.v a)
    | none => .fail
  | _ => .fail

theorem fld_sound {s f : Nat} {q : Option Nat} {fd : Field} {x : AV} {u : Value} {r : R ARes} (he : fieldOf P s f = some fd) (hs : aggOf P fd.type = some q) (m : Sim B w0 β h w) (gx : VR β x u) (hx : (exFld fd.offset q x).run h n lg = some r) :
    Good P B w0 β w (do pure (.value (← Instr.field s u f))) r := by
  unfold fieldOf at he
  split at he
  · next fs hu =>
    unfold exFld at hx
    split at hx
    · next l =>
      split at hx
      · next a ha =>
        rw [AM.run_ret] at hx; subst hx
        simp only [VR] at gx
        obtain ⟨C, rfl, g⟩ := gx
        obtain ⟨v, h1, h2⟩ := part_sound (w := w) hs g ha
        refine Good.val m ?_ h2
        simp only [Instr.field, Sem.run_bind, run_underlying hu, Result.andThen_ok, he, asAgg, Sem.run_pure, h1]
      · simp [AM.run_fail] at hx
    · simp [AM.run_fail] at hx
  · cases he

def exIdx (len esz : Nat) (q : Option Nat) (x y : AV) : AM ARes := match x, natOf y with
  | .ag l, some i => match Nat.blt i len with
    | true => match part q l (i * esz) with
      | some a => .ret (.v a)
      | none => .fail
    | false => .fail
  | _, _ => .fail

theorem idx_sound {t el len esz : Nat} {q : Option Nat} {x y : AV} {u v : Value} {r : R ARes} (he : elOf P t = some (el, some len)) (hs : szOf P el = some esz) (hq : aggOf P el = some q) (m : Sim B w0 β h w) (gx : VR β x u) (gy : VR β y v) (hx : (exIdx len esz q x y).run h n lg = some r) :
    Good P B w0 β w (do pure (.value (← Instr.index t u v))) r := by
  unfold exIdx at hx
  split at hx
  · next l i hi =>
    obtain ⟨ki, rfl⟩ := natOf_some hi gy
    unfold elOf at he
    split at he
    · simp at he
    · next k0 e hu =>
      simp only [Option.some.injEq, Prod.mk.injEq] at he
      obtain ⟨rfl, rfl⟩ := he
      split at hx
      · next h1 =>
        have h1 : i < k0 := Nat.le_of_ble_eq_true h1
        split at hx
        · next a ha =>
          rw [AM.run_ret] at hx; subst hx
          simp only [VR] at gx
          obtain ⟨C, rfl, g⟩ := gx
          obtain ⟨v, h2, h3⟩ := part_sound (w := w) hq g ha
          refine Good.val m ?_ h3
          have hb : (0 : Int) ≤ (i : Int) ∧ (i : Int) < (k0 : Int) := by omega
          simp only [Instr.index, asIntOf, Sem.run_bind, Sem.run_pure, Result.andThen_ok, run_underlying hu, if_pos hb, run_szOf hs, Int.toNat_natCast, h2]
        · simp [AM.run_fail] at hx
      · simp [AM.run_fail] at hx
    · cases he
  · simp [AM.run_fail] at hx

def exNilc (x : AV) : AM ARes := match x with
  | .p k o => .ret (.v (.p k o))
  | .f f a c => .ret (.v (.f f a c))
  | _ => .fail

def exExt (i : Nat) (x : AV) : AM ARes := match x with
  | .tu l => match nth l i with
    | some a => .ret (.v a)
    | none => .fail
  | _ => .fail

theorem ext_sound {i : Nat} {x : AV} {u : Value} {r : R ARes} (m : Sim B w0 β h w) (gx : VR β x u) (hx : (exExt i x).run h n lg = some r) :
    Good P B w0 β w (do pure (.value (← Instr.extract u i))) r := by
  unfold exExt at hx
  split at hx
  · next l =>
    split at hx
    · next a ha =>
      rw [nth_eq] at ha
      rw [AM.run_ret] at hx; subst hx
      simp only [VR] at gx
      obtain ⟨C, rfl, g⟩ := gx
      obtain ⟨v, h1, h2⟩ := g.cells_get i a ha
      refine Good.val m ?_ h2
      simp only [Instr.extract, h1, Sem.run_bind, Sem.run_pure, Result.andThen_ok]
    · simp [AM.run_fail] at hx
  · simp [AM.run_fail] at hx

/-- What 'len' is asked of: 0: a slice, 1: a map, 2: a string. -/
def exLen (ty : Nat) (x : AV) : AM ARes := match ty with
  | 0 => match x with
    | .sl _ _ len _ _ => .ret (.v (.i .i64 len))
    | .nils => .ret (.v (.i .i64 0))
    | _ => .fail
  | 1 => match x with
    | .m k => .get k fun y => match y with
      | .map es => .ret (.v (.i .i64 es.length))
      | _ => .fail
    | .nilm => .ret (.v (.i .i64 0))
    | _ => .fail
  | _ => match x with
    | .str s => .ret (.v (.i .i64 s.size))
    | _ => .fail

def lenTy (P : Program) (t : TypeId) : Option Nat := match P.underlying t with
  | some (.slice _) => some 0
  | some (.map _ _) => some 1
  | some .string => some 2
  | _ => none

theorem len_sound {t ty : Nat} {rt : TypeId} {x : AV} {u : Value} {r : R ARes} (he : lenTy P t = some ty) (m : Sim B w0 β h w) (gx : VR β x u) (hx : (exLen ty x).run h n lg = some r) :
    Good P B w0 β w (do pure (.value (← Builtin.len_ #[t] rt #[u]))) r := by
  unfold lenTy at he
  split at he
  · next e hu =>
    cases he
    simp only [exLen] at hx
    split at hx
    · rw [AM.run_ret] at hx; subst hx
      simp only [VR] at gx
      obtain ⟨I, o', c', hI, rfl, _⟩ := gx
      refine Good.val m (u := goInt _) ?_ (by simp only [VR]; rfl)
      simp [Builtin.len_, run_underlying hu]
    · rw [AM.run_ret] at hx; subst hx
      simp only [VR] at gx; subst gx
      refine Good.val m (u := goInt _) ?_ (by simp only [VR]; rfl)
      simp [Builtin.len_, run_underlying hu]
    · simp [AM.run_fail] at hx
  · next e hu =>
    cases he
    simp only [exLen] at hx
    split at hx
    · next k =>
      rw [AM.run_get] at hx
      obtain ⟨y, hy, hlv, hx⟩ := hx
      simp only [VR] at gx
      obtain ⟨I, hI, rfl⟩ := gx
      obtain ⟨I', hI', hb⟩ := m.lies k y hy hlv
      rw [hI] at hI'; cases hI'
      split at hx
      · rw [AM.run_ret] at hx; subst hx
        obtain ⟨E, clock, h1, h2, h3⟩ := hb
        refine Good.val m (u := goInt _) ?_ (by simp only [VR]; rw [← h2]; rfl)
        simp [Builtin.len_, run_underlying hu, getObj, Sem.run, h1]
      · simp [AM.run_fail] at hx
    · rw [AM.run_ret] at hx; subst hx
      simp only [VR] at gx; subst gx
      refine Good.val m (u := goInt _) ?_ (by simp only [VR]; rfl)
      simp [Builtin.len_, run_underlying hu]
    · simp [AM.run_fail] at hx
  · next hu =>
    cases he
    simp only [exLen] at hx
    split at hx
    · rw [AM.run_ret] at hx; subst hx
      simp only [VR] at gx; subst gx
      refine Good.val m (u := goInt _) ?_ (by simp only [VR]; rfl)
      simp [Builtin.len_, run_underlying hu]
    · simp [AM.run_fail] at hx
  · cases he

def mmf (mx : Bool) (k : IntKind) (x : Int) : List AV → Option Int
  | [] => some x
  | .i _ y :: l => mmf mx k (match mx with | true => (match ilt x y with | true => y | false => x) | false => (match ilt y x with | true => y | false => x)) l
  | _ :: _ => none

def exMm (mx : Bool) (l : List AV) : AM ARes := match l with
  | .i k x :: r => match mmf mx k x r with
    | some y => .ret (.v (.i k y))
    | none => .fail
  | _ => .fail

theorem mmf_sound {mx : Bool} {k : IntKind} : ∀ (l : List AV) (vs : List Value) (x y : Int), VRs β l vs → mmf mx k x l = some y → (vs.foldlM (match mx with | true => Builtin.max2 | false => Builtin.min2) (.int k x) : Sem Value).run P w = .ok (.int k y) w
  | [], vs, x, y, g, e => by
    simp only [VRs] at g; subst g
    simp only [mmf, Option.some.injEq] at e; subst e; rfl
  | a :: l, vs, x, y, g, e => by
    simp only [VRs] at g
    obtain ⟨v, vs, rfl, g1, g2⟩ := g
    cases a <;> simp only [mmf] at e
    case i j z =>
      simp only [VR] at g1; subst g1
      have ih := mmf_sound l vs _ y g2 e
      simp only [List.foldlM_cons, Sem.run_bind]
      cases mx with
      | true =>
        simp only [Builtin.max2, Sem.run_pure, Result.andThen_ok]
        rw [show (if z > x then z else x) = (match true with | true => (match ilt x z with | true => z | false => x) | false => (match ilt z x with | true => z | false => x)) by
          simp only [ilt_eq]; by_cases q : x < z <;> simp [q]]
        exact ih
      | false =>
        simp only [Builtin.min2, Sem.run_pure, Result.andThen_ok]
        rw [show (if z < x then z else x) = (match false with | true => (match ilt x z with | true => z | false => x) | false => (match ilt z x with | true => z | false => x)) by
          simp only [ilt_eq]; by_cases q : z < x <;> simp [q]]
        exact ih
    all_goals cases e

theorem mm_sound {mx : Bool} {l : List AV} {us : Array Value} {at_ : Array TypeId} {rt : TypeId} {r : R ARes} (m : Sim B w0 β h w) (g : VRs β l us.toList) (hx : (exMm mx l).run h n lg = some r) :
    Good P B w0 β w (do pure (.value (← (match mx with | true => Builtin.max_ at_ rt us | false => Builtin.min_ at_ rt us)))) r := by
  unfold exMm at hx
  split at hx
  · next k x q =>
    split at hx
    · next y hy =>
      rw [AM.run_ret] at hx; subst hx
      simp only [VRs] at g
      obtain ⟨v, vs, e, g1, g2⟩ := g
      simp only [VR] at g1; subst g1
      have := mmf_sound (P := P) (w := w) q vs x y g2 hy
      refine Good.val m (u := .int k y) ?_ (by simp [VR])
      cases mx with
      | true => simp only [Builtin.max_, e, Sem.run_bind, this, Result.andThen_ok, Sem.run_pure]
      | false => simp only [Builtin.min_, e, Sem.run_bind, this, Result.andThen_ok, Sem.run_pure]
    · simp [AM.run_fail] at hx
  · simp [AM.run_fail] at hx

def exUn (op : UnOp) (x : AV) : AM ARes := match op, x with
  | .neg, .i k a => match rg k (0 - a) with
    | some v => .ret (.v v)
    | none => .fail
  | .not, .b v => .ret (.v (.b (!v)))
  | _, _ => .fail

theorem un_sound {op : UnOp} {x : AV} {u : Value} {r : R ARes} (m : Sim B w0 β h w) (gx : VR β x u) (hx : (exUn op x).run h n lg = some r) :
    Good P B w0 β w (do pure (.value (← Op.unary op u))) r := by
  unfold exUn at hx
  split at hx
  · next k a =>
    split at hx
    · next v hv =>
      rw [AM.run_ret] at hx; subst hx
      simp only [VR] at gx; subst gx
      obtain ⟨rfl, e⟩ := rg_some hv
      refine Good.val m (u := .int k (0 - a)) ?_ (by simp only [VR])
      simp only [Op.unary, Op.intArith, Sem.run_bind, Sem.run_pure, Result.andThen_ok, e]
    · simp [AM.run_fail] at hx
  · next v =>
    rw [AM.run_ret] at hx; subst hx
    simp only [VR] at gx; subst gx
    refine Good.val m (u := .bool (!v)) ?_ (by simp only [VR])
    simp only [Op.unary, Sem.run_bind, Sem.run_pure, Result.andThen_ok]
  · simp [AM.run_fail] at hx

def exConv (k : IntKind) (x : AV) : AM ARes := match x with
  | .i _ a => match rg k a with
    | some v => .ret (.v v)
    | none => .fail
  | _ => .fail

theorem conv_sound {src dst : TypeId} {k : IntKind} {x : AV} {u : Value} {r : R ARes} (h1 : (P.underlying src).isSome = true) (h2 : P.underlying dst = some (.int k)) (m : Sim B w0 β h w) (gx : VR β x u) (hx : (exConv k x).run h n lg = some r) :
    Good P B w0 β w (do pure (.value (← convert src dst u))) r := by
  unfold exConv at hx
  split at hx
  · next j a =>
    split at hx
    · next v hv =>
      rw [AM.run_ret] at hx; subst hx
      simp only [VR] at gx; subst gx
      obtain ⟨rfl, e⟩ := rg_some hv
      refine Good.val m (u := .int k a) ?_ (by simp only [VR])
      obtain ⟨d, hd⟩ := Option.isSome_iff_exists.1 h1
      simp only [convert, Sem.run_bind, run_underlying hd, run_underlying h2, Result.andThen_ok]
      cases d <;> simp only [Conv.intToInt, Sem.run_pure, Result.andThen_ok, e]
    · simp [AM.run_fail] at hx
  · simp [AM.run_fail] at hx

end
end Go.Ax
