/- AX, part I: one operation: what it does to abstract memory, and that the model's does so too. -/
import Derived.Test.YthaplnpebgcgiaaAxH
namespace Go.Ax
open Go.RowKit (Below)

/-- Tests of equality with nil, and of bools. ty: 0 integers, 1 bools, 2 pointers, 3 slices. -/
def exBin (op : BinOp) (ty : Nat) (x y : AV) : AM ARes := match ty with
  | 0 => match x with
    | .i k a => match y with
      | .i j b => match decide (op = .shl), decide (op = .shr) with
        | false, false => match decide (k = j) with
          | true => match ibin op k a b with
            | some v => .ret (.v v)
            | none => .fail
          | false => .fail
        | _, _ => match ishf op k a b with
          | some v => .ret (.v v)
          | none => .fail
      | _ => .fail
    | _ => .fail
  | 1 => match x with
    | .b p => match y with
      | .b q => match op with
        | .eql => .ret (.v (.b (p == q)))
        | .neq => .ret (.v (.b (!(p == q))))
        | _ => .fail
      | _ => .fail
    | _ => .fail
  | 2 => match op with
    | .eql => match x, y with
      | .p _ _, .nilp => .ret (.v (.b false))
      | .nilp, .nilp => .ret (.v (.b true))
      | _, _ => .fail
    | .neq => match x, y with
      | .p _ _, .nilp => .ret (.v (.b true))
      | .nilp, .nilp => .ret (.v (.b false))
      | _, _ => .fail
    | _ => .fail
  | _ => match op with
    | .eql => match x, y with
      | .sl _ _ _ _ _, .nils => .ret (.v (.b false))
      | .nils, .nils => .ret (.v (.b true))
      | _, _ => .fail
    | .neq => match x, y with
      | .sl _ _ _ _ _, .nils => .ret (.v (.b true))
      | .nils, .nils => .ret (.v (.b false))
      | _, _ => .fail
    | _ => .fail

def binTy (P : Program) (t : TypeId) : Option Nat := match P.underlying t with
  | some (.int _) => some 0
  | some .bool => some 1
  | some (.pointer _) => some 2
  | some (.slice _) => some 3
  | _ => none

def exCall (f : AV) (xs : List AV) : AM ARes := match f with
  | .f g a c => .ret (.call g (a ++ xs ++ c))
  | _ => .fail

/-- A table's entry: a constant string's byte. -/
def exStab (l : List Nat) (y : AV) : AM ARes := match natOf y with
  | some i => match nth l i with
    | some v => .ret (.v (.i .u8 v))
    | none => .fail
  | none => .fail

def tabEq : List UInt8 → List Nat → Bool
  | [], [] => true
  | x :: xs, y :: ys => Nat.beq x.toNat y && tabEq xs ys
  | _, _ => false

theorem tabEq_get : ∀ {xs : List UInt8} {ys : List Nat}, tabEq xs ys = true → ∀ (i v : Nat), ys[i]? = some v → ∃ b, xs[i]? = some b ∧ b.toNat = v
  | [], [], _, i, v, h => by simp at h
  | x :: xs, y :: ys, e, i, v, h => by
    simp only [tabEq, Bool.and_eq_true] at e
    cases i with
    | zero => simp at h; subst h; exact ⟨x, by simp, Nat.eq_of_beq_eq_true e.1⟩
    | succ i => simp at h; obtain ⟨b, h1, h2⟩ := tabEq_get e.2 i v h; exact ⟨b, by simpa using h1, h2⟩
  | [], _ :: _, e, _, _, _ => by simp [tabEq] at e
  | _ :: _, [], e, _, _, _ => by simp [tabEq] at e

def isStr (P : Program) (t : TypeId) : Bool := match P.underlying t with
  | some .string => true
  | _ => false

def evo (tm : T AV) : Option AO → Option AV
  | none => none
  | some x => some (ev tm x)

def AI.ex (tm : T AV) : AI → AM ARes
  | .mv x => .ret (.v (ev tm x))
  | .pick c x y => match ev tm c with
    | .b true => .ret (.v (ev tm x))
    | .b false => .ret (.v (ev tm y))
    | _ => .fail
  | .new el z => exNew el z
  | .box el x => exBox el (ev tm x)
  | .build z ps => exBuild tm z ps
  | .bsl el esz ln z ps => exBsl tm el esz ln z ps
  | .load n x => exLoad n (ev tm x)
  | .store n x y => exStore n (ev tm x) (ev tm y)
  | .nilc x => exNilc (ev tm x)
  | .bin op ty x y => exBin op ty (ev tm x) (ev tm y)
  | .un op x => exUn op (ev tm x)
  | .conv k x => exConv k (ev tm x)
  | .mkf f xs ys => .ret (.v (.f f (evs tm xs) (evs tm ys)))
  | .mkm => exMkm
  | .mks el esz z x y => exMks el esz z (ev tm x) (ev tm y)
  | .slice esz x lo hi mx => exSlice esz (ev tm x) (evo tm lo) (evo tm hi) (evo tm mx)
  | .fa off x => exFa off (ev tm x)
  | .fld off n x => exFld off n (ev tm x)
  | .ia esz arr x y => exIa esz arr (ev tm x) (ev tm y)
  | .idx ln esz n x y => exIdx ln esz n (ev tm x) (ev tm y)
  | .stab l y => exStab l (ev tm y)
  | .look z ok x y => exLook z ok (ev tm x) (ev tm y)
  | .mup x y z => exMup (ev tm x) (ev tm y) (ev tm z)
  | .ext n x => exExt n (ev tm x)
  | .len ty x => exLen ty (ev tm x)
  | .mm mx xs => exMm mx (evs tm xs)
  | .app el esz x y => exApp el esz (ev tm x) (ev tm y)
  | .appz el esz z x y => exAppz el esz z (ev tm x) (ev tm y)
  | .copy esz x y => exCopy esz (ev tm x) (ev tm y)
  | .clear esz z x => exClear esz z (ev tm x)
  | .call f xs => exCall (ev tm f) (evs tm xs)

def chkOO : Option Operand → Option AO → Bool
  | none, none => true
  | some x, some y => chkO x y
  | _, _ => false

def slOf (P : Program) (t : TypeId) : Option TypeId := match P.underlying t with
  | some (.slice e) => some e
  | _ => none
def isSl (P : Program) (t : TypeId) : Bool := match P.underlying t with
  | some (.slice _) => true
  | _ => false
def isInt (P : Program) (t : TypeId) : Bool := match P.underlying t with
  | some (.int _) => true
  | _ => false
def mapOf (P : Program) (t : TypeId) : Option (TypeId × TypeId) := match P.underlying t with
  | some (.map k e) => some (k, e)
  | _ => none

def zchk (P : Program) (el : TypeId) (esz : Nat) (z : List AV) : Bool := match zOf P el with
  | some zv => zv.cells.size == esz && cvrs z zv.cells.toList
  | none => false

def bychk (P : Program) (el : TypeId) : Bool := match byOf P el with
  | some b => Nat.ble b 65536
  | none => false

def chkOp (P : Program) : Op → AI → Bool
  | .move x, .mv y => chkO x y
  | .assign x, .mv y => chkO x y
  | .pick c a b, .pick d x y => chkO c d && chkO a x && chkO b y
  | .alloc t, .new el z => t == el && (match zOf P t with | some zv => cvrs z zv.cells.toList | none => false)
  | .box t x, .box el y => t == el && chkO x y
  | .build t parts, .build z ps => (match zOf P t with | some zv => cvrs z zv.cells.toList | none => false) && (match placeOf P t with | some pl => chkParts pl parts.toList ps | none => false) && (match P.underlying t with | some (.struct fs) => chkAll P fs.toList | _ => true)
  | .buildSlice t len parts, .bsl el esz len' z ps => slOf P t == some el && szOf P el == some esz && len == len' && Nat.ble (len * esz) 16777216 && (match zOf P el with | some zv => cvrs z ((Array.range (len * esz)).map (fun i => zv.cells[i % zv.cells.size]!)).toList | none => false) && chkParts (fun i => some (i * esz, esz)) parts.toList ps
  | .load t x, .load n y => aggOf P t == some n && chkO x y
  | .store t x v, .store n y u => szOf P t == some n && chkO x y && chkO v u
  | .nilCheck x, .nilc y => chkO x y
  | .binOp op t x y _, .bin op' ty a b => decide (op = op') && binTy P t == some ty && chkO x a && chkO y b
  | .unOp op _ x, .un op' y => decide (op = op') && chkO x y
  | .convert s d x, .conv k y => (P.underlying s).isSome && (match P.underlying d with | some (.int k') => decide (k = k') | _ => false) && chkO x y
  | .makeFunc (.func f) a c, .mkf g xs ys => f == g && chkOs a.toList xs && chkOs c.toList ys
  | .makeMap _ none, .mkm => true
  | .makeSlice t x y, .mks el esz z a b => slOf P t == some el && szOf P el == some esz && bychk P el && zchk P el esz z && chkO x a && chkO y b
  | .slice t x lo hi mx, .slice esz y lo' hi' mx' => (match slOf P t with | some el => szOf P el == some esz | none => false) && chkO x y && chkOO lo lo' && chkOO hi hi' && chkOO mx mx'
  | .fieldAddr s x f, .fa off y => (match fieldOf P s f with | some fd => fd.offset == off && (match szOf P fd.type with | some q => q != 0 | none => false) | none => false) && chkO x y
  | .field s x f, .fld off n y => (match fieldOf P s f with | some fd => fd.offset == off && aggOf P fd.type == some n | none => false) && chkO x y
  | .indexAddr t x i, .ia esz arr y j => (match elOf P t with | some (el, a) => a == arr && szOf P el == some esz | none => false) && chkO x y && chkO i j
  | .index t x i, .idx len esz n y j => (match elOf P t with | some (el, a) => a == some len && szOf P el == some esz && aggOf P el == some n | none => false) && chkO x y && chkO i j
  | .index t (.const (.string s)) i, .stab l j => isStr P t && tabEq s.data.toList l && chkO i j
  | .lookup t x i ok, .look z ok' y j => (match mapOf P t with | some (kt, et) => isInt P kt && (match zOf P et with | some zv => cvr z zv | none => false) | none => false) && ok == ok' && chkO x y && chkO i j
  | .mapUpdate t m k v, .mup x y z => (match mapOf P t with | some (kt, _) => isInt P kt | none => false) && chkO m x && chkO k y && chkO v z
  | .insert t m k v, .mup x y z => (match mapOf P t with | some (kt, _) => isInt P kt | none => false) && chkO m x && chkO k y && chkO v z
  | .extract x i, .ext n y => i == n && chkO x y
  | .call ⟨.builtin .len, args, ats⟩, .len ty x => (match ats.toList with | [t] => lenTy P t == some ty | _ => false) && chkOs args.toList [x]
  | .call ⟨.builtin .max, args, _⟩, .mm true xs => chkOs args.toList xs
  | .call ⟨.builtin .min, args, _⟩, .mm false xs => chkOs args.toList xs
  | .call ⟨.builtin .append, args, ats⟩, .app el esz x y => (match ats.toList with | [t, u] => slOf P t == some el && isSl P u | _ => false) && szOf P el == some esz && bychk P el && (match zOf P el with | some zv => zv.cells.size == esz | none => false) && chkOs args.toList [x, y]
  | .call ⟨.builtin .append, args, ats⟩, .appz el esz z x y => (match ats.toList with | [t, u] => slOf P t == some el && isInt P u | _ => false) && szOf P el == some esz && bychk P el && esz != 0 && zchk P el esz z && chkOs args.toList [x, y]
  | .call ⟨.builtin .copy, args, ats⟩, .copy esz x y => (match ats.toList with | [t, _] => (match slOf P t with | some el => szOf P el == some esz | none => false) | _ => false) && chkOs args.toList [x, y]
  | .call ⟨.builtin .clear, args, ats⟩, .clear esz z x => (match ats.toList with | [t] => (match slOf P t with | some el => zchk P el esz z | none => false) | _ => false) && chkOs args.toList [x]
  | .call ⟨.value f, args, _⟩, .call g xs => chkO f g && chkOs args.toList xs
  | _, _ => false

section
variable {P : Program} {B : Nat} {w0 : World} {β : K → Option BI} {h : T Blk} {w : World} {n : K} {lg : Log}

theorem eqGuard_run {op : BinOp} {t : TypeId} {x y : Operand} {a b : Value} (h1 : a ≠ .nilIface) (h2 : ∀ c, a ≠ .agg c) : (eqGuard op t x y a b).run P w = .ok () w := by
  unfold eqGuard
  cases a <;> first | (exact absurd rfl h1) | (exact absurd rfl (h2 _)) | (cases op <;> rfl)

theorem equalIn_ptr {t e : TypeId} (hp : P.underlying t = some (.pointer e)) (d : Nat) (a : Option Addr) : (Op.equalIn (d + 1) t (.pointer a) (.pointer none)).run P w = .ok a.isNone w := by
  cases a <;> simp [Op.equalIn, run_underlying hp]
theorem equalIn_sl {t e : TypeId} (hp : P.underlying t = some (.slice e)) (d : Nat) (a : Option Addr) (p q : Nat) : (Op.equalIn (d + 1) t (.slice a p q) (.slice none 0 0)).run P w = .ok a.isNone w := by
  cases a <;> simp [Op.equalIn, run_underlying hp]

theorem bin_sound {op : BinOp} {t : TypeId} {ty : Nat} {xo yo : Operand} {x y : AV} {u v : Value} {r : R ARes} (ht : binTy P t = some ty) (m : Sim B w0 β h w) (gx : VR β x u) (gy : VR β y v) (hx : (exBin op ty x y).run h n lg = some r) :
    Good P B w0 β w (do pure (.value (← do eqGuard op t xo yo u v; binOp op t u v))) r := by
  have fin : ∀ {a : AV} {z : Value}, u ≠ .nilIface → (∀ c, u ≠ .agg c) → (binOp op t u v).run P w = .ok z w → VR β a z → r = ⟨.v a, h, n, lg⟩ → Good P B w0 β w (do pure (.value (← do eqGuard op t xo yo u v; binOp op t u v))) r := by
    intro a z h1 h2 h3 h4 h5
    subst h5
    refine Good.val m ?_ h4
    simp only [Sem.run_bind, eqGuard_run h1 h2, Result.andThen_ok, h3, Sem.run_pure]
  unfold exBin at hx
  unfold binTy at ht
  split at hx
  · split at hx
    · next k a =>
      simp only [VR] at gx; subst gx
      split at hx
      · next j b =>
        simp only [VR] at gy; subst gy
        split at hx
        · split at hx
          · next hkj =>
            have hkj := of_decide_eq_true hkj
            subst hkj
            split at hx
            · next z hz =>
              obtain ⟨uu, e1, e2⟩ := ibin_sound (β := β) (P := P) hz t w
              exact fin (fun x => by cases x) (fun c x => by cases x) e1 e2 (AM.run_ret.1 hx)
            · simp [AM.run_fail] at hx
          · simp [AM.run_fail] at hx
        · split at hx
          · next z hz =>
            obtain ⟨uu, e1, e2⟩ := ishf_sound (β := β) (P := P) (j := j) hz t w
            exact fin (fun x => by cases x) (fun c x => by cases x) e1 e2 (AM.run_ret.1 hx)
          · simp [AM.run_fail] at hx
      · simp [AM.run_fail] at hx
    · simp [AM.run_fail] at hx
  · have hb : P.underlying t = some .bool := by
      split at ht <;> first | (simp at ht; done) | assumption
    split at hx
    · next p =>
      simp only [VR] at gx; subst gx
      split at hx
      · next q =>
        simp only [VR] at gy; subst gy
        split at hx
        · exact fin (z := .bool (p == q)) (fun x => by cases x) (fun c x => by cases x) (run_eql_bool w t p q hb) (by simp only [VR]) (AM.run_ret.1 hx)
        · exact fin (z := .bool (!(p == q))) (fun x => by cases x) (fun c x => by cases x) (run_neq_bool w t p q hb) (by simp only [VR]) (AM.run_ret.1 hx)
        · simp [AM.run_fail] at hx
      · simp [AM.run_fail] at hx
    · simp [AM.run_fail] at hx
  · obtain ⟨e, hp⟩ : ∃ e, P.underlying t = some (.pointer e) := by
      split at ht <;> first | (simp at ht; done) | exact ⟨_, by assumption⟩
    have heq : ∀ a : Option Addr, (Op.equal t (.pointer a) (.pointer none)).run P w = .ok a.isNone w := fun a => equalIn_ptr hp 9999 a
    split at hx
    · split at hx
      · simp only [VR] at gx gy; subst gy; obtain ⟨I, _, rfl⟩ := gx
        exact fin (z := .bool false) (fun x => by cases x) (fun c x => by cases x) (by simp [binOp, heq]) (by simp only [VR]) (AM.run_ret.1 hx)
      · simp only [VR] at gx gy; subst gy; subst gx
        exact fin (z := .bool true) (fun x => by cases x) (fun c x => by cases x) (by simp [binOp, heq]) (by simp only [VR]) (AM.run_ret.1 hx)
      · simp [AM.run_fail] at hx
    · split at hx
      · simp only [VR] at gx gy; subst gy; obtain ⟨I, _, rfl⟩ := gx
        exact fin (z := .bool true) (fun x => by cases x) (fun c x => by cases x) (by simp [binOp, heq]) (by simp only [VR]) (AM.run_ret.1 hx)
      · simp only [VR] at gx gy; subst gy; subst gx
        exact fin (z := .bool false) (fun x => by cases x) (fun c x => by cases x) (by simp [binOp, heq]) (by simp only [VR]) (AM.run_ret.1 hx)
      · simp [AM.run_fail] at hx
    · simp [AM.run_fail] at hx
  · next h0 h1 h2 =>
    obtain ⟨e, hp⟩ : ∃ e, P.underlying t = some (.slice e) := by
      split at ht <;> first | (cases ht; exact (h0 rfl).elim) | (cases ht; exact (h1 rfl).elim) | (cases ht; exact (h2 rfl).elim) | (cases ht; exact ⟨_, by assumption⟩) | (cases ht; done)
    have heq : ∀ (a : Option Addr) (p q : Nat), (Op.equal t (.slice a p q) (.slice none 0 0)).run P w = .ok a.isNone w := fun a p q => equalIn_sl hp 9999 a p q
    split at hx
    · split at hx
      · simp only [VR] at gx gy; subst gy; obtain ⟨I, o', c', _, rfl, _⟩ := gx
        exact fin (z := .bool false) (fun x => by cases x) (fun c x => by cases x) (by simp [binOp, heq]) (by simp only [VR]) (AM.run_ret.1 hx)
      · simp only [VR] at gx gy; subst gy; subst gx
        exact fin (z := .bool true) (fun x => by cases x) (fun c x => by cases x) (by simp [binOp, heq]) (by simp only [VR]) (AM.run_ret.1 hx)
      · simp [AM.run_fail] at hx
    · split at hx
      · simp only [VR] at gx gy; subst gy; obtain ⟨I, o', c', _, rfl, _⟩ := gx
        exact fin (z := .bool true) (fun x => by cases x) (fun c x => by cases x) (by simp [binOp, heq]) (by simp only [VR]) (AM.run_ret.1 hx)
      · simp only [VR] at gx gy; subst gy; subst gx
        exact fin (z := .bool false) (fun x => by cases x) (fun c x => by cases x) (by simp [binOp, heq]) (by simp only [VR]) (AM.run_ret.1 hx)
      · simp [AM.run_fail] at hx
    · simp [AM.run_fail] at hx

theorem Good.congr {s s' : Sem Next} {r : R ARes} (e : s'.run P w = s.run P w) (g : Good P B w0 β w s r) : Good P B w0 β w s' r := by
  obtain ⟨w', β', h1, h2, h3⟩ := g
  refine ⟨w', β', h1, h2, ?_⟩
  rw [e]; exact h3

theorem slOf_some {t e : TypeId} (h : slOf P t = some e) : P.underlying t = some (.slice e) := by
  unfold slOf at h; split at h <;> simp_all
theorem isSl_some {t : TypeId} (h : isSl P t = true) : ∃ e, P.underlying t = some (.slice e) := by
  unfold isSl at h; split at h <;> simp_all
theorem isInt_some {t : TypeId} (h : isInt P t = true) : ∃ k, P.underlying t = some (.int k) := by
  unfold isInt at h; split at h <;> simp_all
theorem mapOf_some {t k e : TypeId} (h : mapOf P t = some (k, e)) : P.underlying t = some (.map k e) := by
  unfold mapOf at h; split at h <;> simp_all
theorem zchk_some {el esz : Nat} {z : List AV} (h : zchk P el esz z = true) : ∃ zv, zOf P el = some zv ∧ zv.cells.size = esz ∧ cvrs z zv.cells.toList = true := by
  unfold zchk at h; split at h
  · next zv hz => simp at h; exact ⟨zv, hz, h.1, h.2⟩
  · cases h
theorem bychk_some {el : Nat} (h : bychk P el = true) : ∃ b, byOf P el = some b ∧ Nat.ble b 65536 = true := by
  unfold bychk at h; split at h
  · next b hb => exact ⟨b, hb, h⟩
  · cases h

theorem evo_sound {tm : T AV} {a : Act} (g : TR β tm a.tmps) {x : Option Operand} {o : Option AO} (h : chkOO x o = true) : OR β (evo tm o) (x.map a.eval) := by
  cases x <;> cases o <;> simp only [chkOO] at h
  · trivial
  · cases h
  · cases h
  · exact ev_sound g h

theorem one_arg {args : Array Operand} {x : AO} {tm : T AV} {a : Act} (g : TR β tm a.tmps) (h : chkOs args.toList [x] = true) : ∃ u, args.map a.eval = #[u] ∧ VR β (ev tm x) u := by
  have := evs_sound g h
  simp only [evs, VRs] at this
  obtain ⟨v, vs, e, r1, r2⟩ := this
  subst r2
  exact ⟨v, by apply Array.ext'; simpa using e, r1⟩

theorem two_args {args : Array Operand} {x y : AO} {tm : T AV} {a : Act} (g : TR β tm a.tmps) (h : chkOs args.toList [x, y] = true) : ∃ u v, args.map a.eval = #[u, v] ∧ VR β (ev tm x) u ∧ VR β (ev tm y) v := by
  have := evs_sound g h
  simp only [evs, VRs] at this
  obtain ⟨v, vs, e, r1, v2, vs2, e2, r2, r3⟩ := this
  subst r3 e2
  exact ⟨v, v2, by apply Array.ext'; simpa using e, r1, r2⟩

theorem isStr_some {t : TypeId} (h : isStr P t = true) : P.underlying t = some .string := by
  unfold isStr at h; split at h <;> simp_all

theorem stab_sound {t : TypeId} {s : ByteArray} {l : List Nat} {y : AV} {v : Value} {r : R ARes} (ht : isStr P t = true) (c : tabEq s.data.toList l = true) (m : Sim B w0 β h w) (gy : VR β y v) (hx : (exStab l y).run h n lg = some r) :
    Good P B w0 β w (do pure (.value (← Instr.index t (.string s) v))) r := by
  have hu := isStr_some ht
  unfold exStab at hx
  split at hx
  · next i hi =>
    obtain ⟨ki, rfl⟩ := natOf_some hi gy
    split at hx
    · next q hq =>
      rw [AM.run_ret] at hx; subst hx
      rw [nth_eq] at hq
      obtain ⟨b, h1, h2⟩ := tabEq_get c i q hq
      have hb : (0 : Int) ≤ (i : Int) := by omega
      have hs : s[i]? = some b := by
        have hlt : i < s.data.size := by
          rcases Nat.lt_or_ge i s.data.toList.length with z | z
          · simpa using z
          · rw [List.getElem?_eq_none z] at h1; cases h1
        have hg : s.data[i]? = some b := by simpa using h1
        rw [Array.getElem?_eq_getElem hlt] at hg
        have : i < s.size := hlt
        rw [getElem?_pos s i this]
        exact hg
      refine Good.val m (u := .int .u8 b.toNat) ?_ (by simp only [VR]; rw [h2])
      simp only [Instr.index, asIntOf, Sem.run_bind, Sem.run_pure, Result.andThen_ok, run_underlying hu, if_pos hb, Int.toNat_natCast, hs]
    · simp [AM.run_fail] at hx
  · simp [AM.run_fail] at hx

theorem op_sound {o : Oper} {ai : AI} (c : chkOp P o.op ai = true) {tm : T AV} {a : Act} {r : R ARes} (m : Sim B w0 β h w) (g : TR β tm a.tmps) (hx : (ai.ex tm).run h n lg = some r) : Good P B w0 β w (execOp a.eval o) r := by
  unfold execOp
  unfold chkOp at c
  split at c <;> simp only [AI.ex] at hx
  -- move, assign
  · next x y e => rw [e]; rw [AM.run_ret] at hx; subst hx; exact Good.val m (by rfl) (ev_sound g c)
  · next x y e => rw [e]; rw [AM.run_ret] at hx; subst hx; exact Good.val m (by rfl) (ev_sound g c)
  -- pick
  · next c0 a0 b0 d x y e =>
    rw [e]
    simp only [Bool.and_eq_true] at c
    have hc := ev_sound g c.1.1
    split at hx
    · next hd => rw [hd] at hc; simp only [VR] at hc; rw [AM.run_ret] at hx; subst hx; exact Good.val m (by simp [hc, asBool]) (ev_sound g c.1.2)
    · next hd => rw [hd] at hc; simp only [VR] at hc; rw [AM.run_ret] at hx; subst hx; exact Good.val m (by simp [hc, asBool]) (ev_sound g c.2)
    · simp [AM.run_fail] at hx
  -- alloc
  · next t el z e =>
    rw [e]
    simp only [Bool.and_eq_true, beq_iff_eq] at c
    obtain ⟨rfl, c⟩ := c
    split at c
    · next zv hz => exact alloc_sound hz c m hx
    · cases c
  -- box
  · next t x el y e =>
    rw [e]
    simp only [Bool.and_eq_true, beq_iff_eq] at c
    obtain ⟨rfl, c⟩ := c
    exact box_sound m (ev_sound g c) hx
  -- build
  · next t parts z ps e =>
    rw [e]
    simp only [Bool.and_eq_true] at c
    obtain ⟨⟨c1, c2⟩, c3⟩ := c
    split at c1
    · next zv hz =>
      split at c2
      · next pl hpl => exact build_sound hz c1 hpl c3 c2 m g hx
      · cases c2
    · cases c1
  -- buildSlice
  · next t ln parts el esz ln' z ps e =>
    rw [e]
    simp only [Bool.and_eq_true, beq_iff_eq] at c
    obtain ⟨⟨⟨⟨⟨c1, c2⟩, rfl⟩, c4⟩, c5⟩, c6⟩ := c
    split at c5
    · next zv hz => exact bsl_sound (slOf_some c1) c2 c4 hz c5 c6 m g hx
    · cases c5
  -- load
  · next t x q y e =>
    rw [e]
    simp only [Bool.and_eq_true, beq_iff_eq] at c
    exact load_sound c.1 m (ev_sound g c.2) hx
  -- store
  · next t x v q y u e =>
    rw [e]
    simp only [Bool.and_eq_true, beq_iff_eq] at c
    exact store_sound c.1.1 m (ev_sound g c.1.2) (ev_sound g c.2) hx
  -- nilCheck
  · next x y e =>
    rw [e]
    have gx := ev_sound g c
    unfold exNilc at hx
    split at hx
    · next k o' he => rw [he] at gx; rw [AM.run_ret] at hx; subst hx; exact Good.val m (u := a.eval x) (by simp only [VR] at gx; obtain ⟨I, _, gx⟩ := gx; simp only [gx]; rfl) gx
    · next f a' c' he => rw [he] at gx; rw [AM.run_ret] at hx; subst hx; exact Good.val m (u := a.eval x) (by simp only [VR] at gx; obtain ⟨a', c', gx, _⟩ := gx; simp only [gx]; rfl) gx
    · simp [AM.run_fail] at hx
  -- binOp
  · next op t x y t' op' ty a' b e =>
    rw [e]
    simp only [Bool.and_eq_true, beq_iff_eq, decide_eq_true_eq] at c
    obtain ⟨⟨⟨rfl, c2⟩, c3⟩, c4⟩ := c
    refine Good.congr ?_ (bin_sound (xo := x) (yo := y) c2 m (ev_sound g c3) (ev_sound g c4) hx)
    simp only [Sem.run_bind]
    cases (eqGuard op t x y (a.eval x) (a.eval y)).run P w <;> rfl
  -- unOp
  · next op t x op' y e =>
    rw [e]
    simp only [Bool.and_eq_true, decide_eq_true_eq] at c
    obtain ⟨rfl, c2⟩ := c
    exact un_sound m (ev_sound g c2) hx
  -- convert
  · next s d x k y e =>
    rw [e]
    simp only [Bool.and_eq_true] at c
    obtain ⟨⟨c1, c2⟩, c3⟩ := c
    split at c2
    · next k' hk =>
      have := of_decide_eq_true c2
      subst this
      exact conv_sound c1 hk m (ev_sound g c3) hx
    · cases c2
  -- makeFunc
  · next f a' c' f' xs ys e =>
    rw [e]
    simp only [Bool.and_eq_true, beq_iff_eq] at c
    obtain ⟨⟨rfl, c2⟩, c3⟩ := c
    rw [AM.run_ret] at hx; subst hx
    exact Good.val m (u := .func (.func f) (a'.map a.eval) (c'.map a.eval)) (by simp [Instr.makeFunc]) (by simp only [VR]; exact ⟨_, _, rfl, by simpa using evs_sound g c2, by simpa using evs_sound g c3⟩)
  -- makeMap
  · next t e => rw [e]; exact mkm_sound m hx
  -- makeSlice
  · next t x y el esz z a' b e =>
    rw [e]
    simp only [Bool.and_eq_true, beq_iff_eq] at c
    obtain ⟨⟨⟨⟨⟨c1, c2⟩, c3⟩, c4⟩, c5⟩, c6⟩ := c
    obtain ⟨by', h1, h2⟩ := bychk_some c3
    obtain ⟨zv, h3, h4, h5⟩ := zchk_some c4
    exact mks_sound (slOf_some c1) c2 h1 h2 h3 h4 h5 m (ev_sound g c5) (ev_sound g c6) hx
  -- slice
  · next t x lo hi mx esz y lo' hi' mx' e =>
    rw [e]
    simp only [Bool.and_eq_true] at c
    obtain ⟨⟨⟨⟨c1, c2⟩, c3⟩, c4⟩, c5⟩ := c
    split at c1
    · next el hel =>
      simp only [beq_iff_eq] at c1
      exact slice_sound (slOf_some hel) c1 m (ev_sound g c2) (evo_sound g c3) (evo_sound g c4) (evo_sound g c5) hx
    · cases c1
  -- fieldAddr
  · next s x f off y e =>
    rw [e]
    simp only [Bool.and_eq_true] at c
    obtain ⟨c1, c2⟩ := c
    split at c1
    · next fd hfd =>
      simp only [Bool.and_eq_true, beq_iff_eq] at c1
      obtain ⟨rfl, c1⟩ := c1
      split at c1
      · next q hq => exact fa_sound hfd hq (by simpa using c1) m (ev_sound g c2) hx
      · cases c1
    · cases c1
  -- field
  · next s x f off q y e =>
    rw [e]
    simp only [Bool.and_eq_true] at c
    obtain ⟨c1, c2⟩ := c
    split at c1
    · next fd hfd =>
      simp only [Bool.and_eq_true, beq_iff_eq] at c1
      obtain ⟨rfl, c1⟩ := c1
      exact fld_sound hfd c1 m (ev_sound g c2) hx
    · cases c1
  -- indexAddr
  · next t x i esz arr y j e =>
    rw [e]
    simp only [Bool.and_eq_true] at c
    obtain ⟨⟨c1, c2⟩, c3⟩ := c
    split at c1
    · next el a' hel =>
      simp only [Bool.and_eq_true, beq_iff_eq] at c1
      obtain ⟨rfl, c1⟩ := c1
      exact ia_sound hel c1 m (ev_sound g c2) (ev_sound g c3) hx
    · cases c1
  -- index
  · next t x i ln esz q y j e =>
    rw [e]
    simp only [Bool.and_eq_true] at c
    obtain ⟨⟨c1, c2⟩, c3⟩ := c
    split at c1
    · next el a' hel =>
      simp only [Bool.and_eq_true, beq_iff_eq] at c1
      obtain ⟨⟨rfl, c1⟩, c1'⟩ := c1
      exact idx_sound hel c1 c1' m (ev_sound g c2) (ev_sound g c3) hx
    · cases c1
  -- a table
  · next t s i l j e =>
    rw [e]
    simp only [Bool.and_eq_true] at c
    obtain ⟨⟨c1, c2⟩, c3⟩ := c
    exact stab_sound (c1) c2 m (ev_sound g c3) hx
  -- lookup
  · next t x i ok z ok' y j e =>
    rw [e]
    simp only [Bool.and_eq_true, beq_iff_eq] at c
    obtain ⟨⟨⟨c1, rfl⟩, c2⟩, c3⟩ := c
    split at c1
    · next kt et hm =>
      simp only [Bool.and_eq_true] at c1
      obtain ⟨kk, hk⟩ := isInt_some c1.1
      have c1 := c1.2
      split at c1
      · next zv hz => exact look_sound (mapOf_some hm) hk hz c1 m (ev_sound g c2) (ev_sound g c3) hx
      · cases c1
    · cases c1
  -- mapUpdate, insert
  · next t m0 k v x y z e =>
    rw [e]
    simp only [Bool.and_eq_true] at c
    obtain ⟨⟨⟨c1, c2⟩, c3⟩, c4⟩ := c
    split at c1
    · next kt et hm =>
      obtain ⟨kk, hk⟩ := isInt_some c1
      exact mup_sound (mapOf_some hm) hk m (ev_sound g c2) (ev_sound g c3) (ev_sound g c4) hx
    · cases c1
  · next t m0 k v x y z e =>
    rw [e]
    simp only [Bool.and_eq_true] at c
    obtain ⟨⟨⟨c1, c2⟩, c3⟩, c4⟩ := c
    split at c1
    · next kt et hm =>
      obtain ⟨kk, hk⟩ := isInt_some c1
      exact mup_sound (mapOf_some hm) hk m (ev_sound g c2) (ev_sound g c3) (ev_sound g c4) hx
    · cases c1
  -- extract
  · next x i q y e =>
    rw [e]
    simp only [Bool.and_eq_true, beq_iff_eq] at c
    obtain ⟨rfl, c⟩ := c
    exact ext_sound m (ev_sound g c) hx
  -- len
  · next args ats ty x e =>
    rw [e]
    simp only [Bool.and_eq_true] at c
    obtain ⟨c1, c2⟩ := c
    obtain ⟨u, hu, gu⟩ := one_arg g c2
    split at c1
    · next t ht =>
      simp only [beq_iff_eq] at c1
      have ha : ats = #[t] := by apply Array.ext'; simpa using ht
      subst ha
      refine Good.congr ?_ (len_sound (rt := o.type) c1 m gu hx)
      simp only [resolve, invoke, builtin, hu, Sem.run_bind, Sem.run_pure, Result.andThen_ok]
    · cases c1
  -- max, min
  · next args ats xs e =>
    rw [e]
    have gs := evs_sound g c
    refine Good.congr ?_ (mm_sound (mx := true) (at_ := ats) (rt := o.type) (us := args.map a.eval) m (by simpa using gs) hx)
    simp only [resolve, invoke, builtin, Sem.run_bind, Sem.run_pure, Result.andThen_ok]
  · next args ats xs e =>
    rw [e]
    have gs := evs_sound g c
    refine Good.congr ?_ (mm_sound (mx := false) (at_ := ats) (rt := o.type) (us := args.map a.eval) m (by simpa using gs) hx)
    simp only [resolve, invoke, builtin, Sem.run_bind, Sem.run_pure, Result.andThen_ok]
  -- append
  · next args ats el esz x y e =>
    rw [e]
    simp only [Bool.and_eq_true, beq_iff_eq] at c
    obtain ⟨⟨⟨⟨c1, c2⟩, c3⟩, c4⟩, c5⟩ := c
    obtain ⟨u, v, hu, gu, gv⟩ := two_args g c5
    obtain ⟨by', h1, h2⟩ := bychk_some c3
    split at c4
    · next zv hz =>
      simp only [beq_iff_eq] at c4
      split at c1
      · next t t2 ht =>
        simp only [Bool.and_eq_true, beq_iff_eq] at c1
        obtain ⟨e', hk⟩ := isSl_some c1.2
        have ha : ats = #[t, t2] := by apply Array.ext'; simpa using ht
        subst ha
        refine Good.congr ?_ (app_sound (rt := o.type) (slOf_some c1.1) hk c2 h1 h2 hz c4 m gu gv hx)
        simp only [resolve, invoke, builtin, hu, Sem.run_bind, Sem.run_pure, Result.andThen_ok]
      · cases c1
    · cases c4
  · next args ats el esz z x y e =>
    rw [e]
    simp only [Bool.and_eq_true, beq_iff_eq, bne_iff_ne] at c
    obtain ⟨⟨⟨⟨⟨c1, c2⟩, c3⟩, c6⟩, c4⟩, c5⟩ := c
    obtain ⟨u, v, hu, gu, gv⟩ := two_args g c5
    obtain ⟨by', h1, h2⟩ := bychk_some c3
    obtain ⟨zv, h3, h4, h5⟩ := zchk_some c4
    split at c1
    · next t t2 ht =>
      simp only [Bool.and_eq_true, beq_iff_eq] at c1
      obtain ⟨e', hk⟩ := isInt_some c1.2
      have ha : ats = #[t, t2] := by apply Array.ext'; simpa using ht
      subst ha
      refine Good.congr ?_ (appz_sound (rt := o.type) (slOf_some c1.1) hk c2 c6 h1 h2 h3 h4 h5 m gu gv hx)
      simp only [resolve, invoke, builtin, hu, Sem.run_bind, Sem.run_pure, Result.andThen_ok]
    · cases c1
  -- copy
  · next args ats esz x y e =>
    rw [e]
    simp only [Bool.and_eq_true] at c
    obtain ⟨c1, c2⟩ := c
    obtain ⟨u, v, hu, gu, gv⟩ := two_args g c2
    split at c1
    · next t t2 ht =>
      split at c1
      · next el hel =>
        simp only [beq_iff_eq] at c1
        have ha : ats = #[t, t2] := by apply Array.ext'; simpa using ht
        subst ha
        refine Good.congr ?_ (copy_sound (rt := o.type) (t2 := t2) (slOf_some hel) c1 m gu gv hx)
        simp only [resolve, invoke, builtin, hu, Sem.run_bind, Sem.run_pure, Result.andThen_ok]
      · cases c1
    · cases c1
  -- clear
  · next args ats esz z x e =>
    rw [e]
    simp only [Bool.and_eq_true] at c
    obtain ⟨c1, c2⟩ := c
    obtain ⟨u, hu, gu⟩ := one_arg g c2
    split at c1
    · next t ht =>
      split at c1
      · next el hel =>
        obtain ⟨zv, h3, h4, h5⟩ := zchk_some c1
        have ha : ats = #[t] := by apply Array.ext'; simpa using ht
        subst ha
        refine Good.congr ?_ (clear_sound (rt := o.type) (slOf_some hel) h3 h4 h5 m gu hx)
        simp only [resolve, invoke, builtin, hu, Sem.run_bind, Sem.run_pure, Result.andThen_ok]
      · cases c1
    · cases c1
  -- a call
  · next f args ats fo xs e =>
    rw [e]
    simp only [Bool.and_eq_true] at c
    obtain ⟨c1, c2⟩ := c
    have gf := ev_sound g c1
    have gs := evs_sound g c2
    unfold exCall at hx
    split at hx
    · next q fa fc he =>
      rw [he] at gf
      simp only [VR] at gf
      obtain ⟨a', c', hf, g1, g2⟩ := gf
      rw [AM.run_ret] at hx; subst hx
      refine ⟨w, β, .refl _, m, fun hok => ?_⟩
      obtain ⟨fn, cd, h1, h2, h3⟩ := hok
      refine ⟨a' ++ args.map a.eval ++ c', ?_, ?_⟩
      · have h3' : ¬ fn.name = "runtime.NumGoroutine" := by simpa using h3
        simp [resolve, hf, Deferred.ofValue, invoke, callFunc, h1, h2, h3']
      · simp only [Array.toList_append, Array.toList_map]
        exact (g1.append _ _ _ _ gs).append _ _ _ _ g2
    · simp [AM.run_fail] at hx
  · cases c

end
end Go.Ax
