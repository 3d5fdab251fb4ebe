/- AX, part C: the operations. -/
import Derived.Test.YthaplnpebgcgiaaAxB
namespace Go.Ax
open Go.RowKit (Below)

inductive ARes where
  | v (a : AV)
  | skip
  | call (f : Nat) (args : List AV)

inductive AI where
  | mv (x : AO)
  | pick (c x y : AO)
  | new (el : Nat) (z : List AV)
  | box (el : Nat) (x : AO)
  | build (z : List AV) (ps : List (Nat × Nat × AO))
  | bsl (el esz len : Nat) (z : List AV) (ps : List (Nat × Nat × AO))
  | load (n : Option Nat) (x : AO)
  | store (n : Nat) (x y : AO)
  | nilc (x : AO)
  | bin (op : BinOp) (ty : Nat) (x y : AO)
  | un (op : UnOp) (x : AO)
  | conv (k : IntKind) (x : AO)
  | mkf (f : Nat) (xs ys : List AO)
  | mkm
  | mks (el esz : Nat) (z : List AV) (x y : AO)
  | slice (esz : Nat) (x : AO) (lo hi mx : Option AO)
  | fa (off : Nat) (x : AO)
  | fld (off : Nat) (n : Option Nat) (x : AO)
  | ia (esz : Nat) (arr : Option Nat) (x y : AO)
  | idx (len esz : Nat) (n : Option Nat) (x y : AO)
  | stab (l : List Nat) (y : AO)
  | look (z : AV) (ok : Bool) (x y : AO)
  | mup (x y z : AO)
  | ext (n : Nat) (x : AO)
  | len (ty : Nat) (x : AO)
  | mm (mx : Bool) (xs : List AO)
  | app (el esz : Nat) (x y : AO)
  | appz (el esz : Nat) (z : List AV) (x y : AO)
  | copy (esz : Nat) (x y : AO)
  | clear (esz : Nat) (z : List AV) (x : AO)
  | call (f : AO) (xs : List AO)

def nth {α : Type} : List α → Nat → Option α
  | [], _ => none
  | a :: l, n => match n with
    | 0 => some a
    | n + 1 => nth l n

theorem nth_eq {α : Type} : ∀ (l : List α) (n : Nat), nth l n = l[n]?
  | [], _ => by simp [nth]
  | a :: l, 0 => by simp [nth]
  | a :: l, n + 1 => by simp [nth, nth_eq l n]

def sub {α : Type} (l : List α) (o n : Nat) : Option (List α) :=
  let r := (l.drop o).take n
  match Nat.beq r.length n with
  | true => some r
  | false => none

theorem sub_some {α : Type} {l : List α} {o n : Nat} {r : List α} (h : sub l o n = some r) : r = (l.drop o).take n ∧ r.length = n ∧ (n = 0 ∨ o + n ≤ l.length) := by
  unfold sub at h
  simp only at h
  split at h
  · next e =>
    cases h
    have e' := Nat.eq_of_beq_eq_true e
    refine ⟨rfl, e', ?_⟩
    simp at e'; omega
  · cases h

theorem sub_get {α : Type} {l : List α} {o n : Nat} {r : List α} (h : sub l o n = some r) (j : Nat) (hj : j < n) : r[j]? = l[o + j]? := by
  obtain ⟨rfl, _, _⟩ := sub_some h
  simp [hj]

/-- Numbers written over a row, from some place on. -/
def ow {α : Type} : List α → List α → Option (List α)
  | l, [] => some l
  | [], _ :: _ => none
  | _ :: l, c :: cs => match ow l cs with
    | some r => some (c :: r)
    | none => none

def wr {α : Type} : List α → Nat → List α → Option (List α)
  | l, 0, c => ow l c
  | [], _ + 1, c => match c with
    | [] => some []
    | _ :: _ => none
  | a :: l, o + 1, c => match wr l o c with
    | some r => some (a :: r)
    | none => none

theorem ow_some {α : Type} : ∀ (l c r : List α), ow l c = some r → r.length = l.length ∧ c.length ≤ l.length ∧ ∀ j : Nat, r[j]? = if j < c.length then c[j]? else l[j]?
  | l, [], r, h => by simp [ow] at h; subst h; simp
  | [], _ :: _, r, h => by simp [ow] at h
  | a :: l, c :: cs, r, h => by
    simp only [ow] at h
    split at h
    · next q e =>
      cases h
      obtain ⟨h1, h2, h3⟩ := ow_some l cs q e
      refine ⟨by simp [h1], by simp; omega, fun j => ?_⟩
      cases j with
      | zero => simp
      | succ j => simp [h3 j]
    · cases h

theorem wr_some {α : Type} : ∀ (l : List α) (o : Nat) (c r : List α), wr l o c = some r → r.length = l.length ∧ (c = [] ∨ o + c.length ≤ l.length) ∧ ∀ j : Nat, r[j]? = if o ≤ j ∧ j < o + c.length then c[j - o]? else l[j]?
  | l, 0, c, r, h => by
    have h' : ow l c = some r := by cases l <;> simpa [wr] using h
    obtain ⟨h1, h2, h3⟩ := ow_some l c r h'
    exact ⟨h1, .inr (by omega), fun j => by simp [h3 j]⟩
  | [], o + 1, c, r, h => by
    cases c with
    | nil => simp [wr] at h; subst h; simp
    | cons => simp [wr] at h
  | a :: l, o + 1, c, r, h => by
    simp only [wr] at h
    split at h
    · next q e =>
      cases h
      obtain ⟨h1, h2, h3⟩ := wr_some l o c q e
      refine ⟨by simp [h1], by rcases h2 with h2 | h2; exact .inl h2; exact .inr (by simp; omega), fun j => ?_⟩
      cases j with
      | zero => simp
      | succ j =>
        simp only [List.getElem?_cons_succ, h3 j]
        by_cases hc : o ≤ j ∧ j < o + c.length
        · rw [if_pos hc, if_pos (by omega), show j + 1 - (o + 1) = j - o by omega]
        · rw [if_neg hc, if_neg (by omega)]
    · cases h

/-- May a function be entered? -/
def FOk (P : Program) (f : Nat) : Prop := ∃ fn c, P.funcs[f]? = some fn ∧ fn.body = some c ∧ (fn.name == "runtime.NumGoroutine") = false

def Good (P : Program) (B : Nat) (w0 : World) (β : K → Option BI) (w : World) (s : Sem Next) (r : R ARes) : Prop :=
  ∃ w' β', Ext β β' ∧ Sim B w0 β' r.h w' ∧ match r.a with
    | .v a => ∃ u, s.run P w = .ok (.value u) w' ∧ VR β' a u
    | .skip => s.run P w = .ok .skip w'
    | .call f as => FOk P f → ∃ l, s.run P w = .ok (.enter f l) w' ∧ VRs β' as l.toList

section
variable {P : Program} {B : Nat} {w0 : World} {β : K → Option BI} {h : T Blk} {w : World} {n : K} {lg : Log}

theorem Good.val {s : Sem Next} {a : AV} {u : Value} (m : Sim B w0 β h w) (e : s.run P w = .ok (.value u) w) (g : VR β a u) : Good P B w0 β w s ⟨.v a, h, n, lg⟩ :=
  ⟨w, β, .refl _, m, u, e, g⟩

/-- Whether a type's values are rows of cells: how many. -/
def aggOf (P : Program) (t : TypeId) : Option (Option Nat) :=
  match P.underlying t with
  | some (.struct _) => (P.info? t).map fun i => some i.size
  | some (.array _ _) => (P.info? t).map fun i => some i.size
  | some _ => some none
  | none => none

theorem isAgg_none {t : TypeId} (e : aggOf P t = some none) (w : World) : (isAgg t).run P w = .ok false w := by
  unfold aggOf at e
  split at e
  · cases hi : P.info? t <;> simp [hi] at e
  · cases hi : P.info? t <;> simp [hi] at e
  · next d h1 h2 hd =>
    simp only [isAgg, Sem.run_bind, run_underlying hd, Result.andThen_ok]
    cases d <;> first | rfl | exact absurd rfl (h1 _) | exact absurd rfl (h2 _ _)
  · cases e

theorem isAgg_some {t : TypeId} {k : Nat} (e : aggOf P t = some (some k)) (w : World) : (isAgg t).run P w = .ok true w ∧ (sizeOf t).run P w = .ok k w := by
  unfold aggOf at e
  split at e
  · next hd =>
    cases hi : P.info? t <;> simp [hi] at e
    subst e
    exact ⟨by simp [isAgg, run_underlying hd], by simp [sizeOf, typeInfo, hi]⟩
  · next hd =>
    cases hi : P.info? t <;> simp [hi] at e
    subst e
    exact ⟨by simp [isAgg, run_underlying hd], by simp [sizeOf, typeInfo, hi]⟩
  · simp at e
  · cases e

def szOf (P : Program) (t : TypeId) : Option Nat := (P.info? t).map (·.size)
theorem run_szOf {t : TypeId} {k : Nat} (e : szOf P t = some k) (w : World) : (sizeOf t).run P w = .ok k w := by
  unfold szOf at e; cases hi : P.info? t <;> simp [hi] at e; simp [sizeOf, typeInfo, hi, e]
def byOf (P : Program) (t : TypeId) : Option Nat := (P.info? t).map (·.bytes)
theorem run_byOf {t : TypeId} {k : Nat} (e : byOf P t = some k) (w : World) : ∃ i, (typeInfo t).run P w = .ok i w ∧ i.bytes = k := by
  unfold byOf at e; cases hi : P.info? t <;> simp [hi] at e; exact ⟨_, by simp [typeInfo, hi], e⟩
def zOf (P : Program) (t : TypeId) : Option Value := match P.info? t with
  | some i => i.zero
  | none => none
theorem run_zOf {t : TypeId} {z : Value} (e : zOf P t = some z) (w : World) : (zeroValue t).run P w = .ok z w := by
  unfold zOf at e
  split at e
  · next i hi => simp [zeroValue, typeInfo, hi, e]
  · cases e

theorem addr_add (b o j : Nat) : (⟨b, o, none⟩ : Addr).add j = ⟨b, o + j, none⟩ := by unfold Addr.add; split <;> simp_all

theorem cell_of {b j : Nat} {C : Array Value} {el : Nat} {fz : Nat × Nat} {v : Value} (hb : w.heap[b]? = some (.cells C el fz)) (hv : C[j]? = some v) : w.cell? ⟨b, j, none⟩ = some v := by
  simp [World.cell?, hb, hv]

/-- Cells that are known, read. -/
theorem load_cells {b o : Nat} {C : Array Value} {el : Nat} {fz : Nat × Nat} (hb : w.heap[b]? = some (.cells C el fz)) :
    ∀ {l : List AV}, (∀ j a, l[j]? = some a → ∃ v, C[o + j]? = some v ∧ VR β a v) → ∃ vs : List Value, vs.length = l.length ∧ VRs β l vs ∧ (loadCells ⟨b, o, none⟩ l.length).run P w = .ok vs.toArray w ∧ ∀ j v, vs[j]? = some v → C[o + j]? = some v := by
  intro l hl
  have hc : ∀ j, j < l.length → ∃ v, C[o + j]? = some v := fun j hj => let ⟨v, h1, _⟩ := hl j l[j] (by simp [hj]); ⟨v, h1⟩
  let vs : List Value := (List.range l.length).map fun j => (C[o + j]?).getD undef
  have hvs : ∀ j, j < l.length → vs[j]? = C[o + j]? := by
    intro j hj
    obtain ⟨v, hv⟩ := hc j hj
    simp [vs, hj, hv]
  have hlen : vs.length = l.length := by simp [vs]
  refine ⟨vs, hlen, VRs.of_get l vs hlen fun j a ha => ?_, ?_, fun j v hv => ?_⟩
  · have hj : j < l.length := by
      rcases Nat.lt_or_ge j l.length with q | q
      · exact q
      · rw [List.getElem?_eq_none q] at ha; cases ha
    obtain ⟨v, h1, h2⟩ := hl j a ha
    exact ⟨v, by rw [hvs j hj, h1], h2⟩
  · have := run_loadCells_list (P := P) w ⟨b, o, none⟩ vs (fun j v hv => ?_)
    · rw [hlen] at this; exact this
    · rw [addr_add]
      have hj : j < l.length := by
        rcases Nat.lt_or_ge j vs.length with q | q
        · omega
        · rw [List.getElem?_eq_none q] at hv; cases hv
      rw [hvs j hj] at hv
      exact cell_of hb hv
  · have hj : j < l.length := by
      rcases Nat.lt_or_ge j vs.length with q | q
      · omega
      · rw [List.getElem?_eq_none q] at hv; cases hv
    rw [← hvs j hj]; exact hv

/-- Reading a variable. -/
def exLoad (n : Option Nat) (v : AV) : AM ARes := match v with
  | .p k o => .get k fun y => match y with
    | .cells _ _ _ c => match n with
      | none => match nth c o with
        | some v => .ret (.v v)
        | none => .fail
      | some n => match sub c o n with
        | some l => .ret (.v (.ag l))
        | none => .fail
    | _ => .fail
  | _ => .fail

theorem load_sound {t : TypeId} {q : Option Nat} {v : AV} {u : Value} {r : R ARes} (e : aggOf P t = some q) (m : Sim B w0 β h w) (g : VR β v u) (x : (exLoad q v).run h n lg = some r) :
    Good P B w0 β w (do pure (.value (← Instr.loadAt t u))) r := by
  unfold exLoad at x
  cases v <;> simp only [AM.run_fail] at x
  case p k o =>
    rw [AM.run_get] at x
    obtain ⟨y, hy, hl, x⟩ := x
    simp only [VR] at g
    obtain ⟨I, hI, rfl⟩ := g
    obtain ⟨I', hI', hb⟩ := m.lies k y hy hl
    rw [hI] at hI'; cases hI'
    cases y <;> simp only [AM.run_fail] at x
    case cells ro el esz c =>
      obtain ⟨C, fz, hb, _, _, _, hc⟩ := hb
      cases q with
      | none =>
        simp only at x
        split at x
        · next v hv =>
          rw [nth_eq] at hv
          obtain ⟨v', h1, h2⟩ := hc o v hv
          rw [AM.run_ret] at x; subst x
          refine Good.val m ?_ h2
          simp [Instr.loadAt, Instr.sureAddr, loadVar, isAgg_none e, cell_of hb h1]
        · simp [AM.run_fail] at x
      | some q =>
        simp only at x
        split at x
        · next l hl =>
          obtain ⟨_, hlen, _⟩ := sub_some hl
          rw [AM.run_ret] at x; subst x
          have hc' : ∀ j a, l[j]? = some a → ∃ v, C[I.off + o + j]? = some v ∧ VR β a v := by
            intro j a ha
            have hj : j < q := by
              rcases Nat.lt_or_ge j l.length with z | z
              · omega
              · rw [List.getElem?_eq_none z] at ha; cases ha
            rw [sub_get hl j hj] at ha
            obtain ⟨v, h1, h2⟩ := hc _ a ha
            exact ⟨v, by rw [Nat.add_assoc]; exact h1, h2⟩
          obtain ⟨vs, hv1, hv2, hv3, _⟩ := load_cells (P := P) hb hc'
          refine Good.val m (u := .agg vs.toArray) ?_ (by simp only [VR]; exact ⟨_, rfl, by simpa using hv2⟩)
          obtain ⟨e1, e2⟩ := isAgg_some e w
          rw [hlen] at hv3
          simp [Instr.loadAt, Instr.sureAddr, loadVar, e1, e2, hv3]
        · simp [AM.run_fail] at x

def allSc : List AV → Bool
  | [] => true
  | a :: l => a.sc && allSc l

theorem allSc_get : ∀ {l : List AV}, allSc l = true → ∀ {vs : List Value}, VRs β l vs → ∀ v ∈ vs, v.oneCell' = true
  | [], _, vs, g, v, hv => by simp only [VRs] at g; subst g; cases hv
  | a :: l, h, vs, g, v, hv => by
    simp only [allSc, Bool.and_eq_true] at h
    simp only [VRs] at g
    obtain ⟨u, us, rfl, g1, g2⟩ := g
    rcases List.mem_cons.1 hv with e | e
    · subst e; exact g1.one h.1
    · exact allSc_get h.2 g2 v e

/-- Writing a variable. -/
def exStore (n : Nat) (v y : AV) : AM ARes := match v with
  | .p k o => match y.cells with
    | none => .fail
    | some l => match Nat.beq l.length n, allSc l with
      | true, true => .get k fun b => match b with
        | .cells ro el esz c => match wr c o l with
          | some c' => .put k (.cells ro el esz c') (.ret .skip)
          | none => .fail
        | _ => .fail
      | _, _ => .fail
  | _ => .fail

theorem setRow_below (w : World) (g : Nat) (cs : Array Value) : (w.setRow g cs).os = w.os ∧ (w.setRow g cs).tape = w.tape ∧ (w.setRow g cs).output = w.output ∧ (w.setRow g cs).heap.size = w.heap.size ∧ ∀ j, j ≠ g → (w.setRow g cs).heap[j]? = w.heap[j]? := by
  refine ⟨rfl, rfl, rfl, by simp [World.setRow], fun j hj => ?_⟩
  simp only [World.setRow, Array.getElem?_modify]
  rw [if_neg (fun x => hj x.symm)]

theorem setRow_at {w : World} {g : Nat} {C cs : Array Value} {el : Nat} {fz : Nat × Nat} (hb : w.heap[g]? = some (.cells C el fz)) : (w.setRow g cs).heap[g]? = some (.cells cs el fz) := by
  simp only [World.setRow, Array.getElem?_modify, if_true, hb, Option.map_some]

/-- Cells written over a row: what the row reads as then. -/
theorem over_get {C : Array Value} {o : Nat} {vs : List Value} (hfit : o + vs.length ≤ C.size) (j : Nat) :
    ((C.toList.take o ++ vs ++ C.toList.drop (o + vs.length)).toArray)[j]? = if o ≤ j ∧ j < o + vs.length then vs[j - o]? else C[j]? := by
  have ht : (C.toList.take o).length = o := by simp; omega
  simp only [List.getElem?_toArray, List.append_assoc]
  by_cases h1 : j < o
  · rw [List.getElem?_append_left (by omega), if_neg (by omega), List.getElem?_take, if_pos h1]; simp
  · rw [List.getElem?_append_right (by omega), ht]
    by_cases h2 : j < o + vs.length
    · rw [List.getElem?_append_left (by omega), if_pos (by omega)]
    · rw [List.getElem?_append_right (by omega), if_neg (by omega), List.getElem?_drop]
      simp only [Array.getElem?_toList]
      congr 1; omega

theorem over_size {C : Array Value} {o : Nat} {vs : List Value} (hfit : o + vs.length ≤ C.size) : ((C.toList.take o ++ vs ++ C.toList.drop (o + vs.length)).toArray).size = C.size := by
  simp; omega

/-- A block of one's own, some of whose cells are written. -/
theorem write_fits {I : BI} {o : Nat} {c l c' : List AV} {C : Array Value} {vs : List Value} (hc : ∀ j a, c[j]? = some a → ∃ v, C[I.off + j]? = some v ∧ VR β a v) (hw : wr c o l = some c') (hv : VRs β l vs) :
    I.off + o + vs.length ≤ C.size ∨ vs = [] := by
  obtain ⟨_, h2, _⟩ := wr_some c o l c' hw
  have hlen := hv.length
  rcases h2 with h2 | h2
  · right; subst h2; simpa [VRs] using hv
  · cases hl : l.length with
    | zero => right; exact List.eq_nil_of_length_eq_zero (by omega)
    | succ q =>
      left
      obtain ⟨v, h3, _⟩ := hc (o + q) c[o + q] (List.getElem?_eq_getElem (by omega))
      have : I.off + (o + q) < C.size := by
        rcases Nat.lt_or_ge (I.off + (o + q)) C.size with z | z
        · exact z
        · rw [Array.getElem?_eq_none z] at h3; cases h3
      omega

theorem write_sim {k : K} {I : BI} {ro : Bool} {el esz o : Nat} {c l c' : List AV} {C : Array Value} {vs : List Value} (m : Sim B w0 β h w) (hk : h.get k = some (.cells ro el esz c)) (hro : ro = false) (hI : β k = some I)
    (hb : w.heap[I.blk]? = some (.cells C el (0, 0))) (hsz : I.size = C.size) (hesz : I.esz = esz) (hc : ∀ j a, c[j]? = some a → ∃ v, C[I.off + j]? = some v ∧ VR β a v) (hw : wr c o l = some c') (hv : VRs β l vs)
    (hfit : I.off + o + vs.length ≤ C.size) :
    Sim B w0 β (h.ins (.cells ro el esz c') k) (w.setRow I.blk (C.toList.take (I.off + o) ++ vs ++ C.toList.drop (I.off + o + vs.length)).toArray) := by
  obtain ⟨_, _, h3⟩ := wr_some c o l c' hw
  have hlen := hv.length
  refine m.put hk (by simp [Blk.rw, hro]) hI (.inr (setRow_below w I.blk _)) ?_
  rw [setRow_at hb]
  refine ⟨_, _, rfl, by rw [over_size hfit]; exact hsz, hesz, fun _ => rfl, fun j a ha => ?_⟩
  rw [over_get hfit]
  rw [h3 j] at ha
  split at ha
  · next hj =>
    obtain ⟨v, h4, h5⟩ := VRs.get l vs hv _ a ha
    exact ⟨v, by rw [if_pos (by omega), show I.off + j - (I.off + o) = j - o by omega]; exact h4, h5⟩
  · next hj =>
    obtain ⟨v, h4, h5⟩ := hc j a ha
    exact ⟨v, by rw [if_neg (by omega)]; exact h4, h5⟩

theorem store_sound {t : TypeId} {q : Nat} {v y : AV} {u z : Value} {r : R ARes} (e : szOf P t = some q) (m : Sim B w0 β h w) (g : VR β v u) (gz : VR β y z) (x : (exStore q v y).run h n lg = some r) :
    Good P B w0 β w (do Instr.storeAt t u z; pure .skip) r := by
  unfold exStore at x
  cases v <;> simp only [AM.run_fail] at x
  case p k o =>
    split at x
    · simp [AM.run_fail] at x
    · next l hl =>
      split at x
      · next e1 e2 =>
        rw [AM.run_get] at x
        obtain ⟨b, hy, hlv, x⟩ := x
        simp only [VR] at g
        obtain ⟨I, hI, rfl⟩ := g
        obtain ⟨I', hI', hb⟩ := m.lies k b hy hlv
        rw [hI] at hI'; cases hI'
        cases b <;> simp only [AM.run_fail] at x
        case cells ro el esz c =>
          obtain ⟨C, fz, hb, hsz, hesz, hfz, hc⟩ := hb
          split at x
          · next c' hw =>
            rw [AM.run_put] at x
            obtain ⟨b, hb', hrw, x⟩ := x
            rw [hy] at hb'; cases hb'
            rw [AM.run_ret] at x; subst x
            have hro : ro = false := by simpa [Blk.rw] using hrw
            have hf := hfz hro; subst hf
            have hvs := gz.cells hl
            have hlen := hvs.length
            have hn := Nat.eq_of_beq_eq_true e1
            have h1 := allSc_get e2 hvs
            have hs : z.cells.size = q := by have : z.cells.toList.length = z.cells.size := by simp
                                             omega
            have hrun : ∀ s : Sem Unit, s = Instr.storeAt t (.pointer (some ⟨I.blk, I.off + o, none⟩)) z → s.run P w = (storeCells ⟨I.blk, I.off + o, none⟩ z.cells.toList).run P w := by
              intro s hs'; subst hs'
              simp [Instr.storeAt, Instr.sureAddr, storeVar, run_szOf e, hs]
            rcases write_fits hc hw hvs with hfit | hnil
            · have hst := run_storeCells_at P I.blk (I.off + o) el z.cells.toList 0 C w hb (by omega) h1
              simp only [Nat.add_zero] at hst
              refine ⟨_, β, .refl _, write_sim m hy hro hI hb hsz hesz hc hw hvs hfit, ?_⟩
              simp only [Sem.run_bind, hrun _ rfl, hst, Result.andThen_ok, Sem.run_pure]
            · have hl0 : l = [] := List.eq_nil_of_length_eq_zero (by rw [← hlen, hnil]; rfl)
              subst hl0
              have hcc : ∀ j : Nat, c'[j]? = c[j]? := fun j => by
                have := (wr_some c o [] c' hw).2.2 j
                rw [this]; split
                · next q => simp at q; omega
                · rfl
              have hcc' : c' = c := List.ext_getElem? hcc
              subst hcc'
              refine ⟨w, β, .refl _, m.congr (fun q => ?_), ?_⟩
              · simp only [T.get_ins]; split
                · next e => subst e; exact hy.symm
                · rfl
              · simp only [Sem.run_bind, hrun _ rfl, hnil, storeCells, Sem.run_pure, Result.andThen_ok]
          · simp [AM.run_fail] at x
      · simp [AM.run_fail] at x

end
end Go.Ax
