/- AX, part D: the operations, on. -/
import Derived.Test.YthaplnpebgcgiaaAxC
namespace Go.Ax
open Go.RowKit (Below)

section
variable {P : Program} {B : Nat} {w0 : World} {β : K → Option BI} {h : T Blk} {w : World} {n : K} {lg : Log}

/-- A new block of cells: what is known of them, and more. -/
theorem new_cells {k : K} {el esz : Nat} {z : List AV} {C : Array Value} (m : Sim B w0 β h w) (hk : h.get k = none) (hc : ∀ (j : Nat) (a : AV), z[j]? = some a → ∃ v, C[j]? = some v ∧ VR β a v) :
    ∃ β', Ext β β' ∧ Sim B w0 β' (h.ins (.cells false el esz z) k) (w.alloc (.cells C el)) ∧ β' k = some ⟨w.heap.size, 0, esz, C.size⟩ := by
  have hx : Ext β (upd β k ⟨w.heap.size, 0, esz, C.size⟩) := ext_upd (m.fresh hk)
  obtain ⟨m', _⟩ := m.new hk (b := .cells false el esz z) (o := .cells C el) (I := ⟨w.heap.size, 0, esz, C.size⟩) rfl
    ⟨C, (0, 0), rfl, rfl, rfl, fun _ => rfl, fun j a ha => let ⟨v, h1, h2⟩ := hc j a ha; ⟨v, by simpa using h1, VR.mono hx a v h2⟩⟩
  exact ⟨_, hx, m', by simp [upd]⟩

theorem VRs.cells_get {l : List AV} {C : Array Value} (g : VRs β l C.toList) (j : Nat) (a : AV) (ha : l[j]? = some a) : ∃ v, C[j]? = some v ∧ VR β a v := by
  obtain ⟨v, h1, h2⟩ := VRs.get l _ g j a ha
  exact ⟨v, by simpa using h1, h2⟩

def exNew (el : Nat) (z : List AV) : AM ARes := .new (.cells false el 0 z) fun k => .ret (.v (.p k 0))

/-- A variable made, of a value. -/
theorem newVar_sound {t : TypeId} {z : List AV} {v : Value} {r : R ARes} (m : Sim B w0 β h w) (g : VRs β z v.cells.toList) (x : (exNew t z).run h n lg = some r) :
    Good P B w0 β w (do pure (.value (← (do pure (.pointer (some (← newVar t v))) : Sem Value)))) r := by
  unfold exNew at x
  rw [AM.run_new] at x
  obtain ⟨hk, x⟩ := x
  rw [AM.run_ret] at x; subst x
  obtain ⟨β', hx, m', hb⟩ := new_cells (el := t) (esz := 0) m hk g.cells_get
  refine ⟨_, β', hx, m', .pointer (some ⟨w.heap.size, 0, none⟩), ?_, ?_⟩
  · simp [newVar, newRow]
  · simp only [VR]; exact ⟨_, hb, rfl⟩

theorem alloc_sound {t : TypeId} {z : List AV} {zv : Value} {r : R ARes} (e : zOf P t = some zv) (c : cvrs z zv.cells.toList = true) (m : Sim B w0 β h w) (x : (exNew t z).run h n lg = some r) :
    Good P B w0 β w (do pure (.value (← Instr.alloc t true (.tuple #[])))) r := by
  obtain ⟨w', β', hx, m', hr⟩ := newVar_sound (P := P) (v := zv) m (cvrs_sound _ _ c) x
  refine ⟨w', β', hx, m', ?_⟩
  have e1 : (do pure (.value (← Instr.alloc t true (.tuple #[]))) : Sem Next).run P w = (do pure (.value (← (do pure (.pointer (some (← newVar t zv))) : Sem Value))) : Sem Next).run P w := by
    simp [Instr.alloc, run_zOf e]
  cases hra : r.a with
  | v a => rw [hra] at hr; simp only at hr ⊢; rw [e1]; exact hr
  | skip => rw [hra] at hr; simp only at hr ⊢; rw [e1]; exact hr
  | call f as => rw [hra] at hr; simp only at hr ⊢; rw [e1]; exact hr

def exBox (el : Nat) (v : AV) : AM ARes := match v.cells with
  | some l => exNew el l
  | none => .fail

theorem box_sound {t : TypeId} {a : AV} {v : Value} {r : R ARes} (m : Sim B w0 β h w) (g : VR β a v) (x : (exBox t a).run h n lg = some r) :
    Good P B w0 β w (do pure (.value (← Instr.box t v))) r := by
  unfold exBox at x
  split at x
  · next l hl => exact newVar_sound m (g.cells hl) x
  · simp [AM.run_fail] at x

/-- Parts laid over zero cells. -/
def bfill (tm : T AV) : List AV → List (Nat × Nat × AO) → Option (List AV)
  | cs, [] => some cs
  | cs, (o, sz, x) :: ps => match (ev tm x).cells with
    | some l => match Nat.beq l.length sz, Nat.ble (o + sz) cs.length, wr cs o l with
      | true, true, some cs' => bfill tm cs' ps
      | _, _, _ => none
    | none => none

def chkParts (place : Nat → Option (Nat × Nat)) : List (Nat × Operand) → List (Nat × Nat × AO) → Bool
  | [], [] => true
  | (i, x) :: xs, (o, sz, y) :: ys => (match place i with | some (a, b) => a == o && b == sz | none => false) && chkO x y && chkParts place xs ys
  | _, _ => false

theorem foldl_set : ∀ (l : List Value) (C : Array Value) (o i : Nat), ((l.zipIdx i).foldl (fun cs p => cs.setIfInBounds (o + p.2) p.1) C).size = C.size ∧
    ∀ j : Nat, ((l.zipIdx i).foldl (fun cs p => cs.setIfInBounds (o + p.2) p.1) C)[j]? = if o + i ≤ j ∧ j < o + i + l.length ∧ j < C.size then l[j - (o + i)]? else C[j]?
  | [], C, o, i => by
    refine ⟨by simp, fun j => ?_⟩
    rw [if_neg (by simp; omega)]; simp
  | a :: l, C, o, i => by
    obtain ⟨h1, h2⟩ := foldl_set l (C.setIfInBounds (o + i) a) o (i + 1)
    simp only [List.zipIdx_cons, List.foldl_cons]
    refine ⟨by rw [h1]; simp, fun j => ?_⟩
    rw [h2 j]
    simp only [Array.size_setIfInBounds, Array.getElem?_setIfInBounds, List.length_cons]
    by_cases c1 : o + (i + 1) ≤ j ∧ j < o + (i + 1) + l.length ∧ j < C.size
    · rw [if_pos c1, if_pos (by omega), show j - (o + i) = (j - (o + (i + 1))) + 1 by omega]; simp
    · rw [if_neg c1]
      by_cases c2 : o + i = j
      · subst c2
        by_cases c3 : o + i < C.size
        · rw [if_pos rfl, if_pos (by omega)]; simp [c3]
        · rw [if_pos rfl, if_neg (by omega)]; simp [c3]
      · rw [if_neg c2, if_neg (by omega)]

theorem fill_sound {tm : T AV} {a : Act} (g : TR β tm a.tmps) (place : Nat → Option (Nat × Nat)) : ∀ (xs : List (Nat × Operand)) (ys : List (Nat × Nat × AO)) (cs r : List AV) (C : Array Value), chkParts place xs ys = true → VRs β cs C.toList → bfill tm cs ys = some r →
    ∃ C', Instr.fill place C (xs.map fun p => (p.1, a.eval p.2)) = some C' ∧ VRs β r C'.toList
  | [], [], cs, r, C, _, hc, hf => by simp [bfill] at hf; subst hf; exact ⟨C, by simp [Instr.fill], hc⟩
  | [], _ :: _, _, _, _, h, _, _ => by simp [chkParts] at h
  | _ :: _, [], _, _, _, h, _, _ => by simp [chkParts] at h
  | (i, x) :: xs, (o, sz, y) :: ys, cs, r, C, h, hc, hf => by
    simp only [chkParts, Bool.and_eq_true] at h
    obtain ⟨⟨h1, h2⟩, h3⟩ := h
    cases hp : place i with
    | none => simp [hp] at h1
    | some p =>
      obtain ⟨pa, pb⟩ := p
      simp [hp] at h1
      obtain ⟨rfl, rfl⟩ := h1
      simp only [bfill] at hf
      split at hf
      · next l hl =>
        split at hf
        · next cs' e1 e2 e3 =>
          have hv := (ev_sound g h2).cells hl
          have hlen := hv.length
          have e1' := Nat.eq_of_beq_eq_true e1
          have e2' := Nat.le_of_ble_eq_true e2
          have hcl := hc.length
          have hsz : (a.eval x).cells.size = l.length := by rw [← hlen]; simp
          obtain ⟨w1, _, w3⟩ := wr_some cs pa l cs' e3
          obtain ⟨f1, f2⟩ := foldl_set (a.eval x).cells.toList C pa 0
          have hcs : VRs β cs' (((a.eval x).cells.toList.zipIdx 0).foldl (fun cs p => cs.setIfInBounds (pa + p.2) p.1) C).toList := by
            refine VRs.of_get _ _ (by simp only [Array.length_toList] at hcl ⊢; rw [f1, w1, hcl]) fun j u hu => ?_
            simp only [Array.getElem?_toList, f2 j]
            simp only [Array.length_toList] at hcl hlen
            rw [w3 j] at hu
            split at hu
            · next hj =>
              obtain ⟨v, q1, q2⟩ := VRs.get l _ hv _ u hu
              exact ⟨v, by rw [if_pos (by simp only [Array.length_toList]; omega)]; simpa using q1, q2⟩
            · next hj =>
              obtain ⟨v, q1, q2⟩ := VRs.get cs _ hc j u hu
              refine ⟨v, ?_, q2⟩
              rw [if_neg (by simp only [Array.length_toList]; omega)]; simpa using q1
          obtain ⟨C', i1, i2⟩ := fill_sound g place xs ys cs' r _ h3 hcs hf
          refine ⟨C', ?_, i2⟩
          simp only [List.map_cons, Instr.fill, hp]
          simp only [Array.length_toList] at hcl
          rw [if_neg (by simp only [hsz, e1']; simp; omega)]
          rw [← i1]
          congr 1
          rw [← Array.foldl_toList]; simp
        · cases hf
      · cases hf

/-- Where the parts of a struct or an array stand. -/
def placeOf (P : Program) (t : TypeId) : Option (Nat → Option (Nat × Nat)) :=
  match P.underlying t with
  | some (.struct fs) => some fun i => match fs[i]? with
    | some f => (szOf P f.type).map fun s => (f.offset, s)
    | none => none
  | some (.array _ e) => (szOf P e).map fun s => fun i => some (i * s, s)
  | _ => none

def chkAll (P : Program) : List Field → Bool
  | [] => true
  | f :: fs => (szOf P f.type).isSome && chkAll P fs

/-- A value made of parts. -/
def exBuild (tm : T AV) (z : List AV) (ps : List (Nat × Nat × AO)) : AM ARes := match bfill tm z ps with
  | some l => .ret (.v (.ag l))
  | none => .fail

theorem mapM_places : ∀ (fs : List Field), chkAll P fs = true → (fs.mapM (fun f : Field => do pure (f.offset, ← sizeOf f.type)) : Sem (List (Nat × Nat))).run P w = .ok (fs.map fun (f : Field) => (f.offset, (szOf P f.type).getD 0)) w
  | [], _ => by simp
  | f :: fs, h => by
    simp only [chkAll, Bool.and_eq_true] at h
    obtain ⟨s, hs⟩ := Option.isSome_iff_exists.1 h.1
    have ih := mapM_places fs h.2
    simp only [List.mapM_cons, Sem.run_bind, run_szOf hs, Result.andThen_ok, Sem.run_pure, ih, List.map_cons, hs, Option.getD_some]

theorem build_sound {t : TypeId} {z : List AV} {zv : Value} {ps : List (Nat × Nat × AO)} {parts : Array (Nat × Operand)} {tm : T AV} {a : Act} {r : R ARes} {pl : Nat → Option (Nat × Nat)} (e : zOf P t = some zv) (c : cvrs z zv.cells.toList = true)
    (hpl : placeOf P t = some pl) (hfs : (match P.underlying t with | some (.struct fs) => chkAll P fs.toList | _ => true) = true) (hch : chkParts pl parts.toList ps = true) (m : Sim B w0 β h w) (g : TR β tm a.tmps) (x : (exBuild tm z ps).run h n lg = some r) :
    Good P B w0 β w (do pure (.value (← Instr.build t (parts.map fun (i, x) => (i, a.eval x))))) r := by
  unfold exBuild at x
  split at x
  · next l hl =>
    rw [AM.run_ret] at x; subst x
    have hparts : (parts.map fun (i, x) => (i, a.eval x)).toList = parts.toList.map fun p => (p.1, a.eval p.2) := by simp
    unfold placeOf at hpl
    split at hpl
    · next fs hu =>
      cases hpl
      simp only [hu] at hfs
      obtain ⟨C', f1, f2⟩ := fill_sound g _ parts.toList ps z l zv.cells hch (cvrs_sound _ _ c) hl
      refine Good.val m (u := .agg C') ?_ (by simp only [VR]; exact ⟨_, rfl, f2⟩)
      have hm : (fs.mapM (fun f : Field => do pure (f.offset, ← sizeOf f.type)) : Sem (Array (Nat × Nat))).run P w = .ok (fs.toList.map fun (f : Field) => (f.offset, (szOf P f.type).getD 0)).toArray w := by
        have h0 := Array.mapM_eq_mapM_toList (m := Sem) (f := fun f : Field => do pure (f.offset, ← sizeOf f.type)) (xs := fs)
        rw [h0, Sem.run_map, mapM_places (w := w) fs.toList hfs]; rfl
      have hpl : (fun i : Nat => (fs.toList.map fun (f : Field) => (f.offset, (szOf P f.type).getD 0)).toArray[i]?) = fun i : Nat => match (fs[i]? : Option Field) with
          | some f => (szOf P f.type).map fun s => (f.offset, s)
          | none => none := by
        funext i
        simp only [List.getElem?_toArray, List.getElem?_map, Array.getElem?_toList]
        cases hf : fs[i]? with
        | none => simp
        | some f =>
          simp only [Option.map_some]
          have hmem : ∀ (l : List Field), chkAll P l = true → f ∈ l → (szOf P f.type).isSome = true := by
            intro l; induction l with
            | nil => intro _ hh; cases hh
            | cons b l ih =>
              intro h1 h2
              simp only [chkAll, Bool.and_eq_true] at h1
              rcases List.mem_cons.1 h2 with q | q
              · subst q; exact h1.1
              · exact ih h1.2 q
          obtain ⟨s, hs⟩ := Option.isSome_iff_exists.1 (hmem fs.toList hfs (by simpa using Array.mem_of_getElem? hf))
          simp [hs]
      simp only [Instr.build, Sem.run_bind, run_zOf e, Result.andThen_ok, run_underlying hu, hm, hparts, hpl, f1, Sem.run_pure]
    · next k el hu =>
      cases hs : szOf P el with
      | none => simp [hs] at hpl
      | some s =>
        simp [hs] at hpl
        subst hpl
        obtain ⟨C', f1, f2⟩ := fill_sound g _ parts.toList ps z l zv.cells hch (cvrs_sound _ _ c) hl
        refine Good.val m (u := .agg C') ?_ (by simp only [VR]; exact ⟨_, rfl, f2⟩)
        simp only [Instr.build, Sem.run_bind, run_zOf e, Result.andThen_ok, run_underlying hu, run_szOf hs, hparts, f1, Sem.run_pure]
    · cases hpl
  · simp [AM.run_fail] at x

def exBsl (tm : T AV) (el esz len : Nat) (z : List AV) (ps : List (Nat × Nat × AO)) : AM ARes := match bfill tm z ps with
  | some l => .new (.cells false el esz l) fun k => .ret (.v (.sl k 0 len len true))
  | none => .fail

theorem bsl_sound {t el esz len : Nat} {z : List AV} {zv : Value} {ps : List (Nat × Nat × AO)} {parts : Array (Nat × Operand)} {tm : T AV} {a : Act} {r : R ARes} (hu : P.underlying t = some (.slice el)) (hs : szOf P el = some esz) (hb : Nat.ble (len * esz) 16777216 = true)
    (e : zOf P el = some zv) (c : cvrs z ((Array.range (len * esz)).map (fun i => zv.cells[i % zv.cells.size]!)).toList = true)
    (hch : chkParts (fun i => some (i * esz, esz)) parts.toList ps = true) (m : Sim B w0 β h w) (g : TR β tm a.tmps) (x : (exBsl tm el esz len z ps).run h n lg = some r) :
    Good P B w0 β w (do pure (.value (← Instr.buildSlice t len (parts.map fun (i, x) => (i, a.eval x))))) r := by
  unfold exBsl at x
  split at x
  · next l hl =>
    rw [AM.run_new] at x
    obtain ⟨hk, x⟩ := x
    rw [AM.run_ret] at x; subst x
    have hparts : (parts.map fun (i, x) => (i, a.eval x)).toList = parts.toList.map fun p => (p.1, a.eval p.2) := by simp
    obtain ⟨C', f1, f2⟩ := fill_sound g _ parts.toList ps z l _ hch (cvrs_sound _ _ c) hl
    obtain ⟨β', hx, m', hb'⟩ := new_cells (el := el) (esz := esz) m hk f2.cells_get
    have hbig : ¬ (len * esz > 2 ^ 24) := by have := Nat.le_of_ble_eq_true hb; omega
    have hsize : C'.size = len * esz := by
      have hfill : ∀ (ps : List (Nat × Value)) (C C' : Array Value), Instr.fill (fun i => some (i * esz, esz)) C ps = some C' → C'.size = C.size := by
        intro ps; induction ps with
        | nil => intro C C' h; simp [Instr.fill] at h; rw [h]
        | cons p ps ih =>
          intro C C' h
          obtain ⟨i, v⟩ := p
          simp only [Instr.fill] at h
          split at h
          · cases h
          · rw [ih _ _ h, ← Array.foldl_toList]
            have := (foldl_set v.cells.toList C (i * esz) 0).1
            simpa using this
      rw [hfill _ _ _ f1]; simp
    refine ⟨_, β', hx, m', .slice (some ⟨w.heap.size, 0, none⟩) len len, ?_, ?_⟩
    · rw [← hparts] at f1
      by_cases h0 : len * esz = 0
      · have harr : ((Array.range (len * esz)).map (fun i => (#[] : Array Value)[i % (#[] : Array Value).size]!)) = (Array.range (len * esz)).map (fun i => zv.cells[i % zv.cells.size]!) := by
          rw [h0]; simp
        rw [← harr] at f1
        simp only [Instr.buildSlice, Sem.run_bind, run_underlying hu, Result.andThen_ok, run_szOf hs, if_neg hbig, Sem.run_pure, if_pos h0, f1, newRow, run_newObj, World.alloc_eq]
      · simp only [Instr.buildSlice, Sem.run_bind, run_underlying hu, Result.andThen_ok, run_szOf hs, if_neg hbig, Sem.run_pure, if_neg h0, run_zOf e, f1, newRow, run_newObj, World.alloc_eq]
    · simp only [VR]; exact ⟨_, 0, len, hb', rfl, Nat.le_refl _, fun _ => rfl, fun _ => rfl, by simp [hsize]⟩
  · simp [AM.run_fail] at x

end
end Go.Ax
