/- AX, part A: abstract values, abstract memory, and how they lie over the model's worlds. -/
import Derived.Orders
import Derived.Below
import Derived.Laws.CopyRow
import Derived.LoopN
namespace Go.Ax
open Go.RowKit (Below)

/-- A key: a place in a binary tree. -/
abbrev K := List Bool

def kinc : K → K
  | [] => [false]
  | false :: p => true :: p
  | true :: p => false :: kinc p

def kval : K → Nat
  | [] => 0
  | false :: p => 2 * kval p + 1
  | true :: p => 2 * kval p + 2

theorem kval_kinc : ∀ p, kval (kinc p) = kval p + 1
  | [] => rfl
  | false :: p => by simp [kinc, kval]
  | true :: p => by simp [kinc, kval, kval_kinc p]; omega

theorem kval_inj : ∀ p q, kval p = kval q → p = q
  | [], [], _ => rfl
  | [], false :: q, h => by simp [kval] at h
  | [], true :: q, h => by simp [kval] at h
  | false :: p, [], h => by simp [kval] at h
  | true :: p, [], h => by simp [kval] at h
  | false :: p, false :: q, h => by simp only [kval] at h; rw [kval_inj p q (by omega)]
  | true :: p, true :: q, h => by simp only [kval] at h; rw [kval_inj p q (by omega)]
  | false :: p, true :: q, h => by simp only [kval] at h; omega
  | true :: p, false :: q, h => by simp only [kval] at h; omega

def keq : K → K → Bool
  | [], [] => true
  | false :: p, false :: q => keq p q
  | true :: p, true :: q => keq p q
  | _, _ => false

theorem keq_iff : ∀ p q, keq p q = true ↔ p = q
  | [], [] => by simp [keq]
  | [], false :: q => by simp [keq]
  | [], true :: q => by simp [keq]
  | false :: p, [] => by simp [keq]
  | true :: p, [] => by simp [keq]
  | false :: p, false :: q => by simp [keq, keq_iff p q]
  | true :: p, true :: q => by simp [keq, keq_iff p q]
  | false :: p, true :: q => by simp [keq]
  | true :: p, false :: q => by simp [keq]

/-- A tree of what keys have. -/
inductive T (α : Type) where
  | leaf
  | node (l : T α) (v : Option α) (r : T α)

def T.get {α : Type} : T α → K → Option α
  | .leaf, _ => none
  | .node _ v _, [] => v
  | .node l _ _, false :: p => l.get p
  | .node _ _ r, true :: p => r.get p

def T.ins {α : Type} (x : α) : K → T α → T α
  | [], .leaf => .node .leaf (some x) .leaf
  | [], .node l _ r => .node l (some x) r
  | false :: p, .leaf => .node (T.ins x p .leaf) none .leaf
  | false :: p, .node l v r => .node (T.ins x p l) v r
  | true :: p, .leaf => .node .leaf none (T.ins x p .leaf)
  | true :: p, .node l v r => .node l v (T.ins x p r)

@[simp] theorem T.get_leaf {α : Type} (k : K) : (T.leaf : T α).get k = none := by simp [T.get]

theorem T.get_ins {α : Type} (x : α) : ∀ (k : K) (t : T α) (q : K), (t.ins x k).get q = if q = k then some x else t.get q
  | [], .leaf, [] => by simp [T.ins, T.get]
  | [], .leaf, false :: q => by simp [T.ins, T.get]
  | [], .leaf, true :: q => by simp [T.ins, T.get]
  | [], .node l v r, [] => by simp [T.ins, T.get]
  | [], .node l v r, false :: q => by simp [T.ins, T.get]
  | [], .node l v r, true :: q => by simp [T.ins, T.get]
  | false :: p, .leaf, [] => by simp [T.ins, T.get]
  | false :: p, .leaf, false :: q => by simp [T.ins, T.get, T.get_ins x p .leaf q]
  | false :: p, .leaf, true :: q => by simp [T.ins, T.get]
  | false :: p, .node l v r, [] => by simp [T.ins, T.get]
  | false :: p, .node l v r, false :: q => by simp [T.ins, T.get, T.get_ins x p l q]
  | false :: p, .node l v r, true :: q => by simp [T.ins, T.get]
  | true :: p, .leaf, [] => by simp [T.ins, T.get]
  | true :: p, .leaf, false :: q => by simp [T.ins, T.get]
  | true :: p, .leaf, true :: q => by simp [T.ins, T.get, T.get_ins x p .leaf q]
  | true :: p, .node l v r, [] => by simp [T.ins, T.get]
  | true :: p, .node l v r, false :: q => by simp [T.ins, T.get]
  | true :: p, .node l v r, true :: q => by simp [T.ins, T.get, T.get_ins x p r q]

/-- An abstract value. 'any': whatever. A slice's 'cap' is a lower bound, unless 'ex' (exact). -/
inductive AV where
  | any
  | b (v : Bool)
  | i (k : IntKind) (n : Int)
  | str (s : ByteArray)
  | nilp
  | p (k : K) (off : Nat)
  | nils
  | sl (k : K) (off len cap : Nat) (ex : Bool)
  | nilm
  | m (k : K)
  | f (fn : Nat) (first caps : List AV)
  | ag (l : List AV)
  | tu (l : List AV)

/-- Where an abstract block lies: the block, how far on its cells stand, a slice element's size, how many cells the block has. -/
structure BI where
  blk : Nat
  off : Nat
  esz : Nat
  size : Nat

mutual
def VR (β : K → Option BI) : AV → Value → Prop
  | .any, _ => True
  | .b v, w => w = .bool v
  | .i k n, w => w = .int k n
  | .str s, w => w = .string s
  | .nilp, w => w = .pointer none
  | .p k o, w => ∃ I, β k = some I ∧ w = .pointer (some ⟨I.blk, I.off + o, none⟩)
  | .nils, w => w = .slice none 0 0
  | .sl k o n c ex, w => ∃ I o' c', β k = some I ∧ w = .slice (some ⟨I.blk, o', none⟩) n c' ∧ c ≤ c' ∧ (ex = true → c' = c) ∧ (0 < c → o' = I.off + o) ∧ o' + c' * I.esz ≤ I.size
  | .nilm, w => w = .map none
  | .m k, w => ∃ I, β k = some I ∧ w = .map (some I.blk)
  | .f fn a c, w => ∃ a' c', w = .func (.func fn) a' c' ∧ VRs β a a'.toList ∧ VRs β c c'.toList
  | .ag l, w => ∃ l', w = .agg l' ∧ VRs β l l'.toList
  | .tu l, w => ∃ l', w = .tuple l' ∧ VRs β l l'.toList
def VRs (β : K → Option BI) : List AV → List Value → Prop
  | [], l => l = []
  | a :: as, l => ∃ v vs, l = v :: vs ∧ VR β a v ∧ VRs β as vs
end

def Ext (β β' : K → Option BI) : Prop := ∀ k I, β k = some I → β' k = some I
theorem Ext.refl (β : K → Option BI) : Ext β β := fun _ _ h => h
theorem Ext.trans {a b c : K → Option BI} (h : Ext a b) (g : Ext b c) : Ext a c := fun k I e => g k I (h k I e)

mutual
theorem VR.mono {β β' : K → Option BI} (h : Ext β β') : ∀ (a : AV) (v : Value), VR β a v → VR β' a v
  | .any, _, _ => by simp [VR]
  | .b _, _, g => by simpa [VR] using g
  | .i _ _, _, g => by simpa [VR] using g
  | .str _, _, g => by simpa [VR] using g
  | .nilp, _, g => by simpa [VR] using g
  | .nils, _, g => by simpa [VR] using g
  | .nilm, _, g => by simpa [VR] using g
  | .p k o, _, g => by
    simp only [VR] at g ⊢; obtain ⟨I, e, r⟩ := g; exact ⟨I, h _ _ e, r⟩
  | .sl k o n c ex, _, g => by
    simp only [VR] at g ⊢; obtain ⟨I, o', c', e, r⟩ := g; exact ⟨I, o', c', h _ _ e, r⟩
  | .m k, _, g => by
    simp only [VR] at g ⊢; obtain ⟨I, e, r⟩ := g; exact ⟨I, h _ _ e, r⟩
  | .f fn a c, _, g => by
    simp only [VR] at g ⊢; obtain ⟨a', c', e, r1, r2⟩ := g; exact ⟨a', c', e, VRs.mono h a _ r1, VRs.mono h c _ r2⟩
  | .ag l, _, g => by
    simp only [VR] at g ⊢; obtain ⟨l', e, r⟩ := g; exact ⟨l', e, VRs.mono h l _ r⟩
  | .tu l, _, g => by
    simp only [VR] at g ⊢; obtain ⟨l', e, r⟩ := g; exact ⟨l', e, VRs.mono h l _ r⟩
theorem VRs.mono {β β' : K → Option BI} (h : Ext β β') : ∀ (a : List AV) (v : List Value), VRs β a v → VRs β' a v
  | [], _, g => by simpa [VRs] using g
  | a :: as, _, g => by
    simp only [VRs] at g ⊢; obtain ⟨v, vs, e, r1, r2⟩ := g; exact ⟨v, vs, e, VR.mono h a v r1, VRs.mono h as vs r2⟩
end

theorem VRs.length {β : K → Option BI} : ∀ (a : List AV) (v : List Value), VRs β a v → v.length = a.length
  | [], _, g => by simp only [VRs] at g; simp [g]
  | a :: as, _, g => by
    simp only [VRs] at g; obtain ⟨v, vs, rfl, _, r2⟩ := g; simp [VRs.length as vs r2]

theorem VRs.get {β : K → Option BI} : ∀ (a : List AV) (v : List Value), VRs β a v → ∀ (j : Nat) (x : AV), a[j]? = some x → ∃ y, v[j]? = some y ∧ VR β x y
  | [], _, _, j, x, h => by simp at h
  | a :: as, _, g, j, x, h => by
    simp only [VRs] at g; obtain ⟨v, vs, rfl, r1, r2⟩ := g
    cases j with
    | zero => simp at h; subst h; exact ⟨v, by simp, r1⟩
    | succ j => simp at h; obtain ⟨y, h1, h2⟩ := VRs.get as vs r2 j x h; exact ⟨y, by simpa using h1, h2⟩

theorem VRs.of_get {β : K → Option BI} : ∀ (a : List AV) (v : List Value), v.length = a.length → (∀ (j : Nat) (x : AV), a[j]? = some x → ∃ y, v[j]? = some y ∧ VR β x y) → VRs β a v
  | [], v, hl, _ => by simp only [VRs]; simpa using hl
  | a :: as, [], hl, _ => by simp at hl
  | a :: as, v :: vs, hl, h => by
    simp only [VRs]
    obtain ⟨y, h1, h2⟩ := h 0 a (by simp)
    simp at h1; subst h1
    refine ⟨_, vs, rfl, h2, VRs.of_get as vs (by simpa using hl) fun j x hx => ?_⟩
    obtain ⟨y, h3, h4⟩ := h (j + 1) x (by simpa using hx)
    exact ⟨y, by simpa using h3, h4⟩

theorem VRs.append {β : K → Option BI} : ∀ (a : List AV) (v : List Value) (a' : List AV) (v' : List Value), VRs β a v → VRs β a' v' → VRs β (a ++ a') (v ++ v')
  | [], _, a', v', g, g' => by simp only [VRs] at g; simpa [g] using g'
  | a :: as, _, a', v', g, g' => by
    simp only [VRs] at g; obtain ⟨v, vs, rfl, r1, r2⟩ := g
    simp only [List.cons_append, VRs]
    exact ⟨_, _, rfl, r1, VRs.append as vs a' v' r2 g'⟩

/-- May it stand in one cell? -/
def AV.sc : AV → Bool
  | .any => false
  | .ag _ => false
  | .tu _ => false
  | _ => true

theorem VR.one {β : K → Option BI} {a : AV} {v : Value} (h : VR β a v) (hs : a.sc = true) : v.oneCell' = true := by
  cases a <;> simp [AV.sc] at hs <;> simp only [VR] at h
  case p k o => obtain ⟨I, _, rfl⟩ := h; rfl
  case sl k o n c ex => obtain ⟨I, o', c', _, rfl, _⟩ := h; rfl
  case m k => obtain ⟨I, _, rfl⟩ := h; rfl
  case f fn a c => obtain ⟨a', c', rfl, _⟩ := h; rfl
  all_goals (subst h; rfl)

/-- The cells of a value: what it has in memory. -/
def AV.cells : AV → Option (List AV)
  | .any => none
  | .ag l => some l
  | v => some [v]

theorem VR.cells {β : K → Option BI} {a : AV} {v : Value} {l : List AV} (h : VR β a v) (hs : a.cells = some l) : VRs β l v.cells.toList := by
  cases a <;> simp [AV.cells] at hs <;> subst hs
  case ag l => simp only [VR] at h; obtain ⟨l', rfl, g⟩ := h; simpa [Value.cells] using g
  all_goals
    have hv : v.cells = #[v] := by
      simp only [VR] at h
      first
        | (subst h; rfl)
        | (obtain ⟨I, _, rfl⟩ := h; rfl)
        | (obtain ⟨I, o', c', _, rfl, _⟩ := h; rfl)
        | (obtain ⟨a', c', rfl, _⟩ := h; rfl)
        | (obtain ⟨a', rfl, _⟩ := h; rfl)
    rw [hv]; simp only [VRs]; exact ⟨v, [], rfl, h, rfl⟩

/-- An abstract block. -/
inductive Blk where
  | dead
  | cells (ro : Bool) (el esz : Nat) (c : List AV)
  | map (es : List (AV × AV))

def Blk.live : Blk → Bool
  | .dead => false
  | _ => true

def Blk.rw : Blk → Bool
  | .dead => false
  | .cells ro _ _ _ => !ro
  | .map _ => true

theorem Blk.live_of_rw {b : Blk} (h : b.rw = true) : b.live = true := by cases b <;> simp_all [Blk.rw, Blk.live]

/-- How a live block lies in the heap. -/
def BR (β : K → Option BI) (I : BI) : Blk → Option Obj → Prop
  | .dead, _ => True
  | .cells ro el esz c, o => ∃ C fz, o = some (.cells C el fz) ∧ I.size = C.size ∧ I.esz = esz ∧ (ro = false → fz = (0, 0)) ∧
      ∀ (j : Nat) (a : AV), c[j]? = some a → ∃ v, C[I.off + j]? = some v ∧ VR β a v
  | .map es, o => ∃ E clock, o = some (.map E clock) ∧ E.size = es.length ∧
      ∀ (j : Nat) (a : AV × AV), es[j]? = some a → ∃ e, E[j]? = some e ∧ VR β a.1 e.key ∧ VR β a.2 e.val

theorem BR.mono {β β' : K → Option BI} (h : Ext β β') {I : BI} {b : Blk} {o : Option Obj} (g : BR β I b o) : BR β' I b o := by
  cases b with
  | dead => trivial
  | cells ro el esz c =>
    obtain ⟨C, fz, e1, e2, e3, e4, e5⟩ := g
    exact ⟨C, fz, e1, e2, e3, e4, fun j a ha => let ⟨v, h1, h2⟩ := e5 j a ha; ⟨v, h1, VR.mono h a v h2⟩⟩
  | map es =>
    obtain ⟨E, clock, e1, e2, e3⟩ := g
    exact ⟨E, clock, e1, e2, fun j a ha => let ⟨e, h1, h2, h3⟩ := e3 j a ha; ⟨e, h1, VR.mono h _ _ h2, VR.mono h _ _ h3⟩⟩

/-- How abstract memory lies over a world that began as w0, of which nothing below B has turned. -/
structure Sim (B : Nat) (w0 : World) (β : K → Option BI) (h : T Blk) (w : World) : Prop where
  below : Below B w0 w
  base : B ≤ w.heap.size
  dom : ∀ k I, β k = some I → I.blk < w.heap.size ∧ ∃ b, h.get k = some b
  lies : ∀ k b, h.get k = some b → b.live = true → ∃ I, β k = some I ∧ BR β I b w.heap[I.blk]?
  own : ∀ k b I, h.get k = some b → b.rw = true → β k = some I → B ≤ I.blk
  apart : ∀ k k' b b' I I', k ≠ k' → h.get k = some b → h.get k' = some b' → b.rw = true → b'.live = true → β k = some I → β k' = some I' → I.blk ≠ I'.blk

theorem Sim.congr {B : Nat} {w0 : World} {β : K → Option BI} {h h' : T Blk} {w : World} (s : Sim B w0 β h w) (e : ∀ k, h'.get k = h.get k) : Sim B w0 β h' w :=
  ⟨s.below, s.base, fun k I hk => by rw [e]; exact s.dom k I hk, fun k b hb => by rw [e] at hb; exact s.lies k b hb, fun k b I hb => by rw [e] at hb; exact s.own k b I hb,
   fun k k' b b' I I' hn hb hb' => by rw [e] at hb hb'; exact s.apart k k' b b' I I' hn hb hb'⟩

/-- A draw changes nothing. -/
theorem Sim.drew {B : Nat} {w0 : World} {β : K → Option BI} {h : T Blk} {w : World} (s : Sim B w0 β h w) (n : Nat) : Sim B w0 β h { w with drawn := n } :=
  ⟨⟨s.below.os, s.below.tape, s.below.output, s.below.size, s.below.block⟩, s.base, s.dom, s.lies, s.own, s.apart⟩

def upd (β : K → Option BI) (k : K) (I : BI) : K → Option BI := fun q => if q = k then some I else β q

theorem Sim.fresh {B : Nat} {w0 : World} {β : K → Option BI} {h : T Blk} {w : World} (s : Sim B w0 β h w) {k : K} (hk : h.get k = none) : β k = none := by
  cases e : β k with
  | none => rfl
  | some I => obtain ⟨_, b, hb⟩ := s.dom k I e; rw [hk] at hb; cases hb

theorem ext_upd {β : K → Option BI} {k : K} {I : BI} (h : β k = none) : Ext β (upd β k I) := fun q J e => by
  unfold upd; split
  · next hq => subst hq; rw [h] at e; cases e
  · exact e

theorem heap_alloc_new {w : World} {o : Obj} {k : Nat} (h : k = w.heap.size) : (w.alloc o).heap[k]? = some o := by
  subst h; show (w.heap.push o)[w.heap.size]? = _; simp

/-- A new block at the heap's end. -/
theorem Sim.new {B : Nat} {w0 : World} {β : K → Option BI} {h : T Blk} {w : World} (s : Sim B w0 β h w) {k : K} (hk : h.get k = none) {b : Blk} {o : Obj} {I : BI}
    (hI : I.blk = w.heap.size) (hb : BR (upd β k I) I b (some o)) : Sim B w0 (upd β k I) (h.ins b k) (w.alloc o) ∧ Ext β (upd β k I) := by
  have hx : Ext β (upd β k I) := ext_upd (s.fresh hk)
  refine ⟨⟨s.below.alloc s.base o, by simp; have := s.base; omega, ?_, ?_, ?_, ?_⟩, hx⟩
  · intro q J hq
    rw [T.get_ins]
    unfold upd at hq
    split at hq
    · next e => cases hq; simp [e, hI]
    · next e => obtain ⟨h1, h2⟩ := s.dom q J hq; rw [if_neg e]; exact ⟨by simp; omega, h2⟩
  · intro q c hq hc
    rw [T.get_ins] at hq
    split at hq
    · next e => cases hq; subst e; exact ⟨I, by simp [upd], by rw [heap_alloc_new hI]; exact hb⟩
    · next e =>
      obtain ⟨J, h1, h2⟩ := s.lies q c hq hc
      refine ⟨J, hx _ _ h1, ?_⟩
      have hlt := (s.dom q J h1).1
      have : (w.alloc o).heap[J.blk]? = w.heap[J.blk]? := by simp only [World.alloc, Array.getElem?_push]; rw [if_neg (by omega)]
      rw [this]; exact h2.mono hx
  · intro q c J hq hc hJ
    rw [T.get_ins] at hq
    unfold upd at hJ
    split at hq
    · next e => rw [if_pos e] at hJ; cases hJ; rw [hI]; exact s.base
    · next e => rw [if_neg e] at hJ; exact s.own q c J hq hc hJ
  · intro q q' c c' J J' hne hq hq' hc hc' hJ hJ'
    rw [T.get_ins] at hq hq'
    unfold upd at hJ hJ'
    split at hq
    · next e =>
      rw [if_pos e] at hJ; cases hJ
      split at hq'
      · next e' => exact absurd (e.trans e'.symm) hne
      · next e' => rw [if_neg e'] at hJ'; have := (s.dom q' J' hJ').1; omega
    · next e =>
      rw [if_neg e] at hJ
      split at hq'
      · next e' => rw [if_pos e'] at hJ'; cases hJ'; have := (s.dom q J hJ).1; omega
      · next e' => rw [if_neg e'] at hJ'; exact s.apart q q' c c' J J' hne hq hq' hc hc' hJ hJ'

/-- A block is written in place: the world's block is another one of the same make. -/
theorem Sim.put {B : Nat} {w0 : World} {β : K → Option BI} {h : T Blk} {w w' : World} (s : Sim B w0 β h w) {k : K} {b b' : Blk} {I : BI} (hk : h.get k = some b) (hrw : b.rw = true) (hI : β k = some I)
    (hw : Below w.heap.size w w' ∨ (w'.os = w.os ∧ w'.tape = w.tape ∧ w'.output = w.output ∧ w'.heap.size = w.heap.size ∧ ∀ j, j ≠ I.blk → w'.heap[j]? = w.heap[j]?))
    (hb : BR β I b' w'.heap[I.blk]?) : Sim B w0 β (h.ins b' k) w' := by
  have hB := s.own k b I hk hrw hI
  have hdom := (s.dom k I hI).1
  have hsz : w.heap.size ≤ w'.heap.size := by rcases hw with hw | hw; exact hw.size; omega
  have hoth : ∀ j, j < w.heap.size → j ≠ I.blk → w'.heap[j]? = w.heap[j]? := by
    intro j hj hn; rcases hw with hw | hw
    · exact hw.block j hj
    · exact hw.2.2.2.2 j hn
  have hbelow : Below B w w' := by
    rcases hw with hw | hw
    · exact hw.mono s.base
    · exact ⟨hw.1, hw.2.1, hw.2.2.1, hsz, fun j hj => hw.2.2.2.2 j (by omega)⟩
  refine ⟨s.below.trans hbelow, by have := s.base; omega, ?_, ?_, ?_, ?_⟩
  · intro q J hq
    obtain ⟨h1, c, h2⟩ := s.dom q J hq
    refine ⟨by omega, ?_⟩
    rw [T.get_ins]; split
    · exact ⟨_, rfl⟩
    · exact ⟨c, h2⟩
  · intro q c hq hc
    rw [T.get_ins] at hq
    split at hq
    · next e => cases hq; subst e; exact ⟨I, hI, hb⟩
    · next e =>
      obtain ⟨J, h1, h2⟩ := s.lies q c hq hc
      have hap := s.apart k q b c I J (fun x => e x.symm) hk hq hrw hc hI h1
      refine ⟨J, h1, ?_⟩
      rw [hoth J.blk (s.dom q J h1).1 (fun x => hap x.symm)]; exact h2
  · intro q c J hq hc hJ
    rw [T.get_ins] at hq
    split at hq
    · next e => cases hq; subst e; rw [hI] at hJ; cases hJ; exact hB
    · next e => exact s.own q c J hq hc hJ
  · intro q q' c c' J J' hne hq hq' hc hc' hJ hJ'
    rw [T.get_ins] at hq hq'
    split at hq
    · next e =>
      cases hq; subst e; rw [hI] at hJ; cases hJ
      split at hq'
      · next e' => exact absurd e'.symm hne
      · next e' => exact s.apart q q' b c' I J' hne hk hq' hrw hc' hI hJ'
    · next e =>
      split at hq'
      · next e' =>
        cases hq'; subst e'; rw [hI] at hJ'; cases hJ'
        exact s.apart q q' c b J I hne hq hk hc (Blk.live_of_rw hrw) hJ hI
      · next e' => exact s.apart q q' c c' J J' hne hq hq' hc hc' hJ hJ'

end Go.Ax
