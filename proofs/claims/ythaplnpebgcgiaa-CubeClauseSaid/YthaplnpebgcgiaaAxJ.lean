/- AX, part J: what a computation hangs on. -/
import Derived.Test.YthaplnpebgcgiaaAxI
namespace Go.Ax
open Go.RowKit (Below)

/-- A computation over abstract memory: what it leaves, and which keys it touched. -/
abbrev M (α : Type) := T Blk → K → Log → Option (R α)

def M.bind {α γ : Type} (x : M α) (f : α → M γ) : M γ := fun h n lg => match x h n lg with
  | some r => f r.a r.h r.n r.lg
  | none => none

/-- It hangs on what it logs alone, and turns nothing but what it logs as written. -/
def Loc {α : Type} (x : M α) : Prop := ∀ h n lg r, x h n lg = some r → ∃ L, r.lg = L ++ lg ∧ (∀ k, (k, true) ∉ L → r.h.get k = h.get k) ∧
  ∀ h2 lg2, (∀ k b, (k, b) ∈ L → h2.get k = h.get k) → ∃ h2', x h2 n lg2 = some ⟨r.a, h2', r.n, L ++ lg2⟩ ∧ (∀ k, (k, true) ∈ L → h2'.get k = r.h.get k) ∧ (∀ k, (k, true) ∉ L → h2'.get k = h2.get k)

theorem Loc.ret {α : Type} (a : α) : Loc (fun h n lg => some ⟨a, h, n, lg⟩ : M α) := by
  intro h n lg r e
  cases e
  exact ⟨[], rfl, fun _ _ => rfl, fun h2 lg2 _ => ⟨h2, rfl, fun k hk => by simp at hk, fun _ _ => rfl⟩⟩

theorem Loc.fail {α : Type} : Loc (fun _ _ _ => none : M α) := by intro h n lg r e; cases e

theorem Loc.bind {α γ : Type} {x : M α} {f : α → M γ} (hx : Loc x) (hf : ∀ a, Loc (f a)) : Loc (x.bind f) := by
  intro h n lg r e
  unfold M.bind at e
  cases e1 : x h n lg with
  | none => rw [e1] at e; cases e
  | some r1 =>
    rw [e1] at e
    simp only at e
    obtain ⟨L1, a1, b1, c1⟩ := hx h n lg r1 e1
    obtain ⟨L2, a2, b2, c2⟩ := hf r1.a r1.h r1.n r1.lg r e
    refine ⟨L2 ++ L1, by rw [a2, a1, List.append_assoc], fun k hk => ?_, fun h2 lg2 hh => ?_⟩
    · simp only [List.mem_append, not_or] at hk
      rw [b2 k hk.1, b1 k hk.2]
    · obtain ⟨h3, d1, d2, d3⟩ := c1 h2 lg2 (fun k b hk => hh k b (by simp [hk]))
      have hag : ∀ k b, (k, b) ∈ L2 → h3.get k = r1.h.get k := by
        intro k b hk
        by_cases hw : (k, true) ∈ L1
        · exact d2 k hw
        · rw [d3 k hw, hh k b (by simp [hk]), b1 k hw]
      obtain ⟨h4, q1, q2, q3⟩ := c2 h3 (L1 ++ lg2) hag
      refine ⟨h4, ?_, fun k hk => ?_, fun k hk => ?_⟩
      · unfold M.bind; rw [d1]; simp only; rw [q1, List.append_assoc]
      · by_cases hw : (k, true) ∈ L2
        · exact q2 k hw
        · rw [q3 k hw]
          have : (k, true) ∈ L1 := by simpa [hw] using hk
          rw [d2 k this, b2 k hw]
      · simp only [List.mem_append, not_or] at hk
        rw [q3 k hk.1, d3 k hk.2]

theorem Loc.run {α : Type} : ∀ (x : AM α), Loc (fun h n lg => x.run h n lg)
  | .ret a => Loc.ret a
  | .fail => Loc.fail
  | .get k f => by
    intro h n lg r e
    simp only [AM.run_get] at e
    obtain ⟨y, hy, hl, e⟩ := e
    obtain ⟨L, a1, b1, c1⟩ := Loc.run (f y) h n ((k, false) :: lg) r e
    refine ⟨L ++ [(k, false)], by rw [a1]; simp, fun q hq => b1 q (fun x => hq (by simp [x])), fun h2 lg2 hh => ?_⟩
    obtain ⟨h3, d1, d2, d3⟩ := c1 h2 ((k, false) :: lg2) (fun q b hq => hh q b (by simp [hq]))
    refine ⟨h3, ?_, fun q hq => d2 q (by simpa using hq), fun q hq => d3 q (fun x => hq (by simp [x]))⟩
    simp only [AM.run_get]
    exact ⟨y, by rw [hh k false (by simp), hy], hl, by simpa using d1⟩
  | .put k y x => by
    intro h n lg r e
    simp only [AM.run_put] at e
    obtain ⟨z, hz, hrw, e⟩ := e
    obtain ⟨L, a1, b1, c1⟩ := Loc.run x (h.ins y k) n ((k, true) :: lg) r e
    refine ⟨L ++ [(k, true)], by rw [a1]; simp, fun q hq => ?_, fun h2 lg2 hh => ?_⟩
    · simp only [List.mem_append, List.mem_singleton, Prod.mk.injEq, and_true, not_or] at hq
      rw [b1 q hq.1, T.get_ins, if_neg hq.2]
    · obtain ⟨h3, d1, d2, d3⟩ := c1 (h2.ins y k) ((k, true) :: lg2) (fun q b hq => by
        simp only [T.get_ins]; split
        · rfl
        · exact hh q b (by simp [hq]))
      refine ⟨h3, ?_, fun q hq => ?_, fun q hq => ?_⟩
      · simp only [AM.run_put]
        exact ⟨z, by rw [hh k true (by simp), hz], hrw, by simpa using d1⟩
      · by_cases hw : (q, true) ∈ L
        · exact d2 q hw
        · have hqk : q = k := by simpa [hw] using hq
          rw [d3 q hw, b1 q hw, T.get_ins, T.get_ins, if_pos hqk, if_pos hqk]
      · simp only [List.mem_append, List.mem_singleton, Prod.mk.injEq, and_true, not_or] at hq
        rw [d3 q hq.1, T.get_ins, if_neg hq.2]
  | .new y f => by
    intro h n lg r e
    simp only [AM.run_new] at e
    obtain ⟨hz, e⟩ := e
    obtain ⟨L, a1, b1, c1⟩ := Loc.run (f n) (h.ins y n) (kinc n) ((n, true) :: lg) r e
    refine ⟨L ++ [(n, true)], by rw [a1]; simp, fun q hq => ?_, fun h2 lg2 hh => ?_⟩
    · simp only [List.mem_append, List.mem_singleton, Prod.mk.injEq, and_true, not_or] at hq
      rw [b1 q hq.1, T.get_ins, if_neg hq.2]
    · obtain ⟨h3, d1, d2, d3⟩ := c1 (h2.ins y n) ((n, true) :: lg2) (fun q b hq => by
        simp only [T.get_ins]; split
        · rfl
        · exact hh q b (by simp [hq]))
      refine ⟨h3, ?_, fun q hq => ?_, fun q hq => ?_⟩
      · simp only [AM.run_new]
        exact ⟨by rw [hh n true (by simp), hz], by simpa using d1⟩
      · by_cases hw : (q, true) ∈ L
        · exact d2 q hw
        · have hqk : q = n := by simpa [hw] using hq
          rw [d3 q hw, b1 q hw, T.get_ins, T.get_ins, if_pos hqk, if_pos hqk]
      · simp only [List.mem_append, List.mem_singleton, Prod.mk.injEq, and_true, not_or] at hq
        rw [d3 q hq.1, T.get_ins, if_neg hq.2]

/- Which slots an operation looks at. -/

def usO : AO → List K
  | .t k => [k]
  | _ => []
def usOs : List AO → List K
  | [] => []
  | o :: os => usO o ++ usOs os
def usP : List (Nat × Nat × AO) → List K
  | [] => []
  | (_, _, o) :: os => usO o ++ usP os
def usOO : Option AO → List K
  | none => []
  | some o => usO o

def AI.us : AI → List K
  | .mv x => usO x
  | .pick c x y => usO c ++ (usO x ++ usO y)
  | .new _ _ => []
  | .box _ x => usO x
  | .build _ ps => usP ps
  | .bsl _ _ _ _ ps => usP ps
  | .load _ x => usO x
  | .store _ x y => usO x ++ usO y
  | .nilc x => usO x
  | .bin _ _ x y => usO x ++ usO y
  | .un _ x => usO x
  | .conv _ x => usO x
  | .mkf _ xs ys => usOs xs ++ usOs ys
  | .mkm => []
  | .mks _ _ _ x y => usO x ++ usO y
  | .slice _ x lo hi mx => usO x ++ (usOO lo ++ (usOO hi ++ usOO mx))
  | .fa _ x => usO x
  | .fld _ _ x => usO x
  | .ia _ _ x y => usO x ++ usO y
  | .idx _ _ _ x y => usO x ++ usO y
  | .stab _ y => usO y
  | .look _ _ x y => usO x ++ usO y
  | .mup x y z => usO x ++ (usO y ++ usO z)
  | .ext _ x => usO x
  | .len _ x => usO x
  | .mm _ xs => usOs xs
  | .app _ _ x y => usO x ++ usO y
  | .appz _ _ _ x y => usO x ++ usO y
  | .copy _ x y => usO x ++ usO y
  | .clear _ _ x => usO x
  | .call f xs => usO f ++ usOs xs

def Agree (tm tm' : T AV) (l : List K) : Prop := ∀ k ∈ l, tm.get k = tm'.get k

theorem Agree.left {tm tm' : T AV} {a b : List K} (h : Agree tm tm' (a ++ b)) : Agree tm tm' a := fun k hk => h k (by simp [hk])
theorem Agree.right {tm tm' : T AV} {a b : List K} (h : Agree tm tm' (a ++ b)) : Agree tm tm' b := fun k hk => h k (by simp [hk])

theorem ev_agree {tm tm' : T AV} {o : AO} (h : Agree tm tm' (usO o)) : ev tm o = ev tm' o := by
  cases o with
  | t k => simp only [ev, h k (by simp [usO])]
  | c v => rfl
  | fn f => rfl
theorem evs_agree {tm tm' : T AV} : ∀ {os : List AO}, Agree tm tm' (usOs os) → evs tm os = evs tm' os
  | [], _ => rfl
  | o :: os, h => by simp only [evs]; rw [ev_agree h.left, evs_agree h.right]
theorem evo_agree {tm tm' : T AV} {o : Option AO} (h : Agree tm tm' (usOO o)) : evo tm o = evo tm' o := by
  cases o with
  | none => rfl
  | some o => simp only [evo]; rw [ev_agree h]
theorem bfill_agree {tm tm' : T AV} : ∀ {ps : List (Nat × Nat × AO)} {cs : List AV}, Agree tm tm' (usP ps) → bfill tm cs ps = bfill tm' cs ps
  | [], _, _ => rfl
  | (o, sz, x) :: ps, cs, h => by
    simp only [bfill, ev_agree h.left]
    split
    · split
      · exact bfill_agree h.right
      · rfl
    · rfl

theorem ex_agree {tm tm' : T AV} : ∀ {i : AI}, Agree tm tm' i.us → i.ex tm = i.ex tm'
  | .mv x, h => by simp only [AI.ex, ev_agree h]
  | .pick c x y, h => by simp only [AI.ex, ev_agree h.left, ev_agree h.right.left, ev_agree h.right.right]
  | .new _ _, _ => rfl
  | .box _ x, h => by simp only [AI.ex, ev_agree h]
  | .build _ ps, h => by simp only [AI.ex, exBuild, bfill_agree h]
  | .bsl _ _ _ _ ps, h => by simp only [AI.ex, exBsl, bfill_agree h]
  | .load _ x, h => by simp only [AI.ex, ev_agree h]
  | .store _ x y, h => by simp only [AI.ex, ev_agree h.left, ev_agree h.right]
  | .nilc x, h => by simp only [AI.ex, ev_agree h]
  | .bin _ _ x y, h => by simp only [AI.ex, ev_agree h.left, ev_agree h.right]
  | .un _ x, h => by simp only [AI.ex, ev_agree h]
  | .conv _ x, h => by simp only [AI.ex, ev_agree h]
  | .mkf _ xs ys, h => by simp only [AI.ex, evs_agree h.left, evs_agree h.right]
  | .mkm, _ => rfl
  | .mks _ _ _ x y, h => by simp only [AI.ex, ev_agree h.left, ev_agree h.right]
  | .slice _ x lo hi mx, h => by simp only [AI.ex, ev_agree h.left, evo_agree h.right.left, evo_agree h.right.right.left, evo_agree h.right.right.right]
  | .fa _ x, h => by simp only [AI.ex, ev_agree h]
  | .fld _ _ x, h => by simp only [AI.ex, ev_agree h]
  | .ia _ _ x y, h => by simp only [AI.ex, ev_agree h.left, ev_agree h.right]
  | .idx _ _ _ x y, h => by simp only [AI.ex, ev_agree h.left, ev_agree h.right]
  | .stab _ y, h => by simp only [AI.ex, ev_agree h]
  | .look _ _ x y, h => by simp only [AI.ex, ev_agree h.left, ev_agree h.right]
  | .mup x y z, h => by simp only [AI.ex, ev_agree h.left, ev_agree h.right.left, ev_agree h.right.right]
  | .ext _ x, h => by simp only [AI.ex, ev_agree h]
  | .len _ x, h => by simp only [AI.ex, ev_agree h]
  | .mm _ xs, h => by simp only [AI.ex, evs_agree h]
  | .app _ _ x y, h => by simp only [AI.ex, ev_agree h.left, ev_agree h.right]
  | .appz _ _ _ x y, h => by simp only [AI.ex, ev_agree h.left, ev_agree h.right]
  | .copy _ x y, h => by simp only [AI.ex, ev_agree h.left, ev_agree h.right]
  | .clear _ _ x, h => by simp only [AI.ex, ev_agree h]
  | .call f xs, h => by simp only [AI.ex, ev_agree h.left, evs_agree h.right]

/-- An operation, with where its value goes, and when it runs. -/
structure GI where
  tag : Nat
  dst : Option K
  guard : Option (K × Bool)
  i : AI

def wantA (tm : T AV) : Option (K × Bool) → Option Bool
  | none => some true
  | some (k, want) => match tm.get k with
    | some (.b v) => some (v == want)
    | some (.tu []) => some false
    | _ => none

def putA (tm : T AV) (d : Option K) (a : AV) : T AV := match d with
  | some k => tm.ins a k
  | none => tm

def GI.us (g : GI) : List K := (match g.guard with | some (k, _) => [k] | none => []) ++ g.i.us

theorem want_agree {tm tm' : T AV} {g : GI} (h : Agree tm tm' g.us) : wantA tm g.guard = wantA tm' g.guard := by
  unfold GI.us at h
  cases hg : g.guard with
  | none => rfl
  | some p => obtain ⟨k, b⟩ := p; simp only [wantA]; rw [h k (by simp [hg])]

def chkDst (nt : Nat) : Option Tmp → Option K → Bool
  | none, none => true
  | some d, some k => kval k == d && Nat.blt d nt
  | _, _ => false

def chkGd (ops : Array Oper) : Option (Nat × Bool) → Option (K × Bool) → Bool
  | none, none => true
  | some (j, b), some (k, b') => b == b' && (match (ops[j]?).bind (·.dst) with | some d => kval k == d | none => false)
  | _, _ => false

def chkGI (P : Program) (nt : Nat) (ops : Array Oper) (o : Oper) (g : GI) : Bool := chkDst nt o.dst g.dst && chkGd ops o.guard g.guard && chkOp P o.op g.i

section
variable {P : Program} {B : Nat} {w0 : World} {β : K → Option BI}

theorem want_sound {nt : Nat} {ops : Array Oper} {o : Oper} {g : GI} (c : chkGI P nt ops o g = true) {tm : T AV} {t : Array Value} (gt : TR β tm t) {b : Bool} (h : wantA tm g.guard = some b) : Region.wanted o (yielded ops t) = b := by
  unfold chkGI at c
  simp only [Bool.and_eq_true] at c
  have c := c.1.2
  unfold Region.wanted
  cases hg : o.guard with
  | none =>
    rw [hg] at c
    cases hq : g.guard with
    | none => rw [hq] at h; simp only [wantA, Option.some.injEq] at h; exact h
    | some p => rw [hq] at c; simp [chkGd] at c
  | some p =>
    obtain ⟨j, want⟩ := p
    rw [hg] at c
    cases hq : g.guard with
    | none => rw [hq] at c; simp [chkGd] at c
    | some q =>
      obtain ⟨k, want'⟩ := q
      rw [hq] at c h
      simp only [chkGd, Bool.and_eq_true, beq_iff_eq] at c
      obtain ⟨rfl, c⟩ := c
      cases hd : (ops[j]?).bind (·.dst) with
      | none => rw [hd] at c; simp at c
      | some d =>
        rw [hd] at c
        simp only [beq_iff_eq] at c
        subst c
        simp only [wantA] at h
        split at h
        · next v hv =>
          have := gt k _ hv
          simp only [VR] at this
          have hy : yielded ops t j = some v := by
            unfold yielded
            rw [hd]
            simp only [Option.bind_some]
            have : t[kval k]? = some (.bool v) := by
              rw [Array.getD_eq_getD_getElem?] at this
              cases e : t[kval k]? with
              | none => rw [e] at this; cases this
              | some u => rw [e] at this; simp at this; rw [this]
            rw [this]
          show (yielded ops t j == some want) = b
          rw [hy]
          simp only [Option.some.injEq] at h
          rw [← h]
          cases v <;> cases want <;> rfl
        · next hv =>
          have := gt k _ hv
          simp only [VR, VRs] at this
          obtain ⟨l', e1, e2⟩ := this
          have hy : yielded ops t j = none := by
            unfold yielded
            rw [hd]
            simp only [Option.bind_some]
            rw [Array.getD_eq_getD_getElem?] at e1
            cases e : t[kval k]? with
            | none => rfl
            | some u => rw [e] at e1; simp at e1; rw [e1]
          show (yielded ops t j == some want) = b
          rw [hy]
          simp only [Option.some.injEq] at h
          rw [← h]
          cases want <;> rfl
        · cases h

theorem put_sound {nt : Nat} {ops : Array Oper} {o : Oper} {g : GI} (c : chkGI P nt ops o g = true) {tm : T AV} {a : Act} (gt : TR β tm a.tmps) (hn : nt ≤ a.tmps.size) {v : AV} {u : Value} (hv : VR β v u) : TR β (putA tm g.dst v) (a.put o.dst u).tmps ∧ (a.put o.dst u).tmps.size = a.tmps.size ∧ (a.put o.dst u).defers = a.defers := by
  unfold chkGI at c
  simp only [Bool.and_eq_true] at c
  have c := c.1.1
  cases ho : o.dst with
  | none =>
    rw [ho] at c
    cases hg : g.dst with
    | none => exact ⟨gt, rfl, rfl⟩
    | some k => rw [hg] at c; simp [chkDst] at c
  | some d =>
    rw [ho] at c
    cases hg : g.dst with
    | none => rw [hg] at c; simp [chkDst] at c
    | some k =>
      rw [hg] at c
      simp only [chkDst, Bool.and_eq_true, beq_iff_eq] at c
      obtain ⟨rfl, c⟩ := c
      have c : kval k < nt := Nat.le_of_ble_eq_true c
      refine ⟨gt.set (by omega) hv, by simp [Act.put], rfl⟩

end
end Go.Ax
