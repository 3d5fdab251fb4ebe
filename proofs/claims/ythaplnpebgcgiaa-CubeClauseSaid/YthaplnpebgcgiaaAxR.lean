/- AX, part R: a run in pieces. -/
import Derived.Test.YthaplnpebgcgiaaAxQ
namespace Go.Ax
open Go.RowKit (Below)

/-- What is not kept is dead. -/
def prune : T Unit → T Blk → T Blk
  | _, .leaf => .leaf
  | .leaf, .node l v r => .node (prune .leaf l) (match v with | some _ => some .dead | none => none) (prune .leaf r)
  | .node ml mv mr, .node l v r => .node (prune ml l) (match mv with | some _ => v | none => match v with | some _ => some .dead | none => none) (prune mr r)

theorem prune_get : ∀ (m : T Unit) (h : T Blk) (k : K), (prune m h).get k = h.get k ∨ ((prune m h).get k = some .dead ∧ ∃ b, h.get k = some b)
  | m, .leaf, k => .inl (by cases m <;> simp [prune])
  | .leaf, .node l v r, [] => by
    simp only [prune, T.get]
    cases v with
    | none => exact .inl rfl
    | some b => exact .inr ⟨rfl, b, rfl⟩
  | .node ml mv mr, .node l v r, [] => by
    simp only [prune, T.get]
    cases mv with
    | some _ => exact .inl rfl
    | none =>
      cases v with
      | none => exact .inl rfl
      | some b => exact .inr ⟨rfl, b, rfl⟩
  | .leaf, .node l v r, false :: k => by simp only [prune, T.get]; exact prune_get .leaf l k
  | .leaf, .node l v r, true :: k => by simp only [prune, T.get]; exact prune_get .leaf r k
  | .node ml mv mr, .node l v r, false :: k => by simp only [prune, T.get]; exact prune_get ml l k
  | .node ml mv mr, .node l v r, true :: k => by simp only [prune, T.get]; exact prune_get mr r k

theorem prune_live {m : T Unit} {h : T Blk} {k : K} {b : Blk} (e : (prune m h).get k = some b) (hl : b.live = true) : h.get k = some b := by
  rcases prune_get m h k with x | ⟨x, _⟩
  · rw [← x]; exact e
  · rw [x] at e; cases e; cases hl

theorem Sim.prune {B : Nat} {w0 : World} {β : K → Option BI} {h : T Blk} {w : World} (s : Sim B w0 β h w) (m : T Unit) : Sim B w0 β (Ax.prune m h) w := by
  refine ⟨s.below, s.base, fun k I hk => ⟨(s.dom k I hk).1, ?_⟩, fun k b hb hl => s.lies k b (prune_live hb hl) hl, fun k b I hb hr => s.own k b I (prune_live hb (Blk.live_of_rw hr)) hr,
    fun k k' b b' I I' hn hb hb' hr hl => s.apart k k' b b' I I' hn (prune_live hb (Blk.live_of_rw hr)) (prune_live hb' hl) hr hl⟩
  obtain ⟨b, hb⟩ := (s.dom k I hk).2
  rcases prune_get m h k with x | ⟨x, _⟩
  · exact ⟨b, x.trans hb⟩
  · exact ⟨_, x⟩

theorem Leads.prune {P : Program} {s : St} {c : Ctl} {h : T Blk} {n : K} (g : Leads P s ⟨c, h, n⟩) (m : T Unit) : Leads P s ⟨c, Ax.prune m h, n⟩ := by
  intro B w0 β w cf ccs base fr cs hs sm gf gs
  obtain ⟨w', β', x1, x2, x3⟩ := g B w0 β w cf ccs base fr cs hs sm gf gs
  exact ⟨w', β', x1, x2.prune m, x3⟩

/-- A piece of a run. -/
def goP (call : CallF) (F : FnT) (m : T Unit) (q : Nat) (s : St) : Option St := match goO call F q s with
  | some s => some ⟨s.c, prune m s.h, s.n⟩
  | none => none

theorem Leads.of_piece {P : Program} {F : FnT} (ft : FTok P F) (hm : P.follows .mixedOrders = true) {N d q : Nat} {m : T Unit} {s s' : St} (e : goP (callN F N d) F m q s = some s') : Leads P s s' := by
  unfold goP at e
  cases h : goO (callN F N d) F q s with
  | none => simp [h] at e
  | some x =>
    simp only [h, Option.some.injEq] at e
    subst e
    exact Leads.prune (c := x.c) (h := x.h) (n := x.n) (Leads.of_go ft hm h) m

end Go.Ax
