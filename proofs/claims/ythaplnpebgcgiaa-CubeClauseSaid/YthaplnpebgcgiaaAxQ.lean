/- AX, part Q: tables of functions. -/
import Derived.Test.YthaplnpebgcgiaaAxP
namespace Go.Ax
open Go.RowKit (Below)

inductive FT where
  | leaf
  | node (f : Nat) (a : AFn) (l r : FT)

def FT.get : FT → Nat → Option AFn
  | .leaf, _ => none
  | .node f a l r, g => match Nat.beq g f with
    | true => some a
    | false => match Nat.blt g f with
      | true => l.get g
      | false => r.get g

def chkF (P : Program) (f : Nat) (af : AFn) : Bool := match P.funcs[f]? with
  | some fn => match fn.body with
    | some c => !(fn.name == "runtime.NumGoroutine") && af.nt == fn.ntmps && chkC P af.nt af.body c && chkRes P fn.results.toList af.res
    | none => false
  | none => false

inductive FT.OK (P : Program) : FT → Prop
  | leaf : FT.OK P .leaf
  | node {f : Nat} {a : AFn} {l r : FT} (h : chkF P f a = true) (hl : FT.OK P l) (hr : FT.OK P r) : FT.OK P (.node f a l r)

theorem FT.OK.ftok {P : Program} {t : FT} (h : FT.OK P t) : FTok P t.get := by
  intro f af e
  induction h with
  | leaf => simp [FT.get] at e
  | @node g a l r hc _ _ ihl ihr =>
    simp only [FT.get] at e
    split at e
    · next hb =>
      cases e
      have := Nat.eq_of_beq_eq_true hb
      subst this
      unfold chkF at hc
      split at hc
      · next fn h1 =>
        split at hc
        · next c h2 =>
          simp only [Bool.and_eq_true, Bool.not_eq_true', beq_iff_eq] at hc
          exact ⟨fn, c, h1, h2, hc.1.1.1, hc.1.1.2, hc.1.2, hc.2⟩
        · cases hc
      · cases hc
    · split at e
      · exact ihl e
      · exact ihr e

end Go.Ax
