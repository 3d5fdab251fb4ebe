/- AX, part M: the machine. -/
import Derived.Test.YthaplnpebgcgiaaAxL
namespace Go.Ax
open Go.RowKit (Below)

/-- Code. -/
inductive AC where
  | skip
  | label
  | ret
  | exit (id : Nat)
  | seq (a b : AC)
  | cond (c : AO) (a b : AC)
  | blk (id : Nat) (a : AC)
  | loop (a : AC)
  | scope (a : AC)
  | reg (ops : List GI)
  | drw (ops : List GI) (bs : List Nat)

inductive AIt where
  | c (a : AC)
  | blk (id : Nat)
  | lp (a : AC)
  | sc
  | ops (l : List GI)

structure AFr where
  fn : Nat
  nt : Nat
  tm : T AV
  todo : List AIt

/-- Where a result lies. -/
inductive RV where
  | t (k : K)
  | cell (k : K) (n : Option Nat)

structure AFn where
  nt : Nat
  res : List RV
  body : AC

inductive Ctl where
  | run (fr : AFr) (cs : List AFr)
  | done (v : AV)

def exitA (id : Nat) : List AIt → Option (List AIt)
  | [] => none
  | .blk j :: k => match Nat.beq j id with
    | true => some k
    | false => exitA id k
  | _ :: k => exitA id k

/-- A variable's value, handed on. -/
def ldc {α : Type} (n : Option Nat) (v : AV) (f : AV → AM α) : AM α := match v with
  | .p k o => .get k fun y => match y with
    | .cells _ _ _ c => match n with
      | none => match nth c o with
        | some v => f v
        | none => .fail
      | some n => match sub c o n with
        | some l => f (.ag l)
        | none => .fail
    | _ => .fail
  | _ => .fail

def resA (tm : T AV) : List RV → (List AV → AM AV) → AM AV
  | [], f => f []
  | .t k :: r, f => resA tm r fun l => f (ev tm (.t k) :: l)
  | .cell k n :: r, f => ldc n (ev tm (.t k)) fun a => resA tm r fun l => f (a :: l)

def resV (l : List AV) : AM AV := match l with
  | [a] => .ret a
  | l => .ret (.tu l)

/-- Slots of arguments. -/
def args0 : K → List AV → T AV → T AV
  | _, [], t => t
  | k, a :: l, t => args0 (kinc k) l (t.ins a k)

abbrev FnT := Nat → Option AFn

def stepA (call : CallF) (F : FnT) (c : Ctl) : M Ctl := match c with
  | .done v => fun h n lg => some ⟨.done v, h, n, lg⟩
  | .run fr cs =>
    let to (k : List AIt) : M Ctl := fun h n lg => some ⟨.run ⟨fr.fn, fr.nt, fr.tm, k⟩ cs, h, n, lg⟩
    let leave : M Ctl := match F fr.fn with
      | none => fun _ _ _ => none
      | some af => M.bind (fun h n lg => (resA fr.tm af.res resV).run h n lg) fun v => match cs with
        | [] => fun h n lg => some ⟨.done v, h, n, lg⟩
        | d :: ds => match d.todo with
          | .ops (g :: r) :: k => fun h n lg => some ⟨.run ⟨d.fn, d.nt, putA d.tm g.dst v, .ops r :: k⟩ ds, h, n, lg⟩
          | _ => fun _ _ _ => none
    match fr.todo with
    | [] => leave
    | .blk _ :: k => to k
    | .sc :: k => to k
    | .lp a :: k => to (.c a :: .lp a :: k)
    | .ops l :: k => match l with
      | [] => to k
      | g :: r => match wantA fr.tm g.guard with
        | none => fun _ _ _ => none
        | some false => fun h n lg => some ⟨.run ⟨fr.fn, fr.nt, putA fr.tm g.dst (.tu []), .ops r :: k⟩ cs, h, n, lg⟩
        | some true => M.bind (fun h n lg => (g.i.ex fr.tm).run h n lg) fun q => match q with
          | .v a => fun h n lg => some ⟨.run ⟨fr.fn, fr.nt, putA fr.tm g.dst a, .ops r :: k⟩ cs, h, n, lg⟩
          | .skip => fun h n lg => some ⟨.run ⟨fr.fn, fr.nt, putA fr.tm g.dst (.tu []), .ops r :: k⟩ cs, h, n, lg⟩
          | .call f args => match F f with
            | none => fun _ _ _ => none
            | some af => fun h n lg => some ⟨.run ⟨f, af.nt, args0 [] args .leaf, [.c af.body]⟩ (fr :: cs), h, n, lg⟩
    | .c a :: k => match a with
      | .skip => to k
      | .label => to k
      | .ret => leave
      | .exit id => match exitA id k with
        | some k' => to k'
        | none => fun _ _ _ => none
      | .seq a b => to (.c a :: .c b :: k)
      | .cond c a b => match ev fr.tm c with
        | .b true => to (.c a :: k)
        | .b false => to (.c b :: k)
        | _ => fun _ _ _ => none
      | .blk id a => to (.c a :: .blk id :: k)
      | .loop a => to (.c a :: .lp a :: k)
      | .scope a => to (.c a :: .sc :: k)
      | .reg ops => to (.ops ops :: k)
      | .drw ops bs => M.bind (drw call ops bs 0 [] fr.tm) fun tm => fun h n lg => some ⟨.run ⟨fr.fn, fr.nt, tm, k⟩ cs, h, n, lg⟩

def iterA (step : Ctl → M Ctl) : Nat → Ctl → M Ctl
  | 0, c => fun h n lg => some ⟨c, h, n, lg⟩
  | q + 1, c => match c with
    | .done v => fun h n lg => some ⟨.done v, h, n, lg⟩
    | c => M.bind (step c) (iterA step q)

def callN (F : FnT) (N : Nat) : Nat → CallF
  | 0 => fun _ _ _ _ _ => none
  | d + 1 => fun f args => match F f with
    | none => fun _ _ _ => none
    | some af => M.bind (iterA (stepA (callN F N d) F) N (.run ⟨f, af.nt, args0 [] args .leaf, [.c af.body]⟩ [])) fun c => match c with
      | .done v => fun h n lg => some ⟨v, h, n, lg⟩
      | _ => fun _ _ _ => none

theorem Loc.drw {call : CallF} (hl : ∀ f args, Loc (call f args)) : ∀ (gs : List GI) (bs : List Nat) (i : Nat) (past : List (Nat × Log)) (tm : T AV), Loc (drw call gs bs i past tm)
  | [], _, _, _, tm => Loc.ret tm
  | g :: gs, bs, i, past, tm => by
    cases bs with
    | nil => exact Loc.fail
    | cons b bs =>
      intro h n lg r e
      simp only [Ax.drw] at e
      cases hw : wantA tm g.guard with
      | none => simp [hw] at e
      | some bw =>
        cases bw with
        | false =>
          simp only [hw] at e
          obtain ⟨L, l1, l2, l3⟩ := Loc.drw hl gs bs (i + 1) past _ h n lg r e
          exact ⟨L, l1, l2, fun h2 lg2 hh => let ⟨h3, q1, q2, q3⟩ := l3 h2 lg2 hh; ⟨h3, by simp only [Ax.drw, hw]; exact q1, q2, q3⟩⟩
        | true =>
          simp only [hw] at e
          cases hq : Ax.opM call tm g h n [] with
          | none => simp [hq] at e
          | some q =>
            simp only [hq] at e
            cases hap : apartL b q.lg past with
            | false => simp [hap] at e
            | true =>
              simp only [hap] at e
              obtain ⟨L1, a1, b1, c1⟩ := Loc.opM hl tm g h n [] q hq
              simp only [List.append_nil] at a1
              subst a1
              obtain ⟨L2, a2, b2, c2⟩ := Loc.drw hl gs bs (i + 1) _ _ q.h q.n (q.lg ++ lg) r e
              refine ⟨L2 ++ q.lg, by rw [a2, List.append_assoc], fun k hk => ?_, fun h2 lg2 hh => ?_⟩
              · simp only [List.mem_append, not_or] at hk
                rw [b2 k hk.1, b1 k hk.2]
              · obtain ⟨h3, d1, d2, d3⟩ := c1 h2 [] (fun k b hk => hh k b (by simp [hk]))
                have hag : ∀ k b, (k, b) ∈ L2 → h3.get k = q.h.get k := by
                  intro k b hk
                  by_cases hw : (k, true) ∈ q.lg
                  · exact d2 k hw
                  · rw [d3 k hw, hh k b (by simp [hk]), b1 k hw]
                obtain ⟨h4, q1, q2, q3⟩ := c2 h3 (q.lg ++ lg2) hag
                refine ⟨h4, ?_, fun k hk => ?_, fun k hk => ?_⟩
                · simp only [Ax.drw, hw, d1, List.append_nil, hap]
                  rw [q1, List.append_assoc]
                · by_cases hw : (k, true) ∈ L2
                  · exact q2 k hw
                  · rw [q3 k hw]
                    have : (k, true) ∈ q.lg := by simpa [hw] using hk
                    rw [d2 k this, b2 k hw]
                · simp only [List.mem_append, not_or] at hk
                  rw [q3 k hk.1, d3 k hk.2]

theorem Loc.step {call : CallF} (hl : ∀ f args, Loc (call f args)) (F : FnT) (c : Ctl) : Loc (stepA call F c) := by
  cases c with
  | done v => exact Loc.ret _
  | run fr cs =>
    have leave : Loc (match F fr.fn with
      | none => fun _ _ _ => none
      | some af => M.bind (fun h n lg => (resA fr.tm af.res resV).run h n lg) fun v => match cs with
        | [] => fun h n lg => some ⟨.done v, h, n, lg⟩
        | d :: ds => match d.todo with
          | .ops (g :: r) :: k => fun h n lg => some ⟨.run ⟨d.fn, d.nt, putA d.tm g.dst v, .ops r :: k⟩ ds, h, n, lg⟩
          | _ => fun _ _ _ => none : M Ctl) := by
      split
      · exact Loc.fail
      · refine Loc.bind (Loc.run _) fun v => ?_
        split
        · exact Loc.ret _
        · split
          · exact Loc.ret _
          · exact Loc.fail
    unfold stepA
    simp only
    split
    · exact leave
    · exact Loc.ret _
    · exact Loc.ret _
    · exact Loc.ret _
    · split
      · exact Loc.ret _
      · split
        · exact Loc.fail
        · exact Loc.ret _
        · refine Loc.bind (Loc.run _) fun q => ?_
          split
          · exact Loc.ret _
          · exact Loc.ret _
          · split
            · exact Loc.fail
            · exact Loc.ret _
    · split
      · exact Loc.ret _
      · exact Loc.ret _
      · exact leave
      · split
        · exact Loc.ret _
        · exact Loc.fail
      · exact Loc.ret _
      · split
        · exact Loc.ret _
        · exact Loc.ret _
        · exact Loc.fail
      · exact Loc.ret _
      · exact Loc.ret _
      · exact Loc.ret _
      · exact Loc.ret _
      · exact Loc.bind (Loc.drw hl _ _ _ _ _) fun tm => Loc.ret _

theorem Loc.iter {step : Ctl → M Ctl} (hs : ∀ c, Loc (step c)) : ∀ (q : Nat) (c : Ctl), Loc (iterA step q c)
  | 0, c => Loc.ret c
  | q + 1, c => by
    cases c with
    | done v => exact Loc.ret _
    | run fr cs => exact Loc.bind (hs _) fun c => Loc.iter hs q c

theorem Loc.call (F : FnT) (N : Nat) : ∀ (d f : Nat) (args : List AV), Loc (callN F N d f args)
  | 0, _, _ => Loc.fail
  | d + 1, f, args => by
    unfold callN
    split
    · exact Loc.fail
    · refine Loc.bind (Loc.iter (fun c => Loc.step (fun f a => Loc.call F N d f a) F c) _ _) fun c => ?_
      split
      · exact Loc.ret _
      · exact Loc.fail

end Go.Ax
