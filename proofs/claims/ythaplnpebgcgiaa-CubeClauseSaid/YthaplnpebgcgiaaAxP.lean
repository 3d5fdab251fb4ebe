/- AX, part P: runs of the machine, and closed calls. -/
import Derived.Test.YthaplnpebgcgiaaAxO
namespace Go.Ax
open Go.RowKit (Below)

section
variable {P : Program} {B : Nat} {w0 : World}

theorem Goes.trans {β : K → Option BI} {f0 : Nat} {base : List Frame} {m0 : Machine} {fr : AFr} {cs : List AFr} {h : T Blk} {n : K} {lg : Log} {r : R Ctl}
    (g : Goes P B w0 β f0 base m0 ⟨.run fr cs, h, n, lg⟩)
    (k : ∀ (β' : K → Option BI) (w : World) (cf : Frame) (ccs : List Frame), Sim B w0 β' h w → FrR P β' fr cf → FrRs P β' cs ccs → Goes P B w0 β' (bot fr cs) base (lone cf (ccs ++ base) w) r) : Goes P B w0 β f0 base m0 r := by
  obtain ⟨w1, β1, x1, s1, hb, cf1, cc1, q1, q2, st1⟩ := g
  obtain ⟨w2, β2, x2, s2, e2⟩ := k β1 w1 cf1 cc1 s1 q1 q2
  refine ⟨w2, β2, x1.trans x2, s2, ?_⟩
  cases hr : r.a with
  | run fr' cs' =>
    rw [hr] at e2
    obtain ⟨b2, cf2, cc2, q3, q4, st2⟩ := e2
    exact ⟨b2.trans hb, cf2, cc2, q3, q4, st1.trans st2⟩
  | done v =>
    rw [hr] at e2
    obtain ⟨cf2, u, b2, q3, q4, st2⟩ := e2
    exact ⟨cf2, u, b2.trans hb, q3, q4, st1.trans st2⟩

theorem Goes.stay {β : K → Option BI} {base : List Frame} {fr : AFr} {cs : List AFr} {h : T Blk} {n : K} {lg : Log} {w : World} {cf : Frame} {ccs : List Frame} (m : Sim B w0 β h w) (g : FrR P β fr cf) (gs : FrRs P β cs ccs) :
    Goes P B w0 β (bot fr cs) base (lone cf (ccs ++ base) w) ⟨.run fr cs, h, n, lg⟩ := ⟨w, β, .refl _, m, rfl, cf, ccs, g, gs, .refl _ _⟩

theorem iter_sound {call : CallF} (hc : CallOK P B w0 call) (hl : ∀ f args, Loc (call f args)) {F : FnT} (ft : FTok P F) (hm : P.follows .mixedOrders = true) : ∀ (q : Nat) {fr : AFr} {cs : List AFr} {β : K → Option BI} {h : T Blk} {w : World} {n : K} {lg : Log} {r : R Ctl} {cf : Frame} {ccs base : List Frame}
    (_ : Sim B w0 β h w) (_ : FrR P β fr cf) (_ : FrRs P β cs ccs) (_ : iterA (stepA call F) q (.run fr cs) h n lg = some r), Goes P B w0 β (bot fr cs) base (lone cf (ccs ++ base) w) r
  | 0, fr, cs, β, h, w, n, lg, r, cf, ccs, base, m, g, gs, e => by
    simp only [iterA, Option.some.injEq] at e; subst e
    exact .stay m g gs
  | q + 1, fr, cs, β, h, w, n, lg, r, cf, ccs, base, m, g, gs, e => by
    obtain ⟨⟨c, h1, n1, lg1⟩, e1, e2⟩ := M.bind_some e
    have s1 := step_sound hc hl ft hm (base := base) m g gs e1
    simp only at e2
    cases c with
    | done v =>
      have : r = ⟨.done v, h1, n1, lg1⟩ := by
        cases q <;> simp only [iterA, Option.some.injEq] at e2 <;> exact e2.symm
      subst this
      exact s1
    | run fr' cs' => exact s1.trans fun β' w' cf' cc' m' g' gs' => iter_sound hc hl ft hm q m' g' gs' e2

theorem call_ok {F : FnT} (ft : FTok P F) (hm : P.follows .mixedOrders = true) (N : Nat) : ∀ (d : Nat), CallOK P B w0 (callN F N d)
  | 0 => fun f args h n lg r e => by simp [callN] at e
  | d + 1 => fun f args h n lg r e => by
    simp only [callN] at e
    cases hF : F f with
    | none => simp [hF] at e
    | some af =>
      simp only [hF] at e
      refine ⟨ft.fok hF, fun β w l m g cs => ?_⟩
      obtain ⟨⟨c, h1, n1, lg1⟩, e1, e2⟩ := M.bind_some e
      have s := iter_sound (call_ok ft hm N d) (fun f args => Loc.call F N d f args) ft hm N (base := cs) (ccs := []) m (enter_FrR ft hF g) (by simp [FrRs]) e1
      simp only [List.nil_append, bot] at s
      obtain ⟨w', β', x1, x2, x3⟩ := s
      cases c with
      | run _ _ => simp at e2
      | done v =>
        simp only [Option.some.injEq] at e2; subst e2
        obtain ⟨cf, u, b1, b2, b3, b4⟩ := x3
        exact ⟨.returned u, w', cf, ⟨u, β', rfl, x1, x2, b3⟩, b4, b1, b2⟩

/-- A state of a run. -/
structure St where
  c : Ctl
  h : T Blk
  n : K

def goO (call : CallF) (F : FnT) : Nat → St → Option St
  | 0, s => some s
  | q + 1, s => match stepA call F s.c s.h s.n [] with
    | none => none
    | some r => goO call F q ⟨r.a, r.h, r.n⟩

def Leads (P : Program) (s s' : St) : Prop := ∀ (B : Nat) (w0 : World) (β : K → Option BI) (w : World) (cf : Frame) (ccs base : List Frame) (fr : AFr) (cs : List AFr), s.c = .run fr cs → Sim B w0 β s.h w → FrR P β fr cf → FrRs P β cs ccs →
  Goes P B w0 β (bot fr cs) base (lone cf (ccs ++ base) w) ⟨s'.c, s'.h, s'.n, []⟩

theorem Leads.of_go {F : FnT} (ft : FTok P F) (hm : P.follows .mixedOrders = true) {N d : Nat} : ∀ {q : Nat} {s s' : St}, goO (callN F N d) F q s = some s' → Leads P s s'
  | 0, s, s', e => fun B w0 β w cf ccs base fr cs hs m g gs => by
    simp only [goO, Option.some.injEq] at e; subst e
    rw [hs]; exact .stay m g gs
  | q + 1, s, s', e => fun B w0 β w cf ccs base fr cs hs m g gs => by
    simp only [goO] at e
    cases e1 : stepA (callN F N d) F s.c s.h s.n [] with
    | none => simp [e1] at e
    | some r =>
      obtain ⟨c, h1, n1, lg1⟩ := r
      simp only [e1] at e
      rw [hs] at e1
      have s1 := step_sound (call_ok ft hm N d) (fun f args => Loc.call F N d f args) ft hm (base := base) m g gs e1
      cases c with
      | done v =>
        have : s' = ⟨.done v, h1, n1⟩ := by
          clear s1 e1
          have : ∀ (q : Nat) (s' : St), goO (callN F N d) F q ⟨.done v, h1, n1⟩ = some s' → s' = ⟨.done v, h1, n1⟩ := by
            intro q; induction q with
            | zero => intro s' e; simp only [goO, Option.some.injEq] at e; exact e.symm
            | succ q ih => intro s' e; simp only [goO, stepA] at e; exact ih _ e
          exact this q s' e
        subst this
        exact s1
      | run fr' cs' => exact s1.trans fun β' w' cf' cc' m' g' gs' => Leads.of_go ft hm e B w0 β' w' cf' cc' base fr' cs' rfl m' g' gs'

def Ctl.isRun : Ctl → Bool
  | .run _ _ => true
  | .done _ => false

theorem Leads.trans {a b c : St} (hb : b.c.isRun = true) (h : Leads P a b) (g : Leads P b c) : Leads P a c := by
  intro B w0 β w cf ccs base fr cs hs m gf gs
  have s1 := h B w0 β w cf ccs base fr cs hs m gf gs
  obtain ⟨bc, bh, bn⟩ := b
  cases bc with
  | run fr' cs' => exact s1.trans fun β' w' cf' cc' m' g' gs' => g B w0 β' w' cf' cc' base fr' cs' rfl m' g' gs'
  | done v => cases hb

theorem Leads.calls_at {F : FnT} (ft : FTok P F) {f : Nat} {af : AFn} {as : List AV} {l : Array Value} {v : AV} {h h' : T Blk} {n n' : K} {β : K → Option BI} {w : World} (hF : F f = some af)
    (g : Leads P ⟨.run ⟨f, af.nt, args0 [] as .leaf, [.c af.body]⟩ [], h, n⟩ ⟨.done v, h', n'⟩) (m : Sim B w0 β h w) (ga : VRs β as l.toList) :
    Calls P f l w fun e w' => ∃ u β', e = .returned u ∧ Ext β β' ∧ Sim B w0 β' h' w' ∧ VR β' v u := by
  intro cs
  have s := g B w0 β w _ [] cs _ [] rfl m (enter_FrR ft hF ga) (by simp [FrRs])
  simp only [List.nil_append, bot] at s
  obtain ⟨w', β', x1, x2, cf, u, b1, b2, b3, b4⟩ := s
  exact ⟨.returned u, w', cf, ⟨u, β', rfl, x1, x2, b3⟩, b4, b1, b2⟩

theorem Sim.nothing (w : World) : Sim w.heap.size w (fun _ => none) .leaf w :=
  ⟨.refl _ _, Nat.le_refl _, by simp, by simp, by simp, by simp⟩

theorem Leads.calls {F : FnT} (ft : FTok P F) {f : Nat} {af : AFn} {v : AV} {h' : T Blk} {n n' : K} (w : World) (hF : F f = some af)
    (g : Leads P ⟨.run ⟨f, af.nt, .leaf, [.c af.body]⟩ [], .leaf, n⟩ ⟨.done v, h', n'⟩) :
    Calls P f #[] w fun e w' => ∃ u β', e = .returned u ∧ Sim w.heap.size w β' h' w' ∧ VR β' v u := by
  refine Calls.mono (Leads.calls_at (as := []) ft hF g (Sim.nothing w) (by simp [VRs])) fun e w' r => ?_
  obtain ⟨u, β', r1, _, r2, r3⟩ := r
  exact ⟨u, β', r1, r2, r3⟩

end
end Go.Ax
