/- AX, part O: a step of the machine. -/
import Derived.Test.YthaplnpebgcgiaaAxN
namespace Go.Ax
open Go.RowKit (Below)

section
variable {P : Program} {B : Nat} {w0 : World}

def leaveA (F : FnT) (fr : AFr) (cs : List AFr) : M Ctl := match F fr.fn with
  | none => fun _ _ _ => none
  | some af => M.bind (fun h n lg => (resA fr.tm af.res resV).run h n lg) fun v => match cs with
    | [] => fun h n lg => some ⟨.done v, h, n, lg⟩
    | d :: ds => match d.todo with
      | .ops (g :: r) :: k => fun h n lg => some ⟨.run ⟨d.fn, d.nt, putA d.tm g.dst v, .ops r :: k⟩ ds, h, n, lg⟩
      | _ => fun _ _ _ => none

theorem M.bind_some {α γ : Type} {x : M α} {f : α → M γ} {h : T Blk} {n : K} {lg : Log} {r : R γ} (e : M.bind x f h n lg = some r) : ∃ q, x h n lg = some q ∧ f q.a q.h q.n q.lg = some r := by
  unfold M.bind at e
  cases hx : x h n lg with
  | none => simp [hx] at e
  | some q => exact ⟨q, rfl, by simpa [hx] using e⟩

theorem leave_sound {F : FnT} (ft : FTok P F) {fr : AFr} {cs : List AFr} {β : K → Option BI} {h : T Blk} {w : World} {n : K} {lg : Log} {r : R Ctl} {a : Act} {todo : List Item} {ccs base : List Frame} {m0 : Machine}
    (m : Sim B w0 β h w) (hdf : a.defers = []) (gt : TR β fr.tm a.tmps) (gs : FrRs P β cs ccs)
    (hs : Steps P m0 (lone { (baseF fr.fn).at a todo with mode := .returning } (ccs ++ base) w)) (e : leaveA F fr cs h n lg = some r) : Goes P B w0 β (bot fr cs) base m0 r := by
  unfold leaveA at e
  cases hF : F fr.fn with
  | none => simp [hF] at e
  | some af =>
    simp only [hF] at e
    obtain ⟨fn, c, h1, h2, h3, h4, h5, h6⟩ := ft _ _ hF
    obtain ⟨q, e1, e2⟩ := M.bind_some e
    obtain ⟨rh, rn, u, hu, gv⟩ := results_sound (fn := fn) m gt h6 e1
    have hlv : Frame.leaving P { (baseF fr.fn).at a todo with mode := .returning } w (.returned u) := ⟨rfl, hdf, rfl, fn, h1, hu⟩
    cases cs with
    | nil =>
      simp only [Option.some.injEq] at e2; subst e2
      simp only [FrRs] at gs; subst gs
      refine ⟨w, β, .refl _, by simpa [rh] using m, _, u, rfl, hlv, gv, hs⟩
    | cons d ds =>
      obtain ⟨y, ys, rfl, ⟨a', todo', rfl, k1, k2, k3, k4⟩, g2⟩ := gs
      obtain ⟨dfn, dnt, dtm, dk⟩ := d
      match dk, k4, e2 with
      | .ops (g :: r') :: k, k4, e2 =>
        simp only [Option.some.injEq] at e2; subst e2
        obtain ⟨it, its, rfl, ⟨ops, idx, rfl, i, rest, o, rfl, ho, hgi, hops⟩, k5⟩ := k4
        obtain ⟨p1, p2, p3⟩ := put_sound hgi k3 k2 gv
        refine ⟨w, β, .refl _, by simpa [rh] using m, ?_, (baseF dfn).at (a'.put o.dst u) (.inRegion ops rest :: its), ys, ?_, g2, ?_⟩
        · show bot _ ds = bot _ ds; apply bot_congr; rfl
        · exact ⟨_, _, rfl, by rw [p3, k1], by rw [p2]; exact k2, p1, ⟨_, _, rfl, ⟨ops, rest, rfl, hops⟩, k5⟩⟩
        · refine hs.trans (.one ?_)
          rw [List.cons_append, step_leave_returned hlv, Frame.finish_at, ho]; rfl
      | [], _, e2 => simp at e2
      | .ops [] :: _, _, e2 => simp at e2
      | .c _ :: _, _, e2 => simp at e2
      | .blk _ :: _, _, e2 => simp at e2
      | .lp _ :: _, _, e2 => simp at e2
      | .sc :: _, _, e2 => simp at e2

theorem Goes.of_one {β : K → Option BI} {fr : AFr} {cs : List AFr} {a : Act} {todo todo' : List Item} {k' : List AIt} {ccs base : List Frame} {h : T Blk} {w : World} {n : K} {lg : Log} (m : Sim B w0 β h w) (hdf : a.defers = []) (hn : fr.nt ≤ a.tmps.size) (gt : TR β fr.tm a.tmps) (gs : FrRs P β cs ccs)
    (hs : step P (lone ((baseF fr.fn).at a todo) (ccs ++ base) w) = .next (lone ((baseF fr.fn).at a todo') (ccs ++ base) w)) (gk : IRs P fr.nt k' todo') :
    Goes P B w0 β (bot fr cs) base (lone ((baseF fr.fn).at a todo) (ccs ++ base) w) ⟨.run ⟨fr.fn, fr.nt, fr.tm, k'⟩ cs, h, n, lg⟩ :=
  ⟨w, β, .refl _, m, (by apply bot_congr; rfl), _, ccs, ⟨a, todo', rfl, hdf, hn, gt, gk⟩, gs, .one hs⟩

theorem step_sound {call : CallF} (hc : CallOK P B w0 call) (hl : ∀ f args, Loc (call f args)) {F : FnT} (ft : FTok P F) (hm : P.follows .mixedOrders = true) {fr : AFr} {cs : List AFr} {β : K → Option BI} {h : T Blk} {w : World} {n : K} {lg : Log} {r : R Ctl} {cf : Frame} {ccs base : List Frame}
    (m : Sim B w0 β h w) (g : FrR P β fr cf) (gs : FrRs P β cs ccs) (e : stepA call F (.run fr cs) h n lg = some r) : Goes P B w0 β (bot fr cs) base (lone cf (ccs ++ base) w) r := by
  obtain ⟨a, todo, rfl, hdf, hn, gt, gk⟩ := g
  obtain ⟨fn, nt, tm, k0⟩ := fr
  simp only at *
  cases k0 with
  | nil =>
    simp only [IRs] at gk; subst gk
    exact leave_sound ft (fr := ⟨fn, nt, tm, []⟩) m hdf gt gs (.one step_end) e
  | cons x k =>
    obtain ⟨y, ys, rfl, g1, g2⟩ := gk
    cases x with
    | blk id =>
      simp only [stepA, Option.some.injEq] at e; subst e
      simp only [IR] at g1; subst g1
      exact Goes.of_one (fr := ⟨fn, nt, tm, _⟩) m hdf hn gt gs step_inBlock g2
    | sc =>
      simp only [stepA, Option.some.injEq] at e; subst e
      obtain ⟨c, rfl⟩ := g1
      exact Goes.of_one (fr := ⟨fn, nt, tm, _⟩) m hdf hn gt gs step_inScope g2
    | lp b =>
      simp only [stepA, Option.some.injEq] at e; subst e
      obtain ⟨c, rfl, hcc⟩ := g1
      exact Goes.of_one (fr := ⟨fn, nt, tm, _⟩) m hdf hn gt gs step_inLoop ⟨_, _, rfl, ⟨c, rfl, hcc⟩, _, _, rfl, ⟨c, rfl, hcc⟩, g2⟩
    | ops l =>
      obtain ⟨ops, idx, rfl, g1⟩ := g1
      cases l with
      | nil =>
        simp only [OpsR] at g1; subst g1
        simp only [stepA, Option.some.injEq] at e; subst e
        exact Goes.of_one (fr := ⟨fn, nt, tm, _⟩) m hdf hn gt gs step_region_end g2
      | cons gi rs =>
        obtain ⟨i, rest, o, rfl, ho, hgi, hops⟩ := g1
        simp only [stepA] at e
        cases hw : wantA tm gi.guard with
        | none => simp [hw] at e
        | some b =>
          have hwo := want_sound hgi gt hw
          cases b with
          | false =>
            simp only [hw, Option.some.injEq] at e; subst e
            obtain ⟨p1, p2, p3⟩ := put_sound (β := β) hgi gt hn (v := .tu []) (u := undef) (by simp only [VR]; exact ⟨#[], rfl, by simp [VRs]⟩)
            refine ⟨w, β, .refl _, m, (by apply bot_congr; rfl), (baseF fn).at (a.put o.dst undef) (.inRegion ops rest :: ys), ccs, ?_, gs, .one ?_⟩
            · exact ⟨_, _, rfl, by rw [p3, hdf], by rw [p2]; exact hn, p1, ⟨_, _, rfl, ⟨ops, rest, rfl, hops⟩, g2⟩⟩
            · rw [step_op_skip (by simp [ho, hwo]), ho]; rfl
          | true =>
            simp only [hw] at e
            obtain ⟨q, e1, e2⟩ := M.bind_some e
            have hgi' := hgi
            unfold chkGI at hgi'
            simp only [Bool.and_eq_true] at hgi'
            obtain ⟨w', β', x1, x2, x3⟩ := op_sound hgi'.2 m gt e1
            have hg := stepG_op (P := P) (b := baseF fn) (k := ys) (cs := ccs ++ base) (w := w) (rest := rest) ho hwo
            have hfin : ∀ v, ((baseF fn).at a (.inRegion ops (i :: rest) :: ys)).finish v = (baseF fn).at (a.put o.dst v) (.inRegion ops rest :: ys) := by
              intro v; rw [Frame.finish_at, ho]; rfl
            cases hq : q.a with
            | v av =>
              rw [hq] at x3 e2
              simp only [Option.some.injEq] at e2; subst e2
              obtain ⟨u, y1, y2⟩ := x3
              obtain ⟨p1, p2, p3⟩ := put_sound hgi (gt.mono x1) hn y2
              refine ⟨w', β', x1, x2, (by apply bot_congr; rfl), (baseF fn).at (a.put o.dst u) (.inRegion ops rest :: ys), ccs, ?_, gs.mono x1, .one (step_lone_go ?_)⟩
              · exact ⟨_, _, rfl, by rw [p3, hdf], by rw [p2]; exact hn, p1, ⟨_, _, rfl, ⟨ops, rest, rfl, hops⟩, g2⟩⟩
              · rw [hg, ← hfin]; simp [stepG.apply, y1]
            | skip =>
              rw [hq] at x3 e2
              simp only [Option.some.injEq] at e2; subst e2
              simp only at x3
              obtain ⟨p1, p2, p3⟩ := put_sound (β := β') hgi (gt.mono x1) hn (v := .tu []) (u := undef) (by simp only [VR]; exact ⟨#[], rfl, by simp [VRs]⟩)
              refine ⟨w', β', x1, x2, (by apply bot_congr; rfl), (baseF fn).at (a.put o.dst undef) (.inRegion ops rest :: ys), ccs, ?_, gs.mono x1, .one (step_lone_go ?_)⟩
              · exact ⟨_, _, rfl, by rw [p3, hdf], by rw [p2]; exact hn, p1, ⟨_, _, rfl, ⟨ops, rest, rfl, hops⟩, g2⟩⟩
              · rw [hg, ← hfin]; simp [stepG.apply, x3]
            | call f args =>
              rw [hq] at x3 e2
              simp only at e2
              cases hF : F f with
              | none => simp [hF] at e2
              | some af =>
                simp only [hF, Option.some.injEq] at e2; subst e2
                obtain ⟨l, y1, y2⟩ := x3 (ft.fok hF)
                refine ⟨w', β', x1, x2, rfl, Frame.enter P f l .normal, (baseF fn).at a (.inRegion ops (i :: rest) :: ys) :: ccs, enter_FrR ft hF y2, ?_, .one (step_lone_go ?_)⟩
                · exact ⟨_, _, rfl, ⟨a, _, rfl, hdf, hn, gt.mono x1, ⟨_, _, rfl, ⟨ops, i :: rest, rfl, ⟨i, rest, o, rfl, ho, hgi, hops⟩⟩, g2⟩⟩, gs.mono x1⟩
                · rw [hg]; simp [stepG.apply, y1, Frame.at]
    | c b =>
      obtain ⟨c, rfl, g1⟩ := g1
      cases b with
      | skip =>
        cases c <;> simp [chkC] at g1
        simp only [stepA, Option.some.injEq] at e; subst e
        exact Goes.of_one (fr := ⟨fn, nt, tm, _⟩) m hdf hn gt gs step_skip g2
      | label =>
        cases c <;> simp [chkC] at g1
        simp only [stepA, Option.some.injEq] at e; subst e
        exact Goes.of_one (fr := ⟨fn, nt, tm, _⟩) m hdf hn gt gs step_label g2
      | ret =>
        cases c <;> simp [chkC] at g1
        exact leave_sound ft (fr := ⟨fn, nt, tm, _⟩) m hdf gt gs (.one step_ret) e
      | exit id =>
        cases c <;> simp only [chkC, beq_iff_eq, Bool.false_eq_true] at g1
        subst g1
        simp only [stepA] at e
        cases hx : exitA id k with
        | none => simp [hx] at e
        | some k' =>
          simp only [hx, Option.some.injEq] at e; subst e
          obtain ⟨l', z1, z2⟩ := exit_sound g2 hx
          exact Goes.of_one (fr := ⟨fn, nt, tm, _⟩) m hdf hn gt gs (step_exit z1) z2
      | seq x y =>
        cases c <;> simp only [chkC, Bool.and_eq_true, Bool.false_eq_true] at g1
        simp only [stepA, Option.some.injEq] at e; subst e
        exact Goes.of_one (fr := ⟨fn, nt, tm, _⟩) m hdf hn gt gs step_seq ⟨_, _, rfl, ⟨_, rfl, g1.1⟩, _, _, rfl, ⟨_, rfl, g1.2⟩, g2⟩
      | cond o x y =>
        cases c <;> simp only [chkC, Bool.and_eq_true, Bool.false_eq_true] at g1
        next o' c1 c2 =>
        simp only [stepA] at e
        have hv := ev_sound gt g1.1.1
        generalize ev tm o = z at e hv
        cases z with
        | b t =>
          simp only [VR] at hv
          cases t with
          | true =>
            simp only [Option.some.injEq] at e; subst e
            exact Goes.of_one (fr := ⟨fn, nt, tm, _⟩) m hdf hn gt gs (step_cond hv) ⟨_, _, rfl, ⟨_, rfl, g1.1.2⟩, g2⟩
          | false =>
            simp only [Option.some.injEq] at e; subst e
            exact Goes.of_one (fr := ⟨fn, nt, tm, _⟩) m hdf hn gt gs (step_cond hv) ⟨_, _, rfl, ⟨_, rfl, g1.2⟩, g2⟩
        | _ => simp at e
      | blk id x =>
        cases c <;> simp only [chkC, Bool.and_eq_true, beq_iff_eq, Bool.false_eq_true] at g1
        obtain ⟨rfl, g1⟩ := g1
        simp only [stepA, Option.some.injEq] at e; subst e
        exact Goes.of_one (fr := ⟨fn, nt, tm, _⟩) m hdf hn gt gs step_block ⟨_, _, rfl, ⟨_, rfl, g1⟩, _, _, rfl, rfl, g2⟩
      | loop x =>
        cases c <;> simp only [chkC, Bool.false_eq_true] at g1
        simp only [stepA, Option.some.injEq] at e; subst e
        exact Goes.of_one (fr := ⟨fn, nt, tm, _⟩) m hdf hn gt gs step_loop ⟨_, _, rfl, ⟨_, rfl, g1⟩, _, _, rfl, ⟨_, rfl, g1⟩, g2⟩
      | scope x =>
        cases c <;> simp only [chkC, Bool.false_eq_true] at g1
        simp only [stepA, Option.some.injEq] at e; subst e
        exact Goes.of_one (fr := ⟨fn, nt, tm, _⟩) m hdf hn gt gs step_scope ⟨_, _, rfl, ⟨_, rfl, g1⟩, _, _, rfl, ⟨_, rfl⟩, g2⟩
      | reg l =>
        cases c <;> simp only [chkC, Bool.and_eq_true, Bool.not_eq_true', Bool.false_eq_true] at g1
        obtain ⟨rfl, g1⟩ := g1
        simp only [stepA, Option.some.injEq] at e; subst e
        refine Goes.of_one (fr := ⟨fn, nt, tm, _⟩) m hdf hn gt gs step_region ⟨_, _, rfl, ⟨_, _, rfl, ?_⟩, g2⟩
        have := OpsR.range (q := 0) g1 (by intro j hj; simp)
        rw [← List.range_eq_range'] at this
        simpa using this
      | drw l bs =>
        cases c <;> simp only [chkC, Bool.and_eq_true, Bool.false_eq_true] at g1
        obtain ⟨⟨⟨rfl, g3⟩, g4⟩, g5⟩ := g1
        simp only [stepA] at e
        obtain ⟨q, e1, e2⟩ := M.bind_some e
        simp only [Option.some.injEq] at e2; subst e2
        obtain ⟨ex, a', w', ⟨rfl, z1, z2, β', z3, z4, z5⟩, harr⟩ := draw_sound hc hl ⟨g3, g4, g5⟩ hm m gt hn e1 (baseF fn) ys (ccs ++ base)
        exact ⟨w', β', z3, z4, (by apply bot_congr; rfl), _, ccs, ⟨a', ys, rfl, by rw [z1, hdf], by rw [z2]; exact hn, z5, g2⟩, gs.mono z3, harr⟩

end
end Go.Ax
