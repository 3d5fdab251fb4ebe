/- AX, part N: the machine over the model. -/
import Derived.Test.YthaplnpebgcgiaaAxM
import Derived.Scope
namespace Go.Ax
open Go.RowKit (Below)

def chkC (P : Program) (nt : Nat) : AC → Code → Bool
  | .skip, .skip => true
  | .label, .label _ => true
  | .ret, .ret => true
  | .exit i, .exit j => i == j
  | .seq a b, .seq c d => chkC P nt a c && chkC P nt b d
  | .cond o a b, .cond x c d => chkO x o && chkC P nt a c && chkC P nt b d
  | .blk i a, .block j c => i == j && chkC P nt a c
  | .loop a, .loop c => chkC P nt a c
  | .scope a, .scope c => chkC P nt a c
  | .reg l, .region _ ops d => !d && chkGIs P nt ops ops.toList l
  | .drw l bs, .region _ ops d => d && chkGIs P nt ops ops.toList l && chkBef bs ops.toList 0 && chkTm [] l bs
  | _, _ => false

def OpsR (P : Program) (nt : Nat) (ops : Array Oper) : List GI → List Nat → Prop
  | [], l => l = []
  | g :: gs, l => ∃ i r o, l = i :: r ∧ ops[i]? = some o ∧ chkGI P nt ops o g = true ∧ OpsR P nt ops gs r

def IR (P : Program) (nt : Nat) (x : AIt) (y : Item) : Prop := match x with
  | .c a => ∃ c, y = .code c ∧ chkC P nt a c = true
  | .blk id => y = .inBlock id
  | .lp a => ∃ c, y = .inLoop c ∧ chkC P nt a c = true
  | .sc => ∃ c, y = .inScope c
  | .ops l => ∃ ops idx, y = .inRegion ops idx ∧ OpsR P nt ops l idx

def IRs (P : Program) (nt : Nat) : List AIt → List Item → Prop
  | [], l => l = []
  | x :: xs, l => ∃ y ys, l = y :: ys ∧ IR P nt x y ∧ IRs P nt xs ys

def baseF (f : Nat) : Frame := { (default : Frame) with fn := f, kind := .normal }

def FrR (P : Program) (β : K → Option BI) (fr : AFr) (cf : Frame) : Prop := ∃ a todo, cf = (baseF fr.fn).at a todo ∧ a.defers = [] ∧ fr.nt ≤ a.tmps.size ∧ TR β fr.tm a.tmps ∧ IRs P fr.nt fr.todo todo

def FrRs (P : Program) (β : K → Option BI) : List AFr → List Frame → Prop
  | [], l => l = []
  | x :: xs, l => ∃ y ys, l = y :: ys ∧ FrR P β x y ∧ FrRs P β xs ys

theorem FrR.mono {P : Program} {β β' : K → Option BI} (h : Ext β β') {fr : AFr} {cf : Frame} (g : FrR P β fr cf) : FrR P β' fr cf := by
  obtain ⟨a, todo, e1, e2, e3, e4, e5⟩ := g
  exact ⟨a, todo, e1, e2, e3, e4.mono h, e5⟩
theorem FrRs.mono {P : Program} {β β' : K → Option BI} (h : Ext β β') : ∀ {l : List AFr} {l' : List Frame}, FrRs P β l l' → FrRs P β' l l'
  | [], _, g => g
  | x :: xs, _, g => by obtain ⟨y, ys, e, g1, g2⟩ := g; exact ⟨y, ys, e, g1.mono h, FrRs.mono h g2⟩

def bot : AFr → List AFr → Nat
  | fr, [] => fr.fn
  | _, c :: cs => bot c cs

theorem bot_congr {c d : AFr} (h : c.fn = d.fn) : ∀ (cs : List AFr), bot c cs = bot d cs
  | [] => h
  | _ :: _ => rfl

def chkRes (P : Program) : List ResultVar → List RV → Bool
  | [], [] => true
  | .tmp t :: rs, .t k :: vs => kval k == t && chkRes P rs vs
  | .cell a t :: rs, .cell k n :: vs => kval k == a && aggOf P t == some n && chkRes P rs vs
  | _, _ => false

def FTok (P : Program) (F : FnT) : Prop := ∀ f af, F f = some af → ∃ fn c, P.funcs[f]? = some fn ∧ fn.body = some c ∧ (fn.name == "runtime.NumGoroutine") = false ∧ af.nt = fn.ntmps ∧ chkC P af.nt af.body c = true ∧ chkRes P fn.results.toList af.res = true

section
variable {P : Program} {B : Nat} {w0 : World}

theorem ldc_sound {α : Type} {t : TypeId} {q : Option Nat} {v : AV} {u : Value} {f : AV → AM α} {β : K → Option BI} {h : T Blk} {w : World} {n : K} {lg : Log} {r : R α} (e : aggOf P t = some q) (m : Sim B w0 β h w) (g : VR β v u) (x : (ldc q v f).run h n lg = some r) :
    ∃ a z lg' ad, (f a).run h n lg' = some r ∧ u = .pointer (some ad) ∧ (loadVar t ad).run P w = .ok z w ∧ VR β a z := by
  unfold ldc at x
  cases v <;> simp only [AM.run_fail] at x
  case p k o =>
    rw [AM.run_get] at x
    obtain ⟨y, hy, hl, x⟩ := x
    simp only [VR] at g
    obtain ⟨I, hI, rfl⟩ := g
    obtain ⟨I', hI', hb⟩ := m.lies k y hy hl
    rw [hI] at hI'; cases hI'
    cases y <;> simp only [AM.run_fail] at x
    case cells ro el esz c =>
      obtain ⟨C, fz, hb, _, _, _, hc⟩ := hb
      cases q with
      | none =>
        simp only at x
        split at x
        · next v hv =>
          rw [nth_eq] at hv
          obtain ⟨v', h1, h2⟩ := hc o v hv
          exact ⟨v, v', _, _, x, rfl, by simp [loadVar, isAgg_none e, cell_of hb h1], h2⟩
        · simp [AM.run_fail] at x
      | some q =>
        simp only at x
        split at x
        · next l hl =>
          obtain ⟨_, hlen, _⟩ := sub_some hl
          have hc' : ∀ j a, l[j]? = some a → ∃ v, C[I.off + o + j]? = some v ∧ VR β a v := by
            intro j a ha
            have hj : j < q := by
              rcases Nat.lt_or_ge j l.length with z | z
              · omega
              · rw [List.getElem?_eq_none z] at ha; cases ha
            rw [sub_get hl j hj] at ha
            obtain ⟨v, h1, h2⟩ := hc _ a ha
            exact ⟨v, by rw [Nat.add_assoc]; exact h1, h2⟩
          obtain ⟨vs, hv1, hv2, hv3, _⟩ := load_cells (P := P) hb hc'
          obtain ⟨e1, e2⟩ := isAgg_some e w
          rw [hlen] at hv3
          exact ⟨.ag l, .agg vs.toArray, _, _, x, rfl, by simp [loadVar, e1, e2, hv3], by simp only [VR]; exact ⟨_, rfl, by simpa using hv2⟩⟩
        · simp [AM.run_fail] at x

theorem res_sound {β : K → Option BI} {h : T Blk} {w : World} {n : K} {tm : T AV} {t : Array Value} (m : Sim B w0 β h w) (gt : TR β tm t) : ∀ (rs : List ResultVar) (vs : List RV) (f : List AV → AM AV) (lg : Log) (r : R AV), chkRes P rs vs = true → (resA tm vs f).run h n lg = some r →
    ∃ l us lg', (f l).run h n lg' = some r ∧ VRs β l us ∧ (rs.mapM (fun | .tmp x => pure (t.getD x undef) | .cell a ty => do loadVar ty (← asAddr (t.getD a undef)) : ResultVar → Sem Value)).run P w = .ok us w
  | [], [], f, lg, r, _, e => ⟨[], [], lg, e, by simp [VRs], by simp⟩
  | [], _ :: _, _, _, _, c, _ => by simp [chkRes] at c
  | .tmp _ :: _, [], _, _, _, c, _ => by simp [chkRes] at c
  | .cell _ _ :: _, [], _, _, _, c, _ => by simp [chkRes] at c
  | .tmp x :: rs, .t k :: vs, f, lg, r, c, e => by
    simp only [chkRes, Bool.and_eq_true, beq_iff_eq] at c
    obtain ⟨rfl, c⟩ := c
    obtain ⟨l, us, lg', e1, e2, e3⟩ := res_sound m gt rs vs _ lg r c e
    refine ⟨_, t.getD (kval k) undef :: us, lg', e1, ?_, ?_⟩
    · simp only [VRs]
      refine ⟨_, _, rfl, ?_, e2⟩
      have := ev_sound (a := ⟨t, []⟩) gt (x := .tmp (kval k)) (o := .t k) (by simp [chkO])
      simpa [Act.eval] using this
    · simp only [List.mapM_cons, Sem.run_bind, Sem.run_pure, Result.andThen_ok, e3]
  | .cell x ty :: rs, .cell k q :: vs, f, lg, r, c, e => by
    simp only [chkRes, Bool.and_eq_true, beq_iff_eq] at c
    obtain ⟨⟨rfl, c0⟩, c⟩ := c
    have hv := ev_sound (a := ⟨t, []⟩) gt (x := .tmp (kval k)) (o := .t k) (by simp [chkO])
    simp only [resA] at e
    obtain ⟨a, z, lg1, ad, e0, hu, hz, ga⟩ := ldc_sound c0 m hv e
    obtain ⟨l, us, lg', e1, e2, e3⟩ := res_sound m gt rs vs _ lg1 r c e0
    refine ⟨_, z :: us, lg', e1, by simp only [VRs]; exact ⟨_, _, rfl, ga, e2⟩, ?_⟩
    simp only [Act.eval] at hu
    have ha : (asAddr (t.getD (kval k) undef)).run P w = .ok ad w := by rw [hu]; rfl
    simp only [List.mapM_cons, Sem.run_bind, Result.andThen_ok, ha, hz, e3, Sem.run_pure]
  | .tmp _ :: _, .cell _ _ :: _, _, _, _, c, _ => by simp [chkRes] at c
  | .cell _ _ :: _, .t _ :: _, _, _, _, c, _ => by simp [chkRes] at c

theorem results_sound {β : K → Option BI} {h : T Blk} {w : World} {n : K} {tm : T AV} {t : Array Value} {fn : Func} {vs : List RV} {lg : Log} {r : R AV} (m : Sim B w0 β h w) (gt : TR β tm t) (c : chkRes P fn.results.toList vs = true) (e : (resA tm vs resV).run h n lg = some r) :
    r.h = h ∧ r.n = n ∧ ∃ u, (results fn t).run P w = .ok u w ∧ VR β r.a u := by
  obtain ⟨l, us, lg', e1, e2, e3⟩ := res_sound m gt _ _ _ _ _ c e
  have hm : (fn.results.mapM (fun | .tmp x => pure (t.getD x undef) | .cell a ty => do loadVar ty (← asAddr (t.getD a undef)) : ResultVar → Sem Value)).run P w = .ok us.toArray w := by
    rw [Array.mapM_eq_mapM_toList, Sem.run_map, e3]; rfl
  have hr : (results fn t).run P w = .ok (if h : us.toArray.size = 1 then us.toArray[0] else .tuple us.toArray) w := by
    unfold results
    simp only [Sem.run_bind]
    refine (congrArg (fun q => Result.andThen q _) hm).trans ?_
    simp only [Result.andThen_ok, Sem.run_pure]
  have hl := e2.length
  unfold resV at e1
  split at e1
  · next a =>
    rw [AM.run_ret] at e1; subst e1
    simp only [VRs] at e2
    obtain ⟨v, vs', rfl, g1, rfl⟩ := e2
    exact ⟨rfl, rfl, v, by simpa using hr, g1⟩
  · next hne =>
    rw [AM.run_ret] at e1; subst e1
    refine ⟨rfl, rfl, .tuple us.toArray, ?_, by simp only [VR]; exact ⟨_, rfl, by simpa using e2⟩⟩
    rw [hr, dif_neg]
    intro h1
    have : l.length = 1 := by simp at h1; omega
    match l, this with
    | [a], _ => exact hne a rfl

theorem args0_get : ∀ (as : List AV) (k : K) (t : T AV) (q : K) (v : AV), (args0 k as t).get q = some v → t.get q = some v ∨ ∃ j : Nat, as[j]? = some v ∧ kval q = kval k + j
  | [], k, t, q, v, h => .inl h
  | a :: as, k, t, q, v, h => by
    rcases args0_get as (kinc k) (t.ins a k) q v h with h1 | ⟨j, h1, h2⟩
    · rw [T.get_ins] at h1
      split at h1
      · next e => cases h1; subst e; exact .inr ⟨0, by simp, by simp⟩
      · exact .inl h1
    · rw [kval_kinc] at h2
      exact .inr ⟨j + 1, by simpa using h1, by omega⟩

theorem args0_TR {β : K → Option BI} {as : List AV} {l rest : Array Value} (g : VRs β as l.toList) : TR β (args0 [] as .leaf) (l ++ rest) := by
  intro q v hq
  rcases args0_get as [] .leaf q v hq with h1 | ⟨j, h1, h2⟩
  · simp at h1
  · obtain ⟨u, h3, h4⟩ := VRs.get as _ g j v h1
    simp only [kval, Nat.zero_add] at h2
    have hj : j < l.size := by
      rcases Nat.lt_or_ge j l.size with z | z
      · exact z
      · simp only [Array.getElem?_toList] at h3; rw [Array.getElem?_eq_none z] at h3; cases h3
    rw [h2, Array.getD_eq_getD_getElem?, Array.getElem?_append_left hj]
    simp only [Array.getElem?_toList] at h3
    rw [h3]; exact h4

theorem enter_FrR {F : FnT} (ft : FTok P F) {f : Nat} {af : AFn} (hf : F f = some af) {β : K → Option BI} {as : List AV} {l : Array Value} (g : VRs β as l.toList) : FrR P β ⟨f, af.nt, args0 [] as .leaf, [.c af.body]⟩ (Frame.enter P f l .normal) := by
  obtain ⟨fn, c, h1, h2, h3, h4, h5, h6⟩ := ft f af hf
  refine ⟨⟨l ++ Array.replicate (fn.ntmps - l.size) undef, []⟩, [.code c], ?_, rfl, ?_, args0_TR g, ?_⟩
  · simp [Frame.enter, h1, h2, baseF, Frame.at]
  · simp only [h4, Array.size_append, Array.size_replicate]; omega
  · exact ⟨_, _, rfl, ⟨c, rfl, h5⟩, rfl⟩

theorem FTok.fok {F : FnT} (ft : FTok P F) {f : Nat} {af : AFn} (hf : F f = some af) : FOk P f := by
  obtain ⟨fn, c, h1, h2, h3, _⟩ := ft f af hf
  exact ⟨fn, c, h1, h2, h3⟩

/-- What a state of the machine comes to, from a frame on. -/
def Goes (P : Program) (B : Nat) (w0 : World) (β : K → Option BI) (fn0 : Nat) (base : List Frame) (m : Machine) (r : R Ctl) : Prop :=
  ∃ w' β', Ext β β' ∧ Sim B w0 β' r.h w' ∧ match r.a with
    | .run fr cs => bot fr cs = fn0 ∧ ∃ cf ccs, FrR P β' fr cf ∧ FrRs P β' cs ccs ∧ Steps P m (lone cf (ccs ++ base) w')
    | .done v => ∃ cf u, cf.fn = fn0 ∧ cf.leaving P w' (.returned u) ∧ VR β' v u ∧ Steps P m (lone cf base w')

theorem exit_sound {nt : Nat} {id : Nat} : ∀ {k k' : List AIt} {l : List Item}, IRs P nt k l → exitA id k = some k' → ∃ l', exitTo id l = some l' ∧ IRs P nt k' l'
  | [], _, _, _, e => by simp [exitA] at e
  | x :: k, k', l, g, e => by
    obtain ⟨y, ys, rfl, g1, g2⟩ := g
    cases x with
    | blk j =>
      simp only [IR] at g1; subst g1
      simp only [exitA] at e
      split at e
      · next hj => cases e; exact ⟨ys, by simp [exitTo, Nat.eq_of_beq_eq_true hj], g2⟩
      · next hj =>
        obtain ⟨l', h1, h2⟩ := exit_sound g2 e
        refine ⟨l', ?_, h2⟩
        have : (j == id) = false := by simpa using Nat.ne_of_beq_eq_false hj
        simp [exitTo, this, h1]
    | c a => obtain ⟨c, rfl, _⟩ := g1; obtain ⟨l', h1, h2⟩ := exit_sound g2 (by simpa [exitA] using e); exact ⟨l', by simpa [exitTo] using h1, h2⟩
    | lp a => obtain ⟨c, rfl, _⟩ := g1; obtain ⟨l', h1, h2⟩ := exit_sound g2 (by simpa [exitA] using e); exact ⟨l', by simpa [exitTo] using h1, h2⟩
    | sc => obtain ⟨c, rfl⟩ := g1; obtain ⟨l', h1, h2⟩ := exit_sound g2 (by simpa [exitA] using e); exact ⟨l', by simpa [exitTo] using h1, h2⟩
    | ops q => obtain ⟨ops, idx, rfl, _⟩ := g1; obtain ⟨l', h1, h2⟩ := exit_sound g2 (by simpa [exitA] using e); exact ⟨l', by simpa [exitTo] using h1, h2⟩

theorem OpsR.range {nt : Nat} {ops : Array Oper} : ∀ {os : List Oper} {gs : List GI} {q : Nat}, chkGIs P nt ops os gs = true → (∀ j : Nat, j < os.length → ops[q + j]? = os[j]?) → OpsR P nt ops gs (List.range' q os.length)
  | [], [], _, _, _ => rfl
  | [], _ :: _, _, e, _ => by simp [chkGIs] at e
  | _ :: _, [], _, e, _ => by simp [chkGIs] at e
  | o :: os, g :: gs, q, e, h => by
    simp only [chkGIs, Bool.and_eq_true] at e
    refine ⟨q, List.range' (q + 1) os.length, o, by simp [List.range'_succ], ?_, e.1, OpsR.range e.2 fun j hj => ?_⟩
    · have := h 0 (by simp); simpa using this
    · have := h (j + 1) (by simp; omega)
      rw [show q + (j + 1) = q + 1 + j by omega] at this
      simpa using this

end
end Go.Ax
