/- AX, part L: a region whose order is drawn, over the model. -/
import Derived.Test.YthaplnpebgcgiaaAxK
namespace Go.Ax
open Go.RowKit (Below)

theorem Loc.opM {call : CallF} (hl : ∀ f args, Loc (call f args)) (tm : T AV) (g : GI) : Loc (opM call tm g) := by
  refine Loc.bind (Loc.run _) fun r => ?_
  cases r with
  | v a => exact Loc.ret a
  | skip => exact Loc.ret _
  | call f args => exact hl f args

def memK (k : K) : List K → Bool
  | [] => false
  | q :: r => keq k q || memK k r
theorem memK_iff {k : K} : ∀ {l : List K}, memK k l = true ↔ k ∈ l
  | [] => by simp [memK]
  | q :: r => by simp [memK, keq_iff, memK_iff]

/-- Two operations, in whatever order: neither looks at, nor writes, what the other one writes. -/
def tmOk1 (g t : GI) : Bool :=
  (match g.dst with
    | none => true
    | some k => !memK k t.us && (match t.dst with | none => true | some q => !keq k q)) &&
  (match t.dst with
    | none => true
    | some k => !memK k g.us)

def tmRow (t : GI) (b : Nat) : List GI → Nat → Bool
  | [], _ => true
  | g :: gs, i => (Nat.testBit b i || tmOk1 g t) && tmRow t b gs (i + 1)

def chkTm (pre : List GI) : List GI → List Nat → Bool
  | [], _ => true
  | t :: ts, bs => match bs with
    | [] => false
    | b :: bs => tmRow t b pre 0 && chkTm (pre ++ [t]) ts bs

theorem tmRow_spec {t : GI} {b : Nat} : ∀ {gs : List GI} {o : Nat}, tmRow t b gs o = true → ∀ (i : Nat) (g : GI), gs[i]? = some g → b.testBit (o + i) = true ∨ tmOk1 g t = true
  | [], _, _, i, g, h => by simp at h
  | g0 :: gs, o, e, i, g, h => by
    simp only [tmRow, Bool.and_eq_true, Bool.or_eq_true] at e
    cases i with
    | zero => simp at h; subst h; simpa using e.1
    | succ i =>
      simp at h
      have := tmRow_spec e.2 i g h
      rwa [show o + (i + 1) = o + 1 + i by omega]

theorem chkTm_spec : ∀ {ts : List GI} {pre : List GI} {bs : List Nat}, chkTm pre ts bs = true → ∀ (j : Nat) (t : GI), ts[j]? = some t → ∃ b, bs[j]? = some b ∧ ∀ (i : Nat) (g : GI), i < pre.length + j → (pre ++ ts)[i]? = some g → b.testBit i = true ∨ tmOk1 g t = true
  | [], _, _, _, j, t, h => by simp at h
  | t0 :: ts, pre, bs, e, j, t, h => by
    cases bs with
    | nil => simp [chkTm] at e
    | cons b bs =>
      simp only [chkTm, Bool.and_eq_true] at e
      cases j with
      | zero =>
        simp at h; subst h
        refine ⟨b, by simp, fun i g hi hg => ?_⟩
        have := tmRow_spec e.1 i g (by rwa [List.getElem?_append_left (by omega)] at hg)
        simpa using this
      | succ j =>
        simp at h
        obtain ⟨b', h1, h2⟩ := chkTm_spec e.2 j t h
        refine ⟨b', by simpa using h1, fun i g hi hg => h2 i g (by simp; omega) (by simpa using hg)⟩

def bitOk (bs : List Nat) (o : Oper) (b : Nat) : Nat → Bool
  | 0 => true
  | i + 1 => (!Nat.testBit b i || o.after.any fun e => Region.binds .any e && (e.on == i || (Nat.blt i e.on && Nat.testBit (bs.getD e.on 0) i))) && bitOk bs o b i

theorem bitOk_spec {bs : List Nat} {o : Oper} {b : Nat} : ∀ {j : Nat}, bitOk bs o b j = true → ∀ i, i < j → b.testBit i = true → ∃ e ∈ o.after, Region.binds .any e = true ∧ (e.on = i ∨ i < e.on ∧ (bs.getD e.on 0).testBit i = true)
  | 0, _, i, h, _ => by omega
  | j + 1, e, i, h, hb => by
    simp only [bitOk, Bool.and_eq_true] at e
    by_cases hij : i = j
    · subst hij
      have e := e.1
      rw [hb] at e
      simp only [Bool.not_true, Bool.false_or] at e
      rw [← Array.any_toList, List.any_eq_true] at e
      obtain ⟨x, h1, h2⟩ := e
      simp only [Bool.and_eq_true, Bool.or_eq_true, beq_iff_eq] at h2
      refine ⟨x, by simpa using h1, h2.1, ?_⟩
      rcases h2.2 with z | z
      · exact .inl z
      · exact .inr ⟨Nat.le_of_ble_eq_true z.1, z.2⟩
    · exact bitOk_spec e.2 i (by omega) hb

def chkBef (bs : List Nat) : List Oper → Nat → Bool
  | [], _ => true
  | o :: os, j => (o.after.all fun e => !Region.binds .any e || Nat.blt e.on j) && bitOk bs o (bs.getD j 0) j && chkBef bs os (j + 1)

theorem chkBef_spec {bs : List Nat} : ∀ {os : List Oper} {q : Nat}, chkBef bs os q = true → ∀ (j : Nat) (o : Oper), os[j]? = some o →
    (∀ e ∈ o.after, Region.binds .any e = true → e.on < q + j) ∧ ∀ i, i < q + j → (bs.getD (q + j) 0).testBit i = true → ∃ e ∈ o.after, Region.binds .any e = true ∧ (e.on = i ∨ i < e.on ∧ (bs.getD e.on 0).testBit i = true)
  | [], _, _, j, o, h => by simp at h
  | o0 :: os, q, e, j, o, h => by
    simp only [chkBef, Bool.and_eq_true] at e
    cases j with
    | zero =>
      simp at h; subst h
      refine ⟨fun x hx hb => ?_, fun i hi hb => bitOk_spec e.1.2 i (by simpa using hi) (by simpa using hb)⟩
      have := e.1.1
      simp only [Array.all_eq_true_iff_forall_mem] at this
      have := this x hx
      rw [hb] at this
      simp only [Bool.not_true, Bool.false_or] at this
      have := Nat.le_of_ble_eq_true this
      omega
    | succ j =>
      simp at h
      have := chkBef_spec e.2 j o h
      rwa [show q + (j + 1) = q + 1 + j by omega]

def chkGIs (P : Program) (nt : Nat) (ops : Array Oper) : List Oper → List GI → Bool
  | [], [] => true
  | o :: os, g :: gs => chkGI P nt ops o g && chkGIs P nt ops os gs
  | _, _ => false

theorem chkGIs_spec {P : Program} {nt : Nat} {ops : Array Oper} : ∀ {os : List Oper} {gs : List GI}, chkGIs P nt ops os gs = true → os.length = gs.length ∧ ∀ (j : Nat) (o : Oper), os[j]? = some o → ∃ g, gs[j]? = some g ∧ chkGI P nt ops o g = true
  | [], [], _ => ⟨rfl, fun j o h => by simp at h⟩
  | [], _ :: _, h => by simp [chkGIs] at h
  | _ :: _, [], h => by simp [chkGIs] at h
  | o0 :: os, g :: gs, e => by
    simp only [chkGIs, Bool.and_eq_true] at e
    obtain ⟨h1, h2⟩ := chkGIs_spec e.2
    refine ⟨by simp [h1], fun j o h => ?_⟩
    cases j with
    | zero => simp at h; subst h; exact ⟨g, by simp, e.1⟩
    | succ j => simp at h; obtain ⟨g', h3, h4⟩ := h2 j o h; exact ⟨g', by simpa using h3, h4⟩

section
variable {P : Program} {B : Nat} {w0 : World}

/-- What calls come to, over the model. -/
def CallOK (P : Program) (B : Nat) (w0 : World) (call : CallF) : Prop := ∀ f args h n lg r, call f args h n lg = some r → FOk P f ∧ ∀ β w (l : Array Value), Sim B w0 β h w → VRs β args l.toList →
  Calls P f l w (fun e w' => ∃ u β', e = .returned u ∧ Ext β β' ∧ Sim B w0 β' r.h w' ∧ VR β' r.a u)

theorem opM_wp {call : CallF} (hc : CallOK P B w0 call) {nt : Nat} {ops : Array Oper} {o : Oper} {g : GI} (c : chkGI P nt ops o g = true) {tm : T AV} {a : Act} {β : K → Option BI} {h : T Blk} {w : World} {n : K} {lg : Log} {r : R AV}
    (m : Sim B w0 β h w) (gt : TR β tm a.tmps) (e : opM call tm g h n lg = some r) (next : Act → World → Prop) (Q : Exit → Act → World → Prop) (hn : ∀ β' u w', Ext β β' → Sim B w0 β' r.h w' → VR β' r.a u → next (a.put o.dst u) w') : o.wp P a w next Q := by
  unfold chkGI at c
  simp only [Bool.and_eq_true] at c
  unfold opM M.bind at e
  cases e1 : (g.i.ex tm).run h n lg with
  | none => simp [e1] at e
  | some r1 =>
    simp only [e1] at e
    obtain ⟨w', β', h1, h2, h3⟩ := op_sound c.2 m gt e1
    unfold Oper.wp
    cases ha : r1.a with
    | v x =>
      rw [ha] at h3 e
      simp only [opK, Option.some.injEq] at e; subst e
      obtain ⟨u, h4, h5⟩ := h3
      rw [h4]
      exact hn β' u w' h1 h2 h5
    | skip =>
      rw [ha] at h3 e
      simp only [opK, Option.some.injEq] at e; subst e
      simp only at h3
      rw [h3]
      exact hn β' undef w' h1 h2 (by simp only [VR]; exact ⟨#[], rfl, by simp [VRs]⟩)
    | call f args =>
      rw [ha] at h3 e
      simp only [opK] at e
      obtain ⟨hf, hcall⟩ := hc f args _ _ _ _ e
      obtain ⟨l, h4, h5⟩ := h3 hf
      rw [h4]
      refine Calls.mono (hcall β' w' l h2 h5) fun en w'' hen => ?_
      obtain ⟨u, β'', rfl, q1, q2, q3⟩ := hen
      exact hn β'' u w'' (h1.trans q1) q2 q3

def cnt (N : Nat) (listed : Array Bool) : Nat := ((List.range N).filter fun i => !listed.getD i true).length

theorem filter_lt {α : Type} : ∀ (l : List α) (p q : α → Bool) (x : α), (∀ y, q y = true → p y = true) → x ∈ l → p x = true → q x = false → (l.filter q).length < (l.filter p).length
  | [], _, _, x, _, hx, _, _ => by simp at hx
  | y :: l, p, q, x, h, hx, hp, hq => by
    have hle : ∀ (l : List α), (l.filter q).length ≤ (l.filter p).length := by
      intro l; induction l with
      | nil => simp
      | cons z l ih =>
        simp only [List.filter_cons]
        by_cases hz : q z = true
        · rw [if_pos hz, if_pos (h z hz)]; simpa using ih
        · rw [if_neg hz]; split
          · simp; omega
          · exact ih
    simp only [List.filter_cons]
    rcases List.mem_cons.1 hx with e | e
    · subst e
      rw [if_neg (by simp [hq]), if_pos hp]
      simpa using Nat.lt_succ_of_le (hle l)
    · have ih := filter_lt l p q x h e hp hq
      by_cases hz : q y = true
      · rw [if_pos hz, if_pos (h y hz)]; simpa using ih
      · rw [if_neg hz]; split
        · simp; omega
        · exact ih

theorem cnt_set {N i : Nat} {listed : Array Bool} (hi : i < N) (hu : listed.getD i true = false) : cnt N (listed.setIfInBounds i true) < cnt N listed := by
  have hlt : i < listed.size := by
    rcases Nat.lt_or_ge i listed.size with z | z
    · exact z
    · rw [Array.getD_eq_getD_getElem?, Array.getElem?_eq_none z] at hu; simp at hu
  unfold cnt
  refine filter_lt _ _ _ i (fun y hy => ?_) (List.mem_range.2 hi) (by simp [hu]) ?_
  · simp only [Bool.not_eq_true'] at hy ⊢
    by_cases hyi : i = y
    · subst hyi
      rw [Array.getD_eq_getD_getElem?, Array.getElem?_setIfInBounds] at hy
      simp [hlt] at hy
    · rw [getD_set_ne true hyi] at hy; exact hy
  · rw [Array.getD_eq_getD_getElem?, Array.getElem?_setIfInBounds]; simp [hlt]

theorem cnt_zero {N : Nat} {listed : Array Bool} (h : cnt N listed = 0) (i : Nat) (hi : i < N) : listed.getD i true = true := by
  unfold cnt at h
  have := List.eq_nil_of_length_eq_zero h
  rw [List.filter_eq_nil_iff] at this
  have := this i (List.mem_range.2 hi)
  simpa using this

theorem getD_TF {listed : Array Bool} {i : Nat} (hi : i < listed.size) : listed.getD i true = listed.getD i false := by
  rw [Array.getD_eq_getD_getElem?, Array.getD_eq_getD_getElem?, Array.getElem?_eq_getElem hi]; rfl

/-- The premises on a region's text. -/
structure Reg (P : Program) (nt : Nat) (ops : Array Oper) (gs : List GI) (bs : List Nat) : Prop where
  gi : chkGIs P nt ops ops.toList gs = true
  bef : chkBef bs ops.toList 0 = true
  tm : chkTm [] gs bs = true

theorem draw_any {call : CallF} (hc : CallOK P B w0 call) (hl : ∀ f args, Loc (call f args)) {nt : Nat} {ops : Array Oper} {gs : List GI} {bs : List Nat} (rg : Reg P nt ops gs bs) {tm : T AV} {h : T Blk} {ss : List Stp} {tm' : T AV} {h' : T Blk}
    (c1 : Chain tm h ss tm' h') (c2 : ss.map (·.g) = gs) (c3 : ∀ (j : Nat) (s : Stp), ss[j]? = some s → bs[j]? = some s.b) (c4 : ∀ s ∈ ss, s.ok call)
    (c5 : ∀ (j k : Nat) (s t : Stp), j < k → ss[j]? = some s → ss[k]? = some t → t.b.testBit j = true ∨ s.L = [] ∨ t.L = [] ∨ disj t.L s.L = true) (Q : Exit → Act → World → Prop) (β0 : K → Option BI) (sz : Nat) (df : List Deferred)
    (hQ : ∀ a w β, Ext β0 β → Sim B w0 β h' w → TR β tm' a.tmps → a.tmps.size = sz → a.defers = df → Q .normal a w) :
    ∀ (fuel : Nat) (listed : Array Bool) (a : Act) (w : World) (β : K → Option BI) (tc : T AV) (hcur : T Blk), listed.size = ops.size → (∀ (j : Nat) (o : Oper), ops[j]? = some o → listed.getD j false = true → ∀ e ∈ o.after, Region.binds .any e = true → listed.getD e.on false = true) →
      cnt ops.size listed ≤ fuel → Ext β0 β → Sim B w0 β hcur w → TR β tc a.tmps → nt ≤ a.tmps.size → a.tmps.size = sz → a.defers = df → (∀ k, tc.get k = tmS (fun i => listed.getD i false) 0 ss tm.get k) → (∀ k, hcur.get k = hS (fun i => listed.getD i false) 0 ss h.get k) →
      wpAny P .any ops Q fuel listed a w := by
  obtain ⟨g1, g2⟩ := chkGIs_spec rg.gi
  have hlen : ss.length = ops.size := by
    have : ss.length = gs.length := by rw [← c2]; simp
    rw [this, ← g1]; simp
  have hstp : ∀ (j : Nat) (o : Oper), ops[j]? = some o → ∃ s, ss[j]? = some s ∧ chkGI P nt ops o s.g = true ∧ gs[j]? = some s.g := by
    intro j o ho
    obtain ⟨g, h1, h2⟩ := g2 j o (by simpa using ho)
    rw [← c2, List.getElem?_map] at h1
    cases hs : ss[j]? with
    | none => rw [hs] at h1; simp at h1
    | some s => rw [hs] at h1; simp at h1; subst h1; exact ⟨s, rfl, h2, by rw [← c2, List.getElem?_map, hs]; rfl⟩
  have frame : ∀ s ∈ ss, s.frame := by
    intro s hs k hk
    obtain ⟨_, h2, h3⟩ := c4 s hs
    cases hw : s.w with
    | false => rw [(h3 hw).2.2]
    | true =>
      obtain ⟨n', e⟩ := h2 hw
      obtain ⟨L, l1, l2, _⟩ := Loc.opM hl s.tm s.g s.h s.n [] _ e
      simp only [List.append_nil] at l1
      subst l1
      exact l2 k hk
  -- where nothing is ready, all is done
  have done : ∀ listed : Array Bool, listed.size = ops.size → Region.ready .any ops listed = [] → ∀ j, j < ops.size → listed.getD j false = true := by
    intro listed hls hr j
    induction j using Nat.strongRecOn with
    | _ j ih =>
      intro hj
      cases hlj : listed.getD j false with
      | true => rfl
      | false =>
        exfalso
        have : j ∈ Region.ready .any ops listed := by
          rw [mem_ready]
          refine ⟨by rw [getD_TF (by omega)]; exact hlj, ops[j], by simp [hj], fun e he hb => ?_⟩
          have := (chkBef_spec rg.bef j ops[j] (by simp [hj])).1 e he hb
          exact ih e.on (by omega) (by omega)
        rw [hr] at this; cases this
  have fin : ∀ (listed : Array Bool) (a : Act) (w : World) (β : K → Option BI) (tc : T AV) (hcur : T Blk), (∀ j, j < ops.size → listed.getD j false = true) → Ext β0 β → Sim B w0 β hcur w → TR β tc a.tmps → a.tmps.size = sz → a.defers = df →
      (∀ k, tc.get k = tmS (fun i => listed.getD i false) 0 ss tm.get k) → (∀ k, hcur.get k = hS (fun i => listed.getD i false) 0 ss h.get k) → Q .normal a w := by
    intro listed a w β tc hcur hall hx m gt hsz hdf ht hh
    refine hQ a w β hx (m.congr fun k => ?_) (fun k v hv => gt k v ?_) hsz hdf
    · rw [hh k]; exact (hS_all c1 frame _ 0 (fun j hj => by simpa using hall j (by omega)) k).symm
    · rw [ht k, tmS_all c1 _ 0 (fun j hj => by simpa using hall j (by omega)) k]; exact hv
  intro fuel
  induction fuel with
  | zero =>
    intro listed a w β tc hcur hls hcl hcnt hx m gt hn hsz hdf ht hh
    have hall : ∀ j, j < ops.size → listed.getD j false = true := fun j hj => by
      rw [← getD_TF (by omega)]; exact cnt_zero (by omega) j hj
    refine ⟨?_, fin listed a w β tc hcur hall hx m gt hsz hdf ht hh⟩
    rw [List.eq_nil_iff_forall_not_mem]
    intro j hj
    rw [mem_ready] at hj
    obtain ⟨h1, o, h2, _⟩ := hj
    have hlt : j < ops.size := (Array.getElem?_eq_some_iff.1 h2).1
    have := hall j hlt
    rw [← getD_TF (by omega), h1] at this; cases this
  | succ fuel ih =>
    intro listed a w β tc hcur hls hcl hcnt hx m gt hn hsz hdf ht hh
    refine ⟨fun hr => fin listed a w β tc hcur (done listed hls hr) hx m gt hsz hdf ht hh, fun j hj => ?_⟩
    rw [mem_ready] at hj
    obtain ⟨hu, o, ho, hed⟩ := hj
    have hlt : j < ops.size := (Array.getElem?_eq_some_iff.1 ho).1
    have huf : listed.getD j false = false := by rw [← getD_TF (by omega)]; exact hu
    obtain ⟨s, hs, hgi, hgs⟩ := hstp j o ho
    have hmem : s ∈ ss := List.mem_of_getElem? hs
    obtain ⟨ok1, ok2, ok3⟩ := c4 s hmem
    have hbj : bs.getD j 0 = s.b := by rw [List.getD_eq_getElem?_getD, c3 j s hs]; rfl
    -- what has run, or is ready, hangs on what has run
    have closed : ∀ q, q < ops.size → (q = j ∨ listed.getD q false = true) → ∀ i, i < q → (bs.getD q 0).testBit i = true → listed.getD i false = true := by
      intro q
      induction q using Nat.strongRecOn with
      | _ q ihq =>
        intro hqlt hcase i hi hb
        obtain ⟨e1, e2⟩ := chkBef_spec rg.bef q ops[q] (by simp [hqlt])
        simp only [Nat.zero_add] at e1 e2
        obtain ⟨e, he, hbd, hor⟩ := e2 i hi hb
        have hon : listed.getD e.on false = true := by
          rcases hcase with rfl | hcase
          · have : ops[q] = o := by have := ho; rw [Array.getElem?_eq_getElem hqlt] at this; exact Option.some.inj this
            rw [this] at he
            exact hed e he hbd
          · exact hcl q ops[q] (by simp [hqlt]) hcase e he hbd
        rcases hor with rfl | ⟨z, hor⟩
        · exact hon
        · have hlt' := e1 e he hbd
          exact ihq e.on hlt' (by omega) (.inr hon) i z hor
    have hidx : ∀ (i : Nat) (t : Stp), ss[i]? = some t → i < ops.size := by
      intro i t ht
      rw [← hlen]
      rcases Nat.lt_or_ge i ss.length with z | z
      · exact z
      · rw [List.getElem?_eq_none z] at ht; cases ht
    have hbi : ∀ (i : Nat) (t : Stp), ss[i]? = some t → bs.getD i 0 = t.b := by
      intro i t ht; rw [List.getD_eq_getElem?_getD, c3 i t ht]; rfl
    have hgi' : ∀ (i : Nat) (t : Stp), ss[i]? = some t → gs[i]? = some t.g := by
      intro i t ht; rw [← c2, List.getElem?_map, ht]; rfl
    have tmpair : ∀ (i k : Nat) (t u : Stp), i < k → ss[i]? = some t → ss[k]? = some u → u.b.testBit i = true ∨ tmOk1 t.g u.g = true := by
      intro i k t u hik ht hu'
      obtain ⟨b, q1, q2⟩ := chkTm_spec rg.tm k u.g (hgi' k u hu')
      rw [c3 k u hu', Option.some.injEq] at q1
      subst q1
      exact q2 i t.g (by simpa using hik) (by simpa using hgi' i t ht)
    -- a writer of what lies unordered with j has run just if it stands ahead of j
    have side : ∀ (i : Nat) (t : Stp), ss[i]? = some t → (i < j → s.b.testBit i = true) → (j < i → t.b.testBit j = true) → i ≠ j → listed.getD i false = decide (i < j) := by
      intro i t ht h1 h2 hne
      by_cases hij : i < j
      · rw [closed j hlt (.inl rfl) i hij (by rw [hbj]; exact h1 hij)]; simp [hij]
      · have hji : j < i := by omega
        have hb := h2 hji
        cases hli : listed.getD i false with
        | false => simp [hij]
        | true =>
          have := closed i (hidx i t ht) (.inr hli) j hji (by rw [hbi i t ht]; exact hb)
          rw [huf] at this; cases this
    have before_tm : ∀ k, k ∈ s.g.us → tc.get k = s.tm.get k := by
      intro k hk
      rw [ht k, ← tmS_before c1 0 j s hs k]
      apply tmS_congr
      · rfl
      · intro i t ht' hd
        simp only [Nat.zero_add]
        by_cases hij : i = j
        · subst hij; rw [huf]; simp
        · refine side i t ht' (fun z => ?_) (fun z => ?_) hij
          · rcases tmpair i j t s z ht' hs with q | q
            · exact q
            · unfold tmOk1 at q
              rw [hd] at q
              simp only [Bool.and_eq_true, Bool.not_eq_true'] at q
              have := memK_iff.2 hk
              rw [q.1.1] at this; cases this
          · rcases tmpair j i s t z hs ht' with q | q
            · exact q
            · unfold tmOk1 at q
              rw [hd] at q
              simp only [Bool.and_eq_true, Bool.not_eq_true'] at q
              have := memK_iff.2 hk
              rw [q.2] at this; cases this
    have before_h : ∀ k b, (k, b) ∈ s.L → hcur.get k = s.h.get k := by
      intro k b hk
      rw [hh k, ← hS_before c1 frame 0 j s hs k]
      apply hS_congr
      · rfl
      · intro i t ht' hd
        simp only [Nat.zero_add]
        by_cases hij : i = j
        · subst hij; rw [huf]; simp
        · refine side i t ht' (fun z => ?_) (fun z => ?_) hij
          · rcases c5 i j t s z ht' hs with q | q | q | q
            · exact q
            · rw [q] at hd; simp at hd
            · rw [q] at hk; simp at hk
            · have := (disj_spec q k b true hk hd).2; cases this
          · rcases c5 j i s t z hs ht' with q | q | q | q
            · exact q
            · rw [q] at hk; simp at hk
            · rw [q] at hd; simp at hd
            · have := (disj_spec q k true b hd hk).1; cases this
    have lst : ∀ i, i < ops.size → (listed.setIfInBounds j true).getD i false = if i = j then true else listed.getD i false := by
      intro i hi
      by_cases hij : i = j
      · subst hij; rw [if_pos rfl, Array.getD_eq_getD_getElem?, Array.getElem?_setIfInBounds]; simp [hls, hlt]
      · rw [if_neg hij, getD_set_ne false (fun x => hij x.symm)]
    have hcl' : ∀ (q : Nat) (o : Oper), ops[q]? = some o → (listed.setIfInBounds j true).getD q false = true → ∀ e ∈ o.after, Region.binds .any e = true → (listed.setIfInBounds j true).getD e.on false = true := by
      intro q oq hq hl' e he hb
      have hqlt : q < ops.size := (Array.getElem?_eq_some_iff.1 hq).1
      have helt : e.on < q := by have := (chkBef_spec rg.bef q oq (by simpa using hq)).1 e he hb; simpa using this
      rw [lst q hqlt] at hl'
      rw [lst e.on (by omega)]
      by_cases heq : e.on = j
      · rw [if_pos heq]
      · rw [if_neg heq]
        by_cases hqj : q = j
        · subst hqj
          rw [ho, Option.some.injEq] at hq; subst hq
          exact hed e he hb
        · rw [if_neg hqj] at hl'
          exact hcl q oq hq hl' e he hb
    have hcnt' : cnt ops.size (listed.setIfInBounds j true) ≤ fuel := by have := cnt_set (N := ops.size) hlt hu; omega
    have after_tm : ∀ k, (putA tc s.g.dst s.v).get k = tmS (fun i => (listed.setIfInBounds j true).getD i false) 0 ss tm.get k := by
      intro k
      rw [putA_get]
      by_cases hd : s.g.dst = some k
      · rw [if_pos hd]
        have hb := tmS_behind c1 j s hs k
        rw [putA_get, if_pos hd] at hb
        rw [← hb]
        symm
        apply tmS_congr
        · rfl
        · intro i t ht' hd'
          simp only [Nat.zero_add]
          rw [lst i (hidx i t ht')]
          by_cases hij : i = j
          · subst hij; simp
          · rw [if_neg hij, side i t ht' (fun z => ?_) (fun z => ?_) hij]
            · congr 1; simp; omega
            · rcases tmpair i j t s z ht' hs with q | q
              · exact q
              · unfold tmOk1 at q
                rw [hd', hd] at q
                simp [(keq_iff k k).2 rfl] at q
            · rcases tmpair j i s t z hs ht' with q | q
              · exact q
              · unfold tmOk1 at q
                rw [hd', hd] at q
                simp [(keq_iff k k).2 rfl] at q
      · rw [if_neg hd, ht k]
        apply tmS_congr
        · rfl
        · intro i t ht' hd'
          simp only [Nat.zero_add]
          rw [lst i (hidx i t ht')]
          by_cases hij : i = j
          · subst hij
            rw [hs, Option.some.injEq] at ht'; subst ht'
            exact absurd hd' hd
          · rw [if_neg hij]
    have others_h : ∀ k, (k, true) ∉ s.L → hS (fun i => listed.getD i false) 0 ss h.get k = hS (fun i => (listed.setIfInBounds j true).getD i false) 0 ss h.get k := by
      intro k hd
      apply hS_congr
      · rfl
      · intro i t ht' hd'
        simp only [Nat.zero_add]
        rw [lst i (hidx i t ht')]
        by_cases hij : i = j
        · subst hij
          rw [hs, Option.some.injEq] at ht'; subst ht'
          exact absurd hd' hd
        · rw [if_neg hij]
    have want : Region.wanted o (yielded ops a.tmps) = s.w := want_sound hgi gt (by rw [want_agree (fun k hk => before_tm k hk)]; exact ok1)
    have hsz' : ∀ u, (a.put o.dst u).tmps.size = a.tmps.size ∧ (a.put o.dst u).defers = a.defers := by
      intro u; cases o.dst <;> simp [Act.put]
    unfold wpOp
    rw [ho]
    simp only [want]
    cases hw : s.w with
    | false =>
      obtain ⟨v1, v2, v3⟩ := ok3 hw
      simp only [Bool.false_eq_true, if_false]
      obtain ⟨p1, p2, p3⟩ := put_sound (β := β) hgi gt hn (v := .tu []) (u := undef) (by simp only [VR]; exact ⟨#[], rfl, by simp [VRs]⟩)
      refine ih _ _ w β (putA tc s.g.dst (.tu [])) hcur (by simpa using hls) hcl' hcnt' hx m p1 (by omega) (by omega) (by rw [p3, hdf]) (by rw [← v1]; exact after_tm) (fun k => ?_)
      rw [hh k]
      exact others_h k (by rw [v2]; simp)
    | true =>
      simp only [if_true]
      left
      obtain ⟨n', e⟩ := ok2 hw
      have hex : opM call tc s.g = opM call s.tm s.g := by
        unfold opM
        rw [ex_agree (fun k hk => before_tm k (by unfold GI.us; simp [hk]))]
      obtain ⟨L, l1, l2, l3⟩ := Loc.opM hl s.tm s.g s.h s.n [] _ e
      simp only [List.append_nil] at l1
      subst l1
      obtain ⟨hc', d1, d2, d3⟩ := l3 hcur [] before_h
      rw [← hex] at d1
      refine opM_wp hc hgi m gt d1 _ _ fun β' u w' x1 x2 x3 => ?_
      obtain ⟨p1, p2, p3⟩ := put_sound (β := β') hgi (gt.mono x1) hn x3
      refine ih _ _ w' β' (putA tc s.g.dst s.v) hc' (by simpa using hls) hcl' hcnt' (hx.trans x1) x2 p1 (by omega) (by omega) (by rw [p3, hdf]) after_tm (fun k => ?_)
      by_cases hd : (k, true) ∈ s.L
      · rw [d2 k hd]
        have hb := hS_behind c1 frame j s hs k
        simp only
        rw [← hb]
        symm
        apply hS_congr
        · rfl
        · intro i t ht' hd'
          simp only [Nat.zero_add]
          rw [lst i (hidx i t ht')]
          by_cases hij : i = j
          · subst hij; simp
          · rw [if_neg hij, side i t ht' (fun z => ?_) (fun z => ?_) hij]
            · congr 1; simp; omega
            · rcases c5 i j t s z ht' hs with q | q | q | q
              · exact q
              · rw [q] at hd'; simp at hd'
              · rw [q] at hd; simp at hd
              · have := (disj_spec q k true true hd hd').1; cases this
            · rcases c5 j i s t z hs ht' with q | q | q | q
              · exact q
              · rw [q] at hd; simp at hd
              · rw [q] at hd'; simp at hd'
              · have := (disj_spec q k true true hd' hd).1; cases this
      · rw [d3 k hd, hh k]
        exact others_h k hd

theorem draw_sound {call : CallF} (hc : CallOK P B w0 call) (hl : ∀ f args, Loc (call f args)) {nt id : Nat} {ops : Array Oper} {gs : List GI} {bs : List Nat} (rg : Reg P nt ops gs bs) (hm : P.follows .mixedOrders = true)
    {tm : T AV} {a : Act} {β : K → Option BI} {h : T Blk} {w : World} {n : K} {lg : Log} {r : R (T AV)} (m : Sim B w0 β h w) (gt : TR β tm a.tmps) (hn : nt ≤ a.tmps.size) (e : drw call gs bs 0 [] tm h n lg = some r) :
    (Code.region id ops true).wp P (fun ex a' w' => ex = .normal ∧ a'.defers = a.defers ∧ a'.tmps.size = a.tmps.size ∧ ∃ β', Ext β β' ∧ Sim B w0 β' r.h w' ∧ TR β' r.a a'.tmps) a w := by
  obtain ⟨ss, c1, c2, c3, c4, c5, _⟩ := drw_trace gs bs 0 [] tm h n lg r e
  refine wp_region_any hm ?_
  refine draw_any hc hl rg c1 c2 c3 c4 (fun j k s t hjk hs ht => by have := c5 j k s t hjk hs ht; simpa using this) _ β a.tmps.size a.defers
    (fun a' w' β' x1 x2 x3 x4 x5 => ⟨rfl, x5, x4, β', x1, x2, x3⟩) _ _ a _ β tm h (by simp) ?_ ?_ (.refl _) (m.drew _) gt hn rfl rfl ?_ ?_
  · intro j o ho hl'
    rw [Array.getD_eq_getD_getElem?] at hl'
    simp only [Array.getElem?_replicate] at hl'
    split at hl' <;> simp at hl'
  · unfold cnt
    refine Nat.le_trans (List.length_filter_le _ _) ?_
    simp
  · intro k
    have : ∀ (l : List Stp) (o : Nat) (f : K → Option AV), tmS (fun i => (Array.replicate ops.size false).getD i false) o l f k = f k := by
      intro l; induction l with
      | nil => intro o f; rfl
      | cons s l ih =>
        intro o f
        simp only [tmS]
        rw [ih]
        rw [if_neg]
        intro x
        have := x.1
        rw [Array.getD_eq_getD_getElem?] at this
        simp only [Array.getElem?_replicate] at this
        split at this <;> simp at this
    rw [this]
  · intro k
    have : ∀ (l : List Stp) (o : Nat) (f : K → Option Blk), hS (fun i => (Array.replicate ops.size false).getD i false) o l f k = f k := by
      intro l; induction l with
      | nil => intro o f; rfl
      | cons s l ih =>
        intro o f
        simp only [hS]
        rw [ih]
        rw [if_neg]
        intro x
        have := x.1
        rw [Array.getD_eq_getD_getElem?] at this
        simp only [Array.getElem?_replicate] at this
        split at this <;> simp at this
    rw [this]

end
end Go.Ax
