/- AX, part K: a region whose order is drawn: where what its operations touch lies apart, every order comes to the same. -/
import Derived.Test.YthaplnpebgcgiaaAxJ
namespace Go.Ax
open Go.RowKit (Below)

abbrev CallF := Nat → List AV → M AV

def opK (call : CallF) : ARes → M AV
  | .v a => fun h n lg => some ⟨a, h, n, lg⟩
  | .skip => fun h n lg => some ⟨.tu [], h, n, lg⟩
  | .call f args => call f args

/-- One operation, calls and all. -/
def opM (call : CallF) (tm : T AV) (g : GI) : M AV := M.bind (fun h n lg => (g.i.ex tm).run h n lg) (opK call)

def disj1 (k : K) (b : Bool) : Log → Bool
  | [] => true
  | (q, c) :: r => (match keq k q with | true => !b && !c | false => true) && disj1 k b r
def disj : Log → Log → Bool
  | [], _ => true
  | (k, b) :: r, l => disj1 k b l && disj r l

theorem disj1_spec {k : K} {b : Bool} : ∀ {l : Log}, disj1 k b l = true → ∀ c, (k, c) ∈ l → b = false ∧ c = false
  | [], _, c, h => by simp at h
  | (q, d) :: r, e, c, h => by
    simp only [disj1, Bool.and_eq_true] at e
    rcases List.mem_cons.1 h with x | x
    · injection x with x1 x2
      subst x1 x2
      have : keq k k = true := (keq_iff k k).2 rfl
      rw [this] at e
      simpa using e.1
    · exact disj1_spec e.2 c x
theorem disj_spec : ∀ {l l' : Log}, disj l l' = true → ∀ k b c, (k, b) ∈ l → (k, c) ∈ l' → b = false ∧ c = false
  | [], _, _, k, b, c, h, _ => by simp at h
  | (q, d) :: r, l', e, k, b, c, h, h' => by
    simp only [disj, Bool.and_eq_true] at e
    rcases List.mem_cons.1 h with x | x
    · injection x with x1 x2
      subst x1 x2
      exact disj1_spec e.1 c h'
    · exact disj_spec e.2 k b c x h'

def apartL (b : Nat) (l : Log) : List (Nat × Log) → Bool
  | [] => true
  | (j, m) :: r => (match Nat.testBit b j with | true => true | false => disj l m) && apartL b l r

/-- The operations in the text's order; each one's touch is held against what lies unordered before it. -/
def drw (call : CallF) : List GI → List Nat → Nat → List (Nat × Log) → T AV → M (T AV)
  | [], _, _, _, tm => fun h n lg => some ⟨tm, h, n, lg⟩
  | g :: gs, bs, i, past, tm => match bs with
    | [] => fun _ _ _ => none
    | b :: bs => match wantA tm g.guard with
      | none => fun _ _ _ => none
      | some false => drw call gs bs (i + 1) past (putA tm g.dst (.tu []))
      | some true => fun h n lg => match opM call tm g h n [] with
        | none => none
        | some r => match apartL b r.lg past with
          | true => drw call gs bs (i + 1) (match r.lg with | [] => past | _ :: _ => (i, r.lg) :: past) (putA tm g.dst r.a) r.h r.n (r.lg ++ lg)
          | false => none

/-- One step of the text's order. -/
structure Stp where
  g : GI
  b : Nat
  w : Bool
  tm : T AV
  h : T Blk
  n : K
  v : AV
  L : Log
  h' : T Blk

inductive Chain : T AV → T Blk → List Stp → T AV → T Blk → Prop
  | nil {tm : T AV} {h : T Blk} : Chain tm h [] tm h
  | cons {tm tm' : T AV} {h h' : T Blk} {s : Stp} {ss : List Stp} (e1 : s.tm = tm) (e2 : s.h = h) (c : Chain (putA tm s.g.dst s.v) s.h' ss tm' h') : Chain tm h (s :: ss) tm' h'

def Stp.ok (call : CallF) (s : Stp) : Prop := wantA s.tm s.g.guard = some s.w ∧ (s.w = true → ∃ n', opM call s.tm s.g s.h s.n [] = some ⟨s.v, s.h', n', s.L⟩) ∧ (s.w = false → s.v = .tu [] ∧ s.L = [] ∧ s.h' = s.h)

theorem apartL_spec {b : Nat} {l : Log} : ∀ {past : List (Nat × Log)}, apartL b l past = true → ∀ j m, (j, m) ∈ past → b.testBit j = true ∨ disj l m = true
  | [], _, j, m, h => by simp at h
  | (i, q) :: r, e, j, m, h => by
    simp only [apartL, Bool.and_eq_true] at e
    rcases List.mem_cons.1 h with x | x
    · injection x with x1 x2
      subst x1 x2
      have e := e.1
      split at e
      · next hb => exact .inl hb
      · exact .inr e
    · exact apartL_spec e.2 j m x

theorem drw_trace {call : CallF} : ∀ (gs : List GI) (bs : List Nat) (i : Nat) (past : List (Nat × Log)) (tm : T AV) (h : T Blk) (n : K) (lg : Log) (r : R (T AV)), drw call gs bs i past tm h n lg = some r →
    ∃ ss : List Stp, Chain tm h ss r.a r.h ∧ ss.map (·.g) = gs ∧ (∀ (j : Nat) (s : Stp), ss[j]? = some s → bs[j]? = some s.b) ∧ (∀ s ∈ ss, s.ok call) ∧
      (∀ (j k : Nat) (s t : Stp), j < k → ss[j]? = some s → ss[k]? = some t → t.b.testBit (i + j) = true ∨ s.L = [] ∨ t.L = [] ∨ disj t.L s.L = true) ∧
      (∀ (k : Nat) (t : Stp) (j : Nat) (m : Log), ss[k]? = some t → (j, m) ∈ past → t.b.testBit j = true ∨ t.L = [] ∨ disj t.L m = true)
  | [], bs, i, past, tm, h, n, lg, r, e => by
    simp only [drw, Option.some.injEq] at e; subst e
    exact ⟨[], .nil, rfl, fun j s hs => by simp at hs, fun s hs => by simp at hs, fun j k s t _ hs _ => by simp at hs, fun k t j m hs _ => by simp at hs⟩
  | g :: gs, bs, i, past, tm, h, n, lg, r, e => by
    simp only [drw] at e
    cases bs with
    | nil => cases e
    | cons b bs =>
      cases hw : wantA tm g.guard with
      | none => simp [hw] at e
      | some bw =>
       cases bw with
       | false =>
        simp only [hw] at e
        obtain ⟨ss, c1, c2, c3, c4, c5, c6⟩ := drw_trace gs bs (i + 1) past _ h n lg r e
        refine ⟨⟨g, b, false, tm, h, n, .tu [], [], h⟩ :: ss, .cons rfl rfl c1, by simp [c2], ?_, ?_, ?_, ?_⟩
        · intro j s hs
          cases j with
          | zero => simp at hs; subst hs; simp
          | succ j => simp at hs; simpa using c3 j s hs
        · intro s hs
          rcases List.mem_cons.1 hs with x | x
          · subst x; exact ⟨hw, fun x => by (cases x), fun _ => ⟨rfl, rfl, rfl⟩⟩
          · exact c4 s x
        · intro j k s t hjk hs ht
          cases k with
          | zero => omega
          | succ k =>
            cases j with
            | zero => simp at hs; subst hs; exact .inr (.inl rfl)
            | succ j =>
              simp at hs ht
              have := c5 j k s t (by omega) hs ht
              rwa [show i + (j + 1) = i + 1 + j by omega]
        · intro k t j m ht hm
          cases k with
          | zero => simp at ht; subst ht; exact .inr (.inl rfl)
          | succ k => simp at ht; exact c6 k t j m ht hm
       | true =>
        simp only [hw] at e
        cases hq : opM call tm g h n [] with
        | none => simp [hq] at e
        | some q =>
          simp only [hq] at e
          cases hap : apartL b q.lg past with
          | false => simp [hap] at e
          | true =>
            simp only [hap] at e
            obtain ⟨ss, c1, c2, c3, c4, c5, c6⟩ := drw_trace gs bs (i + 1) _ _ q.h q.n _ r e
            refine ⟨⟨g, b, true, tm, h, n, q.a, q.lg, q.h⟩ :: ss, .cons rfl rfl c1, by simp [c2], ?_, ?_, ?_, ?_⟩
            · intro j s hs
              cases j with
              | zero => simp at hs; subst hs; simp
              | succ j => simp at hs; simpa using c3 j s hs
            · intro s hs
              rcases List.mem_cons.1 hs with x | x
              · subst x; exact ⟨hw, fun _ => ⟨q.n, hq⟩, fun x => by (cases x)⟩
              · exact c4 s x
            · intro j k s t hjk hs ht
              cases k with
              | zero => omega
              | succ k =>
                cases j with
                | zero =>
                  simp at hs; subst hs
                  simp at ht
                  cases hl : q.lg with
                  | nil => exact .inr (.inl rfl)
                  | cons x y =>
                    simp only [hl] at c6
                    rcases c6 k t i (x :: y) ht (by simp) with z | z | z
                    · exact .inl (by simpa using z)
                    · exact .inr (.inr (.inl z))
                    · exact .inr (.inr (.inr (by simpa [hl] using z)))
                | succ j =>
                  simp at hs ht
                  have := c5 j k s t (by omega) hs ht
                  rwa [show i + (j + 1) = i + 1 + j by omega]
            · intro k t j m ht hm
              cases k with
              | zero =>
                simp at ht; subst ht
                rcases apartL_spec hap j m hm with z | z
                · exact .inl z
                · exact .inr (.inr z)
              | succ k =>
                simp at ht
                refine c6 k t j m ht ?_
                cases q.lg with
                | nil => exact hm
                | cons x y => exact List.mem_cons_of_mem _ hm

/-- What a slot holds when some of the operations have run, in the text's order. -/
def tmS (S : Nat → Bool) : Nat → List Stp → (K → Option AV) → K → Option AV
  | _, [], f => f
  | i, s :: ss, f => tmS S (i + 1) ss (fun k => if S i = true ∧ s.g.dst = some k then some s.v else f k)

/-- What a key holds then. -/
def hS (S : Nat → Bool) : Nat → List Stp → (K → Option Blk) → K → Option Blk
  | _, [], f => f
  | i, s :: ss, f => hS S (i + 1) ss (fun k => if S i = true ∧ (k, true) ∈ s.L then s.h'.get k else f k)

theorem tmS_congr {S S' : Nat → Bool} {k : K} : ∀ (ss : List Stp) (o : Nat) (f f' : K → Option AV), f k = f' k → (∀ (j : Nat) (s : Stp), ss[j]? = some s → s.g.dst = some k → S (o + j) = S' (o + j)) → tmS S o ss f k = tmS S' o ss f' k
  | [], _, f, f', h, _ => h
  | s :: ss, o, f, f', h, hs => by
    simp only [tmS]
    refine tmS_congr ss (o + 1) _ _ ?_ (fun j t ht hd => by
      have := hs (j + 1) t (by simpa using ht) hd
      rwa [show o + (j + 1) = o + 1 + j by omega] at this)
    by_cases hd : s.g.dst = some k
    · have := hs 0 s (by simp) hd
      simp only [Nat.add_zero] at this
      rw [this, h]
    · rw [if_neg (fun x => hd x.2), if_neg (fun x => hd x.2), h]

theorem hS_congr {S S' : Nat → Bool} {k : K} : ∀ (ss : List Stp) (o : Nat) (f f' : K → Option Blk), f k = f' k → (∀ (j : Nat) (s : Stp), ss[j]? = some s → (k, true) ∈ s.L → S (o + j) = S' (o + j)) → hS S o ss f k = hS S' o ss f' k
  | [], _, f, f', h, _ => h
  | s :: ss, o, f, f', h, hs => by
    simp only [hS]
    refine hS_congr ss (o + 1) _ _ ?_ (fun j t ht hd => by
      have := hs (j + 1) t (by simpa using ht) hd
      rwa [show o + (j + 1) = o + 1 + j by omega] at this)
    by_cases hd : (k, true) ∈ s.L
    · have := hs 0 s (by simp) hd
      simp only [Nat.add_zero] at this
      rw [this, h]
    · rw [if_neg (fun x => hd x.2), if_neg (fun x => hd x.2), h]

theorem putA_get (tm : T AV) (d : Option K) (v : AV) (k : K) : (putA tm d v).get k = if d = some k then some v else tm.get k := by
  cases d with
  | none => simp [putA]
  | some q =>
    simp only [putA, T.get_ins, Option.some.injEq]
    by_cases h : k = q
    · rw [if_pos h, if_pos h.symm]
    · rw [if_neg h, if_neg (fun x => h x.symm)]

/-- Before operation j: what the ones ahead of it have left. -/
theorem tmS_before {tm tm' : T AV} {h h' : T Blk} : ∀ {ss : List Stp}, Chain tm h ss tm' h' → ∀ (o j : Nat) (s : Stp), ss[j]? = some s → ∀ k, tmS (fun i => decide (i < o + j)) o ss tm.get k = s.tm.get k
  | [], _, o, j, s, hs, k => by simp at hs
  | s0 :: ss, c, o, j, s, hs, k => by
    cases c with
    | cons e1 e2 c =>
      have none_of : ∀ (l : List Stp) (q : Nat) (f : K → Option AV), o + 0 ≤ q → tmS (fun i => decide (i < o + 0)) q l f k = f k := by
        intro l; induction l with
        | nil => intro q f _; rfl
        | cons a l ih =>
          intro q f hq
          simp only [tmS]
          rw [ih (q + 1) _ (by omega)]
          rw [if_neg (by simp; omega)]
      cases j with
      | zero =>
        simp at hs; subst hs
        rw [e1]
        exact none_of _ o _ (by omega)
      | succ j =>
        simp at hs
        have ih := tmS_before c (o + 1) j s hs k
        simp only [tmS]
        rw [← ih, show o + (j + 1) = o + 1 + j by omega]
        apply tmS_congr
        · simp only [putA_get]
          by_cases hd : s0.g.dst = some k
          · rw [if_pos ⟨by simp; omega, hd⟩, if_pos hd]
          · rw [if_neg (fun x => hd x.2), if_neg hd]
        · intro _ _ _ _; rfl

theorem tmS_all {tm tm' : T AV} {h h' : T Blk} : ∀ {ss : List Stp}, Chain tm h ss tm' h' → ∀ (S : Nat → Bool) (o : Nat), (∀ j, j < ss.length → S (o + j) = true) → ∀ k, tmS S o ss tm.get k = tm'.get k
  | [], c, S, o, hS, k => by cases c; rfl
  | s0 :: ss, c, S, o, hS, k => by
    cases c with
    | cons e1 e2 c =>
      have ih := tmS_all c S (o + 1) (fun j hj => by have := hS (j + 1) (by simp; omega); rwa [show o + (j + 1) = o + 1 + j by omega] at this) k
      simp only [tmS]
      rw [← ih]
      apply tmS_congr
      · simp only [putA_get]
        have := hS 0 (by simp)
        simp only [Nat.add_zero] at this
        by_cases hd : s0.g.dst = some k
        · rw [if_pos ⟨this, hd⟩, if_pos hd]
        · rw [if_neg (fun x => hd x.2), if_neg hd]
      · intro _ _ _ _; rfl

def Stp.frame (s : Stp) : Prop := ∀ k, (k, true) ∉ s.L → s.h'.get k = s.h.get k

theorem hS_before {tm tm' : T AV} {h h' : T Blk} : ∀ {ss : List Stp}, Chain tm h ss tm' h' → (∀ s ∈ ss, s.frame) → ∀ (o j : Nat) (s : Stp), ss[j]? = some s → ∀ k, hS (fun i => decide (i < o + j)) o ss h.get k = s.h.get k
  | [], _, _, o, j, s, hs, k => by simp at hs
  | s0 :: ss, c, fr, o, j, s, hs, k => by
    cases c with
    | cons e1 e2 c =>
      have none_of : ∀ (l : List Stp) (q : Nat) (f : K → Option Blk), o + 0 ≤ q → hS (fun i => decide (i < o + 0)) q l f k = f k := by
        intro l; induction l with
        | nil => intro q f _; rfl
        | cons a l ih =>
          intro q f hq
          simp only [hS]
          rw [ih (q + 1) _ (by omega)]
          rw [if_neg (by simp; omega)]
      cases j with
      | zero =>
        simp at hs; subst hs
        rw [e2]
        exact none_of _ o _ (by omega)
      | succ j =>
        simp at hs
        have ih := hS_before c (fun s hs => fr s (by simp [hs])) (o + 1) j s hs k
        simp only [hS]
        rw [← ih, show o + (j + 1) = o + 1 + j by omega]
        apply hS_congr
        · skip
          by_cases hd : (k, true) ∈ s0.L
          · rw [if_pos ⟨by simp; omega, hd⟩]
          · rw [if_neg (fun x => hd x.2), fr s0 (by simp) k hd, e2]
        · intro _ _ _ _; rfl

theorem hS_all {tm tm' : T AV} {h h' : T Blk} : ∀ {ss : List Stp}, Chain tm h ss tm' h' → (∀ s ∈ ss, s.frame) → ∀ (S : Nat → Bool) (o : Nat), (∀ j, j < ss.length → S (o + j) = true) → ∀ k, hS S o ss h.get k = h'.get k
  | [], c, _, S, o, hS, k => by cases c; rfl
  | s0 :: ss, c, fr, S, o, hS', k => by
    cases c with
    | cons e1 e2 c =>
      have ih := hS_all c (fun s hs => fr s (by simp [hs])) S (o + 1) (fun j hj => by have := hS' (j + 1) (by simp; omega); rwa [show o + (j + 1) = o + 1 + j by omega] at this) k
      simp only [hS]
      rw [← ih]
      apply hS_congr
      · skip
        have := hS' 0 (by simp)
        simp only [Nat.add_zero] at this
        by_cases hd : (k, true) ∈ s0.L
        · rw [if_pos ⟨this, hd⟩]
        · rw [if_neg (fun x => hd x.2), fr s0 (by simp) k hd, e2]
      · intro _ _ _ _; rfl

/-- Behind operation j: the ones up to it. -/
theorem tmS_behind {tm tm' : T AV} {h h' : T Blk} {ss : List Stp} (c : Chain tm h ss tm' h') (j : Nat) (s : Stp) (hs : ss[j]? = some s) (k : K) : tmS (fun i => decide (i < j + 1)) 0 ss tm.get k = (putA s.tm s.g.dst s.v).get k := by
  have split : ∀ (l : List Stp) (o j : Nat) (s : Stp) (f : K → Option AV), l[j]? = some s → tmS (fun i => decide (i < o + j + 1)) o l f k = if s.g.dst = some k then some s.v else tmS (fun i => decide (i < o + j)) o l f k := by
    intro l; induction l with
    | nil => intro o j s f hl; simp at hl
    | cons a l ih =>
      intro o j s f hl
      have none_of : ∀ (l : List Stp) (q c : Nat) (f : K → Option AV), c ≤ q → tmS (fun i => decide (i < c)) q l f k = f k := by
        intro l; induction l with
        | nil => intro q c f _; rfl
        | cons a l ih =>
          intro q c f hq
          simp only [tmS]
          rw [ih (q + 1) c _ (by omega)]
          rw [if_neg (by simp; omega)]
      cases j with
      | zero =>
        simp at hl; subst hl
        simp only [tmS]
        rw [none_of l (o + 1) (o + 0 + 1) _ (by omega), none_of l (o + 1) (o + 0) _ (by omega)]
        by_cases hd : a.g.dst = some k
        · rw [if_pos ⟨by simp, hd⟩, if_pos hd]
        · rw [if_neg (fun x => hd x.2), if_neg hd, if_neg (fun x => hd x.2)]
      | succ j =>
        simp at hl
        simp only [tmS]
        have := ih (o + 1) j s (fun k => if decide (o < o + (j + 1) + 1) = true ∧ a.g.dst = some k then some a.v else f k) hl
        rw [show o + (j + 1) + 1 = o + 1 + j + 1 by omega, show o + (j + 1) = o + 1 + j by omega] at *
        rw [this]
        congr 1
        apply tmS_congr
        · skip
          by_cases hd : a.g.dst = some k
          · rw [if_pos ⟨by simp; omega, hd⟩, if_pos ⟨by simp; omega, hd⟩]
          · rw [if_neg (fun x => hd x.2), if_neg (fun x => hd x.2)]
        · intro _ _ _ _; rfl
  have h1 := split ss 0 j s tm.get hs
  have h2 := tmS_before c 0 j s hs k
  simp only [Nat.zero_add] at h1 h2
  rw [h1, h2, putA_get]

theorem hS_behind {tm tm' : T AV} {h h' : T Blk} {ss : List Stp} (c : Chain tm h ss tm' h') (fr : ∀ s ∈ ss, s.frame) (j : Nat) (s : Stp) (hs : ss[j]? = some s) (k : K) : hS (fun i => decide (i < j + 1)) 0 ss h.get k = s.h'.get k := by
  have split : ∀ (l : List Stp) (o j : Nat) (s : Stp) (f : K → Option Blk), l[j]? = some s → hS (fun i => decide (i < o + j + 1)) o l f k = if (k, true) ∈ s.L then s.h'.get k else hS (fun i => decide (i < o + j)) o l f k := by
    intro l; induction l with
    | nil => intro o j s f hl; simp at hl
    | cons a l ih =>
      intro o j s f hl
      have none_of : ∀ (l : List Stp) (q c : Nat) (f : K → Option Blk), c ≤ q → hS (fun i => decide (i < c)) q l f k = f k := by
        intro l; induction l with
        | nil => intro q c f _; rfl
        | cons a l ih =>
          intro q c f hq
          simp only [hS]
          rw [ih (q + 1) c _ (by omega)]
          rw [if_neg (by simp; omega)]
      cases j with
      | zero =>
        simp at hl; subst hl
        simp only [hS]
        rw [none_of l (o + 1) (o + 0 + 1) _ (by omega), none_of l (o + 1) (o + 0) _ (by omega)]
        by_cases hd : (k, true) ∈ a.L
        · rw [if_pos ⟨by simp, hd⟩, if_pos hd]
        · rw [if_neg (fun x => hd x.2), if_neg hd, if_neg (fun x => hd x.2)]
      | succ j =>
        simp at hl
        simp only [hS]
        have := ih (o + 1) j s (fun k => if decide (o < o + (j + 1) + 1) = true ∧ (k, true) ∈ a.L then a.h'.get k else f k) hl
        rw [show o + (j + 1) + 1 = o + 1 + j + 1 by omega, show o + (j + 1) = o + 1 + j by omega] at *
        rw [this]
        congr 1
        apply hS_congr
        · skip
          by_cases hd : (k, true) ∈ a.L
          · rw [if_pos ⟨by simp; omega, hd⟩, if_pos ⟨by simp; omega, hd⟩]
          · rw [if_neg (fun x => hd x.2), if_neg (fun x => hd x.2)]
        · intro _ _ _ _; rfl
  have h1 := split ss 0 j s h.get hs
  have h2 := hS_before c fr 0 j s hs k
  simp only [Nat.zero_add] at h1 h2
  rw [h1, h2]
  have := fr s (List.mem_of_getElem? hs) k
  split
  · rfl
  · next hd => rw [this hd]

end Go.Ax
