/- AX, part H: copy, clear, maps, tests, calls. -/
import Derived.Test.YthaplnpebgcgiaaAxG
import Derived.Laws.Pointers
namespace Go.Ax
open Go.RowKit (Below)

section
variable {P : Program} {B : Nat} {w0 : World} {β : K → Option BI} {h : T Blk} {w : World} {n : K} {lg : Log}

/-- Cells written over a slice's own, from its beginning. -/
def wrs (esz : Nat) (x : AV) (len : Nat) (l : List AV) (r : ARes) : AM ARes := match x with
  | .nils => .ret r
  | .sl k o _ c _ => match Nat.beq len 0 with
    | true => .ret r
    | false => match Nat.ble len c, allSc l with
      | true, true => .get k fun b => match b with
        | .cells ro el e cs => match Nat.beq e esz with
          | true => match wr cs o l with
            | some cs' => .put k (.cells ro el e cs') (.ret r)
            | none => .fail
          | false => .fail
        | _ => .fail
      | _, _ => .fail
  | _ => .fail

theorem wrs_sound {esz len : Nat} {x : AV} {u : Value} {l : List AV} {vs : List Value} {s : ARes} {r : R ARes} (m : Sim B w0 β h w) (g : VR β x u) (hv : VRs β l vs) (hl : vs.length = len * esz) (hx : (wrs esz x len l s).run h n lg = some r) :
    ∃ w', Sim B w0 β r.h w' ∧ r.a = s ∧ ((∃ d c, u = .slice none d c ∧ w' = w ∧ d = 0) ∨ ∃ a d c, u = .slice (some a) d c ∧ (len = 0 ∧ w' = w ∨ (storeCells a vs).run P w = .ok () w')) := by
  unfold wrs at hx
  split at hx
  · rw [AM.run_ret] at hx; subst hx
    simp only [VR] at g; subst g
    exact ⟨w, m, rfl, .inl ⟨0, 0, rfl, rfl, rfl⟩⟩
  · next k o d c ex =>
    simp only [VR] at g
    obtain ⟨I, o', c', hI, rfl, q1, q2, q3, q4⟩ := g
    split at hx
    · next e0 =>
      rw [AM.run_ret] at hx; subst hx
      exact ⟨w, m, rfl, .inr ⟨_, _, _, rfl, .inl ⟨Nat.eq_of_beq_eq_true e0, rfl⟩⟩⟩
    · next e0 =>
      have e0 := Nat.ne_of_beq_eq_false e0
      split at hx
      · next e1 e2 =>
        have e1 := Nat.le_of_ble_eq_true e1
        rw [AM.run_get] at hx
        obtain ⟨b, hy, hlv, hx⟩ := hx
        split at hx
        · next ro el e cs =>
          split at hx
          · next e3 =>
            have e3 := Nat.eq_of_beq_eq_true e3
            split at hx
            · next cs' hw =>
              rw [AM.run_put] at hx
              obtain ⟨b, hy', hrw, hx⟩ := hx
              rw [hy] at hy'; cases hy'
              rw [AM.run_ret] at hx; subst hx
              have hro : ro = false := by simpa [Blk.rw] using hrw
              obtain ⟨I', hI', hb⟩ := m.lies k _ hy hlv
              rw [hI] at hI'; cases hI'
              obtain ⟨C, fz, hb, hsz, hesz, hfz, hcc⟩ := hb
              have hf := hfz hro; subst hf
              have ho := q3 (by omega)
              subst ho
              have hfit : I.off + o + vs.length ≤ C.size := by
                rw [hl, ← hsz]
                refine Nat.le_trans ?_ q4
                rw [hesz, e3]
                have := Nat.mul_le_mul_right esz (show len ≤ c' by omega)
                omega
              have hst := run_storeCells_at P I.blk (I.off + o) el vs 0 C w hb (by omega) (allSc_get e2 hv)
              simp only [Nat.add_zero] at hst
              exact ⟨_, write_sim m hy hro hI hb hsz hesz hcc hw hv hfit, rfl, .inr ⟨_, _, _, rfl, .inr hst⟩⟩
            · simp [AM.run_fail] at hx
          · simp [AM.run_fail] at hx
        · simp [AM.run_fail] at hx
      · simp [AM.run_fail] at hx
  · simp [AM.run_fail] at hx

def slLen : AV → Option Nat
  | .nils => some 0
  | .sl _ _ len _ _ => some len
  | _ => none

theorem slLen_some {x : AV} {u : Value} {q : Nat} (e : slLen x = some q) (g : VR β x u) : ∃ a c, u = .slice a q c ∧ (a = none → q = 0) := by
  cases x <;> simp only [slLen, Option.some.injEq] at e
  case nils => subst e; simp only [VR] at g; subst g; exact ⟨none, 0, rfl, fun _ => rfl⟩
  case sl k o len c ex => subst e; simp only [VR] at g; obtain ⟨I, o', c', _, rfl, _⟩ := g; exact ⟨_, _, rfl, fun x => by cases x⟩
  all_goals cases e

/-- copy(x, y): y's first cells, as many as both have. -/
def exCopy (esz : Nat) (x y : AV) : AM ARes := match slLen x, slLen y with
  | some a, some b => match Nat.ble b a with
    | true => rd esz y fun k l => wrs esz x k l (.v (.i .i64 k))
    | false => match y with
      | .sl k o _ c ex => rd esz (.sl k o a c ex) fun q l => wrs esz x q l (.v (.i .i64 q))
      | _ => .fail
  | _, _ => .fail

theorem copy_sound {t t2 el esz : Nat} {rt : TypeId} {x y : AV} {u v : Value} {r : R ARes} (hu : P.underlying t = some (.slice el)) (hs : szOf P el = some esz) (m : Sim B w0 β h w) (gx : VR β x u) (gy : VR β y v) (hx : (exCopy esz x y).run h n lg = some r) :
    Good P B w0 β w (do pure (.value (← Builtin.copy_ #[t, t2] rt #[u, v]))) r := by
  unfold exCopy at hx
  split at hx
  · next a b ea eb =>
    obtain ⟨ua, uc, rfl, hua⟩ := slLen_some ea gx
    -- both ways lead here
    have core : ∀ (q : Nat) (y' : AV) (v' : Value) (vb : Option Addr) (vc' : Nat), q = min b a → VR β y' v' → v' = .slice vb q vc' → (∃ vc, v = .slice vb b vc) → (rd esz y' fun k l => wrs esz x k l (.v (.i .i64 k))).run h n lg = some r →
        Good P B w0 β w (do pure (.value (← Builtin.copy_ #[t, t2] rt #[.slice ua a uc, v]))) r := by
      intro q y' v' vb vc' hq gy' hv' hv hrd
      obtain ⟨vc, rfl⟩ := hv
      obtain ⟨k, l, lg1, vs, hx, fo⟩ := rd_sound m gy' hrd
      obtain ⟨w', m', hra, hcase⟩ := wrs_sound (P := P) m gx fo.rel fo.hl hx
      have hk : k = q := by
        rcases fo.val with ⟨cap, h0, _, h1⟩ | ⟨a', cap, h1, _⟩
        · rw [hv'] at h1; injection h1 with _ h2 _; omega
        · rw [hv'] at h1; injection h1 with _ h2 _; omega
      subst hk
      have hfirst : (Builtin.firstCells esz k (.slice vb b vc)).run P w = .ok vs.toArray w := by
        rcases fo.val with ⟨cap, h0, hvs, h1⟩ | ⟨a', cap, h1, hc⟩
        · subst hvs
          rw [hv'] at h1; injection h1 with h2 h3 _
          subst h2
          exact run_firstCells_none w esz k b vc
        · rw [hv'] at h1; injection h1 with h2 h3 _
          subst h2
          exact run_firstCells_some w esz k a' b vc vs fo.hl hc
      have hmin : Nat.min b a = k := by rw [hq]
      refine ⟨w', β, .refl _, m', ?_⟩
      rw [hra]
      refine ⟨goInt k, ?_, by simp only [VR]; rfl⟩
      rcases hcase with ⟨d, c, h1, rfl, h2⟩ | ⟨ad, d, c, h1, h2⟩
      · injection h1 with h1 _ _
        subst h1
        simp [Builtin.copy_, run_underlying hu, Builtin.lenOf, run_szOf hs, hmin, hfirst]
      · injection h1 with h1 _ _
        subst h1
        rcases h2 with ⟨h2, rfl⟩ | h2
        · subst h2
          have : vs = [] := List.eq_nil_of_length_eq_zero (by have := fo.hl; omega)
          subst this
          simp [Builtin.copy_, run_underlying hu, Builtin.lenOf, run_szOf hs, hmin, hfirst, storeCells]
        · simp [Builtin.copy_, run_underlying hu, Builtin.lenOf, run_szOf hs, hmin, hfirst, h2]
    split at hx
    · next hle =>
      have hle := Nat.le_of_ble_eq_true hle
      obtain ⟨vb, vc, rfl, _⟩ := slLen_some eb gy
      exact core b y _ vb vc (by omega) gy rfl ⟨vc, rfl⟩ hx
    · next hle =>
      have hgt : a < b := by
        rcases Nat.lt_or_ge a b with z | z
        · exact z
        · rw [Nat.ble_eq_true_of_le z] at hle; cases hle
      split at hx
      · next k o len c ex =>
        simp only [slLen, Option.some.injEq] at eb
        subst eb
        have gy0 := gy
        simp only [VR] at gy
        obtain ⟨I, o', c', hI, rfl, q⟩ := gy
        exact core a (.sl k o a c ex) (.slice (some ⟨I.blk, o', none⟩) a c') (some ⟨I.blk, o', none⟩) c' (by omega) (by simp only [VR]; exact ⟨I, o', c', hI, rfl, q⟩) rfl ⟨c', rfl⟩ hx
      · simp [AM.run_fail] at hx
  · simp [AM.run_fail] at hx

def exClear (esz : Nat) (z : List AV) (x : AV) : AM ARes := match slLen x with
  | some k => match Nat.ble k 16777216 with
    | true => wrs esz x k (rep z k) (.v (.tu []))
    | false => .fail
  | none => .fail

theorem clear_sound {t el esz : Nat} {rt : TypeId} {x : AV} {u : Value} {z : List AV} {zv : Value} {r : R ARes} (hu : P.underlying t = some (.slice el)) (e : zOf P el = some zv) (hz : zv.cells.size = esz) (c : cvrs z zv.cells.toList = true) (m : Sim B w0 β h w) (gx : VR β x u)
    (hx : (exClear esz z x).run h n lg = some r) : Good P B w0 β w (do pure (.value (← Builtin.clear_ #[t] rt #[u]))) r := by
  unfold exClear at hx
  split at hx
  · next k ek =>
    split at hx
    · have hzs := cvrs_sound (β := β) _ _ c
      have hzl := hzs.length
      simp only [Array.length_toList] at hzl
      have hfr : VRs β (rep z k) (Builtin.zeroCells zv.cells k).toList := by
        refine VRs.of_get _ _ ?_ fun j a ha => ?_
        · have : ∀ b, (rep z b).length = b * z.length := by
            intro b; induction b with
            | zero => simp [rep]
            | succ b ih => simp only [rep, List.length_append, ih, Nat.succ_mul]; omega
          simp only [Array.length_toList, size_zeroCells, this, hzl]
        · obtain ⟨v, h1, h2⟩ := rep_zero hzs k j a ha
          exact ⟨v, by rw [Array.getElem?_toList]; exact h1, h2⟩
      obtain ⟨w', m', hra, hcase⟩ := wrs_sound (P := P) m gx hfr (by simp [size_zeroCells, hz]) hx
      obtain ⟨ua, uc, rfl, hua⟩ := slLen_some ek gx
      refine ⟨w', β, .refl _, m', ?_⟩
      rw [hra]
      refine ⟨.tuple #[], ?_, by simp [VR, VRs]⟩
      rcases hcase with ⟨d, c, h1, rfl, h2⟩ | ⟨ad, d, c, h1, h2⟩
      · injection h1 with h1 h3 _
        subst h1
        simp [Builtin.clear_, run_underlying hu]
      · injection h1 with h1 h3 _
        subst h1
        rcases h2 with ⟨h2, rfl⟩ | h2
        · subst h2
          simp [Builtin.clear_, run_underlying hu]
        · by_cases h0 : k = 0
          · subst h0
            have : (Builtin.zeroCells zv.cells 0).toList = [] := by simp [Builtin.zeroCells]
            rw [this] at h2
            simp only [storeCells, Sem.run_pure] at h2
            injection h2 with _ h2
            subst h2
            simp [Builtin.clear_, run_underlying hu]
          · obtain ⟨k, rfl⟩ : ∃ q, k = q + 1 := ⟨k - 1, by omega⟩
            simp [Builtin.clear_, run_underlying hu, run_zOf e, h2]
    · simp [AM.run_fail] at hx
  · simp [AM.run_fail] at hx

/- Maps whose keys are integers. -/

def mfind (k : IntKind) (a : Int) : List (AV × AV) → Option (Option AV)
  | [] => some none
  | (.i j b, v) :: r => match decide (k = j) with
    | true => match ieq a b with
      | true => some (some v)
      | false => mfind k a r
    | false => none
  | _ :: _ => none

def mput (k : IntKind) (a : Int) (v : AV) : List (AV × AV) → List (AV × AV)
  | [] => [(.i k a, v)]
  | (.i j b, u) :: r => match ieq a b with
    | true => (.i j b, v) :: r
    | false => (.i j b, u) :: mput k a v r
  | p :: r => p :: mput k a v r

theorem find_now {kk k : IntKind} {a : Int} : ∀ (es : List (AV × AV)) (E : List MapEntry) (i : Nat) (q : Option AV), E.length = es.length → (∀ (j : Nat) (p : AV × AV), es[j]? = some p → ∃ e, E[j]? = some e ∧ VR β p.1 e.key ∧ VR β p.2 e.val) → mfind k a es = some q →
    match q with
      | none => Instr.findNow (.int kk) (.int k a) E i = some none
      | some v => ∃ j u, Instr.findNow (.int kk) (.int k a) E i = some (some (i + j, u)) ∧ VR β v u ∧ (∃ b, es[j]? = some (.i k b, v) ∧ b = a)
  | [], E, i, q, hl, _, e => by
    simp only [mfind, Option.some.injEq] at e; subst e
    have : E = [] := List.eq_nil_of_length_eq_zero (by simpa using hl)
    subst this; rfl
  | (kv, v) :: es, E, i, q, hl, hr, e => by
    cases E with
    | nil => simp at hl
    | cons e0 E =>
      obtain ⟨e1, h1, h2, h3⟩ := hr 0 (kv, v) (by simp)
      simp only [List.getElem?_cons_zero, Option.some.injEq] at h1; subst h1
      cases kv <;> simp only [mfind] at e
      case i j b =>
        simp only [VR] at h2
        split at e
        · next hkj =>
          have hkj := of_decide_eq_true hkj
          subst hkj
          split at e
          · next hab =>
            rw [ieq_eq] at hab
            cases e
            refine ⟨0, e0.val, ?_, h3, b, by simp, (by simpa using hab : a = b).symm⟩
            simp only [Instr.findNow, h2, Instr.sameNow, if_true, hab, Nat.add_zero]
          · next hab =>
            rw [ieq_eq] at hab
            have ih := find_now (kk := kk) es E (i + 1) q (by simpa using hl) (fun j p hp => by simpa using hr (j + 1) p (by simpa using hp)) e
            cases q with
            | none =>
              simp only at ih ⊢
              simp only [Instr.findNow, h2, Instr.sameNow, if_true, hab, ih]
            | some v' =>
              obtain ⟨j, u, i1, i2, b', i3, i4⟩ := ih
              refine ⟨j + 1, u, ?_, i2, b', by simpa using i3, i4⟩
              simp only [Instr.findNow, h2, Instr.sameNow, if_true, hab, i1]
              congr 3; omega
        · cases e
      all_goals cases e

theorem run_checkKey_int {t : TypeId} {kk : IntKind} (hu : P.underlying t = some (.int kk)) (b : Bool) (q : Nat) (v : Value) : (Instr.checkKey b (q + 1) t v).run P w = .ok () w := by
  simp only [Instr.checkKey, Sem.run_bind, run_underlying hu, Result.andThen_ok]
  cases v <;> rfl

def exLook (z : AV) (ok : Bool) (x y : AV) : AM ARes := match y with
  | .i k a => match x with
    | .nilm => match ok with
      | true => .ret (.v (.tu [z, .b false]))
      | false => .ret (.v z)
    | .m q => .get q fun b => match b with
      | .map es => match mfind k a es with
        | some (some v) => match ok with
          | true => .ret (.v (.tu [v, .b true]))
          | false => .ret (.v v)
        | some none => match ok with
          | true => .ret (.v (.tu [z, .b false]))
          | false => .ret (.v z)
        | none => .fail
      | _ => .fail
    | _ => .fail
  | _ => .fail

theorem look_sound {t kt et : TypeId} {kk : IntKind} {z : AV} {zv : Value} {ok : Bool} {x y : AV} {u v : Value} {r : R ARes} (hu : P.underlying t = some (.map kt et)) (hk : P.underlying kt = some (.int kk)) (e : zOf P et = some zv) (c : cvr z zv = true)
    (m : Sim B w0 β h w) (gx : VR β x u) (gy : VR β y v) (hx : (exLook z ok x y).run h n lg = some r) : Good P B w0 β w (do pure (.value (← Instr.lookup t u v ok))) r := by
  have gz := cvr_sound (β := β) z zv c
  have hck : ∀ (b : Bool) (v : Value), (Instr.checkKey b 10000 kt v).run P w = .ok () w := fun b v => run_checkKey_int hk b 9999 v
  unfold exLook at hx
  split at hx
  · next k a =>
    simp only [VR] at gy; subst gy
    split at hx
    · simp only [VR] at gx; subst gx
      have hrun : (Instr.lookup t (.map none) (.int k a) ok).run P w = .ok (if ok then .tuple #[zv, .bool false] else zv) w := by
        simp [Instr.lookup, run_underlying hu, hck, Instr.findKey, run_underlying hk, Instr.findNow, run_zOf e]
      split at hx
      · rw [AM.run_ret] at hx; subst hx
        exact Good.val m (by simp only [Sem.run_bind, hrun, Result.andThen_ok, Sem.run_pure]; rfl) (by simp only [VR, VRs, if_true]; exact ⟨_, rfl, _, _, rfl, gz, _, _, rfl, rfl, rfl⟩)
      · rw [AM.run_ret] at hx; subst hx
        exact Good.val m (by simp only [Sem.run_bind, hrun, Result.andThen_ok, Sem.run_pure]; rfl) (by simpa using gz)
    · next q =>
      simp only [VR] at gx
      obtain ⟨I, hI, rfl⟩ := gx
      rw [AM.run_get] at hx
      obtain ⟨b, hy, hlv, hx⟩ := hx
      obtain ⟨I', hI', hb⟩ := m.lies q _ hy hlv
      rw [hI] at hI'; cases hI'
      split at hx
      · next es =>
        obtain ⟨E, clock, h1, h2, h3⟩ := hb
        have hget : (getObj I.blk).run P w = .ok (.map E clock) w := by simp only [getObj, Sem.run, h1]
        have hlen : E.toList.length = es.length := by simpa using h2
        have hr : ∀ (j : Nat) (p : AV × AV), es[j]? = some p → ∃ e, E.toList[j]? = some e ∧ VR β p.1 e.key ∧ VR β p.2 e.val := fun j p hp => by
          obtain ⟨e, q1, q2, q3⟩ := h3 j p hp; exact ⟨e, by simpa using q1, q2, q3⟩
        split at hx
        · next v hv =>
          obtain ⟨j, u, f1, f2, _⟩ := find_now (kk := kk) es E.toList 0 _ hlen hr hv
          have hrun : (Instr.lookup t (.map (some I.blk)) (.int k a) ok).run P w = .ok (if ok then .tuple #[u, .bool true] else u) w := by
            simp [Instr.lookup, run_underlying hu, hget, hck, Instr.findKey, run_underlying hk, f1]
          split at hx
          · rw [AM.run_ret] at hx; subst hx
            exact Good.val m (by simp only [Sem.run_bind, hrun, Result.andThen_ok, Sem.run_pure]; rfl) (by simp only [VR, VRs, if_true]; exact ⟨_, rfl, _, _, rfl, f2, _, _, rfl, rfl, rfl⟩)
          · rw [AM.run_ret] at hx; subst hx
            exact Good.val m (by simp only [Sem.run_bind, hrun, Result.andThen_ok, Sem.run_pure]; rfl) (by simpa using f2)
        · next hv =>
          have f1 := find_now (kk := kk) es E.toList 0 _ hlen hr hv
          simp only at f1
          have hrun : (Instr.lookup t (.map (some I.blk)) (.int k a) ok).run P w = .ok (if ok then .tuple #[zv, .bool false] else zv) w := by
            simp [Instr.lookup, run_underlying hu, hget, hck, Instr.findKey, run_underlying hk, f1, run_zOf e]
          split at hx
          · rw [AM.run_ret] at hx; subst hx
            exact Good.val m (by simp only [Sem.run_bind, hrun, Result.andThen_ok, Sem.run_pure]; rfl) (by simp only [VR, VRs, if_true]; exact ⟨_, rfl, _, _, rfl, gz, _, _, rfl, rfl, rfl⟩)
          · rw [AM.run_ret] at hx; subst hx
            exact Good.val m (by simp only [Sem.run_bind, hrun, Result.andThen_ok, Sem.run_pure]; rfl) (by simpa using gz)
        · simp [AM.run_fail] at hx
      · simp [AM.run_fail] at hx
    · simp [AM.run_fail] at hx
  · simp [AM.run_fail] at hx

def exMup (x y z : AV) : AM ARes := match y with
  | .i k a => match x with
    | .m q => .get q fun b => match b with
      | .map es => match mfind k a es with
        | some _ => .put q (.map (mput k a z es)) (.ret .skip)
        | none => .fail
      | _ => .fail
    | _ => .fail
  | _ => .fail

theorem mput_none {k : IntKind} {a : Int} {v : AV} : ∀ (es : List (AV × AV)), mfind k a es = some none → mput k a v es = es ++ [(.i k a, v)]
  | [], _ => rfl
  | (kv, u) :: es, e => by
    cases kv <;> simp only [mfind] at e
    case i j b =>
      split at e
      · split at e
        · cases e
        · next hab => simp only [mput, hab, List.cons_append]; rw [mput_none es e]
      · cases e
    all_goals cases e

theorem mput_some {k : IntKind} {a : Int} {v u : AV} : ∀ (es : List (AV × AV)) (j : Nat) (E : List MapEntry), mfind k a es = some (some u) → (∃ i q, Instr.findNow (.int k) (.int k a) E i = some (some (i + j, q))) → E.length = es.length →
    (∀ (j : Nat) (p : AV × AV), es[j]? = some p → ∃ e, E[j]? = some e ∧ VR β p.1 e.key ∧ VR β p.2 e.val) → (mput k a v es).length = es.length ∧ ∀ i : Nat, (mput k a v es)[i]? = if i = j then some (.i k a, v) else es[i]?
  | [], j, E, e, _, _, _ => by simp [mfind] at e
  | (kv, u') :: es, j, E, e, hf, hl, hr => by
    cases E with
    | nil => simp at hl
    | cons e0 E =>
      obtain ⟨e1, h1, h2, h3⟩ := hr 0 (kv, u') (by simp)
      simp only [List.getElem?_cons_zero, Option.some.injEq] at h1; subst h1
      obtain ⟨i, q, hf⟩ := hf
      cases kv <;> simp only [mfind] at e
      case i j' b =>
        simp only [VR] at h2
        split at e
        · next hkj =>
          have hkj := of_decide_eq_true hkj
          subst hkj
          simp only [Instr.findNow, h2, Instr.sameNow, if_true] at hf
          split at e
          · next hab =>
            rw [ieq_eq] at hab
            simp only [hab, Option.some.injEq, Prod.mk.injEq] at hf
            have hj : j = 0 := by omega
            subst hj
            have : a = b := by simpa using hab
            subst this
            simp only [mput, ieq_eq, hab]
            refine ⟨by simp, fun i => ?_⟩
            cases i with
            | zero => simp
            | succ i => simp
          · next hab =>
            have hab' := hab
            rw [ieq_eq] at hab
            simp only [hab] at hf
            have hj : ∃ j', j = j' + 1 := by
              have hge : ∀ (E : List MapEntry) (i j : Nat) (q : Value), Instr.findNow (.int k) (.int k a) E i = some (some (j, q)) → i ≤ j := by
                intro E; induction E with
                | nil => intro i j q hh; simp [Instr.findNow] at hh
                | cons e E ih =>
                  intro i j q hh
                  simp only [Instr.findNow] at hh
                  split at hh
                  · cases hh; exact Nat.le_refl _
                  · have := ih _ _ _ hh; omega
                  · cases hh
              have := hge _ _ _ _ hf
              exact ⟨j - 1, by omega⟩
            obtain ⟨j, rfl⟩ := hj
            obtain ⟨l1, l2⟩ := mput_some (v := v) es j E e ⟨i + 1, q, by rw [hf]; congr 3; omega⟩ (by simpa using hl) (fun j p hp => by simpa using hr (j + 1) p (by simpa using hp))
            simp only [mput, hab']
            refine ⟨by simp [l1], fun i => ?_⟩
            cases i with
            | zero => simp
            | succ i => simp [l2 i]
        · cases e
      all_goals cases e

theorem setObj_below (w : World) (g : Nat) (o : Obj) : ({ w with heap := w.heap.setIfInBounds g o } : World).os = w.os ∧ ({ w with heap := w.heap.setIfInBounds g o } : World).tape = w.tape ∧ ({ w with heap := w.heap.setIfInBounds g o } : World).output = w.output ∧
    ({ w with heap := w.heap.setIfInBounds g o } : World).heap.size = w.heap.size ∧ ∀ j, j ≠ g → ({ w with heap := w.heap.setIfInBounds g o } : World).heap[j]? = w.heap[j]? := by
  refine ⟨rfl, rfl, rfl, by simp, fun j hj => ?_⟩
  simp only [Array.getElem?_setIfInBounds]
  rw [if_neg (fun x => hj x.symm)]

theorem mup_sound {t kt et : TypeId} {kk : IntKind} {x y z : AV} {u v s : Value} {r : R ARes} (hu : P.underlying t = some (.map kt et)) (hk : P.underlying kt = some (.int kk))
    (m : Sim B w0 β h w) (gx : VR β x u) (gy : VR β y v) (gz : VR β z s) (hx : (exMup x y z).run h n lg = some r) : Good P B w0 β w (do Instr.mapUpdate t u v s; pure .skip) r := by
  have hck : ∀ (b : Bool) (v : Value), (Instr.checkKey b 10000 kt v).run P w = .ok () w := fun b v => run_checkKey_int hk b 9999 v
  unfold exMup at hx
  split at hx
  · next k a =>
    simp only [VR] at gy; subst gy
    split at hx
    · next q =>
      simp only [VR] at gx
      obtain ⟨I, hI, rfl⟩ := gx
      rw [AM.run_get] at hx
      obtain ⟨b, hy, hlv, hx⟩ := hx
      obtain ⟨I', hI', hb⟩ := m.lies q _ hy hlv
      rw [hI] at hI'; cases hI'
      split at hx
      · next es =>
        obtain ⟨E, clock, h1, h2, h3⟩ := hb
        have hget : (getObj I.blk).run P w = .ok (.map E clock) w := by simp only [getObj, Sem.run, h1]
        have hset : ∀ o, (setObj I.blk o).run P w = .ok () { w with heap := w.heap.setIfInBounds I.blk o } := fun o => by simp only [setObj, Sem.run, h1]
        have hlen : E.toList.length = es.length := by simpa using h2
        have hr : ∀ (j : Nat) (p : AV × AV), es[j]? = some p → ∃ e, E.toList[j]? = some e ∧ VR β p.1 e.key ∧ VR β p.2 e.val := fun j p hp => by
          obtain ⟨e, q1, q2, q3⟩ := h3 j p hp; exact ⟨e, by simpa using q1, q2, q3⟩
        split at hx
        · next fo hv =>
          rw [AM.run_put] at hx
          obtain ⟨b, hy', hrw, hx⟩ := hx
          rw [hy] at hy'; cases hy'
          rw [AM.run_ret] at hx; subst hx
          have hlt := (m.dom q I hI).1
          cases fo with
          | none =>
            have f1 := find_now (kk := kk) es E.toList 0 _ hlen hr hv
            simp only at f1
            refine ⟨_, β, .refl _, m.put (w' := { w with heap := w.heap.setIfInBounds I.blk (.map (E.push { key := .int k a, val := s, born := clock }) (clock + 1)) }) hy hrw hI (.inr (setObj_below w I.blk _)) ?_, ?_⟩
            · rw [mput_none es hv]
              refine ⟨_, _, by simp [hlt]; exact ⟨rfl, rfl⟩, by simp [h2], fun j p hp => ?_⟩
              by_cases hj : j < es.length
              · rw [List.getElem?_append_left hj] at hp
                obtain ⟨e, q1, q2, q3⟩ := h3 j p hp
                refine ⟨e, ?_, q2, q3⟩
                rw [Array.getElem?_push, if_neg (by omega)]; exact q1
              · rw [List.getElem?_append_right (by omega)] at hp
                have hj' : j = es.length := by
                  rcases Nat.lt_or_ge (j - es.length) 1 with z | z
                  · omega
                  · rw [List.getElem?_eq_none (by simpa using z)] at hp; cases hp
                subst hj'
                simp only [Nat.sub_self, List.getElem?_cons_zero, Option.some.injEq] at hp
                subst hp
                exact ⟨{ key := .int k a, val := s, born := clock }, by rw [Array.getElem?_push, if_pos h2.symm], by simp only [VR], gz⟩
            · simp [Instr.mapUpdate, run_underlying hu, hget, hck, Instr.findKey, run_underlying hk, f1, hset]
          | some v0 =>
            obtain ⟨j, u, f1, f2, b0, f3, f4⟩ := find_now (kk := k) es E.toList 0 _ hlen hr hv
            have f1' : Instr.findNow (.int kk) (.int k a) E.toList 0 = some (some (j, u)) := by
              obtain ⟨j', u', g1, _⟩ := find_now (kk := kk) es E.toList 0 _ hlen hr hv
              have : ∀ (l : List MapEntry) (i : Nat), Instr.findNow (.int kk) (.int k a) l i = Instr.findNow (.int k) (.int k a) l i := by
                intro l; induction l with
                | nil => intro i; rfl
                | cons e l ih =>
                  intro i
                  have hs : Instr.sameNow (.int kk) (.int k a) e.key = Instr.sameNow (.int k) (.int k a) e.key := by
                    cases e.key <;> rfl
                  simp only [Instr.findNow, hs, ih]
              rw [this, f1, Nat.zero_add]
            obtain ⟨l1, l2⟩ := mput_some (v := z) es j E.toList hv ⟨0, u, f1⟩ hlen hr
            obtain ⟨e0, q1, q2, q3⟩ := h3 j _ f3
            simp only [VR] at q2
            subst f4
            have hkey : ((E[j]?).map (·.key)).getD (.int k b0) = .int k b0 := by rw [q1]; simp [q2]
            have hstay : (Instr.keyThatStays (.int k b0) (.int k b0)).run P w = .ok (.int k b0) w := by
              simp [Instr.keyThatStays, Instr.sameBits]
            refine ⟨_, β, .refl _, m.put (w' := { w with heap := w.heap.setIfInBounds I.blk (.map (E.modify j fun e => { e with key := .int k b0, val := s }) clock) }) hy hrw hI (.inr (setObj_below w I.blk _)) ?_, ?_⟩
            · refine ⟨_, _, by simp [hlt]; exact ⟨rfl, rfl⟩, by simp [h2, l1], fun i p hp => ?_⟩
              rw [l2 i] at hp
              rw [Array.getElem?_modify]
              by_cases hij : i = j
              · subst hij
                rw [if_pos rfl] at hp ⊢
                cases hp
                rw [q1]
                exact ⟨_, rfl, by simp only [VR], gz⟩
              · rw [if_neg hij] at hp
                rw [if_neg (fun x => hij x.symm)]
                exact h3 i p hp
            · simp [Instr.mapUpdate, run_underlying hu, hget, hck, Instr.findKey, run_underlying hk, f1', hset, hkey, hstay]
        · simp [AM.run_fail] at hx
      · simp [AM.run_fail] at hx
    · simp [AM.run_fail] at hx
  · simp [AM.run_fail] at hx

def exMkm : AM ARes := .new (.map []) fun k => .ret (.v (.m k))

theorem mkm_sound {t : TypeId} {r : R ARes} (m : Sim B w0 β h w) (hx : exMkm.run h n lg = some r) : Good P B w0 β w (do pure (.value (← Instr.makeMap t none))) r := by
  unfold exMkm at hx
  rw [AM.run_new] at hx
  obtain ⟨hk, hx⟩ := hx
  rw [AM.run_ret] at hx; subst hx
  obtain ⟨m', hx⟩ := m.new hk (b := .map []) (o := .map #[] 0) (I := ⟨w.heap.size, 0, 0, 0⟩) rfl ⟨#[], 0, rfl, rfl, fun j a ha => by simp at ha⟩
  refine ⟨_, _, hx, m', .map (some w.heap.size), ?_, ?_⟩
  · simp [Instr.makeMap]
  · simp only [VR]; exact ⟨_, by simp [upd]; rfl, rfl⟩

end
end Go.Ax
