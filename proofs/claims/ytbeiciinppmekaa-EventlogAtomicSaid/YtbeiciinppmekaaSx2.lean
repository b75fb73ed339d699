/-
  The logic's judgements: operations, regions in their order, code, calls. Lemmas only; no condition.
-/
import Derived.Test.YtbeiciinppmekaaSx1
import Derived.Deep.LoopGhost
set_option linter.unusedSimpArgs false
set_option linter.unusedVariables false
namespace Go.Sx
open Go
structure Cx where
  P : Program
  F : Fr
  N : Nat
abbrev Xt := Exit → Act → World → Prop
abbrev Kt := Act → World → Prop
def WL (P : Program) (ops : Array Oper) (Q : Xt) : List Oper → Kt → Kt
  | [], K, a, w => K a w
  | o :: r, K, a, w => if Region.wanted o (yielded ops a.tmps) then o.wp P a w (WL P ops Q r K) Q else WL P ops Q r K (a.put o.dst undef) w
theorem WL_wpList {P : Program} {ops : Array Oper} {Q : Xt} : ∀ (r : List Oper) (a : Act) (w : World), WL P ops Q r (Q .normal) a w → wpList P ops Q r a w
  | [], _, _, h => h
  | o :: r, a, w, h => by
    simp only [WL] at h
    simp only [wpList]
    split
    · rename_i hw
      rw [if_pos hw] at h
      exact .inl (Oper.wp_mono (fun a w h => WL_wpList r a w h) h)
    · rename_i hw
      rw [if_neg hw] at h
      exact WL_wpList r _ w h
theorem WL_mono {P : Program} {ops : Array Oper} {Q : Xt} : ∀ (r : List Oper) {K K' : Kt}, (∀ a w, K a w → K' a w) → ∀ (a : Act) (w : World), WL P ops Q r K a w → WL P ops Q r K' a w
  | [], _, _, hk, _, _, h => hk _ _ h
  | o :: r, K, K', hk, a, w, h => by
    simp only [WL] at h ⊢
    split
    · rename_i hw
      rw [if_pos hw] at h
      exact Oper.wp_mono (fun a w h => WL_mono r hk a w h) h
    · rename_i hw
      rw [if_neg hw] at h
      exact WL_mono r hk _ w h
theorem WL_append {P : Program} {ops : Array Oper} {Q : Xt} : ∀ (r s : List Oper) {K : Kt} (a : Act) (w : World), WL P ops Q r (WL P ops Q s K) a w → WL P ops Q (r ++ s) K a w
  | [], _, _, _, _, h => h
  | o :: r, s, K, a, w, h => by
    simp only [WL, List.cons_append] at h ⊢
    split
    · rename_i hw
      rw [if_pos hw] at h
      exact Oper.wp_mono (fun a w h => WL_append r s a w h) h
    · rename_i hw
      rw [if_neg hw] at h
      exact WL_append r s _ w h
/-- From every state in which l and L hold: the operations, then K. -/
def G (X : Cx) (ops : Array Oper) (Q : Xt) (r : List Oper) (K : Kt) (l : Tl) (L : Bl) : Prop :=
  ∀ a w, Env X.N a l → St X.F w L → WL X.P ops Q r K a w
/-- From every state in which l and L hold: the code. -/
def GC (X : Cx) (c : Code) (Q : Xt) (l : Tl) (L : Bl) : Prop :=
  ∀ a w, Env X.N a l → St X.F w L → c.wp X.P Q a w
/-- From every state in which l and L hold: K. -/
def GK (X : Cx) (K : Kt) (l : Tl) (L : Bl) : Prop := ∀ a w, Env X.N a l → St X.F w L → K a w
/-- Operation o leaves v and does nothing else. -/
def Qt (X : Cx) (l : Tl) (L : Bl) (o : Op) (v : Value) : Prop :=
  ∀ d T p af g a w, Env X.N a l → St X.F w L → (execOp a.eval ⟨d, o, T, p, af, g⟩).run X.P w = .ok (.value v) w
/-- Operation o, then C of what is known. -/
def Ld (X : Cx) (Q : Xt) (o : Oper) (l : Tl) (L : Bl) (C : Tl → Bl → Prop) : Prop :=
  ∀ a w, Env X.N a l → St X.F w L → ∀ K : Kt, (∀ l' L', C l' L' → ∀ a' w', Env X.N a' l' → St X.F w' L' → K a' w') → o.wp X.P a w K Q
section
variable {X : Cx} {ops : Array Oper} {Q : Xt} {r : List Oper} {K : Kt} {l : Tl} {L : Bl}
theorem Qt.ld {o : Op} {v : Value} {d T : Nat} {p : String} {af : Array Edge} {g : Option (Nat × Bool)} {C : Tl → Bl → Prop} (hq : Qt X l L o v) (hN : Nat.blt d X.N = true)
    (h : C ((d, v) :: l) L) : Ld X Q ⟨some d, o, T, p, af, g⟩ l L C := by
  intro a w he hs K hK
  unfold Oper.wp
  rw [hq _ _ _ _ _ a w he hs]
  exact hK _ _ h _ _ (he.put hN v) hs
/-- The guard says yes. -/
def Gd (ops : Array Oper) (l : Tl) : Option (Nat × Bool) → Prop
  | none => True
  | some (j, b) => ∃ tg, (ops[j]?).bind (·.dst) = some tg ∧ lk l tg = some (.bool b)
theorem Gd.no : Gd ops l none := trivial
theorem Gd.yes {j tg : Nat} {b : Bool} (hj : (ops[j]?).bind (·.dst) = some tg) (hg : lk l tg = some (.bool b)) : Gd ops l (some (j, b)) := ⟨tg, hj, hg⟩
theorem Gd.wanted {o : Oper} {N : Nat} {a : Act} (h : Gd ops l o.guard) (he : Env N a l) : Region.wanted o (yielded ops a.tmps) = true := by
  unfold Region.wanted
  cases hg : o.guard with
  | none => rfl
  | some p =>
    obtain ⟨j, b⟩ := p
    rw [hg] at h
    obtain ⟨tg, hj, hl⟩ := h
    simp only [yielded, hj, Option.bind_some, he.get _ _ hl, beq_self_eq_true]
theorem G.q {o : Op} {v : Value} {d T : Nat} {p : String} {af : Array Edge} {g : Option (Nat × Bool)} (hg : Gd ops l g) (hq : Qt X l L o v) (hN : Nat.blt d X.N = true)
    (h : G X ops Q r K ((d, v) :: l) L) : G X ops Q (⟨some d, o, T, p, af, g⟩ :: r) K l L := by
  intro a w he hs
  have hw : Region.wanted ⟨some d, o, T, p, af, g⟩ (yielded ops a.tmps) = true := Gd.wanted (o := ⟨some d, o, T, p, af, g⟩) hg he
  simp only [WL, hw, if_true, Oper.wp]
  rw [hq _ _ _ _ _ a w he hs]
  exact h _ _ (he.put hN v) hs
theorem G.ld {o : Oper} (hg : Gd ops l o.guard) (h : Ld X Q o l L (G X ops Q r K)) : G X ops Q (o :: r) K l L := by
  intro a w he hs
  simp only [WL, Gd.wanted hg he, if_true]
  exact h a w he hs _ fun l' L' hc a' w' he' hs' => hc a' w' he' hs'
/-- A guarded operation whose guard says no. -/
theorem G.skip {o : Op} {d T : Nat} {p : String} {af : Array Edge} {j tg : Nat} {b c : Bool} (hj : (ops[j]?).bind (·.dst) = some tg) (hg : lk l tg = some (.bool b)) (hc : (b == c) = false) (hN : Nat.blt d X.N = true)
    (h : G X ops Q r K ((d, undef) :: l) L) : G X ops Q (⟨some d, o, T, p, af, some (j, c)⟩ :: r) K l L := by
  intro a w he hs
  have hw : Region.wanted ⟨some d, o, T, p, af, some (j, c)⟩ (yielded ops a.tmps) = false := by
    simp only [Region.wanted, yielded, hj, Option.bind_some, he.get _ _ hg]
    cases b <;> cases c <;> simp_all
  simp only [WL, hw]
  exact h _ _ (he.put hN undef) hs
/-- Every operation of the piece is passed over: its guard is (the operation that leaves) tg, which says no, or one that was passed over. -/
def skp (ops : Array Oper) (tg : Nat) (want : Bool) (keys : List Nat) : List Nat → List Oper → Bool
  | _, [] => true
  | dead, o :: r => (match o.guard, o.dst with
    | some (j, c), some d => (match (ops[j]?).bind (·.dst) with
      | some t => ((Nat.beq t tg && (c == want)) || dead.any (Nat.beq t)) && !(Nat.beq d tg) && !(keys.any (Nat.beq d)) && skp ops tg want keys (d :: dead) r
      | none => false)
    | _, _ => false)
theorem lk_key {l : Tl} {t : Nat} {v : Value} (h : lk l t = some v) : (l.map (·.1)).any (Nat.beq t) = true := by
  induction l with
  | nil => simp [lk] at h
  | cons p l ih =>
    simp only [lk] at h
    cases hb : Nat.beq p.1 t with
    | true =>
      have := Nat.eq_of_beq_eq_true hb
      simp [this]
    | false => rw [hb] at h; simp [ih h]
theorem WL_skip {P : Program} {want : Bool} {tg : Nat} {l : Tl} {N : Nat} {w : World} {r : List Oper} {K : Kt} (hw : Nat.blt tg N = true) : ∀ (seg : List Oper) (dead : List Nat) (a : Act), skp ops tg want (l.map (·.1)) dead seg = true →
    Env N a l → a.tmps[tg]? = some (.bool (!want)) → (∀ t, dead.any (Nat.beq t) = true → a.tmps[t]? = some undef ∨ N ≤ t) →
    (∀ a', Env N a' l → a'.tmps[tg]? = some (.bool (!want)) → WL P ops Q r K a' w) → WL P ops Q (seg ++ r) K a w
  | [], dead, a, _, he, ht, _, h => h a he ht
  | o :: s, dead, a, hk, he, ht, hd, h => by
    obtain ⟨dst, op, T, p, af, g⟩ := o
    simp only [skp] at hk
    cases g with
    | none => simp at hk
    | some jc =>
      obtain ⟨j, c⟩ := jc
      cases dst with
      | none => simp at hk
      | some d =>
        simp only at hk
        cases hj : (ops[j]?).bind (·.dst) with
        | none => rw [hj] at hk; simp at hk
        | some t =>
          rw [hj] at hk
          simp only [Bool.and_eq_true, Bool.not_eq_true'] at hk
          obtain ⟨⟨⟨h1, h2⟩, h3⟩, h4⟩ := hk
          have hno : Region.wanted ⟨some d, op, T, p, af, some (j, c)⟩ (yielded ops a.tmps) = false := by
            simp only [Region.wanted, yielded, hj, Option.bind_some]
            rw [Bool.or_eq_true] at h1
            rcases h1 with h1 | h1
            · simp only [Bool.and_eq_true] at h1
              have e1 := Nat.eq_of_beq_eq_true h1.1
              have e2 : c = want := by simpa using h1.2
              subst e1; subst e2
              rw [ht]
              cases c <;> rfl
            · rcases hd t h1 with h1 | h1
              · rw [h1]; rfl
              · have : a.tmps[t]? = none := by rw [Array.getElem?_eq_none]; rw [he.size]; exact h1
                rw [this]; rfl
          have hne : d ≠ tg := fun e => by subst e; simp at h2
          simp only [List.cons_append, WL, hno]
          have he' : Env N (a.put (some d) undef) l := by
            refine ⟨by simp [Act.put, he.size], he.defers, fun t v hv => ?_⟩
            have hkey := lk_key hv
            have hdt : d ≠ t := fun e => by subst e; rw [h3] at hkey; cases hkey
            simp only [Act.put]
            rw [Array.getElem?_setIfInBounds_ne hdt]
            exact he.get t v hv
          refine WL_skip hw s (d :: dead) _ h4 he' ?_ ?_ h
          · simp only [Act.put]
            rw [Array.getElem?_setIfInBounds_ne hne]; exact ht
          · intro t ht'
            simp only [List.any_cons, Bool.or_eq_true] at ht'
            by_cases e : d = t
            · subst e
              by_cases hlt : d < a.tmps.size
              · left; simp [Act.put, hlt]
              · right; rw [← he.size]; exact Nat.le_of_not_lt hlt
            · have h5 : dead.any (Nat.beq t) = true := by
                rcases ht' with h6 | h6
                · exact absurd (Nat.eq_of_beq_eq_true h6).symm e
                · exact h6
              simp only [Act.put]
              rw [Array.getElem?_setIfInBounds_ne e]
              exact hd t h5
/-- What a guarded piece leaves: the Bool in tv; else as before. -/
def SegK (X : Cx) (tv : Nat) (b : Bool) (l : Tl) (L : Bl) : Kt := fun a w => Env X.N a l ∧ a.tmps[tv]? = some (.bool b) ∧ St X.F w L
def dj (l : Tl) : Tl → Bool
  | [] => true
  | p :: r => !((l.map (·.1)).any (Nat.beq p.1)) && dj l r
theorem lk_app {l : Tl} : ∀ (n : Tl) (t : Nat) (v : Value), dj l n = true → lk l t = some v → lk (n ++ l) t = some v
  | [], _, _, _, h => h
  | p :: r, t, v, hd, h => by
    simp only [dj, Bool.and_eq_true, Bool.not_eq_true'] at hd
    have hkey := lk_key h
    have : Nat.beq p.1 t = false := by
      cases hb : Nat.beq p.1 t with
      | false => rfl
      | true => have := Nat.eq_of_beq_eq_true hb; rw [this] at hd; rw [hd.1] at hkey; cases hkey
    simp only [List.cons_append, lk, this]
    exact lk_app r t v hd.2 h
theorem GK.seg {l' n : Tl} {L' R : Bl} {tv : Nat} {b : Bool} (hl : l' = n ++ l) (hd : dj l n = true) (hv : lk l' tv = some (.bool b)) (ht : Tks L L' R) : GK X (SegK X tv b l L) l' L' := by
  intro a w he hs
  exact ⟨⟨he.size, he.defers, fun t v h => by subst hl; exact he.get _ _ (lk_app n t v hd h)⟩, he.get _ _ hv, hs.tks ht⟩
theorem Env.wk0 {N : Nat} {a : Act} {t : Nat} {u : Value} (h : Env N a l) (hu : lk l t = some u) : Env N a ((t, u) :: l) := by
  refine ⟨h.size, h.defers, fun s v hv => ?_⟩
  simp only [lk] at hv
  cases hb : Nat.beq t s with
  | true => rw [hb] at hv; simp only [Option.some.injEq] at hv; have := Nat.eq_of_beq_eq_true hb; subst this; subst hv; exact h.get _ _ hu
  | false => rw [hb] at hv; exact h.get _ _ hv
theorem Env.unput {N : Nat} {a : Act} {t : Nat} {u : Value} (h : Env N a ((t, u) :: l)) (hu : lk l t = some u) : Env N a l := by
  refine ⟨h.size, h.defers, fun s v hv => ?_⟩
  cases hb : Nat.beq t s with
  | true =>
    have := Nat.eq_of_beq_eq_true hb
    subst this
    rw [hu] at hv
    cases hv
    exact h.get _ _ (by simp [lk])
  | false => exact h.get _ _ (by simp only [lk, hb]; exact hv)
theorem Act.eval_tmp {a : Act} {t : Nat} {v : Value} (h : a.tmps[t]? = some v) : a.eval (.tmp t) = v := by simp [Act.eval, h]
/-- b && (the piece). -/
theorem G.andb {os seg r : List Oper} {d T tg tv : Nat} {p : String} {af : Array Edge} {g : Option (Nat × Bool)} {b b2 : Bool} (hos : os = seg ++ ⟨some d, .pick (.tmp tg) (.tmp tv) (.const (.bool false)), T, p, af, g⟩ :: r)
    (hb : lk l tg = some (.bool b)) (hk : skp ops tg true (l.map (·.1)) [] seg = true) (hg : Gd ops l g) (hN : Nat.blt d X.N = true) (hN2 : Nat.blt tg X.N = true)
    (hs : b = true → G X ops Q seg (SegK X tv b2 ((tg, .bool true) :: l) L) ((tg, .bool true) :: l) L) (h : G X ops Q r K ((d, .bool (b && b2)) :: l) L) : G X ops Q os K l L := by
  subst hos
  intro a w he hst
  cases b with
  | true =>
    refine WL_append _ _ _ _ (WL_mono _ ?_ _ _ (hs rfl a w (Env.wk0 he hb) hst))
    rintro a' w' ⟨he', hv', hs'⟩
    have he2 := Env.unput he' hb
    simp only [WL, Gd.wanted (o := ⟨some d, .pick (.tmp tg) (.tmp tv) (.const (.bool false)), T, p, af, g⟩) hg he2, if_true, Oper.wp, execOp, Act.eval_tmp hv', Act.eval_tmp (he2.get _ _ hb), asBool, pure, Sem.run]
    exact h _ _ (he2.put hN _) hs'
  | false =>
    refine WL_skip hN2 seg [] a hk he (he.get _ _ hb) (fun t ht => by simp at ht) fun a' he2 hv' => ?_
    simp only [WL, Gd.wanted (o := ⟨some d, .pick (.tmp tg) (.tmp tv) (.const (.bool false)), T, p, af, g⟩) hg he2, if_true, Oper.wp, execOp, Act.eval_tmp (he2.get _ _ hb), asBool, pure, Sem.run]
    exact h _ _ (he2.put hN _) hst
/-- b || (the piece). -/
theorem G.orb {os seg r : List Oper} {d T tg tv : Nat} {p : String} {af : Array Edge} {g : Option (Nat × Bool)} {b b2 : Bool} (hos : os = seg ++ ⟨some d, .pick (.tmp tg) (.const (.bool true)) (.tmp tv), T, p, af, g⟩ :: r)
    (hb : lk l tg = some (.bool b)) (hk : skp ops tg false (l.map (·.1)) [] seg = true) (hg : Gd ops l g) (hN : Nat.blt d X.N = true) (hN2 : Nat.blt tg X.N = true)
    (hs : b = false → G X ops Q seg (SegK X tv b2 ((tg, .bool false) :: l) L) ((tg, .bool false) :: l) L) (h : G X ops Q r K ((d, .bool (b || b2)) :: l) L) : G X ops Q os K l L := by
  subst hos
  intro a w he hst
  cases b with
  | false =>
    refine WL_append _ _ _ _ (WL_mono _ ?_ _ _ (hs rfl a w (Env.wk0 he hb) hst))
    rintro a' w' ⟨he', hv', hs'⟩
    have he2 := Env.unput he' hb
    simp only [WL, Gd.wanted (o := ⟨some d, .pick (.tmp tg) (.const (.bool true)) (.tmp tv), T, p, af, g⟩) hg he2, if_true, Oper.wp, execOp, Act.eval_tmp hv', Act.eval_tmp (he2.get _ _ hb), asBool, pure, Sem.run]
    exact h _ _ (he2.put hN _) hs'
  | true =>
    refine WL_skip hN2 seg [] a hk he (he.get _ _ hb) (fun t ht => by simp at ht) fun a' he2 hv' => ?_
    simp only [WL, Gd.wanted (o := ⟨some d, .pick (.tmp tg) (.const (.bool true)) (.tmp tv), T, p, af, g⟩) hg he2, if_true, Oper.wp, execOp, Act.eval_tmp (he2.get _ _ hb), asBool, pure, Sem.run]
    exact h _ _ (he2.put hN _) hst
theorem G.nil (h : GK X K l L) : G X ops Q [] K l L := h
theorem G.wk {l' : Tl} (hw : Wk l l') (h : G X ops Q r K l' L) : G X ops Q r K l L := fun a w he hs => h a w (he.wk hw) hs
theorem G.tks {A R : Bl} (ht : Tks A L R) (h : G X ops Q r K l A) : G X ops Q r K l L := fun a w he hs => h a w he (hs.tks ht)
theorem GC.wk {c : Code} {l' : Tl} (hw : Wk l l') (h : GC X c Q l' L) : GC X c Q l L := fun a w he hs => h a w (he.wk hw) hs
theorem GC.tks {c : Code} {A R : Bl} (ht : Tks A L R) (h : GC X c Q l A) : GC X c Q l L := fun a w he hs => h a w he (hs.tks ht)
theorem GK.wk {l' : Tl} (hw : Wk l l') (h : GK X K l' L) : GK X K l L := fun a w he hs => h a w (he.wk hw) hs
theorem GK.tks {A R : Bl} (ht : Tks A L R) (h : GK X K l A) : GK X K l L := fun a w he hs => h a w he (hs.tks ht)
theorem GC.seq {x y : Code} (h : GC X x (Exit.then (y.wp X.P Q) Q) l L) : GC X (.seq x y) Q l L := fun a w he hs => wp_seq (h a w he hs)
theorem GC.region {id : Nat} {l0 : List Oper} (h : G X l0.toArray Q l0 (Q .normal) l L) : GC X (.region id l0.toArray false) Q l L :=
  fun a w he hs => wp_region_lit (WL_wpList _ a w (h a w he hs))
theorem GK.then {y : Code} {Q' : Xt} (h : GC X y Q' l L) : GK X (Exit.then (y.wp X.P Q') Q .normal) l L := fun a w he hs => h a w he hs
theorem GC.skip (h : GK X (Q .normal) l L) : GC X .skip Q l L := fun a w he hs => wp_skip (h a w he hs)
theorem GC.ret (h : GK X (Q .ret) l L) : GC X .ret Q l L := fun a w he hs => wp_ret (h a w he hs)
theorem GC.exit {id : Nat} (h : GK X (Q (.exit id)) l L) : GC X (.exit id) Q l L := fun a w he hs => wp_exit (h a w he hs)
theorem GC.block {id : Nat} {c : Code} (h : GC X c (Exit.inBlock id Q) l L) : GC X (.block id c) Q l L := fun a w he hs => wp_block (h a w he hs)
theorem GC.condb {c : Operand} {x y : Code} {b : Bool} (hc : opv l c = some (.bool b)) (ht : b = true → GC X x Q l L) (hf : b = false → GC X y Q l L) : GC X (.cond c x y) Q l L :=
  fun a w he hs => wp_cond_split (he.eval hc) (fun e => ht e a w he hs) (fun e => hf e a w he hs)
theorem GC.condt {c : Operand} {x y : Code} (hc : opv l c = some (.bool true)) (ht : GC X x Q l L) : GC X (.cond c x y) Q l L :=
  fun a w he hs => wp_cond_true (he.eval hc) (ht a w he hs)
theorem GC.condf {c : Operand} {x y : Code} (hc : opv l c = some (.bool false)) (ht : GC X y Q l L) : GC X (.cond c x y) Q l L :=
  fun a w he hs => wp_cond_false (he.eval hc) (ht a w he hs)
/-- What holds at the end of a round: x' is the next state at the head. -/
def Head (X : Cx) {S : Type} (Φ : S → Prop) (m : S → Nat) (li : S → Tl) (Li : S → Bl) (n : Nat) : Kt :=
  fun a w => ∃ x, m x < n ∧ Φ x ∧ Env X.N a (li x) ∧ St X.F w (Li x)
/-- A loop: x ranges over the states at its head. -/
theorem GC.loop {c : Code} {S : Type} (Φ : S → Prop) (m : S → Nat) (li : S → Tl) (Li : S → Bl) (x0 : S) (h0 : Φ x0) (hw : Wk l (li x0)) (ht : Held L (Li x0))
    (round : ∀ x, Φ x → GC X c (Exit.then (Head X Φ m li Li (m x)) Q) (li x) (Li x)) : GC X (.loop c) Q l L := by
  intro a w he hs
  refine wp_loop_ghost (fun n a w => ∃ x, m x = n ∧ Φ x ∧ Env X.N a (li x) ∧ St X.F w (Li x)) (m x0) ⟨x0, rfl, h0, he.wk hw, hs.held ht⟩ ?_
  rintro n a w ⟨x, rfl, hx, hex, hsx⟩
  refine wp_mono (round x hx a w hex hsx) ?_
  intro e a' w' hq
  cases e with
  | normal =>
    obtain ⟨x', hlt, hx', he', hs'⟩ := hq
    exact ⟨m x', hlt, x', rfl, hx', he', hs'⟩
  | exit id => exact hq
  | goto l => exact hq
  | ret => exact hq
  | panic ch => exact hq
  | outgrown => exact hq
theorem GK.head {S : Type} {Φ : S → Prop} {m : S → Nat} {li : S → Tl} {Li : S → Bl} {n : Nat} (x : S) (hm : m x < n) (hx : Φ x) (hw : Wk l (li x)) (ht : Held L (Li x)) :
    GK X (Exit.then (Head X Φ m li Li n) Q .normal) l L := fun a w he hs => ⟨x, hm, hx, he.wk hw, hs.held ht⟩
end
def num : Nat → List Value → Tl
  | _, [] => []
  | k, v :: r => (k, v) :: num (k + 1) r
theorem lk_num {N : Nat} : ∀ (vs : List Value) (k : Nat) (t : Nat) (v : Value), lk (num k vs) t = some v → k ≤ t ∧ vs[t - k]? = some v
  | [], k, t, v, h => by simp [num, lk] at h
  | u :: r, k, t, v, h => by
    simp only [num, lk] at h
    cases hb : Nat.beq k t with
    | true =>
      rw [hb] at h
      have e := Nat.eq_of_beq_eq_true hb
      subst e
      simp at h
      simp [h]
    | false =>
      rw [hb] at h
      obtain ⟨h1, h2⟩ := lk_num (N := N) r (k + 1) t v h
      refine ⟨by omega, ?_⟩
      have : t - k = (t - (k + 1)) + 1 := by omega
      rw [this]
      simpa using h2
theorem Env.enter (N : Nat) (vs : List Value) (hN : vs.length ≤ N) : Env N { tmps := vs.toArray ++ Array.replicate (N - vs.toArray.size) undef, defers := [] } (num 0 vs) := by
  refine ⟨by simp; omega, rfl, fun t v h => ?_⟩
  obtain ⟨_, h2⟩ := lk_num (N := N) vs 0 t v h
  have hlt : t < vs.length := by
    rcases Nat.lt_or_ge t vs.length with h | h
    · exact h
    · simp [List.getElem?_eq_none h] at h2
  simp only [Nat.sub_zero] at h2
  simp [Array.getElem?_append, hlt]
  simpa [List.getElem?_eq_getElem hlt] using h2
/-- What a call leaves: some x of Φ, the value v x, the blocks Lp x. -/
def Left (F : Fr) {S : Type} (Φ : S → Prop) (v : S → Value) (Lp : S → Bl) : Ending → World → Prop :=
  fun e w' => ∃ x, Φ x ∧ e = .returned (v x) ∧ St F w' (Lp x)
def Ct (P : Program) (F : Fr) (f : FuncId) (args : List Value) (Lpre : Bl) {S : Type} (Φ : S → Prop) (v : S → Value) (Lp : S → Bl) : Prop :=
  ∀ w, St F w Lpre → Calls P f args.toArray w (Left F Φ v Lp)
theorem Ct.mono {P : Program} {F : Fr} {f : FuncId} {args : List Value} {Lpre : Bl} {S S' : Type} {Φ : S → Prop} {v : S → Value} {Lp : S → Bl} {Φ' : S' → Prop} {v' : S' → Value} {Lp' : S' → Bl}
    (h : Ct P F f args Lpre Φ v Lp) (hm : ∀ x, Φ x → ∃ y R, Φ' y ∧ v x = v' y ∧ Tks (Lp' y) (Lp x) R) : Ct P F f args Lpre Φ' v' Lp' := by
  intro w hs
  refine (h w hs).mono ?_
  rintro e w' ⟨x, hx, rfl, hs'⟩
  obtain ⟨y, R, hy, hv, ht⟩ := hm x hx
  exact ⟨y, hy, by rw [hv], hs'.tks ht⟩
theorem Ct.of {P : Program} {F : Fr} {f : FuncId} {fn : Func} {c : Code} {args : List Value} {Lpre : Bl} {S : Type} {Φ : S → Prop} {v : S → Value} {Lp : S → Bl} (N : Nat) (l : Tl)
    (hf : P.funcs[f]? = some fn) (hb : fn.body = some c) (hn : fn.ntmps = N) (ha : Nat.ble args.length N = true) (hl : num 0 args = l)
    (h : GC ⟨P, F, N⟩ c (bodyPost P fn (Left F Φ v Lp)) l Lpre) : Ct P F f args Lpre Φ v Lp := by
  intro w hs
  refine calls_of_wp hf hb ?_
  rw [hn]
  subst hl
  exact h _ w (Env.enter N args (by simpa using ha)) hs
end Go.Sx
