/-
  A device that is not armed loses no power; what the law of the atomic Add asks of the two lists of records. Lemmas only; each has its conditions as premises.
-/
import Derived.Test.YtbeiciinppmekaaTb
import Derived.Test.YtbeiciinppmekaaPle
import Derived.Test.YtbeiciinppmekaaLawe
import Derived.Test.YtbeiciinppmekaaProg
namespace Go.Proofs.Ytbeiciinppmekaa
open Go Go.Sx Go.Proofs
set_option maxRecDepth 100000
set_option linter.unusedSimpArgs false
set_option linter.unusedVariables false
theorem Dev.progL_calm : ∀ (xs : List Int) (D : Dev) (p : Nat), D.left = 0 → D.down = false → (D.progL p xs).1.left = 0 ∧ (D.progL p xs).1.down = false
  | [], D, p, h, hd => ⟨h, hd⟩
  | x :: xs, D, p, h, hd => by
    have hs := D.step_left0 h hd
    unfold Dev.progL
    rw [if_neg (by simp [hs.2])]
    exact Dev.progL_calm xs _ _ hs.1 hs.2
theorem Dev.program_calm {D : Dev} (h : D.left = 0) (hd : D.down = false) (a : Int) (xs : List Int) : (D.program a xs).1.left = 0 ∧ (D.program a xs).1.down = false := by
  unfold Dev.program
  split
  · exact ⟨h, hd⟩
  · split
    · exact Dev.progL_calm xs D _ h hd
    · exact ⟨h, hd⟩
theorem Dev.erase_calm {D : Dev} (h : D.left = 0) (hd : D.down = false) (s : Int) : (D.erase s).1.left = 0 ∧ (D.erase s).1.down = false := by
  have hs := Dev.step_left0 (D := { D with wear := D.wear.set s.toNat (IntKind.i64.wrap (ix D.wear s.toNat + 1)) }) h hd
  unfold Dev.erase
  split
  · exact ⟨h, hd⟩
  · split
    · exact ⟨h, hd⟩
    · split
      · exact hs
      · exact hs
theorem openP_calm {D : Dev} (h : D.left = 0) (hd : D.down = false) (s q t i : Int) : (openP D s q t i).1.left = 0 ∧ (openP D s q t i).1.down = false := by
  have hE : (openE D s).1.left = 0 ∧ (openE D s).1.down = false := by
    unfold openE
    split
    · exact ⟨h, hd⟩
    · exact Dev.erase_calm h hd s
  unfold openP
  split
  · have h2 := Dev.program_calm hE.1 hE.2 (s * D.size) (hdL q t i)
    split
    · exact Dev.program_calm h2.1 h2.2 _ _
    · exact h2
  · exact hE
theorem Rl.openT_calm {R : Rl} {D : Dev} (h : D.left = 0) (hd : D.down = false) (t : Int) : (R.openT D t).1.left = 0 ∧ (R.openT D t).1.down = false := by
  unfold Rl.openT
  split
  · exact ⟨h, hd⟩
  · exact openP_calm h hd _ _ _ _
theorem radd_torn {R : Rl} {D : Dev} {e : Ev} : (R.add D e).2.1.torn = D.torn := by
  have hp : ∀ (D : Dev) (e : Ev) (i : Int), (R.put D e i).2.1.torn = D.torn := by
    intro D e i
    unfold Rl.put
    split <;> exact Dev.program_torn _ _ _
  unfold Rl.add
  split
  · rfl
  · split
    · rfl
    · split
      · split
        · rfl
        · split
          · exact openT_torn
          · split
            · rw [hp]; exact openT_torn
            · exact openT_torn
      · exact hp _ _ _
theorem radd_calm {R : Rl} {D : Dev} (h : D.left = 0) (hd : D.down = false) (e : Ev) : (R.add D e).2.1.left = 0 ∧ (R.add D e).2.1.down = false := by
  have hp : ∀ {D : Dev} (_ : D.left = 0) (_ : D.down = false) (e : Ev) (i : Int), (R.put D e i).2.1.left = 0 ∧ (R.put D e i).2.1.down = false := by
    intro D h hd e i
    unfold Rl.put
    split <;> exact Dev.program_calm h hd _ _
  have ho := R.openT_calm h hd (R.tl D)
  unfold Rl.add
  split
  · exact ⟨h, hd⟩
  · split
    · exact ⟨h, hd⟩
    · split
      · split
        · exact ⟨h, hd⟩
        · split
          · exact ho
          · split
            · exact hp ho.1 ho.2 _ _
            · exact ho
      · exact hp h hd _ _
/-- Add onto a device that is not armed. -/
theorem add_calm {R : Rl} {D : Dev} (f : D.Fine) (g : R.Fine D) (re : R.ended = false) (hl : D.left = 0) (hd : D.down = false) (hq : (R.newest D).1 ≤ 1000000) {e : Ev} (wf : e.Wf) (hv : e.valid = true) (hi : e.id = 0) :
    ((R.add D e).2.2 = (0, 9) ∧ R.over = false) ∨ (R.add D e).2.2 = (R.nextID D, 0) := by
  have hS := g.S2
  have hid := R.nextID_bd f
  have hqb := R.newest_bd D
  have hup : ¬ (R.ended || D.down) = true := by simp [re, hd]
  have hgood : ¬ (e.valid = false ∨ ¬ e.id = 0) := by simp [hv, hi]
  obtain ⟨e1, he1⟩ : ∃ e1 : Ev, { e with id := R.nextID D } = e1 := ⟨_, rfl⟩
  have he1i : e1.id = R.nextID D := by rw [← he1]
  have wf1 : e1.Wf ∧ e1.valid = true := by
    simp only [Ev.valid, Bool.and_eq_true, decide_eq_true_eq] at hv
    rw [← he1]
    exact ⟨⟨by simp only; omega, wf.time, wf.gen, wf.st, wf.sn, wf.ty, wf.d0, wf.d1, wf.d2⟩, by simp only [Ev.valid, Bool.and_eq_true, decide_eq_true_eq]; omega⟩
  have put : ∀ {E : Dev} (_ : E.Fine) (_ : R.Fine E) (_ : E.left = 0) (_ : E.down = false) (_ : 1 ≤ (R.newest E).1) (_ : R.usedN E < slotsN E.size.toNat), (R.put E e1 (R.usedN E)).2.2 = (R.nextID D, 0) := by
    intro E fE gE hlE hdE hqE huE
    have j0 := Int.emod_nonneg ((R.newest E).1 - 1) (show R.S ≠ 0 by omega)
    have j1 := Int.emod_lt_of_pos ((R.newest E).1 - 1) (show 0 < R.S by omega)
    have hfr : blankL (slotL (R.sec E (((R.newest E).1 - 1) % R.S)) (R.usedN E)) = true := freeN_free _ _ (Nat.le_refl _) huE
    have hby : Bytes (evEnc e1 ++ [0]) := by
      intro x hx
      rcases List.mem_append.1 hx with hx | hx
      · exact evEnc_bytes wf1.1 wf1.2 x hx
      · simp at hx; omega
    have hc := Dev.program_calm hlE hdE (R.base E (((R.newest E).1 - 1) % R.S) + 11 + 17 * R.usedN E) (evEnc e1 ++ [0])
    unfold Rl.put Rl.slotAt
    rcases R.slot_cases fE gE hdE j0 j1 huE hfr (ys := evEnc e1 ++ [0]) rfl hby with ⟨p1, _, _⟩ | ⟨_, p2, _⟩
    · rw [if_pos p1, he1i]
    · rw [hc.2] at p2; cases p2
  have hadd : R.add D e = if R.place D < 0 then
      if R.S - 2 < (R.newest D).1 + 1 - R.tl0 D ∧ R.over = false then ({ R with refused := true }, D, 0, 9) else
      if (R.openT D (R.tl D)).2 = 10 then (R.endR, (R.openT D (R.tl D)).1, 0, 10) else
      if (R.openT D (R.tl D)).2 = 0 then R.put (R.openT D (R.tl D)).1 e1 0 else (R, (R.openT D (R.tl D)).1, 0, (R.openT D (R.tl D)).2)
    else R.put D e1 (R.place D) := by
    unfold Rl.add
    rw [if_neg hup, if_neg hgood, he1]
  rw [hadd]
  by_cases hp : R.place D < 0
  · rw [if_pos hp]
    by_cases hf : R.S - 2 < (R.newest D).1 + 1 - R.tl0 D ∧ R.over = false
    · rw [if_pos hf]
      exact .inl ⟨rfl, hf.2⟩
    · rw [if_neg hf]
      right
      have htb := R.tl_bd g (D := D)
      have hc := R.openT_calm hl hd (R.tl D)
      obtain ⟨fE, lE⟩ := R.openT_fine f (R.tl D)
      rcases R.openT_cases f g hd (x := R.tl D) (t := R.tl D) (by rw [if_neg (by omega)]) htb.1 htb.2.1 htb.2.2 with ⟨h1, _⟩ | ⟨_, _, ⟨h1, _, o⟩ | ⟨_, h2⟩⟩
      · omega
      · rw [if_neg (by omega), if_pos h1]
        have hs : slotsN (R.openT D (R.tl D)).1.size.toNat = slotsN D.size.toNat := by rw [lE.2.2]
        have := put fE (g.like lE) hc.1 hc.2 (by rw [o.newest]; simp only; omega) (by rw [o.used, hs]; unfold slotsN; have := g.sz; omega)
        rw [o.used] at this
        exact this
      · rw [hc.2] at h2; cases h2
  · rw [if_neg hp]
    right
    have hu : R.place D = R.usedN D ∧ ¬ (R.newest D).1 = 0 ∧ R.usedN D < slotsN D.size.toNat := by
      rcases R.place_bd f with h | ⟨h0, h1, h2, h3⟩
      · omega
      · exact ⟨h3, h2, by omega⟩
    rw [hu.1]
    exact put f g hl hd (by omega) hu.2.2
/-- A log that is being filled. -/
structure Fi (s z : Int) (over : Bool) (Y : Lg) (R : Rl) (D : Dev) (k : Nat) : Prop where
  ag : Agree Y R D
  fil : Fil R D k
  left : D.left = 0
  torn : D.torn = 0
  like : D.Like (Dev.new s z)
  first : R.first = 0
  S : R.S = s
  over : R.over = over
theorem Fil.refuse {R : Rl} {D : Dev} {k : Nat} (f : Fil R D k) : Fil { R with refused := true } D k := ⟨f.fine, ⟨f.rf.f0, f.rf.S2, f.rf.fS, f.rf.sz, f.rf.l0, f.rf.l1⟩, f.up, f.re, f.q, f.next, f.full, f.used⟩
theorem Fil.more {R : Rl} {D : Dev} {k : Nat} (f : Fil R D k) : Fil R D (k + 1) := ⟨f.fine, f.rf, f.up, f.re, by have := f.q; omega, f.next, f.full, f.used⟩
theorem Fi.add {s z : Int} {over : Bool} {Y : Lg} {R : Rl} {D : Dev} {k : Nat} (h : Fi s z over Y R D k) (hk : k ≤ 100000) {e : Ev} (wf : e.Wf) (hv : e.valid = true) (hi : e.id = 0) :
    (Y.add D e).2 = (R.add D e).2 ∧ ((R.add D e).2.2.2 = 0 ∨ (R.add D e).2.2.2 = 9) ∧ Fi s z over (Y.add D e).1 (R.add D e).1 (R.add D e).2.1 (k + 1) := by
  obtain ⟨e1, o, f, l, r1, r2, r3⟩ := add_agree h.ag h.fil.up wf
  have e2 : Y.add D e = Y.addUp D e := by unfold Lg.add; rw [if_neg (by simp [h.ag.ye, h.fil.up])]
  have hc := radd_calm (R := R) h.left h.fil.up e
  have ht := radd_torn (R := R) (D := D) (e := e)
  have hfq := h.fil.q
  have ho : Agree (Y.addUp D e).1 (R.add D e).1 (R.add D e).2.1 := by
    rcases o with ⟨o, _⟩ | ⟨_, _, _, o⟩
    · exact o
    · rw [hc.2] at o; cases o
  have hout := add_calm h.fil.fine h.fil.rf h.fil.re h.left h.fil.up (by omega) wf hv hi
  have hfil : Fil (R.add D e).1 (R.add D e).2.1 (k + 1) := by
    rcases h.fil.atomic hk (by rw [h.torn]; decide) wf hv hi with ⟨a1, _, a3⟩ | ⟨b', a, a2⟩
    · rw [a3, a1]
      exact h.fil.refuse.more
    · have h0 : (R.add D e).2.2.2 = 0 := by
        rcases a.out with ⟨_, _, _, _, a5⟩ | ⟨_, _, ⟨a3, _⟩ | ⟨_, _, a5⟩⟩
        · rw [hc.2] at a5; cases a5
        · exact a3
        · rw [hc.2] at a5; cases a5
      obtain ⟨a3, a4⟩ := a2 h0
      rw [a3]
      exact a4
  rw [e2]
  refine ⟨e1, ?_, ho, hfil, hc.1, by rw [ht]; exact h.torn, l.trans h.like, by rw [r1]; exact h.first, by rw [r2]; exact h.S, by rw [r3]; exact h.over⟩
  rcases hout with ⟨a, _⟩ | a
  · right; rw [a]
  · left; rw [a]
theorem Fi.start {s z : Int} {over : Bool} (h1 : 2 ≤ s) (h2 : s ≤ 16) (h3 : 64 ≤ z) (h4 : z ≤ 1024) : Fi s z over (openL 0 s over (Dev.new s z)) (Rl.open0 0 s over) (Dev.new s z) 0 := by
  have fine := Dev.new_fine (s := s) (z := z) (by omega) h2 h3 h4
  have hno := noRoom_new (Dev.Like.refl (Dev.new s z)) h1
  have a := openL_agree fine (over := over) hno h3
  have h0 : (Rl.open0 0 s over).newest (Dev.new s z) = (0, 0) := by
    rcases ((Rl.open0 0 s over).newestN_bd (D := Dev.new s z) (Rl.open0 0 s over).S.toNat).1 with h | ⟨j, hj, _, hq⟩
    · exact h
    · have hj2 : (j : Int) < s := by have : (Rl.open0 0 s over).S.toNat = s.toNat := rfl; omega
      have hz : (Rl.open0 0 s over).hdr (Dev.new s z) j = (0, 0) := by
        rw [Rl.hdr_sec, if_neg]
        simp only [Bool.not_eq_true]
        refine Hd.ok_status ?_
        have hb := Rl.base_bd fine a.rf (j := j) (by omega) hj2
        rw [Rl.sec_ix (by show 10 < z.toNat; omega)]
        have hlen : (Dev.new s z).bytes = List.replicate (s * z).toNat 255 := rfl
        have hn : (Dev.new s z).n = (s * z).toNat := rfl
        have hsz : (Dev.new s z).size = z := rfl
        rw [hlen, ix_rep (by omega)]
        decide
      rw [hz] at hq
      simp at hq
  have hr : (Rl.open0 0 s over).recsA (Dev.new s z) = [] := by unfold Rl.recsA; rw [h0]; rfl
  refine ⟨a, ⟨fine, a.rf, rfl, rfl, by rw [h0]; exact Int.le_refl 0, ?_, fun k k0 k1 k2 => ?_, fun h => ?_⟩, rfl, rfl, Dev.Like.refl _, rfl, rfl, rfl⟩
  · rw [hr]
    unfold Rl.nextID
    rw [h0]; rfl
  · rw [h0] at k2; simp only at k2; omega
  · rw [h0] at h; simp at h
def lastE (l : List Ev) : Ev := l.getD (l.length - 1) Ev.zero
theorem lastE_get {l : List Ev} (h : 0 < l.length) : l[l.length - 1]? = some (lastE l) := by
  unfold lastE
  rw [List.getD_eq_getElem?_getD, List.getElem?_eq_getElem (by omega), Option.getD_some]
theorem lastE_snoc (l : List Ev) (e : Ev) : lastE (l ++ [e]) = e := by simp [lastE]
def IdOk (l : List Ev) : Prop := ∀ e ∈ l, 1 ≤ e.id ∧ e.id ≤ 65534
theorem IdOk.last {l : List Ev} (h : IdOk l) (h0 : 0 < l.length) : 1 ≤ (lastE l).id ∧ (lastE l).id ≤ 65534 := h _ (List.mem_of_getElem? (lastE_get h0))
theorem nextOf_last {l : List Ev} (h : IdOk l) : nextOf l 1 = if 0 < l.length then (lastE l).id % 65534 + 1 else 1 := by
  unfold nextOf
  by_cases h0 : 0 < l.length
  · have := h.last h0
    rw [if_neg (by omega), if_pos h0, show l.getD (l.length - 1) Ev.zero = lastE l from rfl]
    unfold behind
    split <;> omega
  · rw [if_pos (by omega), if_neg h0]
def grownB (as1 bs : List Ev) : Bool := decide ((0 < as1.length ∧ 0 < bs.length ∧ (lastE as1).id = (lastE bs).id % 65534 + 1) ∨ (bs.length = 0 ∧ as1.length = 1))
def wantOf (as1 bs : List Ev) : Int := if 0 < as1.length then (lastE as1).id % 65534 + 1 else if 0 < bs.length then (lastE bs).id % 65534 + 1 else 1
/-- b' is all of bs, or all but the oldest sector's records. -/
def Kept (over : Bool) (dr : Nat) (bs b' : List Ev) : Prop := b' = bs ∨ (over = true ∧ dr ≤ bs.length ∧ b' = bs.drop dr)
theorem Kept.last {over : Bool} {dr : Nat} {bs b' : List Ev} (h : Kept over dr bs b') (h0 : 0 < b'.length) : 0 < bs.length ∧ lastE b' = lastE bs := by
  rcases h with rfl | ⟨_, h1, rfl⟩
  · exact ⟨h0, rfl⟩
  · rw [List.length_drop] at h0
    refine ⟨by omega, ?_⟩
    unfold lastE
    rw [List.getD_eq_getElem?_getD, List.getD_eq_getElem?_getD, List.getElem?_drop, List.length_drop, show dr + (bs.length - dr - 1) = bs.length - 1 by omega]
theorem Kept.nil {over : Bool} {dr : Nat} {bs b' : List Ev} (h : Kept over dr bs b') (h0 : bs.length = 0) : b' = [] := by
  have hb : bs = [] := List.eq_nil_of_length_eq_zero h0
  rcases h with rfl | ⟨_, _, rfl⟩
  · exact hb
  · rw [hb]; simp
theorem grown_yes {over : Bool} {dr : Nat} {bs b' : List Ev} (hb : IdOk bs) (h : Kept over dr bs b') {e1 : Ev} (h1 : e1.id = nextOf bs 1) : grownB (b' ++ [e1]) bs = true ∧ wantOf (b' ++ [e1]) bs = e1.id % 65534 + 1 := by
  refine ⟨?_, ?_⟩
  · unfold grownB
    rw [decide_eq_true_eq, lastE_snoc, h1, nextOf_last hb]
    by_cases h0 : 0 < bs.length
    · rw [if_pos h0]
      exact .inl ⟨by simp, h0, rfl⟩
    · right
      rw [h.nil (by omega)]
      exact ⟨by omega, rfl⟩
  · unfold wantOf
    rw [if_pos (by simp), lastE_snoc]
theorem grown_no {over : Bool} {dr : Nat} {bs b' : List Ev} (hb : IdOk bs) (h : Kept over dr bs b') : grownB b' bs = false ∧ wantOf b' bs = nextOf bs 1 := by
  by_cases h0 : 0 < b'.length
  · obtain ⟨h1, h2⟩ := h.last h0
    have h3 := hb.last h1
    refine ⟨?_, ?_⟩
    · unfold grownB
      rw [decide_eq_false_iff_not, h2]
      omega
    · unfold wantOf
      rw [if_pos h0, h2, nextOf_last hb, if_pos h1]
  · refine ⟨?_, ?_⟩
    · unfold grownB
      rw [decide_eq_false_iff_not]
      omega
    · unfold wantOf
      rw [if_neg h0, nextOf_last hb]
theorem Rl.recsA_ids {R : Rl} {D : Dev} (h : D.Fine) : IdOk (R.recsA D) := by
  intro e he
  unfold Rl.recsA at he
  split at he
  · unfold Rl.recsN at he
    obtain ⟨i, _, he⟩ := List.mem_flatMap.1 he
    unfold Rl.at_ at he
    split at he
    · have := R.ofS_wf h he
      exact this.2.2
    · simp at he
  · simp at he
/-- The law of the atomic Add. -/
structure AtL (over : Bool) (bs as1 : List Ev) (x : Ev) (id f next kk : Int) (dr : Nat) : Prop where
  full : f = 9 → over = false ∧ as1 = bs
  part : ¬ f = 9 → (f = 0 ∨ f = 10) ∧ ∃ b', Kept over dr bs b' ∧ ((grownB as1 bs = true ∧ as1 = b' ++ [{ x with id := nextOf bs 1 }] ∧ (f = 0 → id = nextOf bs 1)) ∨ (grownB as1 bs = false ∧ as1 = b' ∧ f = 10))
  second : ¬ f = 9 → (kk = 9 ∧ over = false) ∨ (kk = 0 ∧ next = wantOf as1 bs)
theorem Fi.law {s z : Int} {over : Bool} {Y : Lg} {R : Rl} {D : Dev} {k : Nat} (h : Fi s z over Y R D k) (hk : k ≤ 1000) (hs : s ≤ 255) {a t : Int} (ha : a ≤ 80) (ht : 0 ≤ t ∧ t ≤ 255) {x : Ev} (wf : x.Wf) (hv : x.valid = true) (hi : x.id = 0) :
    ∃ (E : Dev), (R.add (D.arm a t) x).2.1.restore = E ∧ (Y.add (D.arm a t) x).2 = (R.add (D.arm a t) x).2 ∧ E.Fine ∧ E.Like (Dev.new s z) ∧ E.down = false ∧
      Agree (openL 0 s over E) (Rl.open0 0 s over) E ∧ ((openL 0 s over E).add E x).2 = ((Rl.open0 0 s over).add E x).2 ∧
      AtL over (R.recsA D) ((Rl.open0 0 s over).recsA E) x (R.add (D.arm a t) x).2.2.1 (R.add (D.arm a t) x).2.2.2 ((Rl.open0 0 s over).add E x).2.2.1 ((Rl.open0 0 s over).add E x).2.2.2 (slotsN z.toNat) := by
  obtain ⟨l1, b1, d1, _⟩ := D.arm_like a t
  have fD1 := Dev.arm_fine h.fil.fine (t := t) ha
  obtain ⟨D1, hD1⟩ : ∃ D1, D.arm a t = D1 := ⟨_, rfl⟩
  rw [hD1] at l1 b1 d1 fD1 ⊢
  have ht1 : D1.torn = t := by rw [← hD1]; unfold Dev.arm; rw [h.fil.up]; rfl
  have ag1 := h.ag.same b1 l1 fD1
  obtain ⟨s1, s2, s3, s4, s5⟩ := R.same_bytes b1 l1
  have sA : R.recsA D1 = R.recsA D := by rw [R.recsA_map, R.recsA_map, s2]
  have sat : ∀ q, R.at_ D1 q = R.at_ D q := fun q => by
    have hs : ∀ j, R.sec D1 j = R.sec D j := fun j => by unfold Rl.sec secL; rw [R.base_like l1, b1, l1.2.2]
    unfold Rl.at_
    rw [R.hdr_same (hs _), R.ofS_same (hs _) l1]
  have fil1 : Fil R D1 k := ⟨fD1, h.fil.rf.like l1, by rw [d1]; exact h.fil.up, h.fil.re, by rw [s1]; exact h.fil.q, by rw [s4, sA]; exact h.fil.next, fun q q0 q1 q2 => by rw [sat, l1.2.2]; rw [s1] at q1 q2; exact h.fil.full q q0 q1 q2, fun hq => by rw [s1, sat, s3]; rw [s1] at hq; exact h.fil.used hq⟩
  obtain ⟨e1, o, fE, lE, r1, r2, r3⟩ := add_agree ag1 fil1.up wf
  have e2 : Y.add D1 x = Y.addUp D1 x := by unfold Lg.add; rw [if_neg (by simp [ag1.ye, fil1.up])]
  obtain ⟨E, hE⟩ : ∃ E, (R.add D1 x).2.1.restore = E := ⟨_, rfl⟩
  have fE3 : E.Fine := by rw [← hE]; exact Dev.restore_fine fE
  have lE3 : E.Like (R.add D1 x).2.1 := by rw [← hE]; exact ⟨rfl, rfl, rfl⟩
  have bE3 : E.bytes = (R.add D1 x).2.1.bytes := by rw [← hE]; rfl
  have dE3 : E.down = false := by rw [← hE]; rfl
  have hl3 : E.left = 0 := by rw [← hE]; rfl
  have lN : E.Like (Dev.new s z) := lE3.trans (lE.trans (l1.trans h.like))
  have hsz : 64 ≤ E.size := by have := h.fil.rf.sz; have e : E.size = D.size := (lE3.trans (lE.trans l1)).2.2; omega
  have hno : noRoom E.nw 0 s = false := noRoom_new lN (by rw [← h.S]; exact h.fil.rf.S2)
  have ag3 := openL_agree fE3 (over := over) hno hsz
  obtain ⟨e3, _⟩ := add_agree ag3 dE3 wf
  have e4 : (openL 0 s over E).add E x = (openL 0 s over E).addUp E x := by unfold Lg.add; rw [if_neg (by simp [ag3.ye, dE3])]
  refine ⟨E, hE, by rw [e2]; exact e1, fE3, lN, dE3, ag3, by rw [e4]; exact e3, ?_⟩
  -- the reference's log over E reads what R reads
  have hev := Rl.eqv (R := R) (R' := Rl.open0 0 s over) h.first.symm h.S.symm E
  have hrA := Rl.recsA_eqv (R := R) (R' := Rl.open0 0 s over) h.first.symm h.S.symm E
  obtain ⟨t1, t2, t3, t4, t5⟩ := R.same_bytes bE3 lE3
  have tA : R.recsA E = R.recsA (R.add D1 x).2.1 := by rw [R.recsA_map, R.recsA_map, t2]
  have ids : IdOk (R.recsA D) := R.recsA_ids h.fil.fine
  have hsl : slotsN D1.size.toNat = slotsN z.toNat := by rw [l1.2.2, h.like.2.2]; rfl
  have hid := R.nextID_bd (D := D1) fD1
  have hnx : R.nextID D1 = nextOf (R.recsA D) 1 := by rw [s4]; exact h.fil.next
  have hat := fil1.atomic (by omega) (by rw [ht1]; exact ht) wf hv hi
  rw [hrA, tA]
  have hkq : ((R.newest (R.add D1 x).2.1).1 ≤ k + 1) := by
    rcases hat with ⟨a1, _, _⟩ | ⟨b', a1, _⟩
    · rw [a1]; dsimp only; have := fil1.q; omega
    · exact a1.q
  have hcalm := add_calm fE3 ag3.rf rfl hl3 dE3 (by rw [hev.1, t1]; omega) wf hv hi
  have hov : (Rl.open0 0 s over).over = over := rfl
  rw [hov, hev.2.2.1, t4] at hcalm
  refine ⟨fun h9 => ?_, fun h9 => ?_, fun h9 => ?_⟩
  · rcases hat with ⟨a1, a2, _⟩ | ⟨b', a1, _⟩
    · rw [a1, sA]
      exact ⟨by rw [← h.over]; exact a2, rfl⟩
    · rcases a1.out with ⟨_, _, a3, _⟩ | ⟨_, _, ⟨a3, _⟩ | ⟨a3, _⟩⟩ <;> omega
  · rcases hat with ⟨a1, _, _⟩ | ⟨b', a1, _⟩
    · rw [a1] at h9; simp at h9
    · have hkp : Kept over (slotsN z.toNat) (R.recsA D) b' := by
        have := a1.part
        rw [sA, hsl, h.over] at this
        exact this
      rcases a1.out with ⟨a2, a3, a4, a5, _⟩ | ⟨a2, a3, a4⟩
      · refine ⟨.inr a4, b', hkp, .inr ⟨?_, a2, a4⟩⟩
        rw [a2]
        exact (grown_no ids hkp).1
      · refine ⟨by rcases a4 with ⟨a4, _⟩ | ⟨a4, _⟩ <;> omega, b', hkp, .inl ⟨?_, by rw [a2, hnx], fun h0 => ?_⟩⟩
        · rw [a2]
          exact (grown_yes ids hkp (by rw [← hnx])).1
        · rcases a4 with ⟨_, a5, _⟩ | ⟨a5, _⟩
          · rw [a5, hnx]
          · omega
  · rcases hcalm with ⟨c1, c2⟩ | c1
    · exact .inl ⟨by rw [c1], c2⟩
    · right
      rw [c1]
      refine ⟨rfl, ?_⟩
      rcases hat with ⟨a1, _, _⟩ | ⟨b', a1, _⟩
      · rw [a1] at h9; simp at h9
      · have hkp : Kept over (slotsN z.toNat) (R.recsA D) b' := by
          have := a1.part
          rw [sA, hsl, h.over] at this
          exact this
        rcases a1.out with ⟨a2, a3, _⟩ | ⟨a2, a3, _⟩
        · rw [a2, a3, (grown_no ids hkp).2, hnx]
        · rw [a2, a3, (grown_yes ids hkp (e1 := { x with id := R.nextID D1 }) (by rw [← hnx])).2]
          unfold behind
          simp only
          split <;> omega
end Go.Proofs.Ytbeiciinppmekaa
