/-
  Add onto a log that was filled: the records from before, or without those of the oldest sector, or with the new one. Lemmas only; each has its conditions as premises.
-/
import Derived.Test.YtbeiciinppmekaaTb
import Derived.Test.YtbeiciinppmekaaPld
import Derived.Test.YtbeiciinppmekaaProg
namespace Go.Proofs.Ytbeiciinppmekaa
open Go Go.Sx Go.Proofs
set_option maxRecDepth 100000
set_option linter.unusedSimpArgs false
set_option linter.unusedVariables false
/-- A log that was filled by Add alone, k times at the most. -/
structure Fil (R : Rl) (D : Dev) (k : Nat) : Prop where
  fine : D.Fine
  rf : R.Fine D
  up : D.down = false
  re : R.ended = false
  q : (R.newest D).1 ≤ k
  next : R.nextID D = nextOf (R.recsA D) 1
  full : ∀ s, 1 ≤ s → (R.newest D).2 ≤ s → s < (R.newest D).1 → (R.at_ D s).length = slotsN D.size.toNat
  used : 1 ≤ (R.newest D).1 → (R.at_ D (R.newest D).1).length = R.usedN D
theorem Rl.recsA_map (R : Rl) (D : Dev) : R.recsA D = (R.recQ D).map (·.2) := by
  unfold Rl.recsA Rl.recQ
  split
  · exact (R.recR_map D _ _).symm
  · rfl
theorem Rl.Wrote.recsA {R : Rl} {D E : Dev} (g : R.Fine D) {e : Ev} {u : Nat} (hq : 1 ≤ (R.newest D).1) (w : R.Wrote D E e u (((R.newest D).1 - 1) % R.S)) : R.recsA E = R.recsA D ++ [e] := by
  rw [R.recsA_map, R.recsA_map, w.recQ g hq, List.map_append]; rfl
theorem at_newest_wrote {R : Rl} {D E : Dev} (g : R.Fine D) {e : Ev} {u : Nat} (hq : 1 ≤ (R.newest D).1) (w : R.Wrote D E e u (((R.newest D).1 - 1) % R.S)) : R.at_ E (R.newest D).1 = R.at_ D (R.newest D).1 ++ [e] := by
  have hS := g.S2
  have j0 := Int.emod_nonneg ((R.newest D).1 - 1) (show R.S ≠ 0 by omega)
  have j1 := Int.emod_lt_of_pos ((R.newest D).1 - 1) (show 0 < R.S by omega)
  have hj := R.newest_j hq
  unfold Rl.at_
  rw [w.hdr _ j0 j1, w.of_, hj, if_pos rfl, if_pos rfl]
theorem mod_ne {S a b : Int} (hS : 0 < S) (h : 0 < a - b) (h2 : a - b < S) : b % S ≠ a % S := by
  intro e
  have h3 : (a - b) % S = 0 := by rw [Int.sub_emod, ← e, Int.sub_self, Int.zero_emod]
  rw [Int.emod_eq_of_lt (by omega) h2] at h3
  omega
/-- What a sector that was opened holds, and the others. -/
theorem opened_at {R : Rl} {D E : Dev} (g : R.Fine D) {t i : Int} (t1 : t ≤ (R.newest D).1 + 1) (t2 : (R.newest D).1 + 1 - t ≤ R.S - 2) (o : R.Opened D E ((R.newest D).1 + 1) t i ((R.newest D).1 % R.S)) :
    R.at_ E ((R.newest D).1 + 1) = [] ∧ ∀ s, t ≤ s → s ≤ (R.newest D).1 → R.at_ E s = R.at_ D s := by
  have hS := g.S2
  refine ⟨?_, fun s s0 s1 => ?_⟩
  · unfold Rl.at_
    rw [Int.add_sub_cancel, o.of_]
    split <;> rfl
  · have k0 := Int.emod_nonneg (s - 1) (show R.S ≠ 0 by omega)
    have k1 := Int.emod_lt_of_pos (s - 1) (show 0 < R.S by omega)
    have := o.out _ k0 k1 (mod_ne (by omega) (by omega) (by omega))
    unfold Rl.at_
    rw [this.1, this.2]
/-- The records when a sector was opened. -/
theorem Fil.opened {R : Rl} {D E : Dev} {k : Nat} (f : Fil R D k) (hp : R.place D < 0) (hf : ¬ (R.S - 2 < (R.newest D).1 + 1 - R.tl0 D ∧ R.over = false)) {i : Int} (o : R.Opened D E ((R.newest D).1 + 1) (R.tl D) i ((R.newest D).1 % R.S)) :
    (R.recsA E = R.recsA D ∨ (R.over = true ∧ slotsN D.size.toNat ≤ (R.recsA D).length ∧ R.recsA E = (R.recsA D).drop (slotsN D.size.toNat))) ∧ (1 ≤ (R.newest D).1 → R.usedN D = slotsN D.size.toNat) := by
  have hq := R.newest_bd D
  have hS := f.rf.S2
  have htb := R.tl_bd f.rf (D := D)
  have hus : 1 ≤ (R.newest D).1 → R.usedN D = slotsN D.size.toNat := by
    intro h
    unfold Rl.place at hp
    rw [if_neg (by omega)] at hp
    split at hp
    · assumption
    · omega
  refine ⟨?_, hus⟩
  obtain ⟨oa, ob⟩ := opened_at f.rf htb.2.1 htb.2.2 o
  have hE : R.recsA E = R.recsN D (R.tl D) ((R.newest D).1 + 1 - R.tl D).toNat := by
    unfold Rl.recsA
    rw [o.newest]
    dsimp only
    rw [if_pos htb.1, show ((R.newest D).1 + 1 + 1 - R.tl D).toNat = ((R.newest D).1 + 1 - R.tl D).toNat + 1 by omega, R.recsN_succ, show R.tl D + ((((R.newest D).1 + 1 - R.tl D).toNat : Nat) : Int) = (R.newest D).1 + 1 by omega, oa, List.append_nil]
    exact Rl.recsN_same _ fun s s0 s1 => ob s s0 (by omega)
  by_cases hd : R.S - 2 < (R.newest D).1 + 1 - R.tl0 D
  · right
    have hov : R.over = true := by cases h : R.over with | true => rfl | false => exact absurd ⟨hd, h⟩ hf
    have htl : R.tl D = R.tl0 D + 1 := by unfold Rl.tl; rw [if_pos hd]
    have ht0 : R.tl0 D = max (R.newest D).2 1 := rfl
    have h1 : 1 ≤ (R.newest D).1 := by omega
    have h2 := hq.2.2.2.2 h1
    have htt : R.tl0 D = (R.newest D).2 := by omega
    have hlen : (R.at_ D (R.newest D).2).length = slotsN D.size.toNat := by
      by_cases e : (R.newest D).2 < (R.newest D).1
      · exact f.full _ h2.1 (Int.le_refl _) e
      · rw [show (R.newest D).2 = (R.newest D).1 by omega, f.used h1, hus h1]
    have hD : R.recsA D = R.at_ D (R.newest D).2 ++ R.recsN D (R.tl D) ((R.newest D).1 + 1 - R.tl D).toNat := by
      unfold Rl.recsA
      rw [if_pos h2.1]
      have := R.recsN_add D (R.newest D).2 1 ((R.newest D).1 + 1 - R.tl D).toNat
      rw [show 1 + ((R.newest D).1 + 1 - R.tl D).toNat = ((R.newest D).1 + 1 - (R.newest D).2).toNat by omega] at this
      rw [this, R.recsN_succ, htl, htt]
      simp [Rl.recsN]
    refine ⟨hov, ?_, ?_⟩
    · rw [hD, List.length_append, hlen]; omega
    · rw [hE, hD, ← hlen, List.drop_left]
  · left
    have htl : R.tl D = R.tl0 D := by unfold Rl.tl; rw [if_neg hd]
    have ht0 : R.tl0 D = max (R.newest D).2 1 := rfl
    rw [hE]
    unfold Rl.recsA
    by_cases h1 : 1 ≤ (R.newest D).2
    · rw [if_pos h1, show R.tl D = (R.newest D).2 by omega]
    · have h0 : (R.newest D).1 = 0 := by have := hq.2.2.2.2; omega
      rw [if_neg h1, show ((R.newest D).1 + 1 - R.tl D).toNat = 0 by omega]
      rfl
/-- What is left of a log behind Add; b: the records from before; e1: the new one. -/
structure Atom (R : Rl) (D E : Dev) (k : Nat) (e1 : Ev) (id f : Int) (b' : List Ev) : Prop where
  part : b' = R.recsA D ∨ (R.over = true ∧ slotsN D.size.toNat ≤ (R.recsA D).length ∧ b' = (R.recsA D).drop (slotsN D.size.toNat))
  q : (R.newest E).1 ≤ k + 1
  out : (R.recsA E = b' ∧ R.nextID E = R.nextID D ∧ f = 10 ∧ id = 0 ∧ E.down = true) ∨
    (R.recsA E = b' ++ [e1] ∧ R.nextID E = behind (R.nextID D) ∧ ((f = 0 ∧ id = R.nextID D ∧ E.down = false) ∨ (f = 10 ∧ id = 0 ∧ E.down = true)))
theorem openP_torn (D : Dev) (s q t i : Int) : (openP D s q t i).1.torn = D.torn := by
  have hE : (openE D s).1.torn = D.torn := by
    unfold openE
    split
    · rfl
    · exact D.erase_torn s
  unfold openP
  split
  · split
    · rw [Dev.program_torn, Dev.program_torn]; exact hE
    · rw [Dev.program_torn]; exact hE
  · exact hE
theorem openT_torn {R : Rl} {D : Dev} {x : Int} : (R.openT D x).1.torn = D.torn := by
  unfold Rl.openT
  by_cases h : 2147483648 < (R.newest D).1 + 1
  · rw [if_pos h]
  · rw [if_neg h]; exact openP_torn _ _ _ _ _
theorem rput_self {R : Rl} {D : Dev} {e : Ev} {i : Int} (h : (R.put D e i).2.2.2 = 0) : (R.put D e i).1 = R := by
  unfold Rl.put at h ⊢
  split
  · rfl
  · rename_i h1
    rw [if_neg h1] at h
    simp at h
theorem Fil.atomic {R : Rl} {D : Dev} {k : Nat} (f : Fil R D k) (hk : k ≤ 100000) (ht : 0 ≤ D.torn ∧ D.torn ≤ 255) {e : Ev} (wf : e.Wf) (hv : e.valid = true) (hi : e.id = 0) :
    ((R.add D e).2 = (D, 0, 9) ∧ R.over = false ∧ (R.add D e).1 = { R with refused := true }) ∨
    (∃ b', Atom R D (R.add D e).2.1 k { e with id := R.nextID D } (R.add D e).2.2.1 (R.add D e).2.2.2 b' ∧ ((R.add D e).2.2.2 = 0 → (R.add D e).1 = R ∧ Fil R (R.add D e).2.1 (k + 1))) := by
  have hq := R.newest_bd D
  have hS := f.rf.S2
  have hid := R.nextID_bd f.fine
  have hfq := f.q
  have hup : ¬ (R.ended || D.down) = true := by simp [f.re, f.up]
  have hgood : ¬ (e.valid = false ∨ ¬ e.id = 0) := by simp [hv, hi]
  obtain ⟨e1, he1⟩ : ∃ e1 : Ev, { e with id := R.nextID D } = e1 := ⟨_, rfl⟩
  have he1i : e1.id = R.nextID D := by rw [← he1]
  have wf1 : e1.Wf ∧ e1.valid = true := by
    simp only [Ev.valid, Bool.and_eq_true, decide_eq_true_eq] at hv
    rw [← he1]
    exact ⟨⟨by simp only; omega, wf.time, wf.gen, wf.st, wf.sn, wf.ty, wf.d0, wf.d1, wf.d2⟩, by simp only [Ev.valid, Bool.and_eq_true, decide_eq_true_eq]; omega⟩
  have hadd : R.add D e = if R.place D < 0 then
      if R.S - 2 < (R.newest D).1 + 1 - R.tl0 D ∧ R.over = false then ({ R with refused := true }, D, 0, 9) else
      if (R.openT D (R.tl D)).2 = 10 then (R.endR, (R.openT D (R.tl D)).1, 0, 10) else
      if (R.openT D (R.tl D)).2 = 0 then R.put (R.openT D (R.tl D)).1 e1 0 else (R, (R.openT D (R.tl D)).1, 0, (R.openT D (R.tl D)).2)
    else R.put D e1 (R.place D) := by
    unfold Rl.add
    rw [if_neg hup, if_neg hgood, he1]
  rw [he1]
  by_cases hp : R.place D < 0
  · rw [if_pos hp] at hadd
    by_cases hf : R.S - 2 < (R.newest D).1 + 1 - R.tl0 D ∧ R.over = false
    · left
      rw [if_pos hf] at hadd
      rw [hadd]
      exact ⟨rfl, hf.2, rfl⟩
    · right
      rw [if_neg hf] at hadd
      have htb := R.tl_bd f.rf (D := D)
      obtain ⟨fE, lE⟩ := R.openT_fine f.fine (R.tl D)
      have htE : (R.openT D (R.tl D)).1.torn = D.torn := openT_torn
      rcases R.open_torn f.fine f.rf f.up ht (t := R.tl D) (by omega) htb.1 htb.2.1 htb.2.2 with ⟨o1, o2, o3⟩ | ⟨o1, o2, o3⟩
      · rw [if_neg (by omega), if_pos o1] at hadd
        obtain ⟨hrec, hus⟩ := f.opened hp hf o3
        have gE := f.rf.like lE
        obtain ⟨E, hE⟩ : ∃ E, (R.openT D (R.tl D)).1 = E := ⟨_, rfl⟩
        rw [hE] at hadd fE lE htE o2 o3 hrec gE
        have hnE : (R.newest E).1 = (R.newest D).1 + 1 := by rw [o3.newest]
        have hsl : slotsN E.size.toNat = slotsN D.size.toNat := by rw [lE.2.2]
        have hsl0 : 0 < slotsN D.size.toNat := by unfold slotsN; have := f.rf.sz; omega
        have hpt := R.put_torn fE gE o2 (by rw [htE]; exact ht) (by omega) (by rw [o3.used, hsl]; exact hsl0) wf1.1 wf1.2 (by omega)
        rw [o3.used, show ((0 : Nat) : Int) = 0 from rfl] at hpt
        rw [hadd]
        obtain ⟨oa, ob⟩ := opened_at f.rf htb.2.1 htb.2.2 o3
        have hw : ∀ {E2 : Dev}, R.Wrote E E2 e1 0 (((R.newest E).1 - 1) % R.S) → R.recsA E2 = R.recsA E ++ [e1] ∧ R.nextID E2 = behind (R.nextID D) ∧ (R.newest E2).1 ≤ k + 1 := fun w =>
          ⟨w.recsA gE (by omega), by rw [w.next, he1i], by rw [w.newest, hnE]; omega⟩
        have hsm : ∀ {E2 : Dev}, R.Same E E2 → R.recsA E2 = R.recsA E ∧ R.nextID E2 = R.nextID D ∧ (R.newest E2).1 ≤ k + 1 := fun w =>
          ⟨w.recs, by rw [w.next, o3.next], by rw [w.newest, hnE]; omega⟩
        refine ⟨R.recsA E, ?_⟩
        rcases hpt with ⟨h1, h2, h3⟩ | ⟨h1, h2, h3 | h3⟩
        · obtain ⟨w1, w2, w3⟩ := hw h3
          refine ⟨⟨hrec, w3, .inr ⟨w1, w2, .inl ⟨by rw [h1], by rw [h1, he1i], h2⟩⟩⟩, fun _ => ⟨rput_self (by rw [h1]), ?_⟩⟩
          have hf2 := rput_fine (R := R) fE e1 0
          refine ⟨hf2.1, gE.like hf2.2, h2, f.re, w3, ?_, fun s s0 s1 s2 => ?_, fun _ => ?_⟩
          · rw [w2, w1, nextOf_snoc, he1i]
          · rw [h3.newest, o3.newest] at s1 s2
            dsimp only at s1 s2
            have hne : (s - 1) % R.S ≠ ((R.newest E).1 - 1) % R.S := mod_ne (by omega) (by rw [hnE]; omega) (by rw [hnE]; omega)
            rw [at_wrote gE h3 hne, ob s s1 (by omega), hf2.2.2.2, hsl]
            by_cases e : s < (R.newest D).1
            · exact f.full s s0 (by have : (R.newest D).2 ≤ R.tl D := by unfold Rl.tl Rl.tl0; split <;> omega
                                    omega) e
            · rw [show s = (R.newest D).1 by omega, f.used (by omega), hus (by omega)]
          · rw [h3.newest, at_newest_wrote gE (by omega) h3, h3.used, hnE, oa]
            rfl
        · obtain ⟨w1, w2, w3⟩ := hsm h3
          exact ⟨⟨hrec, w3, .inl ⟨w1, w2, by rw [h1], by rw [h1], h2⟩⟩, fun h => by rw [h1] at h; simp at h⟩
        · obtain ⟨w1, w2, w3⟩ := hw h3
          exact ⟨⟨hrec, w3, .inr ⟨w1, w2, .inr ⟨by rw [h1], by rw [h1], h2⟩⟩⟩, fun h => by rw [h1] at h; simp at h⟩
      · rw [if_pos o1] at hadd
        rw [hadd]
        rcases o3 with o3 | o3
        · exact ⟨R.recsA D, ⟨.inl rfl, by dsimp only; rw [o3.newest]; omega, .inl ⟨o3.recs, o3.next, rfl, rfl, o2⟩⟩, fun h => by simp at h⟩
        · obtain ⟨hrec, hus⟩ := f.opened hp hf o3
          exact ⟨_, ⟨hrec, by dsimp only; rw [o3.newest]; simp only; omega, .inl ⟨rfl, o3.next, rfl, rfl, o2⟩⟩, fun h => by simp at h⟩
  · right
    rw [if_neg hp] at hadd
    have hu : R.place D = R.usedN D ∧ ¬ (R.newest D).1 = 0 ∧ R.usedN D < slotsN D.size.toNat := by
      rcases R.place_bd f.fine with h | ⟨h0, h1, h2, h3⟩
      · omega
      · exact ⟨h3, h2, by omega⟩
    rw [hu.1] at hadd
    rw [hadd]
    have hf2 := rput_fine (R := R) f.fine e1 (R.usedN D)
    have hw : ∀ {E2 : Dev}, R.Wrote D E2 e1 (R.usedN D) (((R.newest D).1 - 1) % R.S) → R.recsA E2 = R.recsA D ++ [e1] ∧ R.nextID E2 = behind (R.nextID D) ∧ (R.newest E2).1 ≤ k + 1 := fun w =>
      ⟨w.recsA f.rf (by omega), by rw [w.next, he1i], by rw [w.newest]; omega⟩
    refine ⟨R.recsA D, ?_⟩
    rcases R.put_torn f.fine f.rf f.up ht (by omega) hu.2.2 wf1.1 wf1.2 (by omega) with ⟨h1, h2, h3⟩ | ⟨h1, h2, h3 | h3⟩
    · obtain ⟨w1, w2, w3⟩ := hw h3
      refine ⟨⟨.inl rfl, w3, .inr ⟨w1, w2, .inl ⟨by rw [h1], by rw [h1, he1i], h2⟩⟩⟩, fun _ => ⟨rput_self (by rw [h1]), ?_⟩⟩
      refine ⟨hf2.1, f.rf.like hf2.2, h2, f.re, w3, ?_, fun s s0 s1 s2 => ?_, fun _ => ?_⟩
      · rw [w2, w1, nextOf_snoc, he1i]
      · rw [h3.newest] at s1 s2
        have h4 := hq.2.2.2.2 (by omega)
        rw [at_wrote f.rf h3 (mod_ne (by omega) (by omega) (by omega)), hf2.2.2.2]
        exact f.full s s0 s1 s2
      · rw [h3.newest, at_newest_wrote f.rf (by omega) h3, h3.used, List.length_append, f.used (by omega)]
        rfl
    · exact ⟨⟨.inl rfl, by rw [h3.newest]; omega, .inl ⟨h3.recs, h3.next, by rw [h1], by rw [h1], h2⟩⟩, fun h => by rw [h1] at h; simp at h⟩
    · obtain ⟨w1, w2, w3⟩ := hw h3
      exact ⟨⟨.inl rfl, w3, .inr ⟨w1, w2, .inr ⟨by rw [h1], by rw [h1], h2⟩⟩⟩, fun h => by rw [h1] at h; simp at h⟩
end Go.Proofs.Ytbeiciinppmekaa
