/-
  A log that was filled by Add alone, and what is read after the power failed at any step of Add. Lemmas only; each has its conditions as premises.
-/
import Derived.Test.YtbeiciinppmekaaTb
import Derived.Test.YtbeiciinppmekaaPlc
import Derived.Test.YtbeiciinppmekaaProg
namespace Go.Proofs.Ytbeiciinppmekaa
open Go Go.Sx Go.Proofs
set_option maxRecDepth 100000
set_option linter.unusedSimpArgs false
set_option linter.unusedVariables false
/-- What the reference reads hangs on the place of the log alone. -/
theorem Rl.eqv {R R' : Rl} (h1 : R'.first = R.first) (h2 : R'.S = R.S) (D : Dev) : R'.newest D = R.newest D ∧ R'.usedN D = R.usedN D ∧ R'.nextID D = R.nextID D ∧ (∀ s, R'.at_ D s = R.at_ D s) ∧ (∀ t k, R'.recsN D t k = R.recsN D t k) := by
  obtain ⟨f, S, o, r, l, hd, e⟩ := R
  obtain ⟨f', S', o', r', l', hd', e'⟩ := R'
  simp only at h1 h2
  subst h1; subst h2
  exact ⟨rfl, rfl, rfl, fun _ => rfl, fun _ _ => rfl⟩
/-- The records, whether the log has ended or not. -/
def Rl.recsA (R : Rl) (D : Dev) : List Ev := if 1 ≤ (R.newest D).2 then R.recsN D (R.newest D).2 ((R.newest D).1 + 1 - (R.newest D).2).toNat else []
theorem Rl.recsA_eq {R : Rl} {D : Dev} (h : R.ended = false) : R.records D = R.recsA D := if_neg (by simp [h])
theorem Rl.recsA_eqv {R R' : Rl} (h1 : R'.first = R.first) (h2 : R'.S = R.S) (D : Dev) : R'.recsA D = R.recsA D := by
  obtain ⟨e1, _, _, _, e5⟩ := Rl.eqv h1 h2 D
  unfold Rl.recsA
  rw [e1, e5]
theorem Rl.recsN_same {R : Rl} {D E : Dev} {a : Int} (k : Nat) (h : ∀ s, a ≤ s → s < a + k → R.at_ E s = R.at_ D s) : R.recsN E a k = R.recsN D a k := by
  rw [← R.recR_map, ← R.recR_map, Rl.recR_same k h]
theorem Rl.recsN_add (R : Rl) (D : Dev) (a : Int) (m n : Nat) : R.recsN D a (m + n) = R.recsN D a m ++ R.recsN D (a + m) n := by
  rw [← R.recR_map, R.recR_add, List.map_append, R.recR_map, R.recR_map]
/-- Sector j, which the newest records do not use, has no valid header; the rest is as it was: the same is read. -/
structure Rl.Same (R : Rl) (D E : Dev) : Prop where
  newest : R.newest E = R.newest D
  recs : R.recsA E = R.recsA D
  next : R.nextID E = R.nextID D
theorem Rl.same_sec {R : Rl} {D E : Dev} (g : R.Fine D) (l : E.Like D) (hn : R.newest E = R.newest D) (h : ∀ s, 1 ≤ s → (R.newest D).2 ≤ s → s ≤ (R.newest D).1 → R.at_ E s = R.at_ D s) (ho : 1 ≤ (R.newest D).1 → R.ofS E (((R.newest D).1 - 1) % R.S) = R.ofS D (((R.newest D).1 - 1) % R.S))
    (h8 : 1 ≤ (R.newest D).1 → le2 (R.sec E (((R.newest D).1 - 1) % R.S)) 8 = le2 (R.sec D (((R.newest D).1 - 1) % R.S)) 8) : R.Same D E := by
  have hq := R.newest_bd D
  refine ⟨hn, ?_, ?_⟩
  · unfold Rl.recsA
    rw [hn]
    split
    · exact Rl.recsN_same _ fun s s0 s1 => h s (by omega) s0 (by omega)
    · rfl
  · unfold Rl.nextID
    rw [hn]
    by_cases h0 : (R.newest D).1 = 0
    · rw [if_pos h0, if_pos h0]
    · rw [if_neg h0, if_neg h0, ho (by omega)]
      have h9 := h8 (by omega)
      unfold Rl.sec at h9
      rw [h9]
theorem Rl.torn_head {R : Rl} {D E : Dev} (g : R.Fine D) {xs : List Int} (b : R.But D E ((R.newest D).1 % R.S) xs) (hx : Hd.ok xs R.S ((R.newest D).1 % R.S) = false) : R.Same D E := by
  have hq := R.newest_bd D
  have hS := g.S2
  obtain ⟨q, t, hnew⟩ : ∃ q t, R.newest D = (q, t) := ⟨_, _, rfl⟩
  have j0 := Int.emod_nonneg (R.newest D).1 (show R.S ≠ 0 by omega)
  have j1 := Int.emod_lt_of_pos (R.newest D).1 (show 0 < R.S by omega)
  have hz : R.hdr E ((R.newest D).1 % R.S) = (0, 0) := by rw [R.hdr_sec, b.at_, if_neg (by simp [hx])]
  have hne : ∀ s, 1 ≤ s → (R.newest D).2 ≤ s → s ≤ (R.newest D).1 → (s - 1) % R.S ≠ (R.newest D).1 % R.S := by
    intro s s0 s1 s2 e
    have h3 : ((R.newest D).1 - (s - 1)) % R.S = 0 := by rw [Int.sub_emod, ← e, Int.sub_self, Int.zero_emod]
    rw [Int.emod_eq_of_lt (by omega) (by have := hq.2.2.2.2 (by omega); omega)] at h3
    omega
  have out : ∀ k, 0 ≤ k → k < R.S → k ≠ (R.newest D).1 % R.S → R.hdr E k = R.hdr D k ∧ R.ofS E k = R.ofS D k := fun k k0 k1 kj => ⟨R.hdr_same (b.out k k0 k1 kj), R.ofS_same (b.out k k0 k1 kj) b.like⟩
  have hn : R.newest E = R.newest D := by
    by_cases h0 : (R.newest D).1 = 0
    · have hall : ∀ k, 0 ≤ k → k < R.S → (R.hdr E k).1 ≤ 0 := by
        intro k k0 k1
        by_cases e : k = (R.newest D).1 % R.S
        · rw [e, hz]; exact Int.le_refl 0
        · rw [(out k k0 k1 e).1]
          have := R.hdr_le D k0 k1
          omega
      rcases (R.newestN_bd (D := E) R.S.toNat).1 with h1 | ⟨j, hj, h1, h2⟩
      · have hD : R.newest D = (0, 0) := by
          rcases (R.newestN_bd (D := D) R.S.toNat).1 with h3 | ⟨j, hj, h3, h4⟩
          · exact h3
          · have h5 : R.newest D = R.hdr D j := h3
            rw [h5] at h0
            omega
        rw [hD]; exact h1
      · have := hall j (by omega) (by omega)
        omega
    · have hj := R.newest_j (D := D) (by omega)
      have jj0 := Int.emod_nonneg ((R.newest D).1 - 1) (show R.S ≠ 0 by omega)
      have jj1 := Int.emod_lt_of_pos ((R.newest D).1 - 1) (show 0 < R.S by omega)
      have hjn := hne (R.newest D).1 (by omega) (by omega) (Int.le_refl _)
      have he := (out _ jj0 jj1 hjn).1
      rw [hj] at he
      rw [← he]
      refine R.newest_of jj0 jj1 (by rw [he]; omega) fun k k0 k1 kj => ?_
      rw [he]
      by_cases e : k = (R.newest D).1 % R.S
      · rw [e, hz]; simp only; omega
      · rw [(out k k0 k1 e).1]
        have h1 := R.hdr_le D k0 k1
        rcases R.hdr_bd (D := D) k with h2 | h2
        · rw [h2]; simp only; omega
        · rcases Int.lt_or_eq_of_le h1 with h3 | h3
          · exact h3
          · rw [h3] at h2
            exact absurd h2.2.2.1.symm kj
  refine Rl.same_sec g b.like hn (fun s s0 s1 s2 => ?_) (fun h => ?_) (fun h => ?_)
  · have k0 := Int.emod_nonneg (s - 1) (show R.S ≠ 0 by omega)
    have k1 := Int.emod_lt_of_pos (s - 1) (show 0 < R.S by omega)
    have := out _ k0 k1 (hne s s0 s1 s2)
    unfold Rl.at_
    rw [this.1, this.2]
  · have k0 := Int.emod_nonneg ((R.newest D).1 - 1) (show R.S ≠ 0 by omega)
    have k1 := Int.emod_lt_of_pos ((R.newest D).1 - 1) (show 0 < R.S by omega)
    exact (out _ k0 k1 (hne _ (by omega) (by omega) (Int.le_refl _))).2
  · have k0 := Int.emod_nonneg ((R.newest D).1 - 1) (show R.S ≠ 0 by omega)
    have k1 := Int.emod_lt_of_pos ((R.newest D).1 - 1) (show 0 < R.S by omega)
    rw [b.out _ k0 k1 (hne _ (by omega) (by omega) (Int.le_refl _))]
theorem Rl.but_self {R : Rl} {D E : Dev} (g : R.Fine D) {j : Int} (b : R.But D E j (R.sec D j)) : R.Same D E := by
  have hs : ∀ k, 0 ≤ k → k < R.S → R.sec E k = R.sec D k := fun k k0 k1 => by
    by_cases e : k = j
    · subst e; exact b.at_
    · exact b.out k k0 k1 e
  have hS := g.S2
  have hn : R.newest E = R.newest D := R.newest_same fun k k0 k1 => R.hdr_same (hs k k0 k1)
  have jj : ∀ s, 0 ≤ (s - 1) % R.S ∧ (s - 1) % R.S < R.S := fun s => ⟨Int.emod_nonneg _ (by omega), Int.emod_lt_of_pos _ (by omega)⟩
  refine Rl.same_sec g b.like hn (fun s _ _ _ => ?_) (fun _ => R.ofS_same (hs _ (jj _).1 (jj _).2) b.like) (fun _ => by rw [hs _ (jj _).1 (jj _).2])
  unfold Rl.at_
  rw [R.hdr_same (hs _ (jj s).1 (jj s).2), R.ofS_same (hs _ (jj s).1 (jj s).2) b.like]
theorem bor_u8_zero : ∀ x : Fin 256, ∀ y : Fin 256, bor .u8 (x.val : Int) (y.val : Int) = 0 → y.val = 0 := by
  intro x y h
  rw [bor_nat rfl (by omega) (by simp only [IntKind.bits]; omega) (by omega) (by simp only [IntKind.bits]; omega)] at h
  simp only [Int.toNat_natCast] at h
  have h2 : x.val ||| y.val = 0 := by exact_mod_cast h
  have h3 : y.val ≤ x.val ||| y.val := Nat.right_le_or
  omega
theorem bor_u8_no {x y : Int} (hx : 0 ≤ x ∧ x ≤ 255) (hy : 0 ≤ y ∧ y ≤ 255) (h : bor .u8 x y = 0) : y = 0 := by
  have := bor_u8_zero ⟨x.toNat, by omega⟩ ⟨y.toNat, by omega⟩
  simp only [Int.toNat_of_nonneg hx.1, Int.toNat_of_nonneg hy.1] at this
  have := this h
  omega
theorem bor_u8_same {x : Int} (hx : 0 ≤ x ∧ x ≤ 255) : bor .u8 x 0 = x := by
  rw [bor_nat rfl hx.1 (by simp only [IntKind.bits]; omega) (by omega) (by decide)]
  simp; omega
theorem map_bor_zero {xs : List Int} (h : Bytes xs) : (xs.map fun x => bor .u8 x 0) = xs := by
  have : ∀ x ∈ xs, (fun x => bor .u8 x 0) x = id x := fun x hx => bor_u8_same (h x hx)
  rw [List.map_congr_left this, List.map_id]
theorem Hd.ok_status {xs : List Int} {S j : Int} (h : ¬ ix xs 10 = 0) : Hd.ok xs S j = false := by
  simp only [Hd.ok, decide_eq_false_iff_not]
  exact fun a => h a.1
/-- What is read after open failed, or before the record was written. -/
theorem Rl.open_torn {R : Rl} {D : Dev} (h : D.Fine) (g : R.Fine D) (hd : D.down = false) (ht : 0 ≤ D.torn ∧ D.torn ≤ 255) {t : Int} (q1 : (R.newest D).1 + 1 ≤ 2147483648) (t0 : 1 ≤ t) (t1 : t ≤ (R.newest D).1 + 1) (t2 : (R.newest D).1 + 1 - t ≤ R.S - 2) :
    ((R.openT D t).2 = 0 ∧ (R.openT D t).1.down = false ∧ R.Opened D (R.openT D t).1 ((R.newest D).1 + 1) t (R.nextID D) ((R.newest D).1 % R.S)) ∨
    ((R.openT D t).2 = 10 ∧ (R.openT D t).1.down = true ∧ (R.Same D (R.openT D t).1 ∨ R.Opened D (R.openT D t).1 ((R.newest D).1 + 1) t (R.nextID D) ((R.newest D).1 % R.S))) := by
  have hS := g.S2
  have hid := R.nextID_bd h
  have hsz := g.sz
  have h0 := Int.emod_nonneg (R.newest D).1 (show R.S ≠ 0 by omega)
  have h1 := Int.emod_lt_of_pos (R.newest D).1 (show 0 < R.S by omega)
  have hsl := R.sec_len h g h0 h1
  have hby : Bytes (R.sec D ((R.newest D).1 % R.S)) := secL_bytes h _
  have e : R.openT D t = openP D (R.first + (R.newest D).1 % R.S) ((R.newest D).1 + 1) t (R.nextID D) := by unfold Rl.openT; rw [if_neg (by omega), if_neg (by omega)]
  rw [e]
  have op : ∀ {E : Dev}, R.But D E ((R.newest D).1 % R.S) (fresh D.size.toNat (hdL ((R.newest D).1 + 1) t (R.nextID D) ++ [0])) → R.Opened D E ((R.newest D).1 + 1) t (R.nextID D) ((R.newest D).1 % R.S) := fun b =>
    R.opened_of h g h0 h1 (by rw [Int.add_sub_cancel]) (by omega) q1 t0 t1 t2 hid.1 hid.2 b
  rcases R.openP_cases h g hd h0 h1 (q := (R.newest D).1 + 1) (t := t) (i := R.nextID D) (by omega) (by omega) with ⟨a, c, b⟩ | ⟨a, c, b⟩
  · exact .inl ⟨a, c, op b⟩
  · refine .inr ⟨a, c, ?_⟩
    rcases b with b | ⟨k, hk, b⟩ | b
    · left
      by_cases h10 : ix ((R.sec D ((R.newest D).1 % R.S)).map fun x => bor .u8 x D.torn) 10 = 0
      · have e10 : ix ((R.sec D ((R.newest D).1 % R.S)).map fun x => bor .u8 x D.torn) 10 = bor .u8 (ix (R.sec D ((R.newest D).1 % R.S)) 10) D.torn := by
          have hl10 : 10 < (R.sec D ((R.newest D).1 % R.S)).length := by omega
          simp [ix, hl10]
        rw [e10] at h10
        have hz := bor_u8_no (hby.ix 10) ht h10
        rw [hz, map_bor_zero hby] at b
        exact R.but_self g b
      · exact R.torn_head g b (Hd.ok_status h10)
    · left
      refine R.torn_head g b (Hd.ok_status ?_)
      rw [fresh_out (by simp [hdL_len]; omega) (by omega)]
      decide
    · by_cases hz : bor .u8 0 D.torn = 0
      · right
        rw [hz] at b
        exact op b
      · left
        refine R.torn_head g b (Hd.ok_status ?_)
        rw [fresh_in (by simp [hdL_len]), ix_append_r (by simp [hdL_len]), hdL_len]
        exact hz
theorem slotR_bad {sl : List Int} (h : ¬ ix sl 16 = 0) : slotE sl = none := by
  unfold slotE slotR
  by_cases h1 : blankL sl = true
  · rw [if_pos h1]; rfl
  · rw [if_neg h1, if_pos h]; rfl
/-- A slot that was torn. -/
theorem Rl.slot_torn {R : Rl} {D E : Dev} (h : D.Fine) (g : R.Fine D) (hq : 1 ≤ (R.newest D).1) {u : Nat} (hu : R.usedN D = u) (hu2 : u < slotsN D.size.toNat) {ys : List Int} (hy : ys.length ≤ 17) (h16 : ys.length ≤ 16 ∨ ¬ ix ys 16 = 0)
    (b : R.But D E (((R.newest D).1 - 1) % R.S) (spl (R.sec D (((R.newest D).1 - 1) % R.S)) (11 + u * 17) ys)) : R.Same D E := by
  have hS := g.S2
  obtain ⟨j, hj⟩ : ∃ j, ((R.newest D).1 - 1) % R.S = j := ⟨_, rfl⟩
  have j0 : 0 ≤ j := by rw [← hj]; exact Int.emod_nonneg _ (by omega)
  have j1 : j < R.S := by rw [← hj]; exact Int.emod_lt_of_pos _ (by omega)
  rw [hj] at b
  have hl := R.sec_len h g j0 j1
  have hu3 : 11 + u * 17 + 17 ≤ D.size.toNat := by unfold slotsN at hu2; omega
  have hdr := R.but_hdr h g j0 j1 (by omega) (by omega) b
  have newest := R.newest_same hdr
  have hE : secL E (R.base E j) = spl (R.sec D j) (11 + u * 17) ys := b.at_
  have hx : secL D (R.base D j) = R.sec D j := rfl
  have hfr : ∀ i, u ≤ i → i < slotsN D.size.toNat → blankL (slotL (R.sec D j) i) = true := fun i a c => by
    unfold Rl.usedN at hu
    rw [hj, hx] at hu
    exact freeN_free _ i (by omega) c
  have hout : ∀ i, i ≠ u → i < slotsN D.size.toNat → slotL (spl (R.sec D j) (11 + u * 17) ys) i = slotL (R.sec D j) i := fun i a c => by
    have h2 : 11 + i * 17 + 17 ≤ (R.sec D j).length := by unfold slotsN at c; omega
    apply ix_ext
    · rw [slotL_len (by rw [spl_len (by omega)]; exact h2), slotL_len h2]
    · intro k hk
      rw [slotL_len (by rw [spl_len (by omega)]; exact h2)] at hk
      unfold slotL
      rw [ix_take hk, ix_take hk, ix_drop, ix_drop, spl_out (by omega) (by omega)]
  have hin : slotE (slotL (spl (R.sec D j) (11 + u * 17) ys) u) = none := by
    apply slotR_bad
    unfold slotL
    rw [ix_take (by omega), ix_drop]
    by_cases h17 : ys.length = 17
    · rw [spl_in (by omega) (by omega) (by omega), show 11 + u * 17 + 16 - (11 + u * 17) = 16 by omega]
      rcases h16 with h16 | h16
      · omega
      · exact h16
    · rw [spl_out (by omega) (by omega)]
      have hb := blankL_ix (hfr u (Nat.le_refl _) hu2) (k := 16) (by rw [slotL_len (by omega)]; omega)
      unfold slotL at hb
      rw [ix_take (by omega), ix_drop] at hb
      omega
  have of_ : R.ofS E j = R.ofS D j := by
    unfold Rl.ofS
    rw [hE, hx, b.like.2.2]
    have n1 : slotsN D.size.toNat = (u + 1) + (slotsN D.size.toNat - (u + 1)) := by omega
    have n2 : slotsN D.size.toNat = u + (slotsN D.size.toNat - u) := by omega
    rw [n1, ofN_free (fun i a c => by rw [hout i (by omega) (by omega)]; exact hfr i (by omega) (by omega)), ← n1, n2, ofN_free (fun i a c => hfr i a (by omega)), ofN_step, hin, ofN_same (fun i hi => hout i (by omega) (by omega))]
    simp
  refine Rl.same_sec g b.like newest (fun s s0 s1 s2 => ?_) (fun _ => by rw [hj]; exact of_) (fun _ => ?_)
  · have k0 := Int.emod_nonneg (s - 1) (show R.S ≠ 0 by omega)
    have k1 := Int.emod_lt_of_pos (s - 1) (show 0 < R.S by omega)
    unfold Rl.at_
    rw [hdr _ k0 k1]
    by_cases e : (s - 1) % R.S = j
    · rw [e, of_]
    · rw [R.ofS_same (b.out _ k0 k1 e) b.like]
  · rw [hj, b.at_]
    unfold le2
    rw [spl_out (by omega) (by omega), spl_out (by omega) (by omega)]
/-- What is read behind put: the record is there, or all is as before. -/
theorem Rl.put_torn {R : Rl} {D : Dev} (h : D.Fine) (g : R.Fine D) (hd : D.down = false) (ht : 0 ≤ D.torn ∧ D.torn ≤ 255) (hq : 1 ≤ (R.newest D).1) (hu : R.usedN D < slotsN D.size.toNat) {e1 : Ev} (wf : e1.Wf) (hv : e1.valid = true) (hid : 1 ≤ e1.id) :
    ((R.put D e1 (R.usedN D)).2.2 = (e1.id, 0) ∧ (R.put D e1 (R.usedN D)).2.1.down = false ∧ R.Wrote D (R.put D e1 (R.usedN D)).2.1 e1 (R.usedN D) (((R.newest D).1 - 1) % R.S)) ∨
    ((R.put D e1 (R.usedN D)).2.2 = (0, 10) ∧ (R.put D e1 (R.usedN D)).2.1.down = true ∧ (R.Same D (R.put D e1 (R.usedN D)).2.1 ∨ R.Wrote D (R.put D e1 (R.usedN D)).2.1 e1 (R.usedN D) (((R.newest D).1 - 1) % R.S))) := by
  have hS := g.S2
  have j0 := Int.emod_nonneg ((R.newest D).1 - 1) (show R.S ≠ 0 by omega)
  have j1 := Int.emod_lt_of_pos ((R.newest D).1 - 1) (show 0 < R.S by omega)
  have hfr : blankL (slotL (R.sec D (((R.newest D).1 - 1) % R.S)) (R.usedN D)) = true := freeN_free _ _ (Nat.le_refl _) hu
  have hby : Bytes (evEnc e1 ++ [0]) := by
    intro x hx
    rcases List.mem_append.1 hx with hx | hx
    · exact evEnc_bytes wf hv x hx
    · simp at hx; omega
  unfold Rl.put Rl.slotAt
  rcases R.slot_cases h g hd j0 j1 hu hfr (ys := evEnc e1 ++ [0]) rfl hby with ⟨p1, p2, p3⟩ | ⟨p1, p2, k, hk, p3⟩
  · left
    rw [if_pos p1]
    exact ⟨rfl, p2, R.wrote_of h g rfl hq rfl hu wf hv hid p3⟩
  · right
    rw [if_neg (by omega)]
    refine ⟨rfl, p2, ?_⟩
    by_cases h16 : k = 16
    · subst h16
      have e : (evEnc e1 ++ [0]).take 16 ++ [bor .u8 (ix (evEnc e1 ++ [0]) 16) D.torn] = evEnc e1 ++ [bor .u8 0 D.torn] := rfl
      rw [e] at p3
      by_cases hz : bor .u8 0 D.torn = 0
      · right
        rw [hz] at p3
        exact R.wrote_of h g rfl hq rfl hu wf hv hid p3
      · left
        exact R.slot_torn h g hq rfl hu (by simp [evEnc_len]) (.inr (by show ¬ bor .u8 0 D.torn = 0; exact hz)) p3
    · left
      exact R.slot_torn h g hq rfl hu (by simp; omega) (.inl (by simp; omega)) p3
end Go.Proofs.Ytbeiciinppmekaa
