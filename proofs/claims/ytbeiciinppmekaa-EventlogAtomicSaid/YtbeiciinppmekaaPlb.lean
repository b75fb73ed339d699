/-
  What the reference's log reads when a sector was opened, and when a slot was written. Lemmas only; each has its conditions as premises.
-/
import Derived.Test.YtbeiciinppmekaaTb
import Derived.Test.YtbeiciinppmekaaPla
import Derived.Test.YtbeiciinppmekaaProg
namespace Go.Proofs.Ytbeiciinppmekaa
open Go Go.Sx Go.Proofs
set_option maxRecDepth 100000
set_option linter.unusedSimpArgs false
set_option linter.unusedVariables false
theorem evEnc_len (e : Ev) : (evEnc e).length = 16 := rfl
theorem evEnc_bytes {e : Ev} (wf : e.Wf) (hv : e.valid = true) : Bytes (evEnc e) := by
  simp only [Ev.valid, Bool.and_eq_true, decide_eq_true_eq] at hv
  have w1 := wf.id
  have w2 := wf.time
  have w3 := wf.gen
  have w4 := wf.st
  have w5 := wf.sn
  have w6 := wf.ty
  have w7 := wf.d0
  have w8 := wf.d1
  have w9 := wf.d2
  intro x hx
  simp only [evEnc, List.mem_cons, List.not_mem_nil, or_false] at hx
  rcases hx with rfl | rfl | rfl | rfl | rfl | rfl | rfl | rfl | rfl | rfl | rfl | rfl | rfl | rfl | rfl | rfl <;> first | omega | (split <;> omega)
/-- An event survives its bytes. -/
theorem evDec_enc {e : Ev} (wf : e.Wf) (hv : e.valid = true) : evDec (evEnc e) = (e, 0) := by
  have hv0 := hv
  simp only [Ev.valid, Bool.and_eq_true, decide_eq_true_eq] at hv
  have w1 := wf.id
  have w2 := wf.time
  have w3 := wf.gen
  have w6 := wf.ty
  have hraw : evRaw (evEnc e) = e := by
    obtain ⟨i, t, g, s, n, y, de, u, v, w⟩ := e
    simp only at w1 w2 w3 w6 hv
    have h0 : ix (evEnc ⟨i, t, g, s, n, y, de, u, v, w⟩) 0 = i % 256 := rfl
    have h1 : ix (evEnc ⟨i, t, g, s, n, y, de, u, v, w⟩) 1 = i / 256 := rfl
    have h3 : ix (evEnc ⟨i, t, g, s, n, y, de, u, v, w⟩) 3 = t % 256 := rfl
    have h4 : ix (evEnc ⟨i, t, g, s, n, y, de, u, v, w⟩) 4 = t / 256 % 256 := rfl
    have h5 : ix (evEnc ⟨i, t, g, s, n, y, de, u, v, w⟩) 5 = t / 65536 % 256 := rfl
    have h6 : ix (evEnc ⟨i, t, g, s, n, y, de, u, v, w⟩) 6 = t / 16777216 := rfl
    have h7 : ix (evEnc ⟨i, t, g, s, n, y, de, u, v, w⟩) 7 = g % 256 := rfl
    have h8 : ix (evEnc ⟨i, t, g, s, n, y, de, u, v, w⟩) 8 = g / 256 := rfl
    have h10 : ix (evEnc ⟨i, t, g, s, n, y, de, u, v, w⟩) 10 = s := rfl
    have h11 : ix (evEnc ⟨i, t, g, s, n, y, de, u, v, w⟩) 11 = n := rfl
    have h12 : ix (evEnc ⟨i, t, g, s, n, y, de, u, v, w⟩) 12 = if de then y + 128 else y := rfl
    have h13 : ix (evEnc ⟨i, t, g, s, n, y, de, u, v, w⟩) 13 = u := rfl
    have h14 : ix (evEnc ⟨i, t, g, s, n, y, de, u, v, w⟩) 14 = v := rfl
    have h15 : ix (evEnc ⟨i, t, g, s, n, y, de, u, v, w⟩) 15 = w := rfl
    simp only [evRaw, h0, h1, h3, h4, h5, h6, h7, h8, h10, h11, h12, h13, h14, h15, Ev.mk.injEq, true_and, and_true]
    refine ⟨by omega, by omega, by omega, ?_, ?_⟩
    · cases de <;> simp <;> omega
    · cases de <;> simp <;> omega
  have h2 : ix (evEnc e) 2 = 2 := rfl
  have h9 : ix (evEnc e) 9 = 4 := rfl
  unfold evDec
  rw [h2, h9, if_neg (by omega), hraw, if_pos hv0]
theorem slotR_enc {e : Ev} (wf : e.Wf) (hv : e.valid = true) (h1 : ¬ e.id = 0) : slotR (evEnc e ++ [0]) = (e, true, false) := by
  have hb : blankL (evEnc e ++ [0]) = false := by
    unfold blankL
    rw [List.all_eq_false]
    exact ⟨0, by simp, by simp⟩
  have h16 : ix (evEnc e ++ [0]) 16 = 0 := rfl
  have ht : (evEnc e ++ [0]).take 16 = evEnc e := rfl
  unfold slotR
  rw [if_neg (by simp [hb]), if_neg (by simp [h16]), ht, evDec_enc wf hv]
  simp [h1]
theorem Rl.hdr_sec (R : Rl) (D : Dev) (j : Int) : R.hdr D j = if Hd.ok (R.sec D j) R.S j then (le4 (R.sec D j) 0, le4 (R.sec D j) 4) else (0, 0) := rfl
theorem Rl.hdr_same {R : Rl} {D E : Dev} {i : Int} (h : R.sec E i = R.sec D i) : R.hdr E i = R.hdr D i := by rw [R.hdr_sec, R.hdr_sec, h]
theorem Rl.ofS_same {R : Rl} {D E : Dev} {i : Int} (h : R.sec E i = R.sec D i) (l : E.Like D) : R.ofS E i = R.ofS D i := by
  have h' : secL E (R.base E i) = secL D (R.base D i) := h
  unfold Rl.ofS
  rw [h', l.2.2]
/-- The newest sector is the one of the greatest number. -/
theorem Rl.newest_of {R : Rl} {D : Dev} {j : Int} (h0 : 0 ≤ j) (h1 : j < R.S) (h2 : 1 ≤ (R.hdr D j).1) (h : ∀ i, 0 ≤ i → i < R.S → i ≠ j → (R.hdr D i).1 < (R.hdr D j).1) : R.newest D = R.hdr D j := by
  obtain ⟨a, b⟩ := R.newestN_bd (D := D) R.S.toNat
  have h3 := b j.toNat (by omega)
  rw [show ((j.toNat : Nat) : Int) = j by omega] at h3
  rcases a with a | ⟨i, hi, a, ha⟩
  · rw [a] at h3; simp only at h3; omega
  · by_cases e : (i : Int) = j
    · rw [← e]; exact a
    · have := h i (by omega) (by omega) e
      rw [a] at h3
      omega
theorem Rl.hdr_le (R : Rl) (D : Dev) {i : Int} (h0 : 0 ≤ i) (h1 : i < R.S) : (R.hdr D i).1 ≤ (R.newest D).1 := by
  have := (R.newestN_bd (D := D) R.S.toNat).2 i.toNat (by omega)
  rw [show ((i.toNat : Nat) : Int) = i by omega] at this
  exact this
theorem le4_lit {n : Int} (h0 : 0 ≤ n) (h1 : n ≤ 4294967295) : n % 256 + n / 256 % 256 * 256 + n / 65536 % 256 * 65536 + n / 16777216 % 256 * 16777216 = n := by omega
theorem hdL_ix (q t i : Int) : hdL q t i = [q % 256, q / 256 % 256, q / 65536 % 256, q / 16777216 % 256, t % 256, t / 256 % 256, t / 65536 % 256, t / 16777216 % 256, i % 256, i / 256] := by
  unfold hdL
  rw [litL4, litL4]
  rfl
/-- The header of a sector that was opened. -/
theorem fresh_hd {n : Nat} {q t i x : Int} (hn : 11 ≤ n) (q0 : 0 ≤ q) (q1 : q ≤ 4294967295) (t0 : 0 ≤ t) (t1 : t ≤ 4294967295) (i0 : 0 ≤ i) (i1 : i ≤ 65535) :
    le4 (fresh n (hdL q t i ++ [x])) 0 = q ∧ le4 (fresh n (hdL q t i ++ [x])) 4 = t ∧ le2 (fresh n (hdL q t i ++ [x])) 8 = i ∧ ix (fresh n (hdL q t i ++ [x])) 10 = x := by
  have hl : (hdL q t i ++ [x]).length = 11 := by simp [hdL_len]
  have e : ∀ k, k < 11 → ix (fresh n (hdL q t i ++ [x])) k = ix (hdL q t i ++ [x]) k := fun k hk => fresh_in (by omega)
  unfold le4 le2
  rw [e 0 (by omega), e (0 + 1) (by omega), e (0 + 2) (by omega), e (0 + 3) (by omega), e 4 (by omega), e (4 + 1) (by omega), e (4 + 2) (by omega), e (4 + 3) (by omega), e 8 (by omega), e (8 + 1) (by omega), e 10 (by omega), hdL_ix]
  simp only [ix, List.getD_eq_getElem?_getD, List.cons_append, List.nil_append, List.getElem?_cons_succ, List.getElem?_cons_zero, Option.getD_some, Nat.zero_add, Nat.reduceAdd]
  exact ⟨le4_lit q0 q1, le4_lit t0 t1, by omega, trivial⟩
theorem fresh_slot {n k : Nat} {ys : List Int} (hy : ys.length ≤ 11) (hk : 11 + k * 17 + 17 ≤ n) : slotL (fresh n ys) k = List.replicate 17 255 := by
  apply ix_ext
  · rw [slotL_len (by rw [fresh_len (by omega)]; exact hk)]; simp
  · intro i hi
    rw [slotL_len (by rw [fresh_len (by omega)]; exact hk)] at hi
    unfold slotL
    rw [ix_take hi, ix_drop, fresh_out (by omega) (by omega), ix_rep hi]
theorem blank_rep (n : Nat) : blankL (List.replicate n 255) = true := ix_blankL fun k hk => by simp at hk; exact ix_rep hk
theorem ofN_free {xs : List Int} {m k : Nat} (h : ∀ i, m ≤ i → i < m + k → blankL (slotL xs i) = true) : ofN xs (m + k) = ofN xs m := by
  induction k with
  | zero => rfl
  | succ k ih =>
    rw [← Nat.add_assoc, ofN_none, ih (fun i h1 h2 => h i h1 (by omega))]
    unfold slotR
    rw [if_pos (h (m + k) (by omega) (by omega))]
theorem ofN_same {xs ys : List Int} {k : Nat} (h : ∀ i, i < k → slotL xs i = slotL ys i) : ofN xs k = ofN ys k := by
  unfold ofN
  have e : ∀ l : List Nat, (∀ i ∈ l, i < k) → l.filterMap (fun i => slotE (slotL xs i)) = l.filterMap (fun i => slotE (slotL ys i)) := by
    intro l
    induction l with
    | nil => intro _; rfl
    | cons a l ih =>
      intro hl
      rw [List.filterMap_cons, List.filterMap_cons, h a (hl a (by simp)), ih (fun i hi => hl i (by simp [hi]))]
  exact e _ (fun i hi => List.mem_range.1 hi)
theorem freeN_free {xs : List Int} : ∀ n, ∀ i, freeN xs n ≤ i → i < n → blankL (slotL xs i) = true
  | 0, i, _, h => by omega
  | n + 1, i, h1, h2 => by
    unfold freeN at h1
    by_cases hb : blankL (slotL xs n) = true
    · rw [if_pos hb] at h1
      by_cases e : i = n
      · subst e; exact hb
      · exact freeN_free n i h1 (by omega)
    · rw [if_neg hb] at h1; omega
theorem freeN_of {xs : List Int} {m : Nat} (h1 : m = 0 ∨ blankL (slotL xs (m - 1)) = false) : ∀ n, m ≤ n → (∀ i, m ≤ i → i < n → blankL (slotL xs i) = true) → freeN xs n = m
  | 0, h, _ => by simp [freeN]; omega
  | n + 1, h, hb => by
    unfold freeN
    by_cases e : m = n + 1
    · subst e
      rcases h1 with h1 | h1
      · omega
      · rw [if_neg (by simpa using h1)]
    · rw [if_pos (hb n (by omega) (by omega))]
      exact freeN_of h1 n (by omega) fun i a b => hb i a (by omega)
/-- What the reference reads when sector j was opened. -/
structure Rl.Opened (R : Rl) (D E : Dev) (q t i j : Int) : Prop where
  newest : R.newest E = (q, t)
  next : R.nextID E = i
  used : R.usedN E = 0
  of_ : R.ofS E j = []
  out : ∀ k, 0 ≤ k → k < R.S → k ≠ j → R.hdr E k = R.hdr D k ∧ R.ofS E k = R.ofS D k
  here : R.hdr E j = (q, t)
theorem Rl.opened_of {R : Rl} {D E : Dev} (h : D.Fine) (g : R.Fine D) {q t i j : Int} (h0 : 0 ≤ j) (h1 : j < R.S) (hj : (q - 1) % R.S = j) (hq : (R.newest D).1 < q) (q1 : q ≤ 2147483648) (t0 : 1 ≤ t) (t1 : t ≤ q) (t2 : q - t ≤ R.S - 2) (i0 : 1 ≤ i) (i1 : i ≤ 65534)
    (b : R.But D E j (fresh D.size.toNat (hdL q t i ++ [0]))) : R.Opened D E q t i j := by
  have hsz := g.sz
  have hq0 := (R.newest_bd D).1
  obtain ⟨f1, f2, f3, f4⟩ := fresh_hd (n := D.size.toNat) (x := 0) (show 11 ≤ D.size.toNat by omega) (show 0 ≤ q by omega) (show q ≤ 4294967295 by omega) (show 0 ≤ t by omega) (show t ≤ 4294967295 by omega) (show 0 ≤ i by omega) (show i ≤ 65535 by omega)
  have here : R.hdr E j = (q, t) := by
    rw [R.hdr_sec, b.at_, if_pos ?_, f1, f2]
    simp only [Hd.ok, decide_eq_true_eq]
    rw [f1, f2, f3, f4]
    omega
  have out : ∀ k, 0 ≤ k → k < R.S → k ≠ j → R.hdr E k = R.hdr D k ∧ R.ofS E k = R.ofS D k := fun k k0 k1 kj => ⟨R.hdr_same (b.out k k0 k1 kj), R.ofS_same (b.out k k0 k1 kj) b.like⟩
  have newest : R.newest E = (q, t) := by
    rw [← here]
    refine R.newest_of h0 h1 (by rw [here]; simp only; omega) fun k k0 k1 kj => ?_
    rw [(out k k0 k1 kj).1, here]
    have := R.hdr_le D k0 k1
    simp only
    omega
  have hslot : ∀ k, k < slotsN D.size.toNat → slotL (fresh D.size.toNat (hdL q t i ++ [0])) k = List.replicate 17 255 := fun k hk => fresh_slot (by simp [hdL_len]) (by unfold slotsN at hk; omega)
  have hE : secL E (R.base E j) = fresh D.size.toNat (hdL q t i ++ [0]) := b.at_
  have of_ : R.ofS E j = [] := by
    unfold Rl.ofS
    rw [hE, b.like.2.2]
    have := ofN_free (xs := fresh D.size.toNat (hdL q t i ++ [0])) (m := 0) (k := slotsN D.size.toNat) (fun k _ hk => by rw [hslot k (by omega)]; exact blank_rep 17)
    rw [Nat.zero_add] at this
    rw [this]; rfl
  refine ⟨newest, ?_, ?_, of_, out, here⟩
  · unfold Rl.nextID
    rw [newest]
    dsimp only
    rw [if_neg (by omega), hj, of_, if_pos (by rfl), hE, f3]
  · unfold Rl.usedN
    rw [newest]
    dsimp only
    rw [hj, hE, b.like.2.2]
    exact freeN_of (.inl rfl) _ (by omega) fun k _ hk => by rw [hslot k hk]; exact blank_rep 17
/-- What the reference reads when a slot was written. -/
structure Rl.Wrote (R : Rl) (D E : Dev) (e : Ev) (u : Nat) (j : Int) : Prop where
  newest : R.newest E = R.newest D
  next : R.nextID E = behind e.id
  used : R.usedN E = u + 1
  of_ : R.ofS E j = R.ofS D j ++ [e]
  out : ∀ k, 0 ≤ k → k < R.S → k ≠ j → R.ofS E k = R.ofS D k
  hdr : ∀ k, 0 ≤ k → k < R.S → R.hdr E k = R.hdr D k
theorem slot_spl_out {xs ys : List Int} {u i : Nat} (hy : ys.length = 17) (h1 : 11 + u * 17 + 17 ≤ xs.length) (hi : i ≠ u) (h2 : 11 + i * 17 + 17 ≤ xs.length) : slotL (spl xs (11 + u * 17) ys) i = slotL xs i := by
  apply ix_ext
  · rw [slotL_len (by rw [spl_len (by omega)]; exact h2), slotL_len h2]
  · intro k hk
    rw [slotL_len (by rw [spl_len (by omega)]; exact h2)] at hk
    unfold slotL
    rw [ix_take hk, ix_take hk, ix_drop, ix_drop, spl_out (by omega) (by omega)]
theorem slot_spl_in {xs ys : List Int} {u : Nat} (hy : ys.length = 17) (h1 : 11 + u * 17 + 17 ≤ xs.length) : slotL (spl xs (11 + u * 17) ys) u = ys := by
  apply ix_ext
  · rw [slotL_len (by rw [spl_len (by omega)]; exact h1), hy]
  · intro k hk
    rw [slotL_len (by rw [spl_len (by omega)]; exact h1)] at hk
    unfold slotL
    rw [ix_take hk, ix_drop, spl_in (by omega) (by omega) (by omega), show 11 + u * 17 + k - (11 + u * 17) = k by omega]
theorem Hd.ok_same {xs ys : List Int} {S j : Int} (h : ∀ k, k < 11 → ix ys k = ix xs k) : Hd.ok ys S j = Hd.ok xs S j ∧ le4 ys 0 = le4 xs 0 ∧ le4 ys 4 = le4 xs 4 := by
  have e0 : le4 ys 0 = le4 xs 0 := by unfold le4; rw [h 0 (by omega), h (0 + 1) (by omega), h (0 + 2) (by omega), h (0 + 3) (by omega)]
  have e4 : le4 ys 4 = le4 xs 4 := by unfold le4; rw [h 4 (by omega), h (4 + 1) (by omega), h (4 + 2) (by omega), h (4 + 3) (by omega)]
  have e8 : le2 ys 8 = le2 xs 8 := by unfold le2; rw [h 8 (by omega), h (8 + 1) (by omega)]
  refine ⟨?_, e0, e4⟩
  unfold Hd.ok
  rw [e0, e4, e8, h 10 (by omega)]
/-- Another slot of sector j: the headers stay. -/
theorem Rl.but_hdr {R : Rl} {D E : Dev} (h : D.Fine) (g : R.Fine D) {j : Int} (h0 : 0 ≤ j) (h1 : j < R.S) {p : Nat} {ys : List Int} (hp : 11 ≤ p) (hp2 : p + ys.length ≤ D.size.toNat) (b : R.But D E j (spl (R.sec D j) p ys)) : ∀ k, 0 ≤ k → k < R.S → R.hdr E k = R.hdr D k := by
  intro k k0 k1
  by_cases e : k = j
  · subst e
    have hl := R.sec_len h g k0 k1
    have := Hd.ok_same (xs := R.sec D k) (ys := spl (R.sec D k) p ys) (S := R.S) (j := k) fun i hi => spl_out (by omega) (by omega)
    rw [R.hdr_sec, R.hdr_sec, b.at_, this.1, this.2.1, this.2.2]
  · exact R.hdr_same (b.out k k0 k1 e)
theorem Rl.newest_same {R : Rl} {D E : Dev} (h : ∀ k, 0 ≤ k → k < R.S → R.hdr E k = R.hdr D k) : R.newest E = R.newest D := by
  have : ∀ n : Nat, (n : Int) ≤ R.S → R.newestN E n = R.newestN D n := by
    intro n
    induction n with
    | zero => intro _; rfl
    | succ n ih =>
      intro hn
      rw [R.newestN_succ, R.newestN_succ, ih (by omega), h n (by omega) (by omega)]
  by_cases e : 0 ≤ R.S
  · exact this R.S.toNat (by omega)
  · have : R.S.toNat = 0 := by omega
    unfold Rl.newest
    rw [this]; rfl
theorem Rl.wrote_of {R : Rl} {D E : Dev} (h : D.Fine) (g : R.Fine D) {j : Int} (hj : ((R.newest D).1 - 1) % R.S = j) (hq : 1 ≤ (R.newest D).1) {u : Nat} (hu : R.usedN D = u) (hu2 : u < slotsN D.size.toNat) {e : Ev} (wf : e.Wf) (hv : e.valid = true) (h1 : 1 ≤ e.id)
    (b : R.But D E j (spl (R.sec D j) (11 + u * 17) (evEnc e ++ [0]))) : R.Wrote D E e u j := by
  have hS := g.S2
  have j0 : 0 ≤ j := by rw [← hj]; exact Int.emod_nonneg _ (by omega)
  have j1 : j < R.S := by rw [← hj]; exact Int.emod_lt_of_pos _ (by omega)
  have hl := R.sec_len h g j0 j1
  have hu3 : 11 + u * 17 + 17 ≤ D.size.toNat := by unfold slotsN at hu2; omega
  have hyl : (evEnc e ++ [0]).length = 17 := rfl
  have hdr := R.but_hdr h g j0 j1 (by omega) (by omega) b
  have newest := R.newest_same hdr
  have hE : secL E (R.base E j) = spl (R.sec D j) (11 + u * 17) (evEnc e ++ [0]) := b.at_
  have hx : secL D (R.base D j) = R.sec D j := rfl
  have hfr : ∀ i, u ≤ i → i < slotsN D.size.toNat → blankL (slotL (R.sec D j) i) = true := fun i a c => by
    unfold Rl.usedN at hu
    rw [hj, hx] at hu
    exact freeN_free _ i (by omega) c
  have hout : ∀ i, i ≠ u → i < slotsN D.size.toNat → slotL (spl (R.sec D j) (11 + u * 17) (evEnc e ++ [0])) i = slotL (R.sec D j) i := fun i a c => slot_spl_out hyl (by omega) a (by unfold slotsN at c; omega)
  have hin := slot_spl_in (xs := R.sec D j) (u := u) hyl (by omega)
  have hsr := slotR_enc wf hv (by omega)
  have of_ : R.ofS E j = R.ofS D j ++ [e] := by
    unfold Rl.ofS
    rw [hE, hx, b.like.2.2]
    have n1 : slotsN D.size.toNat = (u + 1) + (slotsN D.size.toNat - (u + 1)) := by omega
    have n2 : slotsN D.size.toNat = u + (slotsN D.size.toNat - u) := by omega
    rw [n1, ofN_free (fun i a c => by rw [hout i (by omega) (by omega)]; exact hfr i (by omega) (by omega)), ← n1, n2, ofN_free (fun i a c => hfr i a (by omega)), ofN_some (by rw [hin, hsr]), hin, hsr,
      ofN_same (fun i hi => hout i (by omega) (by omega))]
  refine ⟨newest, ?_, ?_, of_, fun k k0 k1 kj => R.ofS_same (b.out k k0 k1 kj) b.like, hdr⟩
  · unfold Rl.nextID
    rw [newest, hj, of_, if_neg (by omega), if_neg (by simp)]
    simp
  · unfold Rl.usedN
    rw [newest, hj, hE, b.like.2.2]
    refine freeN_of (.inr ?_) _ (by omega) fun i a c => by rw [hout i (by omega) c]; exact hfr i (by omega) c
    rw [Nat.add_sub_cancel, hin, ← slotR_free, hsr]
/-- Opening a sector of a log. -/
theorem Rl.openT_cases {R : Rl} {D : Dev} (h : D.Fine) (g : R.Fine D) (hd : D.down = false) {x t : Int} (hx : (if x = 0 then (R.newest D).1 + 1 else x) = t) (t0 : 1 ≤ t) (t1 : t ≤ (R.newest D).1 + 1) (t2 : (R.newest D).1 + 1 - t ≤ R.S - 2) :
    (2147483648 < (R.newest D).1 + 1 ∧ R.openT D x = (D, 3)) ∨
    ((R.newest D).1 + 1 ≤ 2147483648 ∧ R.openT D x = openP D (R.first + (R.newest D).1 % R.S) ((R.newest D).1 + 1) t (R.nextID D) ∧
      (((R.openT D x).2 = 0 ∧ (R.openT D x).1.down = false ∧ R.Opened D (R.openT D x).1 ((R.newest D).1 + 1) t (R.nextID D) ((R.newest D).1 % R.S)) ∨ ((R.openT D x).2 = 10 ∧ (R.openT D x).1.down = true))) := by
  have hS := g.S2
  have hid := R.nextID_bd h
  have h0 := Int.emod_nonneg (R.newest D).1 (show R.S ≠ 0 by omega)
  have h1 := Int.emod_lt_of_pos (R.newest D).1 (show 0 < R.S by omega)
  by_cases hq : 2147483648 < (R.newest D).1 + 1
  · exact .inl ⟨hq, by unfold Rl.openT; rw [if_pos hq]⟩
  · right
    have e : R.openT D x = openP D (R.first + (R.newest D).1 % R.S) ((R.newest D).1 + 1) t (R.nextID D) := by unfold Rl.openT; rw [if_neg hq, hx]
    refine ⟨by omega, e, ?_⟩
    rw [e]
    rcases R.openP_cases h g hd h0 h1 (q := (R.newest D).1 + 1) (t := t) (i := R.nextID D) (by omega) (by omega) with ⟨a, c, b⟩ | ⟨a, c, _⟩
    · exact .inl ⟨a, c, R.opened_of h g h0 h1 (by rw [Int.add_sub_cancel]) (by omega) (by omega) t0 t1 t2 hid.1 hid.2 b⟩
    · exact .inr ⟨a, c⟩
end Go.Proofs.Ytbeiciinppmekaa
