/-
  What programming and erasing leave of a device, byte by byte and sector by sector. Lemmas only; each has its conditions as premises.
-/
import Derived.Test.YtbeiciinppmekaaTb
import Derived.Test.YtbeiciinppmekaaRlogc
import Derived.Test.YtbeiciinppmekaaProg
namespace Go.Proofs.Ytbeiciinppmekaa
open Go Go.Sx Go.Proofs
set_option maxRecDepth 100000
set_option linter.unusedSimpArgs false
set_option linter.unusedVariables false
/-- bs with ys from place p on. -/
def spl (bs : List Int) (p : Nat) (ys : List Int) : List Int := bs.take p ++ ys ++ bs.drop (p + ys.length)
theorem spl_len {bs ys : List Int} {p : Nat} (h : p + ys.length ≤ bs.length) : (spl bs p ys).length = bs.length := by simp [spl]; omega
theorem spl_in {bs ys : List Int} {p i : Nat} (h : p + ys.length ≤ bs.length) (h1 : p ≤ i) (h2 : i < p + ys.length) : ix (spl bs p ys) i = ix ys (i - p) := by
  have e : (spl bs p ys)[i]? = ys[i - p]? := by
    unfold spl
    rw [List.append_assoc, List.getElem?_append_right (by simp; omega), List.length_take, List.getElem?_append_left (by omega), show min p bs.length = p by omega]
  simp only [ix, List.getD_eq_getElem?_getD, e]
theorem spl_out {bs ys : List Int} {p i : Nat} (h : p + ys.length ≤ bs.length) (h1 : i < p ∨ p + ys.length ≤ i) : ix (spl bs p ys) i = ix bs i := by
  have e : (spl bs p ys)[i]? = bs[i]? := by
    unfold spl
    rcases h1 with h1 | h1
    · rw [List.append_assoc, List.getElem?_append_left (by simp; omega), List.getElem?_take, if_pos h1]
    · rw [List.getElem?_append_right (by simp; omega), List.getElem?_drop]
      congr 1
      simp
      omega
  simp only [ix, List.getD_eq_getElem?_getD, e]
theorem ix_ext {xs ys : List Int} (hl : xs.length = ys.length) (h : ∀ i, i < xs.length → ix xs i = ix ys i) : xs = ys := by
  apply List.ext_getElem hl
  intro i h1 h2
  have := h i h1
  simpa [ix, h1, h2] using this
theorem ix_set {xs : List Int} {p i : Nat} {v : Int} (hp : p < xs.length) : ix (xs.set p v) i = if p = i then v else ix xs i := by
  simp only [ix, List.getD_eq_getElem?_getD]
  by_cases e : p = i
  · subst e
    rw [List.getElem?_set_self hp, if_pos rfl]; rfl
  · rw [List.getElem?_set_ne e, if_neg e]
theorem ix_take {xs : List Int} {n i : Nat} (h : i < n) : ix (xs.take n) i = ix xs i := by
  simp only [ix, List.getD_eq_getElem?_getD, List.getElem?_take, if_pos h]
theorem ix_append_l {xs ys : List Int} {i : Nat} (h : i < xs.length) : ix (xs ++ ys) i = ix xs i := by
  simp only [ix, List.getD_eq_getElem?_getD, List.getElem?_append_left h]
theorem ix_append_r {xs ys : List Int} {i : Nat} (h : xs.length ≤ i) : ix (xs ++ ys) i = ix ys (i - xs.length) := by
  simp only [ix, List.getD_eq_getElem?_getD, List.getElem?_append_right h]
theorem ix_rep {n i : Nat} {v : Int} (h : i < n) : ix (List.replicate n v) i = v := by
  simp [ix, h]
/-- Programming free bytes: all of them, or some of them and a torn one. -/
theorem Dev.progL_free : ∀ (xs : List Int) (D : Dev) (p : Nat), D.down = false → p + xs.length ≤ D.bytes.length → (∀ i, p ≤ i → i < p + xs.length → ix D.bytes i = 255) → Bytes xs →
    ((D.progL p xs).2 = 0 ∧ (D.progL p xs).1.down = false ∧ (D.progL p xs).1.bytes = spl D.bytes p xs) ∨
    ((D.progL p xs).2 = 10 ∧ (D.progL p xs).1.down = true ∧ ∃ k, k < xs.length ∧ (D.progL p xs).1.bytes = spl D.bytes p (xs.take k ++ [bor .u8 (ix xs k) D.torn]))
  | [], D, p, hd, hp, _, _ => .inl ⟨rfl, hd, by simp [Dev.progL, spl]⟩
  | x :: xs, D, p, hd, hp, hf, hb => by
    have hp' : p + (xs.length + 1) ≤ D.bytes.length := hp
    have hx := hb x (List.mem_cons_self ..)
    have h255 := hf p (Nat.le_refl _) (by simp)
    unfold Dev.progL
    rw [D.step_bytes, D.step_torn]
    split
    · rename_i hs
      right
      refine ⟨rfl, hs, 0, by simp, ?_⟩
      simp only [Dev.put, D.step_bytes]
      rw [h255, band_u8_ff (bor_u8 _ _).1 (bor_u8 _ _).2]
      apply ix_ext
      · rw [spl_len (by simp; omega)]; simp
      · intro i hi
        simp at hi
        rw [ix_set (by omega)]
        by_cases e : p = i
        · subst e
          rw [if_pos rfl, spl_in (by simp; omega) (Nat.le_refl _) (by simp), Nat.sub_self]; rfl
        · rw [if_neg e, spl_out (by simp; omega) (by simp; omega)]
    · rename_i hs
      have hs' : D.step.down = false := by simpa using hs
      rw [h255, band_u8_ff hx.1 hx.2]
      have ih := Dev.progL_free xs (D.step.put p x) (p + 1) hs' (by simp [Dev.put, D.step_bytes]; omega) (fun i h1 h2 => by
        simp only [Dev.put, D.step_bytes]
        rw [ix_set (by omega), if_neg (by omega)]
        exact hf i (by omega) (by simp; omega)) (fun y hy => hb y (List.mem_cons_of_mem _ hy))
      have key : ∀ ys : List Int, p + (ys.length + 1) ≤ D.bytes.length → spl (D.step.put p x).bytes (p + 1) ys = spl D.bytes p (x :: ys) := by
        intro ys hy
        apply ix_ext
        · rw [spl_len (by simp [Dev.put, D.step_bytes]; omega), spl_len (by simp; omega)]; simp [Dev.put, D.step_bytes]
        · intro i hi
          rw [spl_len (by simp [Dev.put, D.step_bytes]; omega)] at hi
          simp [Dev.put, D.step_bytes] at hi
          by_cases h1 : i = p
          · subst h1
            rw [spl_out (by simp [Dev.put, D.step_bytes]; omega) (by omega), spl_in (by simp; omega) (Nat.le_refl _) (by simp)]
            simp only [Dev.put, D.step_bytes]
            rw [ix_set (by omega), if_pos rfl, Nat.sub_self]; rfl
          · by_cases h2 : p < i ∧ i < p + 1 + ys.length
            · rw [spl_in (by simp [Dev.put, D.step_bytes]; omega) (by omega) (by omega), spl_in (by simp; omega) (by omega) (by simp; omega), show i - p = (i - (p + 1)) + 1 by omega]
              simp [ix]
            · rw [spl_out (by simp [Dev.put, D.step_bytes]; omega) (by omega), spl_out (by simp; omega) (by simp; omega)]
              simp only [Dev.put, D.step_bytes]
              rw [ix_set (by omega), if_neg (by omega)]
      have ht : (D.step.put p x).torn = D.torn := D.step_torn
      rcases ih with ⟨i1, i2, i3⟩ | ⟨i1, i2, k, hk, i3⟩
      · left
        exact ⟨i1, i2, by rw [i3, key _ (by omega)]⟩
      · right
        refine ⟨i1, i2, k + 1, by simp; omega, ?_⟩
        rw [i3, key _ (by simp; omega), ht]
        rfl
/-- Programming free bytes of a device that is up. -/
theorem Dev.program_free {D : Dev} (h : D.Fine) (hd : D.down = false) {a : Int} {xs : List Int} (h0 : 0 ≤ a) (h1 : a + xs.length ≤ D.n) (hf : ∀ i, a.toNat ≤ i → i < a.toNat + xs.length → ix D.bytes i = 255) (hb : Bytes xs) :
    ((D.program a xs).2 = 0 ∧ (D.program a xs).1.down = false ∧ (D.program a xs).1.bytes = spl D.bytes a.toNat xs) ∨
    ((D.program a xs).2 = 10 ∧ (D.program a xs).1.down = true ∧ ∃ k, k < xs.length ∧ (D.program a xs).1.bytes = spl D.bytes a.toNat (xs.take k ++ [bor .u8 (ix xs k) D.torn])) := by
  have e : D.program a xs = D.progL a.toNat xs := by
    unfold Dev.program
    rw [if_neg (by simp [hd]), if_pos (by simp only [Dev.within, Bool.and_eq_true, decide_eq_true_eq]; omega)]
  rw [e]
  exact Dev.progL_free xs D a.toNat hd (by rw [h.ok.hn]; omega) hf hb
theorem ix_orR {bs : List Int} {a b i : Nat} {t : Int} (hi : i < bs.length) : ix (orR bs a b t) i = if a ≤ i ∧ i < b then bor .u8 (ix bs i) t else ix bs i := by
  simp only [ix, orR, List.getD_eq_getElem?_getD, List.getElem?_mapIdx, List.getElem?_eq_getElem hi, Option.map_some, Option.getD_some]
/-- Erasing a sector of a device that is up. -/
theorem Dev.erase_up {D : Dev} (hd : D.down = false) {s : Int} (h0 : 0 ≤ s) (h1 : s < D.nw) :
    ((D.erase s).2 = 0 ∧ (D.erase s).1.down = false ∧ (D.erase s).1.bytes = orR D.bytes (s * D.size).toNat ((s + 1) * D.size).toNat 255) ∨
    ((D.erase s).2 = 10 ∧ (D.erase s).1.down = true ∧ (D.erase s).1.bytes = orR D.bytes (s * D.size).toNat ((s + 1) * D.size).toNat D.torn) := by
  unfold Dev.erase
  rw [if_neg (by simp [hd]), if_neg (by omega)]
  split
  · rename_i h; exact .inr ⟨rfl, h, rfl⟩
  · rename_i h; exact .inl ⟨rfl, by simpa using h, rfl⟩
theorem Dev.program_torn (D : Dev) (a : Int) (xs : List Int) : (D.program a xs).1.torn = D.torn := by
  have h : ∀ (xs : List Int) (D : Dev) (p : Nat), (D.progL p xs).1.torn = D.torn := by
    intro xs
    induction xs with
    | nil => intro D p; rfl
    | cons x xs ih =>
      intro D p
      unfold Dev.progL
      split
      · exact D.step_torn
      · rw [ih]; exact D.step_torn
  unfold Dev.program
  split
  · rfl
  · split
    · exact h _ _ _
    · rfl
theorem Dev.erase_torn (D : Dev) (s : Int) : (D.erase s).1.torn = D.torn := by
  unfold Dev.erase
  split
  · rfl
  · split
    · rfl
    · split
      · exact D.erase1_torn s
      · exact D.erase1_torn s
theorem ix_secL {D : Dev} {a : Int} {k : Nat} (h : k < D.size.toNat) : ix (secL D a) k = ix D.bytes (a.toNat + k) := by
  unfold secL
  rw [ix_take h, ix_drop]
theorem blankL_ix {xs : List Int} (h : blankL xs = true) {k : Nat} (hk : k < xs.length) : ix xs k = 255 := by
  unfold blankL at h
  rw [List.all_eq_true] at h
  have := h xs[k] (List.getElem_mem hk)
  simpa [ix, hk] using this
theorem ix_blankL {xs : List Int} (h : ∀ k, k < xs.length → ix xs k = 255) : blankL xs = true := all_ff_yes h
/-- The bytes of sector j of a log. -/
def Rl.sec (R : Rl) (D : Dev) (j : Int) : List Int := secL D (R.base D j)
/-- E is D but for sector j, which is xs. -/
structure Rl.But (R : Rl) (D E : Dev) (j : Int) (xs : List Int) : Prop where
  like : E.Like D
  at_ : R.sec E j = xs
  out : ∀ i, 0 ≤ i → i < R.S → i ≠ j → R.sec E i = R.sec D i
theorem Rl.base_like {R : Rl} {D E : Dev} (h : E.Like D) (j : Int) : R.base E j = R.base D j := by unfold Rl.base; rw [h.2.2]
theorem Rl.sec_len {R : Rl} {D : Dev} (h : D.Fine) (g : R.Fine D) {j : Int} (h0 : 0 ≤ j) (h1 : j < R.S) : (R.sec D j).length = D.size.toNat := by
  have hb := Rl.base_bd h g h0 h1
  exact secL_len (R := R) h hb.1 hb.2
theorem Rl.sec_ix {R : Rl} {D : Dev} {j : Int} {k : Nat} (hk : k < D.size.toNat) : ix (R.sec D j) k = ix D.bytes ((R.base D j).toNat + k) := ix_secL hk
/-- Sectors lie apart. -/
theorem Rl.apart {R : Rl} {D : Dev} (h : D.Fine) {i j : Int} (hij : i ≠ j) : R.base D i + D.size ≤ R.base D j ∨ R.base D j + D.size ≤ R.base D i := by
  have h0 := h.geo.size0
  unfold Rl.base
  rcases Int.lt_or_gt_of_ne hij with h1 | h1
  · left
    have := Int.mul_le_mul_of_nonneg_right (show R.first + i + 1 ≤ R.first + j by omega) (show 0 ≤ D.size by omega)
    rw [Int.add_mul _ 1, Int.one_mul] at this
    exact this
  · right
    have := Int.mul_le_mul_of_nonneg_right (show R.first + j + 1 ≤ R.first + i by omega) (show 0 ≤ D.size by omega)
    rw [Int.add_mul _ 1, Int.one_mul] at this
    exact this
/-- Bytes of sector j alone are other ones. -/
theorem Rl.but_of {R : Rl} {D E : Dev} (h : D.Fine) (fE : E.Fine) (g : R.Fine D) (l : E.Like D) {j : Int} (h0 : 0 ≤ j) (h1 : j < R.S) {xs : List Int} (hx : xs.length = D.size.toNat)
    (hin : ∀ k, k < D.size.toNat → ix E.bytes ((R.base D j).toNat + k) = ix xs k) (hout : ∀ i, i < D.n → (i < (R.base D j).toNat ∨ (R.base D j).toNat + D.size.toNat ≤ i) → ix E.bytes i = ix D.bytes i) : R.But D E j xs := by
  have gE := g.like l
  have hs := h.geo.size0
  refine ⟨l, ?_, fun i i0 i1 hij => ?_⟩
  · apply ix_ext
    · rw [R.sec_len fE gE h0 h1, hx, l.2.2]
    · intro k hk
      rw [R.sec_len fE gE h0 h1, l.2.2] at hk
      rw [R.sec_ix (by rw [l.2.2]; exact hk), R.base_like l, hin k hk]
  · apply ix_ext
    · rw [R.sec_len fE gE i0 i1, R.sec_len h g i0 i1, l.2.2]
    · intro k hk
      rw [R.sec_len fE gE i0 i1, l.2.2] at hk
      have b1 := Rl.base_bd h g i0 i1
      have b2 := Rl.base_bd h g h0 h1
      have b3 := R.apart h hij
      rw [R.sec_ix (by rw [l.2.2]; exact hk), R.base_like l, R.sec_ix hk, hout _ (by omega) (by omega)]
theorem hdL_len (q t i : Int) : (hdL q t i).length = 10 := by simp [hdL, litL_length]
theorem litL_bytes (n : Nat) (v : Int) : Bytes (litL n v) := by
  intro x hx
  simp only [litL, List.mem_map] at hx
  obtain ⟨j, _, rfl⟩ := hx
  omega
theorem hdL_bytes {q t i : Int} (h0 : 0 ≤ i) (h1 : i ≤ 65535) : Bytes (hdL q t i) := by
  intro x hx
  unfold hdL at hx
  rcases List.mem_append.1 hx with hx | hx
  · rcases List.mem_append.1 hx with hx | hx
    · exact litL_bytes _ _ _ hx
    · exact litL_bytes _ _ _ hx
  · simp at hx
    rcases hx with rfl | rfl <;> omega
theorem spl_spl {bs xs ys : List Int} {p q : Int} (hq : q.toNat = p.toNat + xs.length) (h : p.toNat + xs.length ≤ bs.length) : spl (spl bs p.toNat xs) q.toNat ys = spl bs p.toNat (xs ++ ys) := by
  unfold spl
  rw [hq]
  have e1 : (bs.take p.toNat ++ xs ++ bs.drop (p.toNat + xs.length)).take (p.toNat + xs.length) = bs.take p.toNat ++ xs := by
    rw [List.take_append_of_le_length (by simp; omega), List.take_of_length_le (by simp; omega)]
  have e2 : (bs.take p.toNat ++ xs ++ bs.drop (p.toNat + xs.length)).drop (p.toNat + xs.length + ys.length) = bs.drop (p.toNat + (xs ++ ys).length) := by
    rw [List.drop_append, List.drop_of_length_le (by simp; omega), List.nil_append, List.drop_drop]
    congr 1
    simp
    omega
  rw [e1, e2, List.append_assoc, List.append_assoc, List.append_assoc, List.append_assoc]
/-- A sector behind open. -/
def fresh (n : Nat) (ys : List Int) : List Int := ys ++ List.replicate (n - ys.length) 255
theorem fresh_len {n : Nat} {ys : List Int} (h : ys.length ≤ n) : (fresh n ys).length = n := by simp [fresh]; omega
theorem fresh_in {n k : Nat} {ys : List Int} (h : k < ys.length) : ix (fresh n ys) k = ix ys k := ix_append_l h
theorem fresh_out {n k : Nat} {ys : List Int} (h : ys.length ≤ k) (hk : k < n) : ix (fresh n ys) k = 255 := by
  unfold fresh
  rw [ix_append_r h, ix_rep (by omega)]
/-- A device, a sector of which is free; the bytes outside are those of D. -/
structure Rl.Clean (R : Rl) (D E : Dev) (j : Int) : Prop where
  fine : E.Fine
  like : E.Like D
  up : E.down = false
  torn : E.torn = D.torn
  free : ∀ k, k < D.size.toNat → ix E.bytes ((R.base D j).toNat + k) = 255
  out : ∀ i, i < D.n → (i < (R.base D j).toNat ∨ (R.base D j).toNat + D.size.toNat ≤ i) → ix E.bytes i = ix D.bytes i
theorem Rl.openE_cases {R : Rl} {D : Dev} (h : D.Fine) (g : R.Fine D) (hd : D.down = false) {j : Int} (h0 : 0 ≤ j) (h1 : j < R.S) :
    ((openE D (R.first + j)).2 = 0 ∧ R.Clean D (openE D (R.first + j)).1 j) ∨
    ((openE D (R.first + j)).2 = 10 ∧ (openE D (R.first + j)).1.down = true ∧ R.But D (openE D (R.first + j)).1 j ((R.sec D j).map fun x => bor .u8 x D.torn)) := by
  have hs := h.geo.size0
  have hb := Rl.base_bd h g h0 h1
  have hbe : (R.first + j) * D.size = R.base D j := rfl
  have hbe2 : (R.first + j + 1) * D.size = R.base D j + D.size := by rw [Int.add_mul, Int.one_mul]; rfl
  have hf0 := g.f0
  have hfS := g.fS
  have hl := R.sec_len h g h0 h1
  by_cases hbl : blankL (secL D ((R.first + j) * D.size)) = true
  · left
    have e : openE D (R.first + j) = (D, 0) := by unfold openE; rw [if_pos hbl]
    rw [e]
    refine ⟨rfl, h, Dev.Like.refl D, hd, rfl, fun k hk => ?_, fun i _ _ => rfl⟩
    rw [hbe] at hbl
    have := blankL_ix (k := k) hbl (by rw [show (secL D (R.base D j)).length = D.size.toNat from hl]; exact hk)
    rw [ix_secL hk] at this
    exact this
  · have e : openE D (R.first + j) = D.erase (R.first + j) := by unfold openE; rw [if_neg hbl]
    obtain ⟨fE, lE⟩ := Dev.erase_fine h (R.first + j)
    have ht := D.erase_torn (R.first + j)
    rw [e]
    have hn := h.ok.hn
    rcases Dev.erase_up hd (s := R.first + j) (by omega) (by omega) with ⟨e1, e2, e3⟩ | ⟨e1, e2, e3⟩
    · left
      refine ⟨e1, fE, lE, e2, ht, fun k hk => ?_, fun i hi ho => ?_⟩
      · rw [e3, hbe, hbe2, ix_orR (by omega), if_pos (by omega)]
        exact bor_u8_ff (h.ok2.bytes.ix _).1 (h.ok2.bytes.ix _).2
      · rw [e3, hbe, hbe2, ix_orR (by omega), if_neg (by omega)]
    · right
      refine ⟨e1, e2, Rl.but_of h fE g lE h0 h1 (by rw [List.length_map, hl]) (fun k hk => ?_) (fun i hi ho => ?_)⟩
      · rw [e3, hbe, hbe2, ix_orR (by omega), if_pos (by omega), ← R.sec_ix hk]
        simp [ix, hl, hk]
      · rw [e3, hbe, hbe2, ix_orR (by omega), if_neg (by omega)]
/-- Bytes ys programmed at the head of a free sector. -/
theorem Rl.clean_but {R : Rl} {D E E2 : Dev} (h : D.Fine) (g : R.Fine D) {j : Int} (h0 : 0 ≤ j) (h1 : j < R.S) (c : R.Clean D E j) (f2 : E2.Fine) (l2 : E2.Like D) {ys : List Int} (hy : ys.length ≤ D.size.toNat)
    (hE : E2.bytes = spl E.bytes (R.base D j).toNat ys) : R.But D E2 j (fresh D.size.toNat ys) := by
  have hb := Rl.base_bd h g h0 h1
  have hs := h.geo.size0
  have hn := c.fine.ok.hn
  have hl := c.like.1
  refine Rl.but_of h f2 g l2 h0 h1 (fresh_len hy) (fun k hk => ?_) (fun i hi ho => ?_)
  · rw [hE]
    by_cases e : k < ys.length
    · rw [spl_in (by omega) (by omega) (by omega), fresh_in e]
      congr 1
      omega
    · rw [spl_out (by omega) (by omega), c.free k hk, fresh_out (by omega) hk]
  · rw [hE, spl_out (by omega) (by omega), c.out i hi ho]
theorem Rl.openP_cases {R : Rl} {D : Dev} (h : D.Fine) (g : R.Fine D) (hd : D.down = false) {j : Int} (h0 : 0 ≤ j) (h1 : j < R.S) {q t i : Int} (i0 : 0 ≤ i) (i1 : i ≤ 65535) :
    ((openP D (R.first + j) q t i).2 = 0 ∧ (openP D (R.first + j) q t i).1.down = false ∧ R.But D (openP D (R.first + j) q t i).1 j (fresh D.size.toNat (hdL q t i ++ [0]))) ∨
    ((openP D (R.first + j) q t i).2 = 10 ∧ (openP D (R.first + j) q t i).1.down = true ∧
      (R.But D (openP D (R.first + j) q t i).1 j ((R.sec D j).map fun x => bor .u8 x D.torn) ∨
       (∃ k, k < 10 ∧ R.But D (openP D (R.first + j) q t i).1 j (fresh D.size.toNat ((hdL q t i).take k ++ [bor .u8 (ix (hdL q t i) k) D.torn]))) ∨
       R.But D (openP D (R.first + j) q t i).1 j (fresh D.size.toNat (hdL q t i ++ [bor .u8 0 D.torn])))) := by
  have hs := g.sz
  have hb := Rl.base_bd h g h0 h1
  have hbe : (R.first + j) * D.size = R.base D j := rfl
  have hhl := hdL_len q t i
  obtain ⟨fO, lO⟩ := openP_fine h (R.first + j) q t i
  unfold openP at fO lO ⊢
  rw [hbe] at fO lO ⊢
  rcases R.openE_cases h g hd h0 h1 with ⟨e1, c⟩ | ⟨e1, e2, c⟩
  · rw [if_pos e1] at fO lO ⊢
    obtain ⟨E, hE⟩ : ∃ E, (openE D (R.first + j)).1 = E := ⟨_, rfl⟩
    rw [hE] at fO lO c ⊢
    have hn := c.fine.ok.hn
    have hn2 := c.like.1
    obtain ⟨f2, l2⟩ := Dev.program_fine c.fine (R.base D j) (hdL q t i)
    have ht2 := Dev.program_torn E (R.base D j) (hdL q t i)
    rcases Dev.program_free c.fine c.up (a := R.base D j) (xs := hdL q t i) hb.1 (by rw [hhl]; omega) (fun m m0 m1 => by
      have := c.free (m - (R.base D j).toNat) (by omega)
      rwa [show (R.base D j).toNat + (m - (R.base D j).toNat) = m by omega] at this) (hdL_bytes i0 i1) with ⟨p1, p2, p3⟩ | ⟨p1, p2, k, hk, p3⟩
    · rw [if_pos p1] at fO lO ⊢
      obtain ⟨E2, hE2⟩ : ∃ E2, (E.program (R.base D j) (hdL q t i)).1 = E2 := ⟨_, rfl⟩
      rw [hE2] at fO lO f2 l2 ht2 p2 p3 ⊢
      have hn3 := l2.1
      rcases Dev.program_free f2 p2 (a := R.base D j + 10) (xs := [0]) (by omega) (by simp; omega) (fun m m0 m1 => by
        simp at m1
        rw [p3, spl_out (by omega) (by omega)]
        have := c.free (m - (R.base D j).toNat) (by omega)
        rwa [show (R.base D j).toNat + (m - (R.base D j).toNat) = m by omega] at this) (by intro x hx; simp at hx; omega) with ⟨r1, r2, r3⟩ | ⟨r1, r2, k, hk, r3⟩
      · left
        refine ⟨r1, r2, Rl.clean_but h g h0 h1 c fO lO (by simp [hhl]; omega) ?_⟩
        rw [r3, p3]
        exact spl_spl (by omega) (by rw [hhl]; omega)
      · right
        refine ⟨r1, r2, .inr (.inr (Rl.clean_but h g h0 h1 c fO lO (by simp [hhl]; omega) ?_))⟩
        have hk0 : k = 0 := by simp at hk; exact hk
        subst hk0
        rw [r3, p3, show ([0] : List Int).take 0 ++ [bor .u8 (ix [0] 0) E2.torn] = [bor .u8 0 D.torn] by rw [ht2, c.torn]; rfl]
        exact spl_spl (by omega) (by rw [hhl]; omega)
    · rw [if_neg (by omega)] at fO lO ⊢
      right
      refine ⟨p1, p2, .inr (.inl ⟨k, by omega, ?_⟩)⟩
      rw [← c.torn]
      exact Rl.clean_but h g h0 h1 c fO lO (by simp; omega) p3
  · rw [if_neg (by omega)]
    exact .inr ⟨e1, e2, .inl c⟩
/-- A slot programmed: all of it, or torn. -/
theorem Rl.slot_cases {R : Rl} {D : Dev} (h : D.Fine) (g : R.Fine D) (hd : D.down = false) {j : Int} (h0 : 0 ≤ j) (h1 : j < R.S) {u : Nat} (hu : u < slotsN D.size.toNat) (hf : blankL (slotL (R.sec D j) u) = true) {ys : List Int} (hy : ys.length = 17) (hb : Bytes ys) :
    ((D.program (R.base D j + 11 + 17 * u) ys).2 = 0 ∧ (D.program (R.base D j + 11 + 17 * u) ys).1.down = false ∧ R.But D (D.program (R.base D j + 11 + 17 * u) ys).1 j (spl (R.sec D j) (11 + u * 17) ys)) ∨
    ((D.program (R.base D j + 11 + 17 * u) ys).2 = 10 ∧ (D.program (R.base D j + 11 + 17 * u) ys).1.down = true ∧ ∃ k, k < 17 ∧ R.But D (D.program (R.base D j + 11 + 17 * u) ys).1 j (spl (R.sec D j) (11 + u * 17) (ys.take k ++ [bor .u8 (ix ys k) D.torn]))) := by
  have hs := g.sz
  have hbd := Rl.base_bd h g h0 h1
  have hsl := R.sec_len h g h0 h1
  have hn := h.ok.hn
  have hu2 : 11 + u * 17 + 17 ≤ D.size.toNat := by unfold slotsN at hu; omega
  have hsl2 := slotL_len (xs := R.sec D j) (i := u) (by omega)
  obtain ⟨f2, l2⟩ := Dev.program_fine h (R.base D j + 11 + 17 * u) ys
  have hfree : ∀ m, 11 + u * 17 ≤ m → m < 11 + u * 17 + 17 → ix (R.sec D j) m = 255 := by
    intro m m0 m1
    have := blankL_ix hf (k := m - (11 + u * 17)) (by omega)
    unfold slotL at this
    rw [ix_take (by omega), ix_drop, show 11 + u * 17 + (m - (11 + u * 17)) = m by omega] at this
    exact this
  have key : ∀ zs : List Int, zs.length ≤ 17 → (D.program (R.base D j + 11 + 17 * u) ys).1.bytes = spl D.bytes (R.base D j + 11 + 17 * u).toNat zs → R.But D (D.program (R.base D j + 11 + 17 * u) ys).1 j (spl (R.sec D j) (11 + u * 17) zs) := by
    intro zs hz e
    refine Rl.but_of h f2 g l2 h0 h1 (by rw [spl_len (by omega), hsl]) (fun k hk => ?_) (fun i hi ho => ?_)
    · rw [e]
      by_cases e1 : 11 + u * 17 ≤ k ∧ k < 11 + u * 17 + zs.length
      · rw [spl_in (by omega) (by omega) (by omega), spl_in (by omega) e1.1 e1.2]
        congr 1
        omega
      · rw [spl_out (by omega) (by omega), spl_out (by omega) (by omega), R.sec_ix hk]
    · rw [e, spl_out (by omega) (by omega)]
  rcases Dev.program_free h hd (a := R.base D j + 11 + 17 * u) (xs := ys) (by omega) (by omega) (fun m m0 m1 => by
    have := hfree (m - (R.base D j).toNat) (by omega) (by omega)
    rw [R.sec_ix (by omega), show (R.base D j).toNat + (m - (R.base D j).toNat) = m by omega] at this
    exact this) hb with ⟨p1, p2, p3⟩ | ⟨p1, p2, k, hk, p3⟩
  · exact .inl ⟨p1, p2, key ys (by omega) p3⟩
  · exact .inr ⟨p1, p2, k, by omega, key _ (by simp; omega) p3⟩
end Go.Proofs.Ytbeiciinppmekaa
