/-
  A log of package eventlog and the reference's log over the same device agree, when they are opened, and behind Add and Clear. Lemmas only; each has its conditions as premises.
-/
import Derived.Test.YtbeiciinppmekaaTb
import Derived.Test.YtbeiciinppmekaaGopen
import Derived.Test.YtbeiciinppmekaaProg
namespace Go.Proofs.Ytbeiciinppmekaa
open Go Go.Sx Go.Proofs
set_option maxRecDepth 100000
set_option linter.unusedSimpArgs false
set_option linter.unusedVariables false
/-- The records of k sectors from sequence number a on, with their sequence numbers. -/
def Rl.recR (R : Rl) (D : Dev) (a : Int) (k : Nat) : List (Int × Ev) := (List.range k).flatMap fun i => (R.at_ D (a + (i : Nat))).map fun e => (a + (i : Nat), e)
theorem Rl.recR_succ (R : Rl) (D : Dev) (a : Int) (k : Nat) : R.recR D a (k + 1) = R.recR D a k ++ (R.at_ D (a + (k : Nat))).map fun e => (a + (k : Nat), e) := by
  unfold Rl.recR
  rw [List.range_succ, List.flatMap_append, List.flatMap_singleton]
theorem Rl.recR_add (R : Rl) (D : Dev) (a : Int) (m : Nat) : ∀ n, R.recR D a (m + n) = R.recR D a m ++ R.recR D (a + m) n
  | 0 => by simp [Rl.recR]
  | n + 1 => by
    rw [← Nat.add_assoc, R.recR_succ, R.recR_add D a m n, R.recR_succ, List.append_assoc, show a + ((m + n : Nat) : Int) = a + m + n by omega]
theorem Rl.recR_seq {R : Rl} {D : Dev} {a : Int} {k : Nat} {r : Int × Ev} (h : r ∈ R.recR D a k) : a ≤ r.1 ∧ r.1 < a + k := by
  unfold Rl.recR at h
  obtain ⟨i, hi, h⟩ := List.mem_flatMap.1 h
  obtain ⟨e, _, rfl⟩ := List.mem_map.1 h
  have := List.mem_range.1 hi
  simp only
  omega
theorem Rl.recR_map (R : Rl) (D : Dev) (a : Int) : ∀ k, (R.recR D a k).map (·.2) = R.recsN D a k
  | 0 => rfl
  | k + 1 => by
    rw [R.recR_succ, R.recsN_succ, List.map_append, R.recR_map D a k, List.map_map]
    congr 1
    simp [Function.comp_def]
theorem Rl.recR_same {R : Rl} {D E : Dev} {a : Int} : ∀ k : Nat, (∀ s, a ≤ s → s < a + k → R.at_ E s = R.at_ D s) → R.recR E a k = R.recR D a k
  | 0, _ => rfl
  | k + 1, h => by rw [R.recR_succ, R.recR_succ, Rl.recR_same k (fun s h1 h2 => h s h1 (by omega)), h (a + k) (by omega) (by omega)]
def Rl.recQ (R : Rl) (D : Dev) : List (Int × Ev) := if 1 ≤ (R.newest D).2 then R.recR D (R.newest D).2 ((R.newest D).1 + 1 - (R.newest D).2).toNat else []
theorem Rl.recQ_map {R : Rl} (D : Dev) (h : R.ended = false) : (R.recQ D).map (·.2) = R.records D := by
  have e : R.records D = if 1 ≤ (R.newest D).2 then R.recsN D (R.newest D).2 ((R.newest D).1 + 1 - (R.newest D).2).toNat else [] := if_neg (by simp [h])
  rw [e]
  unfold Rl.recQ
  split
  · exact R.recR_map D _ _
  · rfl
theorem Rl.recR_cut {R : Rl} {D : Dev} {a t : Int} {k : Nat} (h1 : a ≤ t) (h2 : t ≤ a + k) : (R.recR D a k).filter (fun r => !decide (r.1 < t)) = R.recR D t (a + k - t).toNat := by
  have e : k = (t - a).toNat + (a + k - t).toNat := by omega
  have e2 : R.recR D a k = R.recR D a (t - a).toNat ++ R.recR D t (a + k - t).toNat := by
    have := R.recR_add D a (t - a).toNat (a + k - t).toNat
    rw [← e, show a + (((t - a).toNat : Nat) : Int) = t by omega] at this
    exact this
  rw [e2, List.filter_append, List.filter_eq_nil_iff.2, List.filter_eq_self.2, List.nil_append]
  · intro r hr
    have := Rl.recR_seq hr
    simp; omega
  · intro r hr
    have := Rl.recR_seq hr
    simp; omega
/-- The log of package eventlog agrees with the reference's. -/
structure Agree (Y : Lg) (R : Rl) (D : Dev) : Prop where
  first : Y.first = R.first
  S : Y.S = R.S
  over : Y.over = R.over
  newest : Y.newest = (R.newest D).1
  tail : Y.tail = (R.newest D).2
  recs : Y.recs = R.recQ D
  used : Y.used = if (R.newest D).1 = 0 then 0 else (R.usedN D : Int)
  next : Y.next = R.nextID D
  full : Y.full = R.refused
  num : Y.num = R.last
  held : Y.held = R.held
  ye : Y.ended = false
  re : R.ended = false
  fine : D.Fine
  rf : R.Fine D
theorem slots_int {D : Dev} (h : 64 ≤ D.size) : ((slotsN D.size.toNat : Nat) : Int) = (D.size - 11) / 17 := by unfold slotsN; omega
theorem Agree.yf {Y : Lg} {R : Rl} {D : Dev} (a : Agree Y R D) : Y.Fine D := by
  have hq := R.newest_bd D
  have hi := R.nextID_bd a.fine
  have hs := a.rf.sz
  have hu := freeN_le (secL D (R.base D (((R.newest D).1 - 1) % R.S))) (slotsN D.size.toNat)
  have hsl := slots_int hs
  have hu2 : R.usedN D ≤ slotsN D.size.toNat := hu
  exact ⟨by rw [a.first]; exact a.rf.f0, by rw [a.S]; exact a.rf.S2, by rw [a.first, a.S]; exact a.rf.fS, by rw [a.newest]; omega, by rw [a.newest]; omega, by rw [a.tail]; omega, by rw [a.tail]; omega, by rw [a.next]; omega, by rw [a.next]; omega,
    by rw [a.used]; split <;> omega, by rw [a.used]; split <;> omega, hs, by rw [a.num]; exact a.rf.l0, by rw [a.num]; exact a.rf.l1⟩
theorem Agree.events {Y : Lg} {R : Rl} {D : Dev} (a : Agree Y R D) : Y.events = R.records D := by
  unfold Lg.events
  rw [a.recs]
  exact R.recQ_map D a.re
theorem evOf_slotE {sl : List Int} (h : sl.length = 17) : evOf sl = slotE sl := by
  unfold evOf slotE slotR
  by_cases hb : blankL sl = true
  · have := blankL_ix hb (k := 16) (by omega)
    rw [if_neg (by omega), if_pos hb]
    rfl
  · rw [if_neg hb]
    by_cases h16 : ix sl 16 = 0
    · rw [if_neg (show ¬ ¬ ix sl 16 = 0 by omega)]
      by_cases h2 : (evDec (sl.take 16)).2 = 0 ∧ ¬ (evDec (sl.take 16)).1.id = 0
      · rw [if_pos ⟨h16, h2.1, h2.2⟩, if_pos (by simpa using h2)]
      · rw [if_neg (fun h => h2 ⟨h.2.1, h.2.2⟩), if_neg (by simpa using h2)]
    · rw [if_neg (fun h => h16 h.1), if_pos h16]
      rfl
theorem ofN_step (xs : List Int) (k : Nat) : ofN xs (k + 1) = ofN xs k ++ (slotE (slotL xs k)).toList := by
  unfold ofN
  rw [List.range_succ, List.filterMap_append]
  congr 1
/-- The ID behind some records. -/
def nextOf (l : List Ev) (i : Int) : Int := if l.length = 0 then i else behind (l.getD (l.length - 1) Ev.zero).id
theorem nextOf_snoc (l : List Ev) (e : Ev) (i : Int) : nextOf (l ++ [e]) i = behind e.id := by
  unfold nextOf
  rw [if_neg (by simp)]
  simp
theorem load_fold {xs : List Int} {last : Bool} {q : Int} (G : Lg) : ∀ k, 11 + k * 17 ≤ xs.length →
    (List.range k).foldl (Lg.load1 last q xs) G = { G with recs := G.recs ++ (ofN xs k).map (fun e => (q, e)), used := if last then (if freeN xs k = 0 then G.used else freeN xs k) else G.used, next := if last then nextOf (ofN xs k) G.next else G.next }
  | 0, _ => by
    have h0 : (ofN xs 0).map (fun e => (q, e)) = [] := rfl
    have h1 : nextOf (ofN xs 0) G.next = G.next := rfl
    have h2 : freeN xs 0 = 0 := rfl
    rw [h0, h1, h2, List.append_nil]
    simp
  | k + 1, h => by
    have ih := load_fold (xs := xs) (last := last) (q := q) G k (by omega)
    have hl := slotL_len (xs := xs) (i := k) (by omega)
    rw [List.range_succ, List.foldl_append, ih, List.foldl_cons, List.foldl_nil, ofN_step]
    unfold Lg.load1
    rw [evOf_slotE hl]
    have hfr : freeN xs (k + 1) = if blankL (slotL xs k) then freeN xs k else k + 1 := rfl
    cases last with
    | false =>
      simp only [Bool.false_and, Bool.false_eq_true, if_false]
      cases slotE (slotL xs k) with
      | none => simp
      | some e => simp
    | true =>
      simp only [Bool.true_and, if_true]
      cases hb : blankL (slotL xs k) with
      | true =>
        rw [hb, if_pos rfl] at hfr
        have hn : slotE (slotL xs k) = none := by unfold slotE slotR; rw [hb]; rfl
        rw [hn, hfr]
        simp
      | false =>
        rw [hb, if_neg (by simp)] at hfr
        rw [hfr]
        simp only [Bool.not_false, if_true]
        cases slotE (slotL xs k) with
        | none => simp
        | some e =>
          simp only [Option.toList_some, nextOf_snoc]
          simp
theorem load_eq {xs : List Int} {h : Hd} {G : Lg} (hl : 11 ≤ xs.length) : G.load xs h = if h.q = G.newest then { G with recs := G.recs ++ (ofN xs (slotsN xs.length)).map (fun e => (h.q, e)), used := (if freeN xs (slotsN xs.length) = 0 then G.used else freeN xs (slotsN xs.length)), next := nextOf (ofN xs (slotsN xs.length)) h.id } else { G with recs := G.recs ++ (ofN xs (slotsN xs.length)).map (fun e => (h.q, e)) } := by
  unfold Lg.load
  rw [load_fold _ _ (by unfold slotsN; omega)]
  by_cases e : h.q = G.newest
  · simp [e]
  · simp [e]
theorem Rl.ofS_at {R : Rl} {D : Dev} (h : D.Fine) (g : R.Fine D) {j : Int} (h0 : 0 ≤ j) (h1 : j < R.S) : ofN (R.sec D j) (slotsN (R.sec D j).length) = R.ofS D j := by
  rw [R.sec_len h g h0 h1]; rfl
theorem Rl.hd_of {R : Rl} {D : Dev} {j : Int} (h : 1 ≤ (R.hdr D j).1) : (Hd.of (R.sec D j)).q = (R.hdr D j).1 := by
  rw [R.hdr_sec] at h ⊢
  by_cases e : Hd.ok (R.sec D j) R.S j = true
  · rw [if_pos e]; rfl
  · rw [if_neg e] at h; simp at h
theorem nextID_eq {R : Rl} {D : Dev} (h : ¬ (R.newest D).1 = 0) : R.nextID D = nextOf (R.ofS D (((R.newest D).1 - 1) % R.S)) (Hd.of (R.sec D (((R.newest D).1 - 1) % R.S))).id := by
  unfold Rl.nextID nextOf
  rw [if_neg h]
  rfl
theorem scan_low {R : Rl} {D : Dev} (h : D.Fine) (g : R.Fine D) {first S : Int} {over : Bool} {q t : Int} (ht : 1 ≤ t) : ∀ k : Nat, t + k ≤ q → Lg.scan R D t k (Lg.nw first S over (q, t)) = { Lg.nw first S over (q, t) with recs := R.recR D t k }
  | 0, _ => rfl
  | k + 1, hk => by
    have hS := g.S2
    have h0 := Int.emod_nonneg (t + k - 1) (show R.S ≠ 0 by omega)
    have h1 := Int.emod_lt_of_pos (t + k - 1) (show 0 < R.S by omega)
    rw [Lg.scan_succ, scan_low h g ht k (by omega), R.recR_succ]
    unfold Rl.at_
    by_cases e : (R.hdr D ((t + k - 1) % R.S)).1 = t + k
    · rw [if_pos e, if_pos e, load_eq (by rw [R.sec_len h g h0 h1]; have := g.sz; omega), R.hd_of (by omega), e, if_neg (by show ¬ t + (k : Int) = q; omega), R.ofS_at h g h0 h1]
    · rw [if_neg e, if_neg e]
      simp
theorem openL_scan (first S : Int) (over : Bool) (D : Dev) : openL first S over D = Lg.scan (Rl.open0 first S over) D ((Rl.open0 first S over).newest D).2 (if 1 ≤ ((Rl.open0 first S over).newest D).2 then (((Rl.open0 first S over).newest D).1 + 1 - ((Rl.open0 first S over).newest D).2).toNat else 0) (Lg.nw first S over ((Rl.open0 first S over).newest D)) := rfl
/-- What is opened agrees. -/
theorem openL_agree {D : Dev} (fine : D.Fine) {first S : Int} {over : Bool} (hno : noRoom D.nw first S = false) (hsz : 64 ≤ D.size) : Agree (openL first S over D) (Rl.open0 first S over) D := by
  have g := Rl.open0_fine (over := over) hno hsz
  have hr := openL_scan first S over D
  obtain ⟨R, hR⟩ : ∃ R, Rl.open0 first S over = R := ⟨_, rfl⟩
  have e1 : R.first = first := by rw [← hR]; rfl
  have e2 : R.S = S := by rw [← hR]; rfl
  have e3 : R.over = over := by rw [← hR]; rfl
  have e4 : R.refused = false ∧ R.last = 0 ∧ R.held = false ∧ R.ended = false := by rw [← hR]; exact ⟨rfl, rfl, rfl, rfl⟩
  rw [hR] at g hr ⊢
  obtain ⟨q, t, hnew⟩ : ∃ q t, R.newest D = (q, t) := ⟨_, _, rfl⟩
  have hq := R.newest_bd D
  rw [hnew] at hr hq
  dsimp only at hr hq
  have hn := Lg.scan_newest R D t (if 1 ≤ t then (q + 1 - t).toNat else 0) (Lg.nw first S over (q, t))
  rw [← hr] at hn
  have hS := g.S2
  have key : (openL first S over D).recs = R.recQ D ∧ (openL first S over D).used = (if (R.newest D).1 = 0 then 0 else (R.usedN D : Int)) ∧ (openL first S over D).next = R.nextID D := by
    by_cases h0 : q = 0
    · have ht : t = 0 := by omega
      rw [hr, if_neg (by omega)]
      unfold Rl.recQ Rl.nextID
      rw [hnew, ht, h0]
      exact ⟨rfl, rfl, rfl⟩
    · have h4 := hq.2.2.2.2 (by omega)
      have j0 := Int.emod_nonneg (q - 1) (show R.S ≠ 0 by omega)
      have j1 := Int.emod_lt_of_pos (q - 1) (show 0 < R.S by omega)
      have hj := R.newest_j (D := D) (by rw [hnew]; simp only; omega)
      rw [hnew] at hj
      dsimp only at hj
      have ek : (if 1 ≤ t then (q + 1 - t).toNat else 0) = (q - t).toNat + 1 := by rw [if_pos h4.1]; omega
      have eq1 : t + ((q - t).toNat : Int) = q := by omega
      have hsl := R.sec_len fine g j0 j1
      have hseq := R.hd_of (D := D) (j := (q - 1) % R.S) (by rw [hj]; simp only; omega)
      rw [hj] at hseq
      dsimp only at hseq
      rw [ek, Lg.scan_succ, scan_low fine g h4.1 _ (by omega), eq1, hj, if_pos rfl, load_eq (by rw [hsl]; have := g.sz; omega), hseq, if_pos (show q = (Lg.nw first S over (q, t)).newest from rfl), R.ofS_at fine g j0 j1] at hr
      rw [hr]
      refine ⟨?_, ?_, ?_⟩
      · unfold Rl.recQ
        rw [hnew]
        dsimp only
        rw [if_pos h4.1, show (q + 1 - t).toNat = (q - t).toNat + 1 by omega, R.recR_succ, eq1]
        unfold Rl.at_
        rw [hj, if_pos rfl]
      · dsimp only
        unfold Rl.usedN
        rw [hnew, hsl]
        dsimp only
        rw [if_neg h0]
        show (if freeN (secL D (R.base D ((q - 1) % R.S))) (slotsN D.size.toNat) = 0 then (0 : Int) else _) = _
        split
        · rename_i hz; rw [hz]; rfl
        · rfl
      · rw [nextID_eq (by rw [hnew]; exact h0), hnew]
  exact ⟨by rw [hn.2.2.1, e1]; rfl, by rw [hn.2.2.2.1, e2]; rfl, by rw [hn.2.2.2.2.1, e3]; rfl, by rw [hn.1, hnew]; rfl, by rw [hn.2.1, hnew]; rfl, key.1, key.2.1, key.2.2, by rw [hn.2.2.2.2.2.1, e4.1]; rfl, by rw [hn.2.2.2.2.2.2.1, e4.2.1]; rfl, by rw [hn.2.2.2.2.2.2.2.1, e4.2.2.1]; rfl, by rw [hn.2.2.2.2.2.2.2.2]; rfl, e4.2.2.2, fine, g⟩
theorem rput_fine {R : Rl} {D : Dev} (h : D.Fine) (e : Ev) (i : Int) : (R.put D e i).2.1.Fine ∧ (R.put D e i).2.1.Like D := by
  unfold Rl.put
  split <;> exact Dev.program_fine h _ _
theorem rput_R {R : Rl} {D : Dev} {e : Ev} {i : Int} : (R.put D e i).1.first = R.first ∧ (R.put D e i).1.S = R.S ∧ (R.put D e i).1.over = R.over := by
  unfold Rl.put
  split <;> exact ⟨rfl, rfl, rfl⟩
/-- The device of another step. -/
theorem Agree.opened {Y : Lg} {R : Rl} {D E : Dev} (a : Agree Y R D) {t : Int} (t0 : 1 ≤ t) (t1 : t ≤ (R.newest D).1 + 1) (ta : (R.newest D).2 ≤ t) (t2 : (R.newest D).1 + 1 - t ≤ R.S - 2) (fE : E.Fine) (lE : E.Like D)
    (o : R.Opened D E ((R.newest D).1 + 1) t (R.nextID D) ((R.newest D).1 % R.S)) : Agree (Y.opened t) R E := by
  have hq := R.newest_bd D
  have hS := a.rf.S2
  obtain ⟨q, t', hnew⟩ : ∃ q t, R.newest D = (q, t) := ⟨_, _, rfl⟩
  rw [hnew] at t1 ta t2 o hq
  dsimp only at t1 ta t2 o hq
  refine ⟨a.first, a.S, a.over, ?_, ?_, ?_, ?_, ?_, a.full, a.num, a.held, a.ye, a.re, fE, a.rf.like lE⟩
  · rw [o.newest]; show Y.newest + 1 = q + 1; rw [a.newest, hnew]
  · rw [o.newest]; rfl
  · show Y.recs.filter (fun r => !decide (r.1 < t)) = _
    have hat : R.at_ E (q + 1) = [] := by
      unfold Rl.at_
      rw [Int.add_sub_cancel, o.of_]
      split <;> rfl
    have hE : R.recQ E = R.recR D t (q + 1 - t).toNat := by
      unfold Rl.recQ
      rw [o.newest]
      dsimp only
      rw [if_pos t0, show (q + 1 + 1 - t).toNat = (q + 1 - t).toNat + 1 by omega, R.recR_succ, show t + (((q + 1 - t).toNat : Nat) : Int) = q + 1 by omega, hat]
      simp only [List.map_nil, List.append_nil]
      refine Rl.recR_same _ fun s s0 s1 => ?_
      have j0 := Int.emod_nonneg (s - 1) (show R.S ≠ 0 by omega)
      have j1 := Int.emod_lt_of_pos (s - 1) (show 0 < R.S by omega)
      have hne : (s - 1) % R.S ≠ q % R.S := by
        intro e
        have := Int.emod_emod_of_dvd q (Int.dvd_refl R.S)
        have h3 : (q - (s - 1)) % R.S = 0 := by rw [Int.sub_emod, ← e, Int.sub_self, Int.zero_emod]
        rw [Int.emod_eq_of_lt (by omega) (by omega)] at h3
        omega
      have := o.out _ j0 j1 hne
      unfold Rl.at_
      rw [this.1, this.2]
    rw [hE, a.recs]
    unfold Rl.recQ
    rw [hnew]
    dsimp only
    by_cases h1 : 1 ≤ t'
    · rw [if_pos h1, Rl.recR_cut ta (by omega)]
      congr 1
      omega
    · have hq0 : q = 0 := by
        have := hq.2.2.2.2
        omega
      rw [if_neg h1, show (q + 1 - t).toNat = 0 by omega]
      rfl
  · rw [o.newest]; dsimp only; rw [if_neg (by omega), o.used]; rfl
  · show Y.next = _
    rw [o.next, a.next]
theorem at_wrote {R : Rl} {D E : Dev} (g : R.Fine D) {e : Ev} {u : Nat} {j : Int} (w : R.Wrote D E e u j) {s : Int} (hs : (s - 1) % R.S ≠ j) : R.at_ E s = R.at_ D s := by
  have hS := g.S2
  have j0 := Int.emod_nonneg (s - 1) (show R.S ≠ 0 by omega)
  have j1 := Int.emod_lt_of_pos (s - 1) (show 0 < R.S by omega)
  unfold Rl.at_
  rw [w.hdr _ j0 j1, w.out _ j0 j1 hs]
/-- A record is behind the others. -/
theorem Rl.Wrote.recQ {R : Rl} {D E : Dev} (g : R.Fine D) {e : Ev} {u : Nat} (hq : 1 ≤ (R.newest D).1) (w : R.Wrote D E e u (((R.newest D).1 - 1) % R.S)) : R.recQ E = R.recQ D ++ [((R.newest D).1, e)] := by
  have hb := R.newest_bd D
  have hS := g.S2
  have hj := R.newest_j hq
  have j0 := Int.emod_nonneg ((R.newest D).1 - 1) (show R.S ≠ 0 by omega)
  have j1 := Int.emod_lt_of_pos ((R.newest D).1 - 1) (show 0 < R.S by omega)
  have hh := w.hdr _ j0 j1
  have ho := w.of_
  obtain ⟨q, t, hnew⟩ : ∃ q t, R.newest D = (q, t) := ⟨_, _, rfl⟩
  unfold Rl.recQ
  rw [w.newest]
  rw [hnew] at hq hb w hj j0 j1 hh ho ⊢
  dsimp only at hq hb w hj j0 j1 hh ho ⊢
  have h4 := hb.2.2.2.2 hq
  rw [if_pos h4.1, if_pos h4.1, show (q + 1 - t).toNat = (q - t).toNat + 1 by omega, R.recR_succ, R.recR_succ, show t + (((q - t).toNat : Nat) : Int) = q by omega]
  have e1 : R.recR E t (q - t).toNat = R.recR D t (q - t).toNat := Rl.recR_same _ fun s s0 s1 => at_wrote g w fun e => by
    have h3 : (q - 1 - (s - 1)) % R.S = 0 := by rw [Int.sub_emod, e, Int.sub_self, Int.zero_emod]
    rw [Int.emod_eq_of_lt (by omega) (by omega)] at h3
    omega
  have e2 : R.at_ E q = R.at_ D q ++ [e] := by
    unfold Rl.at_
    rw [hh, ho, hj, if_pos rfl, if_pos rfl]
  rw [e1, e2, List.map_append, List.append_assoc]
  rfl
theorem Agree.wrote {Y : Lg} {R : Rl} {D E : Dev} (a : Agree Y R D) {e : Ev} (hq : 1 ≤ (R.newest D).1) (fE : E.Fine) (lE : E.Like D) (w : R.Wrote D E e (R.usedN D) (((R.newest D).1 - 1) % R.S)) :
    Agree { Y with recs := Y.recs ++ [(Y.newest, e)], used := Y.used + 1, next := behind e.id } R E := by
  refine ⟨a.first, a.S, a.over, by rw [w.newest]; exact a.newest, by rw [w.newest]; exact a.tail, ?_, ?_, w.next.symm, a.full, a.num, a.held, a.ye, a.re, fE, a.rf.like lE⟩
  · rw [w.recQ a.rf hq, ← a.recs, ← a.newest]
  · rw [w.newest, if_neg (by omega), w.used]
    show Y.used + 1 = _
    rw [a.used, if_neg (by omega)]
    rfl
/-- What is left of two logs and their device. -/
def Out (Y : Lg) (R : Rl) (D : Dev) : Prop := (Agree Y R D ∧ D.down = false) ∨ (Y = Lg.gone ∧ R.ended = true ∧ R.refused = false ∧ D.down = true)
theorem put_agree {Y : Lg} {R : Rl} {D : Dev} (a : Agree Y R D) (hd : D.down = false) (hq : 1 ≤ (R.newest D).1) (hu : R.usedN D < slotsN D.size.toNat) {e : Ev} (wf : e.Wf) (hv : e.valid = true) :
    (Y.put D e).2 = (R.put D { e with id := R.nextID D } (R.usedN D)).2 ∧ Out (Y.put D e).1 (R.put D { e with id := R.nextID D } (R.usedN D)).1 (R.put D { e with id := R.nextID D } (R.usedN D)).2.1 ∧
    ((R.put D { e with id := R.nextID D } (R.usedN D)).2.2.2 = 0 → R.Wrote D (R.put D { e with id := R.nextID D } (R.usedN D)).2.1 { e with id := R.nextID D } (R.usedN D) (((R.newest D).1 - 1) % R.S)) := by
  have hS := a.rf.S2
  have j0 := Int.emod_nonneg ((R.newest D).1 - 1) (show R.S ≠ 0 by omega)
  have j1 := Int.emod_lt_of_pos ((R.newest D).1 - 1) (show 0 < R.S by omega)
  have hid := R.nextID_bd a.fine
  obtain ⟨e1, he1⟩ : ∃ e1 : Ev, { e with id := R.nextID D } = e1 := ⟨_, rfl⟩
  have he1i : e1.id = R.nextID D := by rw [← he1]
  have wf1 : e1.Wf ∧ e1.valid = true := by
    simp only [Ev.valid, Bool.and_eq_true, decide_eq_true_eq] at hv
    rw [← he1]
    exact ⟨⟨by simp only; omega, wf.time, wf.gen, wf.st, wf.sn, wf.ty, wf.d0, wf.d1, wf.d2⟩, by simp only [Ev.valid, Bool.and_eq_true, decide_eq_true_eq]; omega⟩
  have hy1 : ({ e with id := Y.next } : Ev) = e1 := by rw [a.next]; exact he1
  have hpl : Y.place D = R.slotAt D (R.usedN D) := by
    unfold Lg.place Rl.slotAt Rl.base
    rw [a.first, a.newest, a.S, a.used, if_neg (by omega)]
    omega
  have hfr : blankL (slotL (R.sec D (((R.newest D).1 - 1) % R.S)) (R.usedN D)) = true := freeN_free _ _ (Nat.le_refl _) hu
  have hby : Bytes (evEnc e1 ++ [0]) := by
    intro x hx
    rcases List.mem_append.1 hx with hx | hx
    · exact evEnc_bytes wf1.1 wf1.2 x hx
    · simp at hx; omega
  have hf2 := Dev.program_fine a.fine (R.slotAt D (R.usedN D)) (evEnc e1 ++ [0])
  have hsl := slots_int a.rf.sz
  unfold Lg.put Rl.put
  rw [hy1, he1, hpl, he1i]
  rcases R.slot_cases a.fine a.rf hd j0 j1 hu hfr (ys := evEnc e1 ++ [0]) rfl hby with ⟨p1, p2, p3⟩ | ⟨p1, p2, _⟩
  · have hw := R.wrote_of a.fine a.rf rfl hq rfl hu wf1.1 wf1.2 (by omega) p3
    have p1' : (D.program (R.slotAt D (R.usedN D)) (evEnc e1 ++ [0])).2 = 0 := p1
    rw [if_pos p1', if_pos p1']
    refine ⟨by rw [a.next], .inl ⟨?_, p2⟩, fun _ => hw⟩
    have := a.wrote hq hf2.1 hf2.2 hw
    rw [he1i] at this
    dsimp only
    rw [a.next]
    exact this
  · have p1' : (D.program (R.slotAt D (R.usedN D)) (evEnc e1 ++ [0])).2 = 10 := p1
    have p2' : (D.program (R.slotAt D (R.usedN D)) (evEnc e1 ++ [0])).1.down = true := p2
    rw [if_neg (by omega), if_neg (by omega)]
    refine ⟨by dsimp only; rw [p1'], .inr ⟨?_, rfl, rfl, p2⟩, fun h => by simp at h⟩
    dsimp only [Lg.fell]
    rw [p2']; rfl
/-- Opening a sector, in both. -/
theorem openT_agree {Y : Lg} {R : Rl} {D : Dev} (a : Agree Y R D) (hd : D.down = false) {x t : Int} (hx : (if x = 0 then (R.newest D).1 + 1 else x) = t) (t0 : 1 ≤ t) (t1 : t ≤ (R.newest D).1 + 1) (ta : (R.newest D).2 ≤ t) (t2 : (R.newest D).1 + 1 - t ≤ R.S - 2) :
    (Y.openT D t).2 = R.openT D x ∧ (R.openT D x).1.Fine ∧ (R.openT D x).1.Like D ∧
    (((R.openT D x).2 = 0 ∧ (R.openT D x).1.down = false ∧ (Y.openT D t).1 = Y.opened t ∧ Agree (Y.opened t) R (R.openT D x).1 ∧ R.Opened D (R.openT D x).1 ((R.newest D).1 + 1) t (R.nextID D) ((R.newest D).1 % R.S)) ∨
     ((R.openT D x).2 = 3 ∧ (R.openT D x).1 = D ∧ (Y.openT D t).1 = Y) ∨ ((R.openT D x).2 = 10 ∧ (R.openT D x).1.down = true ∧ (Y.openT D t).1 = Y)) := by
  obtain ⟨fE, lE⟩ := R.openT_fine a.fine x
  have hsec : Y.sector = R.first + (R.newest D).1 % R.S := by unfold Lg.sector; rw [a.first, a.newest, a.S]
  rcases R.openT_cases a.fine a.rf hd hx t0 t1 t2 with ⟨h1, h2⟩ | ⟨h1, h2, h3⟩
  · have e : Y.openT D t = (Y, D, 3) := by unfold Lg.openT; rw [if_pos (by rw [a.newest]; exact h1)]
    rw [e, h2]
    exact ⟨rfl, a.fine, Dev.Like.refl D, .inr (.inl ⟨rfl, rfl, rfl⟩)⟩
  · have e : Y.openT D t = if (R.openT D x).2 = 0 then (Y.opened t, (R.openT D x).1, 0) else (Y, R.openT D x) := by
      unfold Lg.openT
      rw [if_neg (by rw [a.newest]; omega), hsec, a.newest, a.next, h2]
    rcases h3 with ⟨h4, h5, h6⟩ | ⟨h4, h5⟩
    · rw [if_pos h4] at e
      rw [e]
      exact ⟨by dsimp only; rw [← h4], fE, lE, .inl ⟨h4, h5, rfl, a.opened t0 t1 ta t2 fE lE h6, h6⟩⟩
    · rw [if_neg (by omega)] at e
      rw [e]
      exact ⟨rfl, fE, lE, .inr (.inr ⟨h4, h5, rfl⟩)⟩
theorem Out.same {Y Y' : Lg} {R R' : Rl} {D : Dev} (hd : D.down = false) (h : Agree Y R D) (hy : Y' = Y) (hr : R' = R) : Out Y' R' D := by rw [hy, hr]; exact .inl ⟨h, hd⟩
theorem add_agree {Y : Lg} {R : Rl} {D : Dev} (a : Agree Y R D) (hd : D.down = false) {e : Ev} (wf : e.Wf) :
    (Y.addUp D e).2 = (R.add D e).2 ∧ Out (Y.addUp D e).1 (R.add D e).1 (R.add D e).2.1 ∧ (R.add D e).2.1.Fine ∧ (R.add D e).2.1.Like D ∧ (R.add D e).1.first = R.first ∧ (R.add D e).1.S = R.S ∧ (R.add D e).1.over = R.over := by
  have hq := R.newest_bd D
  have hS := a.rf.S2
  have hsl := slots_int a.rf.sz
  have hul : R.usedN D ≤ slotsN D.size.toNat := freeN_le _ _
  have hup : ¬ (R.ended || D.down) = true := by simp [a.re, hd]
  unfold Lg.addUp Rl.add
  rw [if_neg hup]
  by_cases hg : e.valid = false ∨ ¬ e.id = 0
  · rw [if_pos hg, if_pos hg]
    exact ⟨rfl, .inl ⟨a, hd⟩, a.fine, Dev.Like.refl D, rfl, rfl, rfl⟩
  · rw [if_neg hg, if_neg hg]
    have hv : e.valid = true := by cases h : e.valid with | true => rfl | false => exact absurd (Or.inl h) hg
    have hroom : (R.place D < 0) = (Y.newest = 0 ∨ Y.used = (D.size - 11) / 17) := by
      rw [a.newest, a.used, ← hsl, eq_iff_iff]
      unfold Rl.place
      by_cases h0 : (R.newest D).1 = 0
      · rw [if_pos h0, if_pos h0]
        exact ⟨fun _ => .inl h0, fun _ => by decide⟩
      · rw [if_neg h0, if_neg h0]
        by_cases h1 : R.usedN D = slotsN D.size.toNat
        · rw [if_pos h1, h1]
          exact ⟨fun _ => .inr rfl, fun _ => by decide⟩
        · rw [if_neg h1]
          constructor
          · intro h; omega
          · intro h; rcases h with h | h <;> omega
    by_cases hr : R.place D < 0
    · rw [if_pos hr, if_pos (hroom ▸ hr)]
      have htl0 : R.tl0 D = max Y.tail 1 := by unfold Rl.tl0; rw [a.tail]
      have htb := R.tl_bd a.rf (D := D)
      have hta : (R.newest D).2 ≤ R.tl D := by unfold Rl.tl Rl.tl0; split <;> omega
      by_cases hf : R.S - 2 < (R.newest D).1 + 1 - R.tl0 D ∧ R.over = false
      · have e1 : Y.grow D = ({ Y with full := true }, D, 9) := by unfold Lg.grow; rw [a.S, a.newest, ← htl0, a.over, if_pos hf.1, if_neg (by simp [hf.2])]
        rw [if_pos hf, e1, if_neg (by simp)]
        refine ⟨rfl, .inl ⟨?_, hd⟩, a.fine, Dev.Like.refl D, rfl, rfl, rfl⟩
        dsimp only [Lg.fell]
        rw [hd]
        exact ⟨a.first, a.S, a.over, a.newest, a.tail, a.recs, a.used, a.next, rfl, a.num, a.held, a.ye, a.re, a.fine, ⟨a.rf.f0, a.rf.S2, a.rf.fS, a.rf.sz, a.rf.l0, a.rf.l1⟩⟩
      · rw [if_neg hf]
        have e1 : Y.grow D = Y.openT D (R.tl D) := by
          unfold Lg.grow Rl.tl
          rw [a.S, a.newest, ← htl0, a.over]
          by_cases h1 : R.S - 2 < (R.newest D).1 + 1 - R.tl0 D
          · rw [if_pos h1, if_pos h1, if_pos (by cases h : R.over with | true => rfl | false => exact absurd ⟨h1, h⟩ hf)]
          · rw [if_neg h1, if_neg h1]
        have ho := openT_agree a hd (x := R.tl D) (t := R.tl D) (by rw [if_neg (by omega)]) htb.1 htb.2.1 hta htb.2.2
        obtain ⟨o1, o2, o3, o4⟩ := ho
        rw [e1, o1]
        rcases o4 with ⟨h1, h2, h3, h4, h5⟩ | ⟨h1, h2, h3⟩ | ⟨h1, h2, h3⟩
        · rw [h3, if_pos h1, if_neg (by omega), if_pos h1]
          have hw := h5.used
          have hn := h5.next
          have hp := put_agree h4 h2 (by rw [h5.newest]; simp only; omega) (by rw [hw, o3.2.2]; unfold slotsN; have := a.rf.sz; omega) wf hv
          rw [hw, hn] at hp
          have hf2 : (R.put (R.openT D (R.tl D)).1 { e with id := R.nextID D } 0).2.1.Fine ∧ (R.put (R.openT D (R.tl D)).1 { e with id := R.nextID D } 0).2.1.Like (R.openT D (R.tl D)).1 := rput_fine o2 _ _
          exact ⟨hp.1, hp.2.1, hf2.1, hf2.2.trans o3, rput_R.1, rput_R.2.1, rput_R.2.2⟩
        · rw [if_neg (by omega), if_neg (by omega), if_neg (by omega), h2, h3, h1]
          refine ⟨rfl, .inl ⟨?_, hd⟩, a.fine, Dev.Like.refl D, rfl, rfl, rfl⟩
          dsimp only [Lg.fell]
          rw [hd]
          exact a
        · rw [if_neg (by omega), if_pos h1, h3]
          refine ⟨by dsimp only; rw [h1], .inr ⟨?_, rfl, rfl, h2⟩, o2, o3, rfl, rfl, rfl⟩
          dsimp only [Lg.fell]
          rw [h2]; rfl
    · rw [if_neg hr, if_neg (hroom ▸ hr)]
      have hpb := R.place_bd a.fine
      have hu : R.place D = R.usedN D ∧ ¬ (R.newest D).1 = 0 ∧ R.usedN D < slotsN D.size.toNat := by
        rcases hpb with h | ⟨h0, h1, h2, h3⟩
        · omega
        · exact ⟨h3, h2, by omega⟩
      rw [hu.1]
      have hp := put_agree a hd (by omega) hu.2.2 wf hv
      have hf2 := rput_fine (R := R) a.fine { e with id := R.nextID D } (R.usedN D)
      exact ⟨hp.1, hp.2.1, hf2.1, hf2.2, rput_R.1, rput_R.2.1, rput_R.2.2⟩
theorem clear_agree {Y : Lg} {R : Rl} {D : Dev} (a : Agree Y R D) (hd : D.down = false) (r : Int) :
    (Y.clearUp D r).2 = (R.clear D r).2 ∧ Out (Y.clearUp D r).1 (R.clear D r).1 (R.clear D r).2.1 ∧ (R.clear D r).2.1.Fine ∧ (R.clear D r).2.1.Like D ∧ (R.clear D r).1.first = R.first ∧ (R.clear D r).1.S = R.S ∧ (R.clear D r).1.over = R.over := by
  have hq := R.newest_bd D
  have hS := a.rf.S2
  have hup : ¬ (R.ended || D.down) = true := by simp [a.re, hd]
  unfold Lg.clearUp Rl.clear
  have hc : (Y.held = false ∨ ¬ r = Y.num) = (R.held = false ∨ ¬ r = R.last) := by rw [a.held, a.num]
  rw [if_neg hup]
  simp only [hc]
  by_cases hg : R.held = false ∨ ¬ r = R.last
  · rw [if_pos hg, if_pos hg]
    exact ⟨rfl, .inl ⟨a, hd⟩, a.fine, Dev.Like.refl D, rfl, rfl, rfl⟩
  · rw [if_neg hg, if_neg hg]
    have hlen : Y.recs.length = (R.records D).length := by rw [← a.events]; simp [Lg.events]
    rw [hlen]
    have hag : ∀ {Z : Lg} {E : Dev}, Agree Z R E → Agree { Z with held := false, full := false } { R with held := false, refused := false } E := fun b =>
      ⟨b.first, b.S, b.over, b.newest, b.tail, b.recs, b.used, b.next, rfl, b.num, rfl, b.ye, b.re, b.fine, ⟨b.rf.f0, b.rf.S2, b.rf.fS, b.rf.sz, b.rf.l0, b.rf.l1⟩⟩
    by_cases h0 : 0 < (R.records D).length
    · rw [if_pos h0, if_pos h0]
      have ho := openT_agree a hd (x := 0) (t := (R.newest D).1 + 1) (by rw [if_pos rfl]) (by omega) (by omega) (by omega) (by omega)
      obtain ⟨o1, o2, o3, o4⟩ := ho
      rw [a.newest, o1]
      rcases o4 with ⟨h1, h2, h3, h4, h5⟩ | ⟨h1, h2, h3⟩ | ⟨h1, h2, h3⟩
      · rw [if_pos h1, if_neg (by omega), if_pos h1, h3]
        exact ⟨rfl, .inl ⟨hag h4, h2⟩, o2, o3, rfl, rfl, rfl⟩
      · rw [if_neg (by omega), if_neg (by omega), if_neg (by omega), h3, h2, h1]
        refine ⟨rfl, .inl ⟨?_, hd⟩, a.fine, Dev.Like.refl D, rfl, rfl, rfl⟩
        dsimp only [Lg.fell]
        rw [hd]
        exact a
      · rw [if_neg (by omega), if_pos h1, h3]
        refine ⟨by dsimp only; rw [h1], .inr ⟨?_, rfl, rfl, h2⟩, o2, o3, rfl, rfl, rfl⟩
        dsimp only [Lg.fell]
        rw [h2]; rfl
    · rw [if_neg h0, if_neg h0]
      exact ⟨rfl, .inl ⟨hag a, hd⟩, a.fine, Dev.Like.refl D, rfl, rfl, rfl⟩
end Go.Proofs.Ytbeiciinppmekaa
