/-
  eventlog.Open does what the model says; each contract's conditions are its premises.
-/
import Derived.Test.YtbeiciinppmekaaTb
import Derived.Test.YtbeiciinppmekaaRlogd
import Derived.Test.YtbeiciinppmekaaProg
namespace Go.Proofs.Ytbeiciinppmekaa
open Go Go.Sx Go.Proofs
set_option maxRecDepth 100000
set_option linter.unusedSimpArgs false
set_option linter.unusedVariables false
/-- A log before its sectors are looked at. -/
def Lg.nw (first S : Int) (over : Bool) (h : Int × Int) : Lg := ⟨first, S, over, h.1, h.2, 0, 1, [], false, 0, false, false⟩
def Lg.scan (R : Rl) (D : Dev) (t : Int) (k : Nat) (Y : Lg) : Lg := (List.range k).foldl (fun Y (i : Nat) => if (R.hdr D ((t + i - 1) % R.S)).1 = t + i then Y.load (R.sec D ((t + i - 1) % R.S)) (Hd.of (R.sec D ((t + i - 1) % R.S))) else Y) Y
theorem Lg.scan_succ (R : Rl) (D : Dev) (t : Int) (k : Nat) (Y : Lg) : Lg.scan R D t (k + 1) Y = if (R.hdr D ((t + k - 1) % R.S)).1 = t + k then (Lg.scan R D t k Y).load (R.sec D ((t + k - 1) % R.S)) (Hd.of (R.sec D ((t + k - 1) % R.S))) else Lg.scan R D t k Y := by
  unfold Lg.scan
  rw [List.range_succ, List.foldl_append]; rfl
/-- A log that is opened. -/
def openL (first S : Int) (over : Bool) (D : Dev) : Lg :=
  Lg.scan (Rl.open0 first S over) D ((Rl.open0 first S over).newest D).2 (if 1 ≤ ((Rl.open0 first S over).newest D).2 then (((Rl.open0 first S over).newest D).1 + 1 - ((Rl.open0 first S over).newest D).2).toNat else 0) (Lg.nw first S over ((Rl.open0 first S over).newest D))
def hdAt (R : Rl) (D : Dev) (i : Int) : Hd := if Hd.ok (R.sec D i) R.S i then Hd.of (R.sec D i) else ⟨0, 0, 0⟩
theorem hdAt_q (R : Rl) (D : Dev) (i : Int) : (hdAt R D i).q = (R.hdr D i).1 := by rw [R.hdr_sec]; unfold hdAt; split <;> rfl
/-- The heads of the first j sectors. -/
def headsN (R : Rl) (D : Dev) (j : Nat) : List Hd := (List.range R.S.toNat).map fun i => if i < j then hdAt R D i else ⟨0, 0, 0⟩
theorem headsN_len (R : Rl) (D : Dev) (j : Nat) : (headsN R D j).length = R.S.toNat := by simp [headsN]
theorem headsN_zero (R : Rl) (D : Dev) : headsN R D 0 = List.replicate R.S.toNat ⟨0, 0, 0⟩ := by
  apply List.ext_getElem
  · simp [headsN]
  · intro i h1 h2; simp [headsN]
theorem headsN_get {R : Rl} {D : Dev} {j i : Nat} (hi : i < R.S.toNat) (hj : i < j) : (headsN R D j)[i]? = some (hdAt R D i) := by
  unfold headsN
  rw [List.getElem?_map, List.getElem?_range hi, Option.map_some, if_pos hj]
theorem headsN_set {R : Rl} {D : Dev} {j : Nat} (hj : j < R.S.toNat) (h : Hd.ok (R.sec D j) R.S j = true) : (headsN R D j).set j (Hd.of (R.sec D j)) = headsN R D (j + 1) := by
  apply List.ext_getElem
  · simp [headsN]
  · intro i h1 h2
    rw [List.getElem_set]
    simp only [headsN, List.getElem_map, List.getElem_range]
    by_cases e : j = i
    · subst e
      rw [if_pos rfl, if_pos (by omega)]
      unfold hdAt
      rw [if_pos h]
    · rw [if_neg e]
      by_cases e2 : i < j
      · rw [if_pos e2, if_pos (by omega)]
      · rw [if_neg e2, if_neg (by omega)]
theorem headsN_no {R : Rl} {D : Dev} {j : Nat} (h : Hd.ok (R.sec D j) R.S j = false) : headsN R D j = headsN R D (j + 1) := by
  unfold headsN
  apply List.map_congr_left
  intro i _
  by_cases e2 : i < j
  · rw [if_pos e2, if_pos (by omega)]
  · rw [if_neg e2]
    by_cases e : i < j + 1
    · rw [if_pos e, show i = j by omega]
      unfold hdAt
      rw [if_neg (by simp [h])]
    · rw [if_neg e]
/-- The row of the sectors' bytes, of the first j sectors; the blocks of the bytes are in rest. -/
def RowOk (R : Rl) (D : Dev) (j : Nat) (row : List Value) (rest : Bl) : Prop :=
  row.length = R.S.toNat ∧ ∀ i : Nat, i < j → Hd.ok (R.sec D i) R.S i = true → ∃ q sp, row[i]? = some (.slice (some ⟨q, 0, none⟩) D.size.toNat (D.size.toNat + sp.length)) ∧ (some q, Blk.cells (vI .u8 (R.sec D i) ++ sp) 5) ∈ rest
theorem RowOk.set {R : Rl} {D : Dev} {j q : Nat} {row sp : List Value} {rest : Bl} (h : RowOk R D j row rest) (hj : j < R.S.toNat) : RowOk R D (j + 1) (row.set j (.slice (some ⟨q, 0, none⟩) D.size.toNat (D.size.toNat + sp.length))) ((some q, Blk.cells (vI .u8 (R.sec D j) ++ sp) 5) :: rest) := by
  refine ⟨by rw [List.length_set]; exact h.1, fun i hi hk => ?_⟩
  by_cases e : i = j
  · subst e
    exact ⟨q, sp, by rw [List.getElem?_set_self (by rw [h.1]; exact hj)], List.mem_cons_self ..⟩
  · obtain ⟨q', sp', h1, h2⟩ := h.2 i (by omega) hk
    exact ⟨q', sp', by rw [List.getElem?_set_ne (fun h => e h.symm)]; exact h1, List.mem_cons_of_mem _ h2⟩
theorem RowOk.no {R : Rl} {D : Dev} {j : Nat} {row : List Value} {rest : Bl} (h : RowOk R D j row rest) (hk : Hd.ok (R.sec D j) R.S j = false) : RowOk R D (j + 1) row rest := by
  refine ⟨h.1, fun i hi hk2 => ?_⟩
  by_cases e : i = j
  · subst e; rw [hk] at hk2; cases hk2
  · exact h.2 i (by omega) hk2
theorem Lg.load_newest (G : Lg) (xs : List Int) (h : Hd) : (G.load xs h).newest = G.newest ∧ (G.load xs h).tail = G.tail ∧ (G.load xs h).first = G.first ∧ (G.load xs h).S = G.S ∧ (G.load xs h).over = G.over ∧ (G.load xs h).full = G.full ∧ (G.load xs h).num = G.num ∧ (G.load xs h).held = G.held ∧ (G.load xs h).ended = G.ended := by
  have h1 : ∀ (last : Bool) (q : Int) (G : Lg) (i : Nat), (Lg.load1 last q xs G i).newest = G.newest ∧ (Lg.load1 last q xs G i).tail = G.tail ∧ (Lg.load1 last q xs G i).first = G.first ∧ (Lg.load1 last q xs G i).S = G.S ∧ (Lg.load1 last q xs G i).over = G.over ∧ (Lg.load1 last q xs G i).full = G.full ∧ (Lg.load1 last q xs G i).num = G.num ∧ (Lg.load1 last q xs G i).held = G.held ∧ (Lg.load1 last q xs G i).ended = G.ended := by
    intro last q G i
    unfold Lg.load1
    by_cases h : (last && !blankL (slotL xs i)) = true
    · rw [if_pos h]; cases evOf (slotL xs i) <;> simp
    · rw [if_neg h]; cases evOf (slotL xs i) <;> simp
  have h2 : ∀ (last : Bool) (q : Int) (l : List Nat) (G : Lg), (l.foldl (Lg.load1 last q xs) G).newest = G.newest ∧ (l.foldl (Lg.load1 last q xs) G).tail = G.tail ∧ (l.foldl (Lg.load1 last q xs) G).first = G.first ∧ (l.foldl (Lg.load1 last q xs) G).S = G.S ∧ (l.foldl (Lg.load1 last q xs) G).over = G.over ∧ (l.foldl (Lg.load1 last q xs) G).full = G.full ∧ (l.foldl (Lg.load1 last q xs) G).num = G.num ∧ (l.foldl (Lg.load1 last q xs) G).held = G.held ∧ (l.foldl (Lg.load1 last q xs) G).ended = G.ended := by
    intro last q l
    induction l with
    | nil => intro G; exact ⟨rfl, rfl, rfl, rfl, rfl, rfl, rfl, rfl, rfl⟩
    | cons i l ih =>
      intro G
      have a := ih (Lg.load1 last q xs G i)
      have b := h1 last q G i
      rw [List.foldl_cons]
      exact ⟨a.1.trans b.1, a.2.1.trans b.2.1, a.2.2.1.trans b.2.2.1, a.2.2.2.1.trans b.2.2.2.1, a.2.2.2.2.1.trans b.2.2.2.2.1, a.2.2.2.2.2.1.trans b.2.2.2.2.2.1, a.2.2.2.2.2.2.1.trans b.2.2.2.2.2.2.1, a.2.2.2.2.2.2.2.1.trans b.2.2.2.2.2.2.2.1, a.2.2.2.2.2.2.2.2.trans b.2.2.2.2.2.2.2.2⟩
  unfold Lg.load
  have := h2 (decide (h.q = G.newest)) h.q (List.range (slotsN xs.length)) (if h.q = G.newest then { G with next := h.id } else G)
  split at this <;> split <;> first | exact this | contradiction
theorem Lg.scan_newest (R : Rl) (D : Dev) (t : Int) (k : Nat) (Y : Lg) : (Lg.scan R D t k Y).newest = Y.newest ∧ (Lg.scan R D t k Y).tail = Y.tail ∧ (Lg.scan R D t k Y).first = Y.first ∧ (Lg.scan R D t k Y).S = Y.S ∧ (Lg.scan R D t k Y).over = Y.over ∧ (Lg.scan R D t k Y).full = Y.full ∧ (Lg.scan R D t k Y).num = Y.num ∧ (Lg.scan R D t k Y).held = Y.held ∧ (Lg.scan R D t k Y).ended = Y.ended := by
  induction k with
  | zero => exact ⟨rfl, rfl, rfl, rfl, rfl, rfl, rfl, rfl, rfl⟩
  | succ k ih =>
    rw [Lg.scan_succ]
    split
    · have b := (Lg.scan R D t k Y).load_newest (R.sec D ((t + k - 1) % R.S)) (Hd.of (R.sec D ((t + k - 1) % R.S)))
      exact ⟨b.1.trans ih.1, b.2.1.trans ih.2.1, b.2.2.1.trans ih.2.2.1, b.2.2.2.1.trans ih.2.2.2.1, b.2.2.2.2.1.trans ih.2.2.2.2.1, b.2.2.2.2.2.1.trans ih.2.2.2.2.2.1, b.2.2.2.2.2.2.1.trans ih.2.2.2.2.2.2.1, b.2.2.2.2.2.2.2.1.trans ih.2.2.2.2.2.2.2.1, b.2.2.2.2.2.2.2.2.trans ih.2.2.2.2.2.2.2.2⟩
    · exact ih
theorem noRoom_no {nw : Nat} {first S : Int} (h : noRoom nw first S = false) : 2 ≤ S ∧ S ≤ nw ∧ 0 ≤ first ∧ first + S ≤ nw := by
  simp only [noRoom, decide_eq_false_iff_not] at h
  omega
theorem Rl.open0_fine {D : Dev} {first S : Int} {over : Bool} (h : noRoom D.nw first S = false) (hsz : 64 ≤ D.size) : (Rl.open0 first S over).Fine D := by
  have := noRoom_no h
  exact ⟨this.2.2.1, this.1, this.2.2.2, hsz, Int.le_refl 0, by show (0 : Int) ≤ 65535; omega⟩
set_option maxHeartbeats 1600000 in
theorem goUp_ct (F : Fr) (db bb bw cb cw : Nat) (sb : List Value) (D : Dev) (hdb : F.h db = some (Blk.cells (devC D bb bw cb cw) 81).toObj) (hbb : F.h bb = some (Blk.cells (vI .u8 D.bytes ++ sb) 5).toObj) (fine : D.Fine) (hcb : D.n ≤ cb) (first S : Int) (over : Bool) (hno : noRoom D.nw first S = false) (hd : D.down = false) (hsz : 64 ≤ D.size) (hS : S ≤ 255) :
    Ct Try.prog F 17 [.pointer (some ⟨db, 0, none⟩), .int .i64 first, .int .i64 S, .bool over] [] (S := Nat × Option Nat × Nat × List Value) (fun x => (openL first S over D).recs.length * 11 + x.2.2.2.length = x.2.2.1 * 11 ∧ (x.2.1 = none → (openL first S over D).recs = [] ∧ x.2.2.2 = []) ∧ (openL first S over D).recs.length ≤ 16777216) (fun x => .tuple #[.pointer (some ⟨x.1, 0, none⟩), .int .i64 0]) (fun x => [(some x.1, .cells (lgC (openL first S over D) (some ⟨db, 0, none⟩) x.2.1 x.2.2.1) 85), (x.2.1, .cells ((openL first S over D).recs.flatMap recC ++ x.2.2.2) 90)]) := by
 have rf := Rl.open0_fine (over := over) hno hsz
 obtain ⟨R, hR⟩ : ∃ R, Rl.open0 first S over = R := ⟨_, rfl⟩
 rw [hR] at rf
 have hRS : R.S = S := by rw [← hR]; rfl
 have hRf : R.first = first := by rw [← hR]; rfl
 have hro := noRoom_no hno
 have hw := fine.ok.wlen
 have hln := fine.ok.len
 have z0 := fine.geo.size0
 have z1 := fine.geo.size1
 have z2 := fine.geo.all
 simp only [noRoom, decide_eq_false_iff_not] at hno
 refine Ct.of 142 [(0, _), (1, _), (2, _), (3, _)] Try.func17 rfl rfl rfl rfl ?_
 refine GC.seq (GC.region ?_)
 refine G.q Gd.no (Qt.asg rfl) rfl ?_
 refine G.q Gd.no (Qt.asg rfl) rfl ?_
 refine G.nil (GK.then (GC.seq (GC.seq (GC.region ?_))))
 refine G.q Gd.no (Qt.mv rfl) rfl ?_
 refine G.q Gd.no (Qt.lss rfl rfl) rfl ?_
 refine G.q Gd.no (Qt.mv rfl) rfl ?_
 apply G.orb (seg := [_, _])
 exact rfl
 exact rfl
 exact rfl
 exact Gd.no
 exact rfl
 exact rfl
 ·intro g3; try simp only [sB0, sB1, sB2, sB3, sB4, sB5, sB6, sB7, sB8] at g3
  refine G.q (Gd.yes rfl rfl) (Qt.mv rfl) rfl ?_
  refine G.q (Gd.yes rfl rfl) (Qt.lss rfl rfl) rfl ?_
  refine G.nil (GK.seg (n := [_, _]) rfl rfl rfl (by first | exact Tks.all _ | exact Tks.skip (Tks.all _) | exact Tks.skip (Tks.skip (Tks.all _)) | exact Tks.skip (Tks.skip (Tks.skip (Tks.all _)))))
 refine G.q Gd.no (Qt.mv rfl) rfl ?_
 apply G.orb (seg := [_, _, _, _])
 exact rfl
 exact rfl
 exact rfl
 exact Gd.no
 exact rfl
 exact rfl
 ·intro g7; try simp only [sB0, sB1, sB2, sB3, sB4, sB5, sB6, sB7, sB8] at g7
  refine G.q (Gd.yes rfl rfl) (Qt.mv rfl) rfl ?_
  refine G.q (Gd.yes rfl rfl) (Qt.mv rfl) rfl ?_
  refine G.ld (Gd.yes rfl rfl) (Ld.call cal48 rfl rfl (.nil _) (fun F' hF => sectors_ct F' _ _ _ _ _ _ (hF.fr hdb)) (fun _ _ => ?_))
  dsimp only [lCa, lNa]
  refine G.q (Gd.yes rfl rfl) (Qt.gtr rfl rfl) rfl ?_
  refine G.nil (GK.seg (n := [_, _, _, _]) rfl rfl rfl (by first | exact Tks.all _ | exact Tks.skip (Tks.all _) | exact Tks.skip (Tks.skip (Tks.all _)) | exact Tks.skip (Tks.skip (Tks.skip (Tks.all _)))))
 refine G.q Gd.no (Qt.mv rfl) rfl ?_
 apply G.orb (seg := [_, _, _, _, _, _])
 exact rfl
 exact rfl
 exact rfl
 exact Gd.no
 exact rfl
 exact rfl
 ·intro g13; try simp only [sB0, sB1, sB2, sB3, sB4, sB5, sB6, sB7, sB8] at g13
  refine G.q (Gd.yes rfl rfl) (Qt.mv rfl) rfl ?_
  refine G.q (Gd.yes rfl rfl) (Qt.mv rfl) rfl ?_
  refine G.ld (Gd.yes rfl rfl) (Ld.call cal48 rfl rfl (.nil _) (fun F' hF => sectors_ct F' _ _ _ _ _ _ (hF.fr hdb)) (fun _ _ => ?_))
  dsimp only [lCa, lNa]
  refine G.q (Gd.yes rfl rfl) (Qt.mv rfl) rfl ?_
  refine G.q (Gd.yes rfl rfl) (Qt.sub rfl rfl (by first | exact i64_id (by omega) (by omega) | exact rfl)) rfl ?_
  refine G.q (Gd.yes rfl rfl) (Qt.gtr rfl rfl) rfl ?_
  refine G.nil (GK.seg (n := [_, _, _, _, _, _]) rfl rfl rfl (by first | exact Tks.all _ | exact Tks.skip (Tks.all _) | exact Tks.skip (Tks.skip (Tks.all _)) | exact Tks.skip (Tks.skip (Tks.skip (Tks.all _)))))
 refine G.nil (GK.then ?_)
 refine GC.condb rfl (fun c0 => ?_) (fun c0 => ?_)
 ·try simp only [sB0, sB1, sB2, sB3, sB4, sB5, sB6, sB7, sB8] at c0
  omega
 ·try simp only [sB0, sB1, sB2, sB3, sB4, sB5, sB6, sB7, sB8] at c0
  refine GC.skip (GK.then (GC.seq (GC.region ?_)))
  refine G.q Gd.no (Qt.mv rfl) rfl ?_
  refine G.q Gd.no (Qt.mv rfl) rfl ?_
  refine G.q Gd.no (Qt.mv rfl) rfl ?_
  refine G.q Gd.no (Qt.mv rfl) rfl ?_
  refine G.q Gd.no (Qt.buildS Try.underlying85 pl85 ze85 (.cons rfl rfl (by first | exact Cl.one rfl | exact Cl.agg) rfl (SetM.cons SetAt.k0 (.nil _ _)) (.cons rfl rfl (by first | exact Cl.one rfl | exact Cl.agg) rfl (SetM.cons SetAt.k1 (.nil _ _)) (.cons rfl rfl (by first | exact Cl.one rfl | exact Cl.agg) rfl (SetM.cons SetAt.k2 (.nil _ _)) (.cons rfl rfl (by first | exact Cl.one rfl | exact Cl.agg) rfl (SetM.cons SetAt.k3 (.nil _ _)) (.cons rfl rfl (by first | exact Cl.one rfl | exact Cl.agg) rfl (SetM.cons SetAt.k7 (.nil _ _)) (.nil _))))))) rfl ?_
  refine G.ld Gd.no (Ld.box rfl rfl (by first | exact Cl.one rfl | exact Cl.agg) (fun b45 => ?_))
  refine G.q Gd.no (Qt.asg rfl) rfl ?_
  refine G.nil (GK.then (GC.seq (GC.region ?_)))
  refine G.q Gd.no (Qt.mv rfl) rfl ?_
  refine G.ld Gd.no (Ld.mks Try.underlying92 z53 by53 ze53 rfl rfl rfl rfl (by omega) rfl (by omega) (by omega) (fun b47 => ?_))
  have hrow0 : RowOk R D 0 (List.replicate S.toNat (Value.slice none 0 0)) [] := ⟨by rw [hRS]; simp, fun i hi => by omega⟩
  refine G.q Gd.no (Qt.asg rfl) rfl ?_
  refine G.nil (GK.then (GC.seq (GC.region ?_)))
  refine G.q Gd.no (Qt.mv rfl) rfl ?_
  refine G.ld Gd.no (Ld.mksS Try.underlying93 z96 by96 ze96 Cl.agg (by rfl) (by decide) rfl rfl rfl (by omega) rfl (by omega) (by omega) (fun b49 => ?_))
  rw [show (List.replicate S.toNat [Value.int .i64 0, .int .i64 0, .int .u16 0]).flatten = (headsN R D 0).flatMap hdC ++ [] from by rw [headsN_zero, List.append_nil, hRS, ← flatten_rep]; rfl]
  refine G.q Gd.no (Qt.asg rfl) rfl ?_
  refine G.nil (GK.then (GC.seq (GC.seq (GC.region ?_))))
  refine G.q Gd.no (Qt.mv rfl) rfl ?_
  refine G.q Gd.no (Qt.mv rfl) rfl ?_
  refine G.nil (GK.then (GC.block ?_))
  refine GC.loop (S := Nat × List Value × Bl) (fun x => (x.1 : Int) ≤ S ∧ RowOk R D x.1 x.2.1 x.2.2) (fun x => S.toNat - x.1)
   (fun x => [(0, .pointer (some ⟨db, 0, none⟩)), (1, .int .i64 first), (2, .int .i64 S), (10, .pointer (some ⟨b45, 0, none⟩)), (11, .slice (some ⟨b47, 0, none⟩) S.toNat S.toNat), (12, .slice (some ⟨b49, 0, none⟩) S.toNat S.toNat), (50, .int .i64 S), (51, .int .i64 (x.1 : Int))]) (fun x => (some b45, .cells (lgC (Lg.nw first S over (R.newestN D x.1)) (some ⟨db, 0, none⟩) none 0) 85) :: (some b47, .cells x.2.1 53) :: (some b49, .cells ((headsN R D x.1).flatMap hdC ++ []) 96) :: x.2.2) (0, List.replicate S.toNat (Value.slice none 0 0), []) ?_ ?_ ?_ ?_
  ·exact ⟨by simp only [Int.natCast_zero]; omega, hrow0⟩
  ·exact ⟨rfl, rfl, rfl, rfl, rfl, rfl, rfl, rfl, trivial⟩
  ·exact ⟨_, (Tks.c (Tks.c (Tks.c (.nil _))))⟩
  intro ⟨j, row, rest⟩ ⟨h1, hrow⟩
  simp only at h1 hrow
  refine GC.seq (GC.region ?_)
  refine G.q Gd.no (Qt.lss rfl rfl) rfl ?_
  refine G.nil (GK.then (GC.seq ?_))
  refine GC.condb rfl (fun c1 => ?_) (fun c1 => ?_)
  ·try simp only [sB0, sB1, sB2, sB3, sB4, sB5, sB6, sB7, sB8] at c1
   have hj0 : (0 : Int) ≤ j := by omega
   have hj1 : (j : Int) < R.S := by omega
   have hbd := Rl.base_bd fine rf hj0 hj1
   have hbe : R.base D j = (first + j) * D.size := by unfold Rl.base; rw [hRf]
   have hsl := R.sec_len fine rf hj0 hj1
   have hsb : Bytes (R.sec D j) := secL_bytes fine _
   have hse : (D.bytes.drop (R.base D j).toNat).take D.size.toNat = R.sec D j := rfl
   have hrl := hrow.1
   rw [hRS] at hrl
   have hhl := headsN_len R D j
   rw [hRS] at hhl
   have hns := R.newestN_succ D j
   have hhs := R.hdr_sec D j
   refine GC.skip (GK.then (GC.seq (GC.block (GC.seq (GC.region ?_)))))
   refine G.q Gd.no (Qt.mv rfl) rfl ?_
   refine G.q Gd.no (Qt.asg rfl) rfl ?_
   refine G.nil (GK.then (GC.seq (GC.region ?_)))
   refine G.q Gd.no (Qt.mv rfl) rfl ?_
   refine G.q Gd.no (Qt.mv rfl) rfl ?_
   refine G.q Gd.no (Qt.mv rfl) rfl ?_
   refine G.q Gd.no (Qt.add rfl rfl (by first | exact i64_id (by omega) (by omega) | exact rfl)) rfl ?_
   refine G.q Gd.no (Qt.mv rfl) rfl ?_
   refine G.ld Gd.no (Ld.call cal44 rfl rfl (.nil _) (fun F' hF => size_ct F' _ _ _ _ _ _ (hF.fr hdb)) (fun _ _ => ?_))
   dsimp only [lCa, lNa]
   refine G.q Gd.no (Qt.mul rfl rfl (by exact i64_id (by omega) (by omega))) rfl ?_
   rw [← hbe]
   refine G.q Gd.no (Qt.mv rfl) rfl ?_
   refine G.ld Gd.no (Ld.call cal44 rfl rfl (.nil _) (fun F' hF => size_ct F' _ _ _ _ _ _ (hF.fr hdb)) (fun _ _ => ?_))
   dsimp only [lCa, lNa]
   refine G.ld Gd.no (Ld.call cal49 rfl rfl (.nil _) (fun F' hF => read_ct F' _ _ _ _ _ _ _ (hF.fr hdb) (hF.fr hbb) fine.ok hcb _ _ hd (by omega) (by omega) (by omega)) (fun ⟨qj, spj⟩ _ => ?_))
   dsimp only [lCa, lNa]
   rw [hse]
   refine G.q Gd.no (Qt.mv rfl) rfl ?_
   refine G.q Gd.no (Qt.ext rfl rfl) rfl ?_
   refine G.q Gd.no (Qt.ext rfl rfl) rfl ?_
   refine G.q Gd.no (Qt.asg rfl) rfl ?_
   refine G.q Gd.no (Qt.asg rfl) rfl ?_
   refine G.nil (GK.then (GC.seq (GC.seq (GC.region ?_))))
   refine G.q Gd.no (Qt.mv rfl) rfl ?_
   refine G.q Gd.no (Qt.neI rfl rfl) rfl ?_
   refine G.nil (GK.then ?_)
   refine GC.condf rfl ?_
   refine GC.skip (GK.then (GC.seq (GC.region ?_)))
   refine G.q Gd.no (Qt.mv rfl) rfl ?_
   refine G.q Gd.no (Qt.mv rfl) rfl ?_
   refine G.q Gd.no (Qt.mv rfl) rfl ?_
   refine G.ld Gd.no (Ld.call cal50 rfl rfl (.nil _) (fun F' hF => header_ct F' b45 (some ⟨db, 0, none⟩) none 0 (Lg.nw first S over (R.newestN D j)) (hF.own In.o) ⟨qj, 0, none⟩ D.size.toNat _ (R.sec D j) (VwF.ofPre (hF.own In.o)) hsl (by omega) (by omega) hsb j hro.1 (by show S ≤ _; omega)) (fun _ _ => ?_))
   dsimp only [lCa, lNa]
   rw [show (Lg.nw first S over (R.newestN D j)).S = R.S from hRS.symm]
   refine G.q Gd.no (Qt.mv rfl) rfl ?_
   refine G.q Gd.no (Qt.ext rfl rfl) rfl ?_
   refine G.q Gd.no (Qt.ext rfl rfl) rfl ?_
   refine G.ld Gd.no (Ld.alloc rfl ze96 (by first | exact Cl.one rfl | exact Cl.agg) (fun b16 => ?_))
   refine G.ld Gd.no (Ld.stW (by exact z96) rfl rfl (hdC_one _) (E := 96) (by rfl) UpdC.u ?_)
   refine G.q Gd.no (Qt.asg rfl) rfl ?_
   refine G.nil (GK.then (GC.seq (GC.region ?_)))
   refine G.q Gd.no (Qt.mv rfl) rfl ?_
   refine G.nil (GK.then ?_)
   refine GC.condb rfl (fun c3 => ?_) (fun c3 => ?_)
   ·try simp only [sB0, sB1, sB2, sB3, sB4, sB5, sB6, sB7, sB8] at c3
    rw [if_pos c3] at hhs
    refine GC.seq ?_
    refine GC.draw mixed _ (Held.tk (b := some b16) Held.none) ?_
    refine GT 0 1 rfl (by kernel_rfl) rfl rfl Gd.no (Qt.mv rfl) Held.c ?_
    refine GT 1 3 rfl (by kernel_rfl) rfl rfl Gd.no (Qt.mv rfl) Held.c ?_
    refine GT 2 7 rfl (by kernel_rfl) rfl rfl Gd.no (Qt.mv rfl) Held.c ?_
    refine GT 3 15 rfl (by kernel_rfl) rfl rfl Gd.no (Qt.mv rfl) Held.c ?_
    refine GT 4 31 rfl (by kernel_rfl) rfl rfl Gd.no (Qt.mv rfl) Held.c ?_
    refine GT 5 63 rfl (by kernel_rfl) rfl rfl Gd.no (Qt.ldW a96 rfl Rd.o z96) Held.c ?_
    refine GT 6 127 rfl (by kernel_rfl) rfl rfl Gd.no (Qt.iab01 Try.underlying92 z53 rfl rfl (by omega) (by omega) (show ((j : Nat) : Int).toNat = j from rfl)) Held.c ?_
    refine GO 7 255 (by kernel_rfl) rfl rfl Gd.no (Ld.sti z53 rfl rfl rfl (by omega) UpdC.u ?_)
    refine ⟨Held.c, ?_⟩
    refine GT 8 511 rfl (by kernel_rfl) rfl rfl Gd.no (Qt.iab0 Try.underlying93 z96 rfl rfl (by omega) (by omega) (show ((j : Nat) : Int).toNat = j from rfl)) Held.c ?_
    refine GO 9 1023 (by kernel_rfl) rfl rfl Gd.no (Ld.stA (by exact z96) rfl rfl (hdC_one _) (E := 96) (cs := (headsN R D j).flatMap hdC ++ []) (by rw [List.length_append, flatMap_len hdC_len, hdC_len]; omega) (set_flatMap hdC_len (headsN R D j) [] j (Hd.of (R.sec D j)) (by omega)) UpdC.u ?_)
    refine ⟨Held.c, ?_⟩
    rw [headsN_set (by omega) c3]
    refine GH.done (by kernel_rfl) ?_
    refine GK.then (GC.seq ?_)
    refine GC.draw mixed _ (Held.tk (b := some b16) (Held.tk (b := some b45) Held.none)) ?_
    refine GT 0 1 rfl (by kernel_rfl) rfl rfl Gd.no (Qt.fa0 fl96_0 rfl) Held.c ?_
    refine GT 1 3 rfl (by kernel_rfl) rfl rfl Gd.no (Qt.ldc a3 rfl (by first | exact Rdc.o rfl | exact Rdc.o (nth_vIs (by omega)) | exact Rdc.o (nth_vI (by omega)) | exact Rdc.f hdb rfl)) Held.c ?_
    refine GT 2 7 rfl (by kernel_rfl) rfl rfl Gd.no (Qt.mv rfl) Held.c ?_
    refine GT 3 15 rfl (by kernel_rfl) rfl rfl Gd.no (Qt.nilc rfl) Held.c ?_
    refine GT 4 31 rfl (by kernel_rfl) rfl rfl Gd.no (Qt.fa0 fl85_4 rfl) Held.c ?_
    refine GT 5 63 rfl (by kernel_rfl) rfl rfl Gd.no (Qt.ldc a3 rfl (by first | exact Rdc.o rfl | exact Rdc.o (nth_vIs (by omega)) | exact Rdc.o (nth_vI (by omega)) | exact Rdc.f hdb rfl)) Held.c ?_
    refine GT 6 127 rfl (by kernel_rfl) rfl rfl Gd.no (Qt.gtr rfl rfl) Held.c ?_
    refine GH.done (by kernel_rfl) ?_
    refine GK.then ?_
    refine GC.condb rfl (fun c4 => ?_) (fun c4 => ?_)
    ·try simp only [sB0, sB1, sB2, sB3, sB4, sB5, sB6, sB7, sB8] at c4
     refine GC.draw mixed _ (Held.tk (b := some b16) Held.none) ?_
     refine GT 0 1 rfl (by kernel_rfl) rfl rfl Gd.no (Qt.mv rfl) Held.c ?_
     refine GT 1 3 rfl (by kernel_rfl) rfl rfl Gd.no (Qt.mv rfl) Held.c ?_
     refine GT 2 7 rfl (by kernel_rfl) rfl rfl Gd.no (Qt.fa0 fl96_0 rfl) Held.c ?_
     refine GT 3 15 rfl (by kernel_rfl) rfl rfl Gd.no (Qt.ldc a3 rfl (by first | exact Rdc.o rfl | exact Rdc.o (nth_vIs (by omega)) | exact Rdc.o (nth_vI (by omega)) | exact Rdc.f hdb rfl)) Held.c ?_
     refine GT 4 31 rfl (by kernel_rfl) rfl rfl Gd.no (Qt.fa0 fl96_1 rfl) Held.c ?_
     refine GT 5 63 rfl (by kernel_rfl) rfl rfl Gd.no (Qt.ldc a3 rfl (by first | exact Rdc.o rfl | exact Rdc.o (nth_vIs (by omega)) | exact Rdc.o (nth_vI (by omega)) | exact Rdc.f hdb rfl)) Held.c ?_
     refine GT 6 127 rfl (by kernel_rfl) rfl rfl Gd.no (Qt.nilc rfl) Held.c ?_
     refine GT 7 255 rfl (by kernel_rfl) rfl rfl Gd.no (Qt.fa0 fl85_4 rfl) Held.c ?_
     refine GO 8 511 (by kernel_rfl) rfl rfl Gd.no (Ld.stc z3 rfl rfl rfl (Stc.o SetAt.k4) ?_)
     refine ⟨Held.c, ?_⟩
     refine GT 9 1023 rfl (by kernel_rfl) rfl rfl Gd.no (Qt.nilc rfl) Held.c ?_
     refine GT 10 2047 rfl (by kernel_rfl) rfl rfl Gd.no (Qt.fa0 fl85_5 rfl) Held.c ?_
     refine GO 11 4095 (by kernel_rfl) rfl rfl Gd.no (Ld.stc z3 rfl rfl rfl (Stc.o SetAt.k5) ?_)
     refine ⟨Held.c, ?_⟩
     refine GH.done (by kernel_rfl) ?_
     refine GK.blockn (GK.then (GC.region ?_))
     refine G.q Gd.no (Qt.add rfl rfl (by first | exact i64_id (by omega) (by omega) | exact rfl)) rfl ?_
     refine G.q Gd.no (Qt.mv rfl) rfl ?_
     refine G.nil ?_
     rw [if_pos (by rw [hhs]; exact c4), hhs] at hns
     refine GK.head (j + 1, row.set j (.slice (some ⟨qj, 0, none⟩) D.size.toNat (D.size.toNat + spj.length)), (some qj, .cells (vI .u8 (R.sec D j) ++ spj) 5) :: rest) ?_ ?_ ?_ ?_
     ·simp only; omega
     ·exact ⟨by simp only; omega, hrow.set (by omega)⟩
     ·exact ⟨rfl, rfl, rfl, rfl, rfl, rfl, rfl, rfl, trivial⟩
     ·(simp only [hns]; exact Held.tk (b := some b45) (Held.tk (b := some b47) (Held.tk (b := some b49) (Held.tk (b := some qj) (Held.d Held.all)))))
    ·try simp only [sB0, sB1, sB2, sB3, sB4, sB5, sB6, sB7, sB8] at c4
     refine GC.skip (GK.blockn (GK.then (GC.region ?_)))
     refine G.q Gd.no (Qt.add rfl rfl (by first | exact i64_id (by omega) (by omega) | exact rfl)) rfl ?_
     refine G.q Gd.no (Qt.mv rfl) rfl ?_
     refine G.nil ?_
     rw [if_neg (by rw [hhs]; exact c4)] at hns
     refine GK.head (j + 1, row.set j (.slice (some ⟨qj, 0, none⟩) D.size.toNat (D.size.toNat + spj.length)), (some qj, .cells (vI .u8 (R.sec D j) ++ spj) 5) :: rest) ?_ ?_ ?_ ?_
     ·simp only; omega
     ·exact ⟨by simp only; omega, hrow.set (by omega)⟩
     ·exact ⟨rfl, rfl, rfl, rfl, rfl, rfl, rfl, rfl, trivial⟩
     ·(simp only [hns]; exact Held.tk (b := some b45) (Held.tk (b := some b47) (Held.tk (b := some b49) (Held.tk (b := some qj) (Held.d Held.all)))))
   ·try simp only [sB0, sB1, sB2, sB3, sB4, sB5, sB6, sB7, sB8] at c3
    rw [if_neg (by simp [c3])] at hhs
    refine GC.skip (GK.blockn (GK.then (GC.region ?_)))
    refine G.q Gd.no (Qt.add rfl rfl (by first | exact i64_id (by omega) (by omega) | exact rfl)) rfl ?_
    refine G.q Gd.no (Qt.mv rfl) rfl ?_
    refine G.nil ?_
    have hnn := (R.newestN_bd (D := D) j).1
    rw [if_neg (by rw [hhs]; rcases hnn with h | ⟨i, _, h, h2⟩ <;> (rw [h]; simp only; omega))] at hns
    refine GK.head (j + 1, row, rest) ?_ ?_ ?_ ?_
    ·simp only; omega
    ·exact ⟨by simp only; omega, hrow.no c3⟩
    ·exact ⟨rfl, rfl, rfl, rfl, rfl, rfl, rfl, rfl, trivial⟩
    ·(simp only [hns, ← headsN_no c3]; exact Held.tk (b := some b45) (Held.tk (b := some b47) (Held.tk (b := some b49) (Held.d (Held.d Held.all)))))
  ·try simp only [sB0, sB1, sB2, sB3, sB4, sB5, sB6, sB7, sB8] at c1
   obtain rfl : j = R.S.toNat := by omega
   rw [show R.newestN D R.S.toNat = R.newest D from rfl]
   obtain ⟨q, t, hnew⟩ : ∃ q t, R.newest D = (q, t) := ⟨_, _, rfl⟩
   have hq := R.newest_bd D
   rw [hnew] at hq
   dsimp only at hq
   obtain ⟨hq0, hq1, hq2, hq3, hq4⟩ := hq
   rw [hnew]
   have hop : openL first S over D = Lg.scan R D t (if 1 ≤ t then (q + 1 - t).toNat else 0) (Lg.nw first S over (q, t)) := by unfold openL; rw [hR, hnew]
   have hsc := fun k => Lg.scan_newest R D t k (Lg.nw first S over (q, t))
   refine GC.exit (GK.thene (GK.thene (GK.blocke (GK.then (GC.seq (GC.seq (GC.region ?_)))))))
   refine G.q Gd.no (Qt.mv rfl) rfl ?_
   refine G.q Gd.no (Qt.nilc rfl) rfl ?_
   refine G.q Gd.no (Qt.fa0 fl85_5 rfl) rfl ?_
   refine G.q Gd.no (Qt.ldc a3 rfl (by first | exact Rdc.o rfl | exact Rdc.o (nth_vIs (by omega)) | exact Rdc.o (nth_vI (by omega)) | exact Rdc.f hdb rfl)) rfl ?_
   refine G.q Gd.no (Qt.asg rfl) rfl ?_
   refine G.nil (GK.then (GC.block ?_))
   refine GC.addNil (.cells (([] : List (Int × Ev)).flatMap recC ++ []) 90) ?_
   refine GC.loop (S := Nat × Option Nat × Nat × List Value) (fun x => t + x.1 ≤ q + 1 ∧ (t ≤ 0 → x.1 = 0) ∧ (Lg.scan R D t x.1 (Lg.nw first S over (q, t))).recs.length * 11 + x.2.2.2.length = x.2.2.1 * 11 ∧ (x.2.1 = none → (Lg.scan R D t x.1 (Lg.nw first S over (q, t))).recs = [] ∧ x.2.2.2 = []) ∧ (Lg.scan R D t x.1 (Lg.nw first S over (q, t))).recs.length ≤ x.1 * 65536) (fun x => (q + 1 - t).toNat - x.1)
    (fun x => [(2, .int .i64 S), (10, .pointer (some ⟨b45, 0, none⟩)), (11, .slice (some ⟨b47, 0, none⟩) S.toNat S.toNat), (12, .slice (some ⟨b49, 0, none⟩) S.toNat S.toNat), (18, .int .i64 (t + x.1))]) (fun x => (some b45, .cells (lgC (Lg.scan R D t x.1 (Lg.nw first S over (q, t))) (some ⟨db, 0, none⟩) x.2.1 x.2.2.1) 85) :: (x.2.1, .cells ((Lg.scan R D t x.1 (Lg.nw first S over (q, t))).recs.flatMap recC ++ x.2.2.2) 90) :: (some b47, .cells row 53) :: (some b49, .cells ((headsN R D R.S.toNat).flatMap hdC ++ []) 96) :: rest) (0, none, 0, []) ?_ ?_ ?_ ?_
   ·exact ⟨by simp; omega, fun _ => rfl, rfl, fun _ => ⟨rfl, rfl⟩, Nat.zero_le _⟩
   ·exact ⟨rfl, rfl, rfl, rfl, by rw [show t + ((0 : Nat) : Int) = t by omega]; rfl, trivial⟩
   ·exact Held.tk (b := some b45) (Held.tk (b := none) Held.all)
   intro ⟨i, ob, cc, sp⟩ ⟨h2, h9, h3, h4, h6⟩
   simp only at h2 h9 h3 h4 h6
   obtain ⟨Z, hZ⟩ : ∃ Z, Lg.scan R D t i (Lg.nw first S over (q, t)) = Z := ⟨_, rfl⟩
   have hZn := hsc i
   rw [hZ] at hZn h3 h4 h6
   have hZnw : Z.newest = q := hZn.1
   simp only [hZ]
   have hsu := Lg.scan_succ R D t i (Lg.nw first S over (q, t))
   rw [hZ] at hsu
   refine GC.seq (GC.seq (GC.region ?_))
   refine G.q Gd.no (Qt.mv rfl) rfl ?_
   refine G.q Gd.no (Qt.mv rfl) rfl ?_
   refine G.q Gd.no (Qt.nilc rfl) rfl ?_
   refine G.q Gd.no (Qt.fa0 fl85_4 rfl) rfl ?_
   refine G.q Gd.no (Qt.ldc a3 rfl (by first | exact Rdc.o rfl | exact Rdc.o (nth_vIs (by omega)) | exact Rdc.o (nth_vI (by omega)) | exact Rdc.f hdb rfl)) rfl ?_
   rw [hZnw]
   refine G.q Gd.no (Qt.leq rfl rfl) rfl ?_
   refine G.q Gd.no (Qt.mv rfl) rfl ?_
   apply G.andb (seg := [_, _])
   exact rfl
   exact rfl
   exact rfl
   exact Gd.no
   exact rfl
   exact rfl
   ·intro g7; try simp only [sB0, sB1, sB2, sB3, sB4, sB5, sB6, sB7, sB8] at g7
    refine G.q (Gd.yes rfl rfl) (Qt.mv rfl) rfl ?_
    refine G.q (Gd.yes rfl rfl) (Qt.gtr rfl rfl) rfl ?_
    refine G.nil (GK.seg (n := [_, _]) rfl rfl rfl (by first | exact Tks.all _ | exact Tks.skip (Tks.all _) | exact Tks.skip (Tks.skip (Tks.all _)) | exact Tks.skip (Tks.skip (Tks.skip (Tks.all _)))))
   refine G.nil (GK.then ?_)
   refine GC.condb rfl (fun c5 => ?_) (fun c5 => ?_)
   ·try simp only [sB0, sB1, sB2, sB3, sB4, sB5, sB6, sB7, sB8] at c5
    have hm0 := Int.emod_nonneg (t + i - 1) (show R.S ≠ 0 by omega)
    have hm1 := Int.emod_lt_of_pos (t + i - 1) (show 0 < R.S by omega)
    have hi2 : i ≤ 254 := by omega
    have hle2 : i * 65536 ≤ 254 * 65536 := Nat.mul_le_mul_right _ hi2
    obtain ⟨k, hk⟩ : ∃ k : Nat, (t + i - 1) % R.S = k := ⟨((t + i - 1) % R.S).toNat, by omega⟩
    rw [hk] at hm0 hm1 hsu
    have hkl : k < S.toNat := by omega
    have hhg := headsN_get (R := R) (D := D) (j := R.S.toNat) (i := k) (by omega) (by omega)
    have hhl := headsN_len R D R.S.toNat
    have hrl := hrow.1
    rw [hRS] at hrl hhl
    refine GC.skip (GK.then (GC.seq (GC.block (GC.seq (GC.region ?_)))))
    refine G.q Gd.no (Qt.mv rfl) rfl ?_
    refine G.q Gd.no (Qt.sub rfl rfl (by first | exact i64_id (by omega) (by omega) | exact rfl)) rfl ?_
    refine G.q Gd.no (Qt.mv rfl) rfl ?_
    refine G.q Gd.no (Qt.rem rfl rfl (by omega) (by first | exact rem_nn (by omega) | exact rfl)) rfl ?_
    rw [show (t + (i : Int) - 1) % S = k from by rw [← hRS]; exact hk]
    refine G.q Gd.no (Qt.asg rfl) rfl ?_
    refine G.nil (GK.then (GC.seq (GC.region ?_)))
    refine G.q Gd.no (Qt.mv rfl) rfl ?_
    refine G.q Gd.no (Qt.mv rfl) rfl ?_
    refine G.q Gd.no (Qt.iab0 Try.underlying93 z96 rfl rfl (by omega) (by omega) (show ((k : Nat) : Int).toNat = k from rfl)) rfl ?_
    refine G.q Gd.no (Qt.fa fl96_0 rfl) rfl ?_
    refine G.q Gd.no (Qt.ldc a3 rfl (Rdc.o (v := .int .i64 (hdAt R D k).q) (by rw [nth_flatMap hdC_len hhg (by decide)]; rfl))) rfl ?_
    rw [hdAt_q]
    refine G.q Gd.no (Qt.mv rfl) rfl ?_
    refine G.q Gd.no (Qt.eqI rfl rfl) rfl ?_
    refine G.nil (GK.then ?_)
    refine GC.condb rfl (fun c6 => ?_) (fun c6 => ?_)
    ·try simp only [sB0, sB1, sB2, sB3, sB4, sB5, sB6, sB7, sB8] at c6
     have hok : Hd.ok (R.sec D k) R.S k = true := by
      cases h : Hd.ok (R.sec D k) R.S k with
      | true => rfl
      | false => (rw [R.hdr_sec, h] at c6; simp only [Bool.false_eq_true, if_false] at c6; omega)
     obtain ⟨qk, spk, hrk, hbk⟩ := hrow.2 k (by omega) hok
     have hha : hdAt R D k = Hd.of (R.sec D k) := by unfold hdAt; rw [if_pos hok]
     rw [hha] at hhg
     have hsl := R.sec_len fine rf hm0 hm1
     have hsb : Bytes (R.sec D k) := secL_bytes fine _
     rw [if_pos c6] at hsu
     rw [← hsl] at hrk
     refine GC.draw mixed _ (Held.tk (b := some b47) (Held.tk (b := some b49) Held.none)) ?_
     refine GT 0 1 rfl (by kernel_rfl) rfl rfl Gd.no (Qt.mv rfl) Held.c ?_
     refine GT 1 3 rfl (by kernel_rfl) rfl rfl Gd.no (Qt.mv rfl) Held.c ?_
     refine GT 2 7 rfl (by kernel_rfl) rfl rfl Gd.no (Qt.mv rfl) Held.c ?_
     refine GT 3 15 rfl (by kernel_rfl) rfl rfl Gd.no (Qt.iab01 Try.underlying92 z53 rfl rfl (by omega) (by omega) (show ((k : Nat) : Int).toNat = k from rfl)) Held.c ?_
     refine GT 4 31 rfl (by kernel_rfl) rfl rfl Gd.no (Qt.ldc a53 rfl (Rdc.o hrk)) Held.c ?_
     refine GT 5 63 rfl (by kernel_rfl) rfl rfl Gd.no (Qt.mv rfl) Held.c ?_
     refine GT 6 127 rfl (by kernel_rfl) rfl rfl Gd.no (Qt.mv rfl) Held.c ?_
     refine GT 7 255 rfl (by kernel_rfl) rfl rfl Gd.no (Qt.iab0 Try.underlying93 z96 rfl rfl (by omega) (by omega) (show ((k : Nat) : Int).toNat = k from rfl)) Held.c ?_
     refine GT 8 511 rfl (by kernel_rfl) rfl rfl Gd.no (Qt.ldV a96 rfl z96 (vs := hdC (Hd.of (R.sec D k))) (Vw.el hdC_len Rd.o hhg)) Held.c ?_
     refine GO 9 1023 (by kernel_rfl) rfl rfl Gd.no (Ld.call cal51 rfl rfl (Tks.c (Tks.c (.nil _))) (fun F' hF => load_ct F' b45 (some ⟨db, 0, none⟩) ob cc sp Z ⟨qk, 0, none⟩ ((R.sec D k).length + spk.length) (R.sec D k) (Hd.of (R.sec D k)) (VwF.ofPre (hF.own (List.mem_cons_of_mem _ (List.mem_cons_of_mem _ hbk)))) (by omega) (by omega) (by omega) hsb h3 h4 (by omega)) (fun ⟨ob2, cc2, sp2⟩ ⟨h3b, h4b, h6b⟩ => ?_))
     dsimp only [lCa, lNa]
     simp only at h3b h4b h6b
     refine ⟨Held.c, ?_⟩
     refine GH.done (by kernel_rfl) ?_
     refine GK.blockn (GK.then (GC.region ?_))
     refine G.q Gd.no (Qt.mv rfl) rfl ?_
     refine G.q Gd.no (Qt.add rfl rfl (by first | exact i64_id (by omega) (by omega) | exact rfl)) rfl ?_
     refine G.q Gd.no (Qt.asg rfl) rfl ?_
     refine G.nil ?_
     rw [← hsu] at h3b h4b h6b
     rw [show t + (i : Int) + 1 = t + ((i + 1 : Nat) : Int) by omega]
     refine GK.head (i + 1, ob2, cc2, sp2) ?_ ?_ ?_ ?_
     ·simp only; omega
     ·exact ⟨by simp only; omega, fun e => by omega, h3b, h4b, by simp only; unfold slotsN at h6b; omega⟩
     ·exact ⟨rfl, rfl, rfl, rfl, rfl, trivial⟩
     ·(simp only [hsu]; exact Held.tk (b := some b45) (Held.tk (b := ob2) (Held.tk (b := some b47) (Held.tk (b := some b49) Held.all))))
    ·try simp only [sB0, sB1, sB2, sB3, sB4, sB5, sB6, sB7, sB8] at c6
     rw [if_neg c6] at hsu
     refine GC.skip (GK.blockn (GK.then (GC.region ?_)))
     refine G.q Gd.no (Qt.mv rfl) rfl ?_
     refine G.q Gd.no (Qt.add rfl rfl (by first | exact i64_id (by omega) (by omega) | exact rfl)) rfl ?_
     refine G.q Gd.no (Qt.asg rfl) rfl ?_
     refine G.nil ?_
     rw [← hsu] at h3 h4 h6
     rw [show t + (i : Int) + 1 = t + ((i + 1 : Nat) : Int) by omega]
     refine GK.head (i + 1, ob, cc, sp) ?_ ?_ ?_ ?_
     ·simp only; omega
     ·exact ⟨by simp only; omega, fun e => by omega, h3, h4, Nat.le_trans h6 (Nat.mul_le_mul_right _ (Nat.le_succ i))⟩
     ·exact ⟨rfl, rfl, rfl, rfl, rfl, trivial⟩
     ·(simp only [hsu]; exact Held.all)
   ·try simp only [sB0, sB1, sB2, sB3, sB4, sB5, sB6, sB7, sB8] at c5
    have hfin : openL first S over D = Z := by rw [hop, ← hZ]; by_cases ht : 1 ≤ t; rw [if_pos ht, show (q + 1 - t).toNat = i by omega]; rw [if_neg ht, show i = 0 by omega]
    have hi2 : i ≤ 255 := by omega
    have hle2 : i * 65536 ≤ 255 * 65536 := Nat.mul_le_mul_right _ hi2
    refine GC.exit (GK.thene (GK.thene (GK.blocke (GK.then (GC.seq (GC.region ?_))))))
    refine G.q Gd.no (Qt.mv rfl) rfl ?_
    refine G.q Gd.no (Qt.asg rfl) rfl ?_
    refine G.q Gd.no (Qt.asg rfl) rfl ?_
    refine G.nil (GK.then (GC.ret ?_))
    rw [hfin]
    refine GK.ret (rs := [.tmp 8, .tmp 9]) rfl (.tmp rfl (.tmp rfl .nil)) (b45, ob, cc, sp) ?_ ?_ (Tks.c (Tks.c (.nil _)))
    ·exact ⟨h3, h4, by omega⟩
    ·rfl
end Go.Proofs.Ytbeiciinppmekaa
