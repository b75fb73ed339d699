/-
  eventlog's Log: down, the closures of Get and open, and open do what the models say; each contract's conditions are its premises.
-/
import Derived.Test.YtbeiciinppmekaaTb
import Derived.Test.YtbeiciinppmekaaLogc
import Derived.Test.YtbeiciinppmekaaProg
namespace Go.Proofs.Ytbeiciinppmekaa
open Go Go.Sx Go.Proofs
set_option maxRecDepth 100000
set_option linter.unusedSimpArgs false
set_option linter.unusedVariables false
/-- What holds of a device between the calls. -/
structure Dev.Fine (D : Dev) : Prop where
  ok : D.Ok
  ok2 : D.Ok2
  geo : D.Geo
theorem Dev.step_size (D : Dev) : D.step.size = D.size := by unfold Dev.step; split <;> rfl
theorem Dev.step_nw (D : Dev) : D.step.nw = D.nw := by unfold Dev.step; split <;> rfl
theorem Dev.step_fine {D : Dev} (h : D.Fine) : D.step.Fine := ⟨Dev.step_ok h.ok, Dev.step_ok2 h.ok2, ⟨by rw [D.step_size]; exact h.geo.size0, by rw [D.step_size]; exact h.geo.size1, by rw [D.step_size, D.step_nw, D.step_n]; exact h.geo.all⟩⟩
theorem Dev.put_fine {D : Dev} (h : D.Fine) (p : Nat) {v : Int} (hv : 0 ≤ v ∧ v ≤ 255) : (D.put p v).Fine := ⟨Dev.put_ok h.ok p v, Dev.put_ok2 h.ok2 p hv, ⟨h.geo.size0, h.geo.size1, h.geo.all⟩⟩
/-- The shape of a device. -/
def Dev.Like (D E : Dev) : Prop := D.n = E.n ∧ D.nw = E.nw ∧ D.size = E.size
theorem Dev.Like.refl (D : Dev) : D.Like D := ⟨rfl, rfl, rfl⟩
theorem Dev.Like.trans {A B C : Dev} (h : A.Like B) (g : B.Like C) : A.Like C := ⟨h.1.trans g.1, h.2.1.trans g.2.1, h.2.2.trans g.2.2⟩
theorem Dev.step_like (D : Dev) : D.step.Like D := ⟨D.step_n, D.step_nw, D.step_size⟩
theorem Dev.progL_fine : ∀ (xs : List Int) (D : Dev) (p : Nat), D.Fine → (D.progL p xs).1.Fine ∧ (D.progL p xs).1.Like D
  | [], D, p, h => ⟨h, Dev.Like.refl D⟩
  | x :: xs, D, p, h => by
    have h1 := Dev.put_fine (Dev.step_fine h) p (band_u8 (ix D.step.bytes p) (bor .u8 x D.step.torn))
    have h2 := Dev.progL_fine xs (D.step.put p (band .u8 (ix D.step.bytes p) x)) (p + 1) (Dev.put_fine (Dev.step_fine h) p (band_u8 _ _))
    unfold Dev.progL
    split
    · exact ⟨h1, D.step_like⟩
    · exact ⟨h2.1, h2.2.trans D.step_like⟩
theorem Dev.program_fine {D : Dev} (h : D.Fine) (a : Int) (xs : List Int) : (D.program a xs).1.Fine ∧ (D.program a xs).1.Like D := by
  unfold Dev.program
  split
  · exact ⟨h, Dev.Like.refl D⟩
  · split
    · exact Dev.progL_fine xs D _ h
    · exact ⟨h, Dev.Like.refl D⟩
theorem Dev.step_wear (D : Dev) : D.step.wear = D.wear := by unfold Dev.step; split <;> rfl
theorem Dev.progL_wear : ∀ (xs : List Int) (D : Dev) (p : Nat), (D.progL p xs).1.wear = D.wear
  | [], D, p => rfl
  | x :: xs, D, p => by
    unfold Dev.progL
    split
    · exact D.step_wear
    · rw [Dev.progL_wear xs]; exact D.step_wear
theorem Dev.program_wear (D : Dev) (a : Int) (xs : List Int) : (D.program a xs).1.wear = D.wear := by
  unfold Dev.program
  split
  · rfl
  · split
    · exact Dev.progL_wear xs D _
    · rfl
theorem orR_bytes {bs : List Int} (h : Bytes bs) (i j : Nat) (t : Int) : Bytes (orR bs i j t) := by
  intro x hx
  simp only [orR] at hx
  obtain ⟨k, hk, rfl⟩ := List.mem_iff_getElem.1 hx
  rw [List.getElem_mapIdx]
  split
  · exact bor_u8 _ _
  · exact h _ (List.getElem_mem _)
theorem Dev.erase1_nw (D : Dev) (s : Int) : (D.erase1 s).nw = D.nw := by unfold Dev.erase1 Dev.step; split <;> rfl
theorem Dev.erase_fine {D : Dev} (h : D.Fine) (s : Int) : (D.erase s).1.Fine ∧ (D.erase s).1.Like D := by
  have h1 : (D.erase1 s).Fine := Dev.step_fine ⟨Dev.set_ok h.ok _ _, ⟨h.ok2.left0, h.ok2.bytes⟩, ⟨h.geo.size0, h.geo.size1, h.geo.all⟩⟩
  have h2 : ∀ t, ({ D.erase1 s with bytes := orR D.bytes (s * D.size).toNat ((s + 1) * D.size).toNat t } : Dev).Fine := fun t =>
    ⟨⟨by rw [orR_length]; rw [D.erase1_n]; exact h.ok.hn, h1.ok.hw, h1.ok.len, h1.ok.wlen, h1.ok.left⟩, ⟨h1.ok2.left0, orR_bytes h.ok2.bytes _ _ _⟩, ⟨h1.geo.size0, h1.geo.size1, h1.geo.all⟩⟩
  have h3 : ∀ t, ({ D.erase1 s with bytes := orR D.bytes (s * D.size).toNat ((s + 1) * D.size).toNat t } : Dev).Like D := fun t => ⟨D.erase1_n s, D.erase1_nw s, D.erase1_size s⟩
  unfold Dev.erase
  split
  · exact ⟨h, Dev.Like.refl D⟩
  · split
    · exact ⟨h, Dev.Like.refl D⟩
    · split
      · exact ⟨h2 _, h3 _⟩
      · exact ⟨h2 _, h3 _⟩
/-- The bytes of a sector that starts at a. -/
def secL (D : Dev) (a : Int) : List Int := (D.bytes.drop a.toNat).take D.size.toNat
def Lg.sector (Y : Lg) : Int := Y.first + Y.newest % Y.S
def hdL (q t i : Int) : List Int := litL 4 q ++ litL 4 t ++ [i % 256, i / 256]
/-- The device behind open: first the erasing. -/
def openE (D : Dev) (s : Int) : Dev × Int := if blankL (secL D (s * D.size)) then (D, 0) else D.erase s
def openP (D : Dev) (s q t i : Int) : Dev × Int :=
  if (openE D s).2 = 0 then
    if ((openE D s).1.program (s * D.size) (hdL q t i)).2 = 0 then ((openE D s).1.program (s * D.size) (hdL q t i)).1.program (s * D.size + 10) [0] else (openE D s).1.program (s * D.size) (hdL q t i)
  else openE D s
def Lg.opened (Y : Lg) (t : Int) : Lg := { Y with newest := Y.newest + 1, tail := t, used := 0, recs := Y.recs.filter fun r => !decide (r.1 < t) }
def Lg.openT (Y : Lg) (D : Dev) (t : Int) : Lg × Dev × Int :=
  if 2147483648 < Y.newest + 1 then (Y, D, 3) else
  if (openP D Y.sector (Y.newest + 1) t Y.next).2 = 0 then (Y.opened t, (openP D Y.sector (Y.newest + 1) t Y.next).1, 0) else (Y, openP D Y.sector (Y.newest + 1) t Y.next)
theorem openT_e {Y : Lg} {D E : Dev} {t e : Int} (h0 : ¬ 2147483648 < Y.newest + 1) (hE : openE D Y.sector = (E, e)) (he : ¬ e = 0) : Y.openT D t = (Y, E, e) := by
  unfold Lg.openT openP
  rw [if_neg h0, hE]
  simp only [he, if_false]
theorem openT_p {Y : Lg} {D E E2 : Dev} {t e e2 : Int} (h0 : ¬ 2147483648 < Y.newest + 1) (hE : openE D Y.sector = (E, e)) (he : e = 0) (hP : E.program (Y.sector * D.size) (hdL (Y.newest + 1) t Y.next) = (E2, e2)) (h2 : ¬ e2 = 0) : Y.openT D t = (Y, E2, e2) := by
  unfold Lg.openT openP
  rw [if_neg h0, hE]
  simp only [he, if_true, hP, h2, if_false]
theorem openT_q {Y : Lg} {D E E2 E3 : Dev} {t e e2 e3 : Int} (h0 : ¬ 2147483648 < Y.newest + 1) (hE : openE D Y.sector = (E, e)) (he : e = 0) (hP : E.program (Y.sector * D.size) (hdL (Y.newest + 1) t Y.next) = (E2, e2)) (h2 : e2 = 0) (hQ : E2.program (Y.sector * D.size + 10) [0] = (E3, e3)) (h3 : ¬ e3 = 0) : Y.openT D t = (Y, E3, e3) := by
  unfold Lg.openT openP
  rw [if_neg h0, hE]
  simp only [he, if_true, hP, h2, hQ, h3, if_false]
theorem openT_ok {Y : Lg} {D E E2 E3 : Dev} {t e e2 e3 : Int} (h0 : ¬ 2147483648 < Y.newest + 1) (hE : openE D Y.sector = (E, e)) (he : e = 0) (hP : E.program (Y.sector * D.size) (hdL (Y.newest + 1) t Y.next) = (E2, e2)) (h2 : e2 = 0) (hQ : E2.program (Y.sector * D.size + 10) [0] = (E3, e3)) (h3 : e3 = 0) : Y.openT D t = (Y.opened t, E3, 0) := by
  unfold Lg.openT openP
  rw [if_neg h0, hE]
  simp only [he, if_true, hP, h2, hQ, h3]
theorem open1_ct (F : Fr) (r : Int × Ev) (bt : Nat) (t : Int) (hb : F.h bt = some (Blk.cells [.int .i64 t] 3).toObj) :
    Ct Try.prog F 93 [.agg (recC r).toArray, .pointer (some ⟨bt, 0, none⟩)] [] (S := Unit) (fun _ => True) (fun _ => .bool (decide (r.1 < t))) (fun _ => []) := by
 refine Ct.of 8 [(0, _), (1, _)] Try.func93 rfl rfl rfl rfl ?_
 refine GC.seq (GC.region ?_)
 refine G.ld Gd.no (Ld.box rfl rfl (by first | exact Cl.one rfl | exact Cl.agg) (fun b2 => ?_))
 refine G.q Gd.no (Qt.asg rfl) rfl ?_
 refine G.nil (GK.then (GC.seq (GC.region ?_)))
 refine G.q Gd.no (Qt.fa0 fl90_0 rfl) rfl ?_
 refine G.q Gd.no (Qt.ldc a3 rfl (by first | exact Rdc.o rfl | exact Rdc.o (nth_vIs (by omega)) | exact Rdc.o (nth_vI (by omega)) | exact Rdc.f hb rfl)) rfl ?_
 refine G.q Gd.no (Qt.ldc a3 rfl (by first | exact Rdc.o rfl | exact Rdc.o (nth_vIs (by omega)) | exact Rdc.o (nth_vI (by omega)) | exact Rdc.f hb rfl)) rfl ?_
 refine G.q Gd.no (Qt.lss rfl rfl) rfl ?_
 refine G.q Gd.no (Qt.asg rfl) rfl ?_
 refine G.nil (GK.then (GC.ret ?_))
 refine GK.ret (rs := [.tmp 3]) rfl (.tmp rfl .nil) () ?_ ?_ (.nil _)
 ·trivial
 ·rfl
theorem gdown1_ct (F : Fr) (b db bb bw cb cw : Nat) (rb : Option Nat) (rc : Nat) (Y : Lg) (D : Dev) (hdb : F.h db = some (Blk.cells (devC D bb bw cb cw) 81).toObj) (he : Y.ended = false) (hd : D.down = true) :
    Ct Try.prog F 42 [.pointer (some ⟨b, 0, none⟩)] [(some b, .cells (lgC Y (some ⟨db, 0, none⟩) rb rc) 85)] (S := Unit) (fun _ => True) (fun _ => .bool true) (fun _ => [(some b, .cells (lgC Lg.gone none none 0) 85)]) := by
 refine Ct.of 21 [(0, _)] Try.func42 rfl rfl rfl rfl ?_
 refine GC.seq (GC.region ?_)
 refine G.q Gd.no (Qt.asg rfl) rfl ?_
 refine G.nil (GK.then (GC.seq (GC.seq (GC.region ?_))))
 refine G.q Gd.no (Qt.mv rfl) rfl ?_
 refine G.q Gd.no (Qt.nilc rfl) rfl ?_
 refine G.q Gd.no (Qt.fa0 fl85_12 rfl) rfl ?_
 refine G.q Gd.no (Qt.ldc a4 rfl (by first | exact Rdc.o rfl | exact Rdc.o (nth_vIs (by omega)) | exact Rdc.o (nth_vI (by omega)) | exact Rdc.f hdb rfl)) rfl ?_
 rw [he]
 refine G.q Gd.no (Qt.mv rfl) rfl ?_
 apply G.orb (seg := [_, _, _, _, _])
 exact rfl
 exact rfl
 exact rfl
 exact Gd.no
 exact rfl
 exact rfl
 ·intro g5; try simp only [sB0, sB1, sB2, sB3, sB4, sB5, sB6, sB7, sB8] at g5
  refine G.q (Gd.yes rfl rfl) (Qt.mv rfl) rfl ?_
  refine G.q (Gd.yes rfl rfl) (Qt.nilc rfl) rfl ?_
  refine G.q (Gd.yes rfl rfl) (Qt.fa0 fl85_0 rfl) rfl ?_
  refine G.q (Gd.yes rfl rfl) (Qt.ldc a27 rfl (by first | exact Rdc.o rfl | exact Rdc.o (nth_vIs (by omega)) | exact Rdc.o (nth_vI (by omega)) | exact Rdc.f hdb rfl)) rfl ?_
  refine G.ld (Gd.yes rfl rfl) (Ld.call cal69 rfl rfl (.nil _) (fun F' hF => down_ct F' _ _ _ _ _ _ (hF.fr hdb)) (fun _ _ => ?_))
  dsimp only [lCa, lNa]
  rw [hd]
  refine G.nil (GK.seg (n := [_, _, _, _, _]) rfl rfl rfl (by first | exact Tks.all _ | exact Tks.skip (Tks.all _) | exact Tks.skip (Tks.skip (Tks.all _)) | exact Tks.skip (Tks.skip (Tks.skip (Tks.all _)))))
 refine G.nil (GK.then ?_)
 refine GC.condt rfl ?_
 refine GC.region ?_
 refine G.q Gd.no (Qt.mv rfl) rfl ?_
 refine G.q Gd.no (Qt.buildS Try.underlying85 pl85 ze85 (.cons rfl rfl (by first | exact Cl.one rfl | exact Cl.agg) rfl (SetM.cons SetAt.k12 (.nil _ _)) (.nil _))) rfl ?_
 refine G.q Gd.no (Qt.nilc rfl) rfl ?_
 refine G.ld Gd.no (Ld.stW (by exact z85) rfl rfl (by simp [Value.oneCell']) (E := 85) (by rfl) UpdC.u ?_)
 refine G.nil (GK.then (GC.seq (GC.region ?_)))
 refine G.q Gd.no (Qt.mv rfl) rfl ?_
 refine G.q Gd.no (Qt.nilc rfl) rfl ?_
 refine G.q Gd.no (Qt.fa0 fl85_12 rfl) rfl ?_
 refine G.q Gd.no (Qt.ldc a4 rfl (by first | exact Rdc.o rfl | exact Rdc.o (nth_vIs (by omega)) | exact Rdc.o (nth_vI (by omega)) | exact Rdc.f hdb rfl)) rfl ?_
 refine G.q Gd.no (Qt.asg rfl) rfl ?_
 refine G.nil (GK.then (GC.ret ?_))
 refine GK.ret (rs := [.tmp 2]) rfl (.tmp rfl .nil) () ?_ ?_ (Tks.c (.nil _))
 ·trivial
 ·rfl
theorem gdown2_ct (F : Fr) (b : Nat) (d : Option Addr) (rb : Option Nat) (rc : Nat) (Y : Lg) (he : Y.ended = true) :
    Ct Try.prog F 42 [.pointer (some ⟨b, 0, none⟩)] [(some b, .cells (lgC Y d rb rc) 85)] (S := Unit) (fun _ => True) (fun _ => .bool true) (fun _ => [(some b, .cells (lgC Lg.gone none none 0) 85)]) := by
 refine Ct.of 21 [(0, _)] Try.func42 rfl rfl rfl rfl ?_
 refine GC.seq (GC.region ?_)
 refine G.q Gd.no (Qt.asg rfl) rfl ?_
 refine G.nil (GK.then (GC.seq (GC.seq (GC.region ?_))))
 refine G.q Gd.no (Qt.mv rfl) rfl ?_
 refine G.q Gd.no (Qt.nilc rfl) rfl ?_
 refine G.q Gd.no (Qt.fa0 fl85_12 rfl) rfl ?_
 refine G.q Gd.no (Qt.ldc a4 rfl (by first | exact Rdc.o rfl | exact Rdc.o (nth_vIs (by omega)) | exact Rdc.o (nth_vI (by omega)))) rfl ?_
 rw [he]
 refine G.q Gd.no (Qt.mv rfl) rfl ?_
 apply G.orb (seg := [_, _, _, _, _]) (b2 := false)
 exact rfl
 exact rfl
 exact rfl
 exact Gd.no
 exact rfl
 exact rfl
 ·intro g5; try simp only [sB0, sB1, sB2, sB3, sB4, sB5, sB6, sB7, sB8] at g5
  exact absurd g5 (by simp)
 refine G.nil (GK.then ?_)
 refine GC.condt rfl ?_
 refine GC.region ?_
 refine G.q Gd.no (Qt.mv rfl) rfl ?_
 refine G.q Gd.no (Qt.buildS Try.underlying85 pl85 ze85 (.cons rfl rfl (by first | exact Cl.one rfl | exact Cl.agg) rfl (SetM.cons SetAt.k12 (.nil _ _)) (.nil _))) rfl ?_
 refine G.q Gd.no (Qt.nilc rfl) rfl ?_
 refine G.ld Gd.no (Ld.stW (by exact z85) rfl rfl (by simp [Value.oneCell']) (E := 85) (by rfl) UpdC.u ?_)
 refine G.nil (GK.then (GC.seq (GC.region ?_)))
 refine G.q Gd.no (Qt.mv rfl) rfl ?_
 refine G.q Gd.no (Qt.nilc rfl) rfl ?_
 refine G.q Gd.no (Qt.fa0 fl85_12 rfl) rfl ?_
 refine G.q Gd.no (Qt.ldc a4 rfl (by first | exact Rdc.o rfl | exact Rdc.o (nth_vIs (by omega)) | exact Rdc.o (nth_vI (by omega)))) rfl ?_
 refine G.q Gd.no (Qt.asg rfl) rfl ?_
 refine G.nil (GK.then (GC.ret ?_))
 refine GK.ret (rs := [.tmp 2]) rfl (.tmp rfl .nil) () ?_ ?_ (Tks.c (.nil _))
 ·trivial
 ·rfl
set_option maxHeartbeats 1600000 in
theorem gopen_ct (F : Fr) (b db bb bw cb cw : Nat) (sb sw : List Value) (rb : Option Nat) (rc : Nat) (sp : List Value) (Y : Lg) (D : Dev) (t : Int) (fine : D.Fine) (hcb : D.n ≤ cb) (hdn : D.down = false) (hinv : Y.recs.length * 11 + sp.length = rc * 11) (hnil : rb = none → Y.recs = [] ∧ sp = []) (hlen : Y.recs.length ≤ 16777216) (hf0 : 0 ≤ Y.first) (hS : 2 ≤ Y.S) (hfS : Y.first + Y.S ≤ D.nw) (hnw : 0 ≤ Y.newest) (hnw2 : Y.newest ≤ 2147483648) (ht0 : 0 ≤ t) (ht1 : t ≤ 4294967295) (hid0 : 0 ≤ Y.next) (hid1 : Y.next ≤ 65535) (hsz : 11 ≤ D.size) :
    Ct Try.prog F 72 [.pointer (some ⟨b, 0, none⟩), .int .i64 t] [(some b, .cells (lgC Y (some ⟨db, 0, none⟩) rb rc) 85), (rb, .cells (Y.recs.flatMap recC ++ sp) 90), (some db, .cells (devC D bb bw cb cw) 81), (some bb, .cells (vI .u8 D.bytes ++ sb) 5), (some bw, .cells (vI .i64 D.wear ++ sw) 3)] (S := List Value) (fun x => (Y.openT D t).1.recs.length * 11 + x.length = rc * 11 ∧ (rb = none → (Y.openT D t).1.recs = [] ∧ x = [])) (fun _ => .int .i64 (Y.openT D t).2.2) (fun x => [(some b, .cells (lgC (Y.openT D t).1 (some ⟨db, 0, none⟩) rb rc) 85), (rb, .cells ((Y.openT D t).1.recs.flatMap recC ++ x) 90), (some db, .cells (devC (Y.openT D t).2.1 bb bw cb cw) 81), (some bb, .cells (vI .u8 (Y.openT D t).2.1.bytes ++ sb) 5), (some bw, .cells (vI .i64 (Y.openT D t).2.1.wear ++ sw) 3)]) := by
 have z0 := fine.geo.size0
 have z1 := fine.geo.size1
 have z2 := fine.geo.all
 have hl := fine.ok.len
 have hbl := fine.ok.hn
 have hok := fine.ok
 have hgeo := fine.geo
 have hm0 := Int.emod_nonneg Y.newest (show Y.S ≠ 0 by omega)
 have hm1 := Int.emod_lt_of_pos Y.newest (show 0 < Y.S by omega)
 have hsec : Y.sector = Y.first + Y.newest % Y.S := rfl
 have s0 : 0 ≤ Y.sector * D.size := Int.mul_nonneg (by omega) (by omega)
 have s1 : (Y.sector + 1) * D.size ≤ D.nw * D.size := Int.mul_le_mul_of_nonneg_right (by omega) (by omega)
 have s2 : (Y.sector + 1) * D.size = Y.sector * D.size + D.size := by rw [Int.add_mul, Int.one_mul]
 have hsl : (secL D (Y.sector * D.size)).length = D.size.toNat := by simp only [secL, List.length_take, List.length_drop]; omega
 have hnwl := fine.ok.wlen
 refine Ct.of 122 [(0, _), (1, _)] Try.func72 rfl rfl rfl rfl ?_
 refine GC.seq (GC.region ?_)
 refine G.ld Gd.no (Ld.box rfl rfl (by first | exact Cl.one rfl | exact Cl.agg) (fun b3 => ?_))
 refine G.q Gd.no (Qt.asg rfl) rfl ?_
 refine G.nil (GK.then (GC.seq (GC.region ?_)))
 refine G.q Gd.no (Qt.mv rfl) rfl ?_
 refine G.q Gd.no (Qt.nilc rfl) rfl ?_
 refine G.q Gd.no (Qt.fa0 fl85_4 rfl) rfl ?_
 refine G.q Gd.no (Qt.ldc a3 rfl (by first | exact Rdc.o rfl | exact Rdc.o (nth_vIs (by omega)) | exact Rdc.o (nth_vI (by omega)))) rfl ?_
 refine G.q Gd.no (Qt.add rfl rfl (by first | exact i64_id (by omega) (by omega) | exact rfl)) rfl ?_
 refine G.q Gd.no (Qt.asg rfl) rfl ?_
 refine G.nil (GK.then (GC.seq (GC.seq (GC.region ?_))))
 refine G.q Gd.no (Qt.mv rfl) rfl ?_
 refine G.q Gd.no (Qt.gtr rfl rfl) rfl ?_
 refine G.nil (GK.then ?_)
 refine GC.condb rfl (fun c0 => ?_) (fun c0 => ?_)
 ·try simp only [sB0, sB1, sB2, sB3, sB4, sB5, sB6, sB7, sB8] at c0
  refine GC.seq (GC.region ?_)
  refine G.q Gd.no (Qt.asg rfl) rfl ?_
  refine G.nil (GK.then (GC.ret (GK.thenr ?_)))
  rw [show Y.openT D t = (Y, D, 3) from if_pos (by omega)]
  refine GK.ret (rs := [.tmp 4]) rfl (.tmp rfl .nil) sp ?_ ?_ (Tks.c (Tks.c (Tks.c (Tks.c (Tks.c (.nil _))))))
  ·exact ⟨hinv, hnil⟩
  ·rfl
 ·try simp only [sB0, sB1, sB2, sB3, sB4, sB5, sB6, sB7, sB8] at c0
  refine GC.skip (GK.then (GC.seq ?_))
  refine GC.draw mixed _ Held.all ?_
  refine GT 0 1 rfl (by kernel_rfl) rfl rfl Gd.no (Qt.mv rfl) Held.c ?_
  refine GT 1 3 rfl (by kernel_rfl) rfl rfl Gd.no (Qt.nilc rfl) Held.c ?_
  refine GT 2 7 rfl (by kernel_rfl) rfl rfl Gd.no (Qt.fa0 fl85_1 rfl) Held.c ?_
  refine GT 3 15 rfl (by kernel_rfl) rfl rfl Gd.no (Qt.ldc a3 rfl (by first | exact Rdc.o rfl | exact Rdc.o (nth_vIs (by omega)) | exact Rdc.o (nth_vI (by omega)))) Held.c ?_
  refine GT 4 31 rfl (by kernel_rfl) rfl rfl Gd.no (Qt.mv rfl) Held.c ?_
  refine GT 5 63 rfl (by kernel_rfl) rfl rfl Gd.no (Qt.sub rfl rfl (by exact i64_id (by omega) (by omega))) Held.c ?_
  refine GT 6 127 rfl (by kernel_rfl) rfl rfl Gd.no (Qt.mv rfl) Held.c ?_
  refine GT 7 255 rfl (by kernel_rfl) rfl rfl Gd.no (Qt.nilc rfl) Held.c ?_
  refine GT 8 511 rfl (by kernel_rfl) rfl rfl Gd.no (Qt.fa0 fl85_2 rfl) Held.c ?_
  refine GT 9 1023 rfl (by kernel_rfl) rfl rfl Gd.no (Qt.ldc a3 rfl (by first | exact Rdc.o rfl | exact Rdc.o (nth_vIs (by omega)) | exact Rdc.o (nth_vI (by omega)))) Held.c ?_
  refine GT 10 2047 rfl (by kernel_rfl) rfl rfl Gd.no (Qt.rem rfl rfl (by omega) (by first | exact rem_nn (by omega) | exact rfl)) Held.c ?_
  rw [show Y.newest + 1 - 1 = Y.newest by omega]
  refine GT 11 4095 rfl (by kernel_rfl) rfl rfl Gd.no (Qt.add rfl rfl (by first | exact i64_id (by omega) (by omega) | exact rfl)) Held.c ?_
  rw [← hsec]
  refine GT 12 8191 rfl (by kernel_rfl) rfl rfl Gd.no (Qt.asg rfl) Held.c ?_
  refine GH.done (by kernel_rfl) ?_
  refine GK.then (GC.seq (GC.region ?_))
  refine G.q Gd.no (Qt.mv rfl) rfl ?_
  refine G.q Gd.no (Qt.mv rfl) rfl ?_
  refine G.q Gd.no (Qt.nilc rfl) rfl ?_
  refine G.q Gd.no (Qt.fa0 fl85_0 rfl) rfl ?_
  refine G.q Gd.no (Qt.ldc a27 rfl (by first | exact Rdc.o rfl | exact Rdc.o (nth_vIs (by omega)) | exact Rdc.o (nth_vI (by omega)))) rfl ?_
  refine G.ld Gd.no (Ld.call cal44 rfl rfl (.nil _) (fun F' hF => size_ct F' _ _ _ _ _ _ (by first | exact hF.own In.o)) (fun _ _ => ?_))
  dsimp only [lCa, lNa]
  refine G.q Gd.no (Qt.mul rfl rfl (by exact i64_id (by omega) (by omega))) rfl ?_
  refine G.q Gd.no (Qt.asg rfl) rfl ?_
  refine G.nil (GK.then (GC.seq ?_))
  refine GC.draw mixed _ Held.all ?_
  refine GT 0 1 rfl (by kernel_rfl) rfl rfl Gd.no (Qt.mv rfl) Held.c ?_
  refine GT 1 3 rfl (by kernel_rfl) rfl rfl Gd.no (Qt.nilc rfl) Held.c ?_
  refine GT 2 7 rfl (by kernel_rfl) rfl rfl Gd.no (Qt.fa0 fl85_0 rfl) Held.c ?_
  refine GT 3 15 rfl (by kernel_rfl) rfl rfl Gd.no (Qt.ldc a27 rfl (by first | exact Rdc.o rfl | exact Rdc.o (nth_vIs (by omega)) | exact Rdc.o (nth_vI (by omega)))) Held.c ?_
  refine GT 4 31 rfl (by kernel_rfl) rfl rfl Gd.no (Qt.mv rfl) Held.c ?_
  refine GT 5 63 rfl (by kernel_rfl) rfl rfl Gd.no (Qt.mv rfl) Held.c ?_
  refine GT 6 127 rfl (by kernel_rfl) rfl rfl Gd.no (Qt.nilc rfl) Held.c ?_
  refine GT 7 255 rfl (by kernel_rfl) rfl rfl Gd.no (Qt.fa0 fl85_0 rfl) Held.c ?_
  refine GT 8 511 rfl (by kernel_rfl) rfl rfl Gd.no (Qt.ldc a27 rfl (by first | exact Rdc.o rfl | exact Rdc.o (nth_vIs (by omega)) | exact Rdc.o (nth_vI (by omega)))) Held.c ?_
  refine GO 9 1023 (by kernel_rfl) rfl rfl Gd.no (Ld.call cal44 rfl rfl (.nil _) (fun F' hF => size_ct F' _ _ _ _ _ _ (by first | exact hF.own In.o)) (fun _ _ => ?_))
  dsimp only [lCa, lNa]
  refine ⟨Held.c, ?_⟩
  refine GO 10 2047 (by kernel_rfl) rfl rfl Gd.no (Ld.call cal49 rfl rfl (.nil _) (fun F' hF => read_ct F' _ _ _ _ _ _ _ (hF.own In.o) (hF.own In.o) hok hcb _ _ hdn s0 (by omega) (by omega)) (fun ⟨q1, q2⟩ _ => ?_))
  dsimp only [lCa, lNa]
  rw [show (D.bytes.drop (Y.sector * D.size).toNat).take D.size.toNat = secL D (Y.sector * D.size) from rfl]
  refine ⟨Held.c, ?_⟩
  refine GT 11 4095 rfl (by kernel_rfl) rfl rfl Gd.no (Qt.mv rfl) Held.c ?_
  refine GT 12 8191 rfl (by kernel_rfl) rfl rfl Gd.no (Qt.ext rfl rfl) Held.c ?_
  refine GT 13 16383 rfl (by kernel_rfl) rfl rfl Gd.no (Qt.ext rfl rfl) Held.c ?_
  refine GT 14 32767 rfl (by kernel_rfl) rfl rfl Gd.no (Qt.asg rfl) Held.c ?_
  refine GT 15 65535 rfl (by kernel_rfl) rfl rfl Gd.no (Qt.asg rfl) Held.c ?_
  refine GH.done (by kernel_rfl) ?_
  refine GK.then (GC.seq (GC.seq (GC.region ?_)))
  refine G.q Gd.no (Qt.mv rfl) rfl ?_
  refine G.q Gd.no (Qt.eqI rfl rfl) rfl ?_
  refine G.q Gd.no (Qt.mv rfl) rfl ?_
  apply G.andb (seg := [_, _, _])
  exact rfl
  exact rfl
  exact rfl
  exact Gd.no
  exact rfl
  exact rfl
  ·intro g3; try simp only [sB0, sB1, sB2, sB3, sB4, sB5, sB6, sB7, sB8] at g3
   refine G.q (Gd.yes rfl rfl) (Qt.mv rfl) rfl ?_
   refine G.ld (Gd.yes rfl rfl) (Ld.call cal76 rfl rfl (.nil _) (fun F' hF => blank_ct F' (some ⟨q1, 0, none⟩) D.size.toNat _ (secL D (Y.sector * D.size)) (VwF.ofPre (hF.own In.o)) hsl (by omega)) (fun _ _ => ?_))
   dsimp only [lCa, lNa]
   refine G.q (Gd.yes rfl rfl) (Qt.not rfl) rfl ?_
   refine G.nil (GK.seg (n := [_, _, _]) rfl rfl rfl (by first | exact Tks.all _ | exact Tks.skip (Tks.all _) | exact Tks.skip (Tks.skip (Tks.all _)) | exact Tks.skip (Tks.skip (Tks.skip (Tks.all _)))))
  refine G.nil (GK.then ?_)
  refine GC.condb rfl (fun c1 => ?_) (fun c1 => ?_)
  ·try simp only [sB0, sB1, sB2, sB3, sB4, sB5, sB6, sB7, sB8] at c1
   have hE0 : openE D Y.sector = D.erase Y.sector := by unfold openE; rw [if_neg (by simpa using c1)]
   obtain ⟨E, e0, hE⟩ : ∃ E e0, openE D Y.sector = (E, e0) := ⟨_, _, rfl⟩
   obtain ⟨fE, lE⟩ := Dev.erase_fine fine Y.sector
   rw [← hE0, hE] at fE lE
   have okE := fE.ok
   have hED : E = E := rfl
   refine GC.region ?_
   refine G.q Gd.no (Qt.mv rfl) rfl ?_
   refine G.q Gd.no (Qt.nilc rfl) rfl ?_
   refine G.q Gd.no (Qt.fa0 fl85_0 rfl) rfl ?_
   refine G.q Gd.no (Qt.ldc a27 rfl (by first | exact Rdc.o rfl | exact Rdc.o (nth_vIs (by omega)) | exact Rdc.o (nth_vI (by omega)))) rfl ?_
   refine G.q Gd.no (Qt.mv rfl) rfl ?_
   refine G.ld Gd.no (Ld.call cal90 rfl rfl (Tks.c (Tks.c (Tks.c (.nil _)))) (fun F' hF => erase_ct F' _ _ _ _ _ _ _ _ hok hgeo (by omega) _) (fun _ _ => ?_))
   dsimp only [lCa, lNa]
   rw [← hE0, hE]
   dsimp only
   refine G.q Gd.no (Qt.asg rfl) rfl ?_
   refine G.nil (GK.then (GC.seq (GC.seq (GC.region ?_))))
   refine G.q Gd.no (Qt.mv rfl) rfl ?_
   refine G.q Gd.no (Qt.eqI rfl rfl) rfl ?_
   refine G.nil (GK.then ?_)
   refine GC.condb rfl (fun c2 => ?_) (fun c2 => ?_)
   ·try simp only [sB0, sB1, sB2, sB3, sB4, sB5, sB6, sB7, sB8] at c2
    refine GC.draw mixed _ (Held.tk (b := some b3) (Held.tk (b := some b) Held.none)) ?_
    refine GT 0 1 rfl (by kernel_rfl) rfl rfl Gd.no (Qt.mv rfl) Held.c ?_
    refine GT 1 3 rfl (by kernel_rfl) rfl rfl Gd.no (Qt.nilc rfl) Held.c ?_
    refine GT 2 7 rfl (by kernel_rfl) rfl rfl Gd.no (Qt.fa0 fl85_0 rfl) Held.c ?_
    refine GT 3 15 rfl (by kernel_rfl) rfl rfl Gd.no (Qt.ldc a27 rfl (by first | exact Rdc.o rfl | exact Rdc.o (nth_vIs (by omega)) | exact Rdc.o (nth_vI (by omega)))) Held.c ?_
    refine GT 4 31 rfl (by kernel_rfl) rfl rfl Gd.no (Qt.mv rfl) Held.c ?_
    refine GT 5 63 rfl (by kernel_rfl) rfl rfl Gd.no (Qt.mv rfl) Held.c ?_
    refine GT 7 191 rfl (by kernel_rfl) rfl rfl Gd.no (Qt.ldc a3 rfl (by first | exact Rdc.o rfl | exact Rdc.o (nth_vIs (by omega)) | exact Rdc.o (nth_vI (by omega)))) Held.c ?_
    refine GT 10 1215 rfl (by kernel_rfl) rfl rfl Gd.no (Qt.mv rfl) Held.c ?_
    refine GT 11 3263 rfl (by kernel_rfl) rfl rfl Gd.no (Qt.nilc rfl) Held.c ?_
    refine GT 12 7359 rfl (by kernel_rfl) rfl rfl Gd.no (Qt.fa0 fl85_7 rfl) Held.c ?_
    refine GT 13 15551 rfl (by kernel_rfl) rfl rfl Gd.no (Qt.ldc a36 rfl (by first | exact Rdc.o rfl | exact Rdc.o (nth_vIs (by omega)) | exact Rdc.o (nth_vI (by omega)))) Held.c ?_
    refine GT 14 31935 rfl (by kernel_rfl) rfl rfl Gd.no (Qt.conv Try.underlying36 Try.underlying5 rfl (by exact u8_mod _)) Held.c ?_
    refine GT 15 64703 rfl (by kernel_rfl) rfl rfl Gd.no (Qt.mv rfl) Held.c ?_
    refine GT 16 130239 rfl (by kernel_rfl) rfl rfl Gd.no (Qt.nilc rfl) Held.c ?_
    refine GT 17 261311 rfl (by kernel_rfl) rfl rfl Gd.no (Qt.fa0 fl85_7 rfl) Held.c ?_
    refine GT 18 523455 rfl (by kernel_rfl) rfl rfl Gd.no (Qt.ldc a36 rfl (by first | exact Rdc.o rfl | exact Rdc.o (nth_vIs (by omega)) | exact Rdc.o (nth_vI (by omega)))) Held.c ?_
    refine GT 19 1047743 rfl (by kernel_rfl) rfl rfl Gd.no (Qt.shr rfl rfl (by omega) (shrv_lit (k := .u16) 8 _ (by decide))) Held.c ?_
    refine GT 20 2096319 rfl (by kernel_rfl) rfl rfl Gd.no (Qt.conv Try.underlying36 Try.underlying5 rfl (by exact u8_id (by omega) (by omega))) Held.c ?_
    refine GH.two (i := 6) (j := 21) (by kernel_rfl) rfl rfl  (rfl : _ = 2096383) (rfl : _ = 4193471) Gd.no Gd.no (Ld.call cal91 rfl rfl (.nil _) (fun F' hF => write4_ct F' (Y.newest + 1) (by omega) (by omega)) (fun qa _ => ?_)) (Ld.bsl (xs := [.tmp 79, .tmp 85]) rfl Try.underlying53 z5 ze5 rfl rfl rfl rfl rfl (by simp [Value.oneCell']) (fun b86 => ?_))
    ·skip
     dsimp only [lCa, lNa]
     refine ⟨Held.c, ?_⟩
     refine GH.two (i := 8) (j := 21) (by kernel_rfl) rfl rfl  (rfl : _ = 2096639) (rfl : _ = 4193535) Gd.no Gd.no (Ld.call cal91 rfl rfl (.nil _) (fun F' hF => write4_ct F' t (by omega) (by omega)) (fun qb _ => ?_)) (Ld.bsl (xs := [.tmp 79, .tmp 85]) rfl Try.underlying53 z5 ze5 rfl rfl rfl rfl rfl (by simp [Value.oneCell']) (fun b86 => ?_))
     ·skip
      dsimp only [lCa, lNa]
      refine ⟨Held.c, ?_⟩
      refine GH.two (i := 9) (j := 21) (by kernel_rfl) rfl rfl  (rfl : _ = 2097151) (rfl : _ = 4193791) Gd.no Gd.no (Ld.appI (k := .u8) (ob := some qa) (xs := litL 4 (Y.newest + 1)) (sp := []) (ys := litL 4 t) Try.underlying53 z5 by5 ze5 rfl rfl rfl rfl (Vw.pre Rd.o) rfl (by intro e; cases e) (by simp only [List.length_append, List.length_cons, List.length_nil, litL_length]; omega) (by simp only [List.length_append, List.length_cons, List.length_nil, litL_length]; omega) (fun b' sp' => ?_)) (Ld.bsl (xs := [.tmp 79, .tmp 85]) rfl Try.underlying53 z5 ze5 rfl rfl rfl rfl rfl (by simp [Value.oneCell']) (fun b86 => ?_))
      ·skip
       refine ⟨Held.c, ?_⟩
       refine GO 21 4194303 (by kernel_rfl) rfl rfl Gd.no (Ld.bsl (xs := [.tmp 79, .tmp 85]) rfl Try.underlying53 z5 ze5 rfl rfl rfl rfl rfl (by simp [Value.oneCell']) (fun b86 => ?_))
       refine ⟨Held.c, ?_⟩
       refine GO 22 8388607 (by kernel_rfl) rfl rfl Gd.no (Ld.appI (k := .u8) (ob := some b') (xs := litL 4 (Y.newest + 1) ++ litL 4 t) (ys := [Y.next % 256, Y.next / 256]) Try.underlying53 z5 by5 ze5 rfl rfl rfl rfl (Vw.all Rd.o) rfl (by intro e; cases e) (by simp only [List.length_append, List.length_cons, List.length_nil, litL_length]; omega) (by simp only [List.length_append, List.length_cons, List.length_nil, litL_length]; omega) (fun b' sp' => ?_))
       refine ⟨Held.c, ?_⟩
       refine GO 23 16777215 (by kernel_rfl) rfl rfl Gd.no (Ld.call cal23 rfl rfl (Tks.c (Tks.c (.nil _))) (fun F' hF => program_ct F' _ _ _ _ _ _ _ (by assumption) (Y.sector * D.size) (some ⟨b', 0, none⟩) _ (hdL (Y.newest + 1) t Y.next) (VwF.ofPre (hF.own In.o)) (by simp only [hdL, List.length_append, List.length_cons, List.length_nil, litL_length]; omega)) (fun _ _ => ?_))
       dsimp only [lCa, lNa]
       obtain ⟨E2, e2, hP⟩ : ∃ E2 e2, Dev.program E (Y.sector * D.size) (hdL (Y.newest + 1) t Y.next) = (E2, e2) := ⟨_, _, rfl⟩
       obtain ⟨f2, l2⟩ := Dev.program_fine fE (Y.sector * D.size) (hdL (Y.newest + 1) t Y.next)
       have w2 := Dev.program_wear E (Y.sector * D.size) (hdL (Y.newest + 1) t Y.next)
       rw [hP] at f2 l2 w2
       rw [hED] at hP w2
       have ok2E := f2.ok
       rw [hP]
       dsimp only
       rw [← w2]
       refine ⟨Held.c, ?_⟩
       refine GT 24 33554431 rfl (by kernel_rfl) rfl rfl Gd.no (Qt.asg rfl) Held.c ?_
       refine GH.done (by kernel_rfl) ?_
       refine GK.then (GC.seq (GC.seq (GC.region ?_)))
       refine G.q Gd.no (Qt.mv rfl) rfl ?_
       refine G.q Gd.no (Qt.eqI rfl rfl) rfl ?_
       refine G.nil (GK.then ?_)
       refine GC.condb rfl (fun c3 => ?_) (fun c3 => ?_)
       ·try simp only [sB0, sB1, sB2, sB3, sB4, sB5, sB6, sB7, sB8] at c3
        refine GC.region ?_
        refine G.q Gd.no (Qt.mv rfl) rfl ?_
        refine G.q Gd.no (Qt.nilc rfl) rfl ?_
        refine G.q Gd.no (Qt.fa0 fl85_0 rfl) rfl ?_
        refine G.q Gd.no (Qt.ldc a27 rfl (by first | exact Rdc.o rfl | exact Rdc.o (nth_vIs (by omega)) | exact Rdc.o (nth_vI (by omega)))) rfl ?_
        refine G.q Gd.no (Qt.mv rfl) rfl ?_
        refine G.q Gd.no (Qt.add rfl rfl (by exact i64_id (by omega) (by omega))) rfl ?_
        refine G.ld Gd.no (Ld.bsl (xs := [.const (.int .u8 0)]) rfl Try.underlying53 z5 ze5 rfl rfl rfl rfl rfl (by simp [Value.oneCell']) (fun b97 => ?_))
        refine G.ld Gd.no (Ld.call cal23 rfl rfl (Tks.c (Tks.c (.nil _))) (fun F' hF => program_ct F' _ _ _ _ _ _ _ (by assumption) (Y.sector * D.size + 10) (some ⟨b97, 0, none⟩) _ [0] (VwF.ofAll (hF.own In.o)) (by simp)) (fun _ _ => ?_))
        dsimp only [lCa, lNa]
        obtain ⟨E3, e3, hQ⟩ : ∃ E3 e3, E2.program (Y.sector * D.size + 10) [0] = (E3, e3) := ⟨_, _, rfl⟩
        have w3 := Dev.program_wear E2 (Y.sector * D.size + 10) [0]
        rw [hQ] at w3
        rw [hQ]
        dsimp only
        rw [← w3]
        refine G.q Gd.no (Qt.asg rfl) rfl ?_
        refine G.nil (GK.then (GC.seq (GC.seq (GC.region ?_))))
        refine G.q Gd.no (Qt.mv rfl) rfl ?_
        refine G.q Gd.no (Qt.eqI rfl rfl) rfl ?_
        refine G.nil (GK.then ?_)
        refine GC.condb rfl (fun c4 => ?_) (fun c4 => ?_)
        ·try simp only [sB0, sB1, sB2, sB3, sB4, sB5, sB6, sB7, sB8] at c4
         refine GC.seq ?_
         refine GC.draw mixed _ (Held.tk (b := some b3) Held.none) ?_
         refine GT 0 1 rfl (by kernel_rfl) rfl rfl Gd.no (Qt.mv rfl) Held.c ?_
         refine GT 1 3 rfl (by kernel_rfl) rfl rfl Gd.no (Qt.mv rfl) Held.c ?_
         refine GT 2 7 rfl (by kernel_rfl) rfl rfl Gd.no (Qt.mv rfl) Held.c ?_
         refine GT 3 15 rfl (by kernel_rfl) rfl rfl Gd.no (Qt.mv rfl) Held.c ?_
         refine GT 4 31 rfl (by kernel_rfl) rfl rfl Gd.no (Qt.ldc a3 rfl (by first | exact Rdc.o rfl | exact Rdc.o (nth_vIs (by omega)) | exact Rdc.o (nth_vI (by omega)))) Held.c ?_
         refine GT 5 63 rfl (by kernel_rfl) rfl rfl Gd.no (Qt.nilc rfl) Held.c ?_
         refine GT 6 127 rfl (by kernel_rfl) rfl rfl Gd.no (Qt.fa0 fl85_4 rfl) Held.c ?_
         refine GO 7 255 (by kernel_rfl) rfl rfl Gd.no (Ld.stc z3 rfl rfl rfl (Stc.o SetAt.k4) ?_)
         refine ⟨Held.c, ?_⟩
         refine GT 8 511 rfl (by kernel_rfl) rfl rfl Gd.no (Qt.nilc rfl) Held.c ?_
         refine GT 9 1023 rfl (by kernel_rfl) rfl rfl Gd.no (Qt.fa0 fl85_5 rfl) Held.c ?_
         refine GO 10 2047 (by kernel_rfl) rfl rfl Gd.no (Ld.stc z3 rfl rfl rfl (Stc.o SetAt.k5) ?_)
         refine ⟨Held.c, ?_⟩
         refine GT 11 4095 rfl (by kernel_rfl) rfl rfl Gd.no (Qt.nilc rfl) Held.c ?_
         refine GT 12 8191 rfl (by kernel_rfl) rfl rfl Gd.no (Qt.fa0 fl85_6 rfl) Held.c ?_
         refine GO 13 16383 (by kernel_rfl) rfl rfl Gd.no (Ld.stc z3 rfl rfl rfl (Stc.o SetAt.k6) ?_)
         refine ⟨Held.c, ?_⟩
         refine GH.done (by kernel_rfl) ?_
         refine GK.then (GC.region ?_)
         refine G.q Gd.no (Qt.mv rfl) rfl ?_
         refine G.q Gd.no (Qt.mv rfl) rfl ?_
         refine G.q Gd.no (Qt.nilc rfl) rfl ?_
         refine G.q Gd.no (Qt.fa0 fl85_8 rfl) rfl ?_
         refine G.q Gd.no (Qt.ldc a83 rfl (by first | exact Rdc.o rfl | exact Rdc.o (nth_vIs (by omega)) | exact Rdc.o (nth_vI (by omega)))) rfl ?_
         refine G.q Gd.no (Qt.mkf rfl rfl) rfl ?_
         refine G.ld Gd.no (Ld.call cal92 rfl rfl (Tks.c (.nil _)) (fun F' hF => deleteR_ct F' rb rc sp Y.recs hinv hnil (by omega) (fun r => decide (r.1 < t)) 93 [.pointer (some ⟨b3, 0, none⟩)] cal93 (fun F2 R2 h2 r => open1_ct F2 r b3 t (h2.fr (hF.own In.o)))) (fun sp3 hdel => ?_))
         dsimp only [lCa, lNa]
         refine G.q Gd.no (Qt.nilc rfl) rfl ?_
         refine G.q Gd.no (Qt.fa0 fl85_8 rfl) rfl ?_
         refine G.ld Gd.no (Ld.stc z83 rfl rfl rfl (Stc.o SetAt.k8) ?_)
         refine G.nil (GK.then (GC.seq (GC.region ?_)))
         refine G.q Gd.no (Qt.mv rfl) rfl ?_
         refine G.q Gd.no (Qt.asg rfl) rfl ?_
         refine G.nil (GK.then (GC.ret ?_))
         rw [openT_ok (by assumption) hE (by first | assumption | rfl) hP (by assumption) hQ (by assumption)]
         refine GK.ret (rs := [.tmp 4]) rfl (.tmp rfl .nil) sp3 ?_ ?_ (Tks.c (Tks.c (Tks.c (Tks.c (Tks.c (.nil _))))))
         ·exact hdel
         ·(simp only [*]; rfl)
        ·try simp only [sB0, sB1, sB2, sB3, sB4, sB5, sB6, sB7, sB8] at c4
         refine GC.skip (GK.then (GC.seq (GC.region ?_)))
         refine G.q Gd.no (Qt.mv rfl) rfl ?_
         refine G.q Gd.no (Qt.asg rfl) rfl ?_
         refine G.nil (GK.then (GC.ret ?_))
         rw [openT_q (by assumption) hE (by first | assumption | rfl) hP (by assumption) hQ (by assumption)]
         refine GK.ret (rs := [.tmp 4]) rfl (.tmp rfl .nil) sp ?_ ?_ (Tks.c (Tks.c (Tks.c (Tks.c (Tks.c (.nil _))))))
         ·exact ⟨hinv, hnil⟩
         ·rfl
       ·try simp only [sB0, sB1, sB2, sB3, sB4, sB5, sB6, sB7, sB8] at c3
        refine GC.skip (GK.then (GC.seq (GC.seq (GC.region ?_))))
        refine G.q Gd.no (Qt.mv rfl) rfl ?_
        refine G.q Gd.no (Qt.eqI rfl rfl) rfl ?_
        refine G.nil (GK.then ?_)
        refine GC.condb rfl (fun c5 => ?_) (fun c5 => ?_)
        ·try simp only [sB0, sB1, sB2, sB3, sB4, sB5, sB6, sB7, sB8] at c5
         first | contradiction | omega
        ·try simp only [sB0, sB1, sB2, sB3, sB4, sB5, sB6, sB7, sB8] at c5
         refine GC.skip (GK.then (GC.seq (GC.region ?_)))
         refine G.q Gd.no (Qt.mv rfl) rfl ?_
         refine G.q Gd.no (Qt.asg rfl) rfl ?_
         refine G.nil (GK.then (GC.ret ?_))
         rw [openT_p (by assumption) hE (by first | assumption | rfl) hP (by assumption)]
         refine GK.ret (rs := [.tmp 4]) rfl (.tmp rfl .nil) sp ?_ ?_ (Tks.c (Tks.c (Tks.c (Tks.c (Tks.c (.nil _))))))
         ·exact ⟨hinv, hnil⟩
         ·rfl
      ·skip
       refine ⟨Held.c, ?_⟩
       refine GO 9 4194303 (by kernel_rfl) rfl rfl Gd.no (Ld.appI (k := .u8) (ob := some qa) (xs := litL 4 (Y.newest + 1)) (sp := []) (ys := litL 4 t) Try.underlying53 z5 by5 ze5 rfl rfl rfl rfl (Vw.pre Rd.o) rfl (by intro e; cases e) (by simp only [List.length_append, List.length_cons, List.length_nil, litL_length]; omega) (by simp only [List.length_append, List.length_cons, List.length_nil, litL_length]; omega) (fun b' sp' => ?_))
       refine ⟨Held.c, ?_⟩
       refine GO 22 8388607 (by kernel_rfl) rfl rfl Gd.no (Ld.appI (k := .u8) (ob := some b') (xs := litL 4 (Y.newest + 1) ++ litL 4 t) (ys := [Y.next % 256, Y.next / 256]) Try.underlying53 z5 by5 ze5 rfl rfl rfl rfl (Vw.all Rd.o) rfl (by intro e; cases e) (by simp only [List.length_append, List.length_cons, List.length_nil, litL_length]; omega) (by simp only [List.length_append, List.length_cons, List.length_nil, litL_length]; omega) (fun b' sp' => ?_))
       refine ⟨Held.c, ?_⟩
       refine GO 23 16777215 (by kernel_rfl) rfl rfl Gd.no (Ld.call cal23 rfl rfl (Tks.c (Tks.c (.nil _))) (fun F' hF => program_ct F' _ _ _ _ _ _ _ (by assumption) (Y.sector * D.size) (some ⟨b', 0, none⟩) _ (hdL (Y.newest + 1) t Y.next) (VwF.ofPre (hF.own In.o)) (by simp only [hdL, List.length_append, List.length_cons, List.length_nil, litL_length]; omega)) (fun _ _ => ?_))
       dsimp only [lCa, lNa]
       obtain ⟨E2, e2, hP⟩ : ∃ E2 e2, Dev.program E (Y.sector * D.size) (hdL (Y.newest + 1) t Y.next) = (E2, e2) := ⟨_, _, rfl⟩
       obtain ⟨f2, l2⟩ := Dev.program_fine fE (Y.sector * D.size) (hdL (Y.newest + 1) t Y.next)
       have w2 := Dev.program_wear E (Y.sector * D.size) (hdL (Y.newest + 1) t Y.next)
       rw [hP] at f2 l2 w2
       rw [hED] at hP w2
       have ok2E := f2.ok
       rw [hP]
       dsimp only
       rw [← w2]
       refine ⟨Held.c, ?_⟩
       refine GT 24 33554431 rfl (by kernel_rfl) rfl rfl Gd.no (Qt.asg rfl) Held.c ?_
       refine GH.done (by kernel_rfl) ?_
       refine GK.then (GC.seq (GC.seq (GC.region ?_)))
       refine G.q Gd.no (Qt.mv rfl) rfl ?_
       refine G.q Gd.no (Qt.eqI rfl rfl) rfl ?_
       refine G.nil (GK.then ?_)
       refine GC.condb rfl (fun c6 => ?_) (fun c6 => ?_)
       ·try simp only [sB0, sB1, sB2, sB3, sB4, sB5, sB6, sB7, sB8] at c6
        refine GC.region ?_
        refine G.q Gd.no (Qt.mv rfl) rfl ?_
        refine G.q Gd.no (Qt.nilc rfl) rfl ?_
        refine G.q Gd.no (Qt.fa0 fl85_0 rfl) rfl ?_
        refine G.q Gd.no (Qt.ldc a27 rfl (by first | exact Rdc.o rfl | exact Rdc.o (nth_vIs (by omega)) | exact Rdc.o (nth_vI (by omega)))) rfl ?_
        refine G.q Gd.no (Qt.mv rfl) rfl ?_
        refine G.q Gd.no (Qt.add rfl rfl (by exact i64_id (by omega) (by omega))) rfl ?_
        refine G.ld Gd.no (Ld.bsl (xs := [.const (.int .u8 0)]) rfl Try.underlying53 z5 ze5 rfl rfl rfl rfl rfl (by simp [Value.oneCell']) (fun b97 => ?_))
        refine G.ld Gd.no (Ld.call cal23 rfl rfl (Tks.c (Tks.c (.nil _))) (fun F' hF => program_ct F' _ _ _ _ _ _ _ (by assumption) (Y.sector * D.size + 10) (some ⟨b97, 0, none⟩) _ [0] (VwF.ofAll (hF.own In.o)) (by simp)) (fun _ _ => ?_))
        dsimp only [lCa, lNa]
        obtain ⟨E3, e3, hQ⟩ : ∃ E3 e3, E2.program (Y.sector * D.size + 10) [0] = (E3, e3) := ⟨_, _, rfl⟩
        have w3 := Dev.program_wear E2 (Y.sector * D.size + 10) [0]
        rw [hQ] at w3
        rw [hQ]
        dsimp only
        rw [← w3]
        refine G.q Gd.no (Qt.asg rfl) rfl ?_
        refine G.nil (GK.then (GC.seq (GC.seq (GC.region ?_))))
        refine G.q Gd.no (Qt.mv rfl) rfl ?_
        refine G.q Gd.no (Qt.eqI rfl rfl) rfl ?_
        refine G.nil (GK.then ?_)
        refine GC.condb rfl (fun c7 => ?_) (fun c7 => ?_)
        ·try simp only [sB0, sB1, sB2, sB3, sB4, sB5, sB6, sB7, sB8] at c7
         refine GC.seq ?_
         refine GC.draw mixed _ (Held.tk (b := some b3) Held.none) ?_
         refine GT 0 1 rfl (by kernel_rfl) rfl rfl Gd.no (Qt.mv rfl) Held.c ?_
         refine GT 1 3 rfl (by kernel_rfl) rfl rfl Gd.no (Qt.mv rfl) Held.c ?_
         refine GT 2 7 rfl (by kernel_rfl) rfl rfl Gd.no (Qt.mv rfl) Held.c ?_
         refine GT 3 15 rfl (by kernel_rfl) rfl rfl Gd.no (Qt.mv rfl) Held.c ?_
         refine GT 4 31 rfl (by kernel_rfl) rfl rfl Gd.no (Qt.ldc a3 rfl (by first | exact Rdc.o rfl | exact Rdc.o (nth_vIs (by omega)) | exact Rdc.o (nth_vI (by omega)))) Held.c ?_
         refine GT 5 63 rfl (by kernel_rfl) rfl rfl Gd.no (Qt.nilc rfl) Held.c ?_
         refine GT 6 127 rfl (by kernel_rfl) rfl rfl Gd.no (Qt.fa0 fl85_4 rfl) Held.c ?_
         refine GO 7 255 (by kernel_rfl) rfl rfl Gd.no (Ld.stc z3 rfl rfl rfl (Stc.o SetAt.k4) ?_)
         refine ⟨Held.c, ?_⟩
         refine GT 8 511 rfl (by kernel_rfl) rfl rfl Gd.no (Qt.nilc rfl) Held.c ?_
         refine GT 9 1023 rfl (by kernel_rfl) rfl rfl Gd.no (Qt.fa0 fl85_5 rfl) Held.c ?_
         refine GO 10 2047 (by kernel_rfl) rfl rfl Gd.no (Ld.stc z3 rfl rfl rfl (Stc.o SetAt.k5) ?_)
         refine ⟨Held.c, ?_⟩
         refine GT 11 4095 rfl (by kernel_rfl) rfl rfl Gd.no (Qt.nilc rfl) Held.c ?_
         refine GT 12 8191 rfl (by kernel_rfl) rfl rfl Gd.no (Qt.fa0 fl85_6 rfl) Held.c ?_
         refine GO 13 16383 (by kernel_rfl) rfl rfl Gd.no (Ld.stc z3 rfl rfl rfl (Stc.o SetAt.k6) ?_)
         refine ⟨Held.c, ?_⟩
         refine GH.done (by kernel_rfl) ?_
         refine GK.then (GC.region ?_)
         refine G.q Gd.no (Qt.mv rfl) rfl ?_
         refine G.q Gd.no (Qt.mv rfl) rfl ?_
         refine G.q Gd.no (Qt.nilc rfl) rfl ?_
         refine G.q Gd.no (Qt.fa0 fl85_8 rfl) rfl ?_
         refine G.q Gd.no (Qt.ldc a83 rfl (by first | exact Rdc.o rfl | exact Rdc.o (nth_vIs (by omega)) | exact Rdc.o (nth_vI (by omega)))) rfl ?_
         refine G.q Gd.no (Qt.mkf rfl rfl) rfl ?_
         refine G.ld Gd.no (Ld.call cal92 rfl rfl (Tks.c (.nil _)) (fun F' hF => deleteR_ct F' rb rc sp Y.recs hinv hnil (by omega) (fun r => decide (r.1 < t)) 93 [.pointer (some ⟨b3, 0, none⟩)] cal93 (fun F2 R2 h2 r => open1_ct F2 r b3 t (h2.fr (hF.own In.o)))) (fun sp3 hdel => ?_))
         dsimp only [lCa, lNa]
         refine G.q Gd.no (Qt.nilc rfl) rfl ?_
         refine G.q Gd.no (Qt.fa0 fl85_8 rfl) rfl ?_
         refine G.ld Gd.no (Ld.stc z83 rfl rfl rfl (Stc.o SetAt.k8) ?_)
         refine G.nil (GK.then (GC.seq (GC.region ?_)))
         refine G.q Gd.no (Qt.mv rfl) rfl ?_
         refine G.q Gd.no (Qt.asg rfl) rfl ?_
         refine G.nil (GK.then (GC.ret ?_))
         rw [openT_ok (by assumption) hE (by first | assumption | rfl) hP (by assumption) hQ (by assumption)]
         refine GK.ret (rs := [.tmp 4]) rfl (.tmp rfl .nil) sp3 ?_ ?_ (Tks.c (Tks.c (Tks.c (Tks.c (Tks.c (.nil _))))))
         ·exact hdel
         ·(simp only [*]; rfl)
        ·try simp only [sB0, sB1, sB2, sB3, sB4, sB5, sB6, sB7, sB8] at c7
         refine GC.skip (GK.then (GC.seq (GC.region ?_)))
         refine G.q Gd.no (Qt.mv rfl) rfl ?_
         refine G.q Gd.no (Qt.asg rfl) rfl ?_
         refine G.nil (GK.then (GC.ret ?_))
         rw [openT_q (by assumption) hE (by first | assumption | rfl) hP (by assumption) hQ (by assumption)]
         refine GK.ret (rs := [.tmp 4]) rfl (.tmp rfl .nil) sp ?_ ?_ (Tks.c (Tks.c (Tks.c (Tks.c (Tks.c (.nil _))))))
         ·exact ⟨hinv, hnil⟩
         ·rfl
       ·try simp only [sB0, sB1, sB2, sB3, sB4, sB5, sB6, sB7, sB8] at c6
        refine GC.skip (GK.then (GC.seq (GC.seq (GC.region ?_))))
        refine G.q Gd.no (Qt.mv rfl) rfl ?_
        refine G.q Gd.no (Qt.eqI rfl rfl) rfl ?_
        refine G.nil (GK.then ?_)
        refine GC.condb rfl (fun c8 => ?_) (fun c8 => ?_)
        ·try simp only [sB0, sB1, sB2, sB3, sB4, sB5, sB6, sB7, sB8] at c8
         first | contradiction | omega
        ·try simp only [sB0, sB1, sB2, sB3, sB4, sB5, sB6, sB7, sB8] at c8
         refine GC.skip (GK.then (GC.seq (GC.region ?_)))
         refine G.q Gd.no (Qt.mv rfl) rfl ?_
         refine G.q Gd.no (Qt.asg rfl) rfl ?_
         refine G.nil (GK.then (GC.ret ?_))
         rw [openT_p (by assumption) hE (by first | assumption | rfl) hP (by assumption)]
         refine GK.ret (rs := [.tmp 4]) rfl (.tmp rfl .nil) sp ?_ ?_ (Tks.c (Tks.c (Tks.c (Tks.c (Tks.c (.nil _))))))
         ·exact ⟨hinv, hnil⟩
         ·rfl
     ·skip
      refine ⟨Held.c, ?_⟩
      refine GO 8 4193791 (by kernel_rfl) rfl rfl Gd.no (Ld.call cal91 rfl rfl (.nil _) (fun F' hF => write4_ct F' t (by omega) (by omega)) (fun qb _ => ?_))
      dsimp only [lCa, lNa]
      refine ⟨Held.c, ?_⟩
      refine GO 9 4194303 (by kernel_rfl) rfl rfl Gd.no (Ld.appI (k := .u8) (ob := some qa) (xs := litL 4 (Y.newest + 1)) (sp := []) (ys := litL 4 t) Try.underlying53 z5 by5 ze5 rfl rfl rfl rfl (Vw.pre Rd.o) rfl (by intro e; cases e) (by simp only [List.length_append, List.length_cons, List.length_nil, litL_length]; omega) (by simp only [List.length_append, List.length_cons, List.length_nil, litL_length]; omega) (fun b' sp' => ?_))
      refine ⟨Held.c, ?_⟩
      refine GO 22 8388607 (by kernel_rfl) rfl rfl Gd.no (Ld.appI (k := .u8) (ob := some b') (xs := litL 4 (Y.newest + 1) ++ litL 4 t) (ys := [Y.next % 256, Y.next / 256]) Try.underlying53 z5 by5 ze5 rfl rfl rfl rfl (Vw.all Rd.o) rfl (by intro e; cases e) (by simp only [List.length_append, List.length_cons, List.length_nil, litL_length]; omega) (by simp only [List.length_append, List.length_cons, List.length_nil, litL_length]; omega) (fun b' sp' => ?_))
      refine ⟨Held.c, ?_⟩
      refine GO 23 16777215 (by kernel_rfl) rfl rfl Gd.no (Ld.call cal23 rfl rfl (Tks.c (Tks.c (.nil _))) (fun F' hF => program_ct F' _ _ _ _ _ _ _ (by assumption) (Y.sector * D.size) (some ⟨b', 0, none⟩) _ (hdL (Y.newest + 1) t Y.next) (VwF.ofPre (hF.own In.o)) (by simp only [hdL, List.length_append, List.length_cons, List.length_nil, litL_length]; omega)) (fun _ _ => ?_))
      dsimp only [lCa, lNa]
      obtain ⟨E2, e2, hP⟩ : ∃ E2 e2, Dev.program E (Y.sector * D.size) (hdL (Y.newest + 1) t Y.next) = (E2, e2) := ⟨_, _, rfl⟩
      obtain ⟨f2, l2⟩ := Dev.program_fine fE (Y.sector * D.size) (hdL (Y.newest + 1) t Y.next)
      have w2 := Dev.program_wear E (Y.sector * D.size) (hdL (Y.newest + 1) t Y.next)
      rw [hP] at f2 l2 w2
      rw [hED] at hP w2
      have ok2E := f2.ok
      rw [hP]
      dsimp only
      rw [← w2]
      refine ⟨Held.c, ?_⟩
      refine GT 24 33554431 rfl (by kernel_rfl) rfl rfl Gd.no (Qt.asg rfl) Held.c ?_
      refine GH.done (by kernel_rfl) ?_
      refine GK.then (GC.seq (GC.seq (GC.region ?_)))
      refine G.q Gd.no (Qt.mv rfl) rfl ?_
      refine G.q Gd.no (Qt.eqI rfl rfl) rfl ?_
      refine G.nil (GK.then ?_)
      refine GC.condb rfl (fun c9 => ?_) (fun c9 => ?_)
      ·try simp only [sB0, sB1, sB2, sB3, sB4, sB5, sB6, sB7, sB8] at c9
       refine GC.region ?_
       refine G.q Gd.no (Qt.mv rfl) rfl ?_
       refine G.q Gd.no (Qt.nilc rfl) rfl ?_
       refine G.q Gd.no (Qt.fa0 fl85_0 rfl) rfl ?_
       refine G.q Gd.no (Qt.ldc a27 rfl (by first | exact Rdc.o rfl | exact Rdc.o (nth_vIs (by omega)) | exact Rdc.o (nth_vI (by omega)))) rfl ?_
       refine G.q Gd.no (Qt.mv rfl) rfl ?_
       refine G.q Gd.no (Qt.add rfl rfl (by exact i64_id (by omega) (by omega))) rfl ?_
       refine G.ld Gd.no (Ld.bsl (xs := [.const (.int .u8 0)]) rfl Try.underlying53 z5 ze5 rfl rfl rfl rfl rfl (by simp [Value.oneCell']) (fun b97 => ?_))
       refine G.ld Gd.no (Ld.call cal23 rfl rfl (Tks.c (Tks.c (.nil _))) (fun F' hF => program_ct F' _ _ _ _ _ _ _ (by assumption) (Y.sector * D.size + 10) (some ⟨b97, 0, none⟩) _ [0] (VwF.ofAll (hF.own In.o)) (by simp)) (fun _ _ => ?_))
       dsimp only [lCa, lNa]
       obtain ⟨E3, e3, hQ⟩ : ∃ E3 e3, E2.program (Y.sector * D.size + 10) [0] = (E3, e3) := ⟨_, _, rfl⟩
       have w3 := Dev.program_wear E2 (Y.sector * D.size + 10) [0]
       rw [hQ] at w3
       rw [hQ]
       dsimp only
       rw [← w3]
       refine G.q Gd.no (Qt.asg rfl) rfl ?_
       refine G.nil (GK.then (GC.seq (GC.seq (GC.region ?_))))
       refine G.q Gd.no (Qt.mv rfl) rfl ?_
       refine G.q Gd.no (Qt.eqI rfl rfl) rfl ?_
       refine G.nil (GK.then ?_)
       refine GC.condb rfl (fun c10 => ?_) (fun c10 => ?_)
       ·try simp only [sB0, sB1, sB2, sB3, sB4, sB5, sB6, sB7, sB8] at c10
        refine GC.seq ?_
        refine GC.draw mixed _ (Held.tk (b := some b3) Held.none) ?_
        refine GT 0 1 rfl (by kernel_rfl) rfl rfl Gd.no (Qt.mv rfl) Held.c ?_
        refine GT 1 3 rfl (by kernel_rfl) rfl rfl Gd.no (Qt.mv rfl) Held.c ?_
        refine GT 2 7 rfl (by kernel_rfl) rfl rfl Gd.no (Qt.mv rfl) Held.c ?_
        refine GT 3 15 rfl (by kernel_rfl) rfl rfl Gd.no (Qt.mv rfl) Held.c ?_
        refine GT 4 31 rfl (by kernel_rfl) rfl rfl Gd.no (Qt.ldc a3 rfl (by first | exact Rdc.o rfl | exact Rdc.o (nth_vIs (by omega)) | exact Rdc.o (nth_vI (by omega)))) Held.c ?_
        refine GT 5 63 rfl (by kernel_rfl) rfl rfl Gd.no (Qt.nilc rfl) Held.c ?_
        refine GT 6 127 rfl (by kernel_rfl) rfl rfl Gd.no (Qt.fa0 fl85_4 rfl) Held.c ?_
        refine GO 7 255 (by kernel_rfl) rfl rfl Gd.no (Ld.stc z3 rfl rfl rfl (Stc.o SetAt.k4) ?_)
        refine ⟨Held.c, ?_⟩
        refine GT 8 511 rfl (by kernel_rfl) rfl rfl Gd.no (Qt.nilc rfl) Held.c ?_
        refine GT 9 1023 rfl (by kernel_rfl) rfl rfl Gd.no (Qt.fa0 fl85_5 rfl) Held.c ?_
        refine GO 10 2047 (by kernel_rfl) rfl rfl Gd.no (Ld.stc z3 rfl rfl rfl (Stc.o SetAt.k5) ?_)
        refine ⟨Held.c, ?_⟩
        refine GT 11 4095 rfl (by kernel_rfl) rfl rfl Gd.no (Qt.nilc rfl) Held.c ?_
        refine GT 12 8191 rfl (by kernel_rfl) rfl rfl Gd.no (Qt.fa0 fl85_6 rfl) Held.c ?_
        refine GO 13 16383 (by kernel_rfl) rfl rfl Gd.no (Ld.stc z3 rfl rfl rfl (Stc.o SetAt.k6) ?_)
        refine ⟨Held.c, ?_⟩
        refine GH.done (by kernel_rfl) ?_
        refine GK.then (GC.region ?_)
        refine G.q Gd.no (Qt.mv rfl) rfl ?_
        refine G.q Gd.no (Qt.mv rfl) rfl ?_
        refine G.q Gd.no (Qt.nilc rfl) rfl ?_
        refine G.q Gd.no (Qt.fa0 fl85_8 rfl) rfl ?_
        refine G.q Gd.no (Qt.ldc a83 rfl (by first | exact Rdc.o rfl | exact Rdc.o (nth_vIs (by omega)) | exact Rdc.o (nth_vI (by omega)))) rfl ?_
        refine G.q Gd.no (Qt.mkf rfl rfl) rfl ?_
        refine G.ld Gd.no (Ld.call cal92 rfl rfl (Tks.c (.nil _)) (fun F' hF => deleteR_ct F' rb rc sp Y.recs hinv hnil (by omega) (fun r => decide (r.1 < t)) 93 [.pointer (some ⟨b3, 0, none⟩)] cal93 (fun F2 R2 h2 r => open1_ct F2 r b3 t (h2.fr (hF.own In.o)))) (fun sp3 hdel => ?_))
        dsimp only [lCa, lNa]
        refine G.q Gd.no (Qt.nilc rfl) rfl ?_
        refine G.q Gd.no (Qt.fa0 fl85_8 rfl) rfl ?_
        refine G.ld Gd.no (Ld.stc z83 rfl rfl rfl (Stc.o SetAt.k8) ?_)
        refine G.nil (GK.then (GC.seq (GC.region ?_)))
        refine G.q Gd.no (Qt.mv rfl) rfl ?_
        refine G.q Gd.no (Qt.asg rfl) rfl ?_
        refine G.nil (GK.then (GC.ret ?_))
        rw [openT_ok (by assumption) hE (by first | assumption | rfl) hP (by assumption) hQ (by assumption)]
        refine GK.ret (rs := [.tmp 4]) rfl (.tmp rfl .nil) sp3 ?_ ?_ (Tks.c (Tks.c (Tks.c (Tks.c (Tks.c (.nil _))))))
        ·exact hdel
        ·(simp only [*]; rfl)
       ·try simp only [sB0, sB1, sB2, sB3, sB4, sB5, sB6, sB7, sB8] at c10
        refine GC.skip (GK.then (GC.seq (GC.region ?_)))
        refine G.q Gd.no (Qt.mv rfl) rfl ?_
        refine G.q Gd.no (Qt.asg rfl) rfl ?_
        refine G.nil (GK.then (GC.ret ?_))
        rw [openT_q (by assumption) hE (by first | assumption | rfl) hP (by assumption) hQ (by assumption)]
        refine GK.ret (rs := [.tmp 4]) rfl (.tmp rfl .nil) sp ?_ ?_ (Tks.c (Tks.c (Tks.c (Tks.c (Tks.c (.nil _))))))
        ·exact ⟨hinv, hnil⟩
        ·rfl
      ·try simp only [sB0, sB1, sB2, sB3, sB4, sB5, sB6, sB7, sB8] at c9
       refine GC.skip (GK.then (GC.seq (GC.seq (GC.region ?_))))
       refine G.q Gd.no (Qt.mv rfl) rfl ?_
       refine G.q Gd.no (Qt.eqI rfl rfl) rfl ?_
       refine G.nil (GK.then ?_)
       refine GC.condb rfl (fun c11 => ?_) (fun c11 => ?_)
       ·try simp only [sB0, sB1, sB2, sB3, sB4, sB5, sB6, sB7, sB8] at c11
        first | contradiction | omega
       ·try simp only [sB0, sB1, sB2, sB3, sB4, sB5, sB6, sB7, sB8] at c11
        refine GC.skip (GK.then (GC.seq (GC.region ?_)))
        refine G.q Gd.no (Qt.mv rfl) rfl ?_
        refine G.q Gd.no (Qt.asg rfl) rfl ?_
        refine G.nil (GK.then (GC.ret ?_))
        rw [openT_p (by assumption) hE (by first | assumption | rfl) hP (by assumption)]
        refine GK.ret (rs := [.tmp 4]) rfl (.tmp rfl .nil) sp ?_ ?_ (Tks.c (Tks.c (Tks.c (Tks.c (Tks.c (.nil _))))))
        ·exact ⟨hinv, hnil⟩
        ·rfl
    ·skip
     refine ⟨Held.c, ?_⟩
     refine GO 6 4193535 (by kernel_rfl) rfl rfl Gd.no (Ld.call cal91 rfl rfl (.nil _) (fun F' hF => write4_ct F' (Y.newest + 1) (by omega) (by omega)) (fun qa _ => ?_))
     dsimp only [lCa, lNa]
     refine ⟨Held.c, ?_⟩
     refine GO 8 4193791 (by kernel_rfl) rfl rfl Gd.no (Ld.call cal91 rfl rfl (.nil _) (fun F' hF => write4_ct F' t (by omega) (by omega)) (fun qb _ => ?_))
     dsimp only [lCa, lNa]
     refine ⟨Held.c, ?_⟩
     refine GO 9 4194303 (by kernel_rfl) rfl rfl Gd.no (Ld.appI (k := .u8) (ob := some qa) (xs := litL 4 (Y.newest + 1)) (sp := []) (ys := litL 4 t) Try.underlying53 z5 by5 ze5 rfl rfl rfl rfl (Vw.pre Rd.o) rfl (by intro e; cases e) (by simp only [List.length_append, List.length_cons, List.length_nil, litL_length]; omega) (by simp only [List.length_append, List.length_cons, List.length_nil, litL_length]; omega) (fun b' sp' => ?_))
     refine ⟨Held.c, ?_⟩
     refine GO 22 8388607 (by kernel_rfl) rfl rfl Gd.no (Ld.appI (k := .u8) (ob := some b') (xs := litL 4 (Y.newest + 1) ++ litL 4 t) (ys := [Y.next % 256, Y.next / 256]) Try.underlying53 z5 by5 ze5 rfl rfl rfl rfl (Vw.all Rd.o) rfl (by intro e; cases e) (by simp only [List.length_append, List.length_cons, List.length_nil, litL_length]; omega) (by simp only [List.length_append, List.length_cons, List.length_nil, litL_length]; omega) (fun b' sp' => ?_))
     refine ⟨Held.c, ?_⟩
     refine GO 23 16777215 (by kernel_rfl) rfl rfl Gd.no (Ld.call cal23 rfl rfl (Tks.c (Tks.c (.nil _))) (fun F' hF => program_ct F' _ _ _ _ _ _ _ (by assumption) (Y.sector * D.size) (some ⟨b', 0, none⟩) _ (hdL (Y.newest + 1) t Y.next) (VwF.ofPre (hF.own In.o)) (by simp only [hdL, List.length_append, List.length_cons, List.length_nil, litL_length]; omega)) (fun _ _ => ?_))
     dsimp only [lCa, lNa]
     obtain ⟨E2, e2, hP⟩ : ∃ E2 e2, Dev.program E (Y.sector * D.size) (hdL (Y.newest + 1) t Y.next) = (E2, e2) := ⟨_, _, rfl⟩
     obtain ⟨f2, l2⟩ := Dev.program_fine fE (Y.sector * D.size) (hdL (Y.newest + 1) t Y.next)
     have w2 := Dev.program_wear E (Y.sector * D.size) (hdL (Y.newest + 1) t Y.next)
     rw [hP] at f2 l2 w2
     rw [hED] at hP w2
     have ok2E := f2.ok
     rw [hP]
     dsimp only
     rw [← w2]
     refine ⟨Held.c, ?_⟩
     refine GT 24 33554431 rfl (by kernel_rfl) rfl rfl Gd.no (Qt.asg rfl) Held.c ?_
     refine GH.done (by kernel_rfl) ?_
     refine GK.then (GC.seq (GC.seq (GC.region ?_)))
     refine G.q Gd.no (Qt.mv rfl) rfl ?_
     refine G.q Gd.no (Qt.eqI rfl rfl) rfl ?_
     refine G.nil (GK.then ?_)
     refine GC.condb rfl (fun c12 => ?_) (fun c12 => ?_)
     ·try simp only [sB0, sB1, sB2, sB3, sB4, sB5, sB6, sB7, sB8] at c12
      refine GC.region ?_
      refine G.q Gd.no (Qt.mv rfl) rfl ?_
      refine G.q Gd.no (Qt.nilc rfl) rfl ?_
      refine G.q Gd.no (Qt.fa0 fl85_0 rfl) rfl ?_
      refine G.q Gd.no (Qt.ldc a27 rfl (by first | exact Rdc.o rfl | exact Rdc.o (nth_vIs (by omega)) | exact Rdc.o (nth_vI (by omega)))) rfl ?_
      refine G.q Gd.no (Qt.mv rfl) rfl ?_
      refine G.q Gd.no (Qt.add rfl rfl (by exact i64_id (by omega) (by omega))) rfl ?_
      refine G.ld Gd.no (Ld.bsl (xs := [.const (.int .u8 0)]) rfl Try.underlying53 z5 ze5 rfl rfl rfl rfl rfl (by simp [Value.oneCell']) (fun b97 => ?_))
      refine G.ld Gd.no (Ld.call cal23 rfl rfl (Tks.c (Tks.c (.nil _))) (fun F' hF => program_ct F' _ _ _ _ _ _ _ (by assumption) (Y.sector * D.size + 10) (some ⟨b97, 0, none⟩) _ [0] (VwF.ofAll (hF.own In.o)) (by simp)) (fun _ _ => ?_))
      dsimp only [lCa, lNa]
      obtain ⟨E3, e3, hQ⟩ : ∃ E3 e3, E2.program (Y.sector * D.size + 10) [0] = (E3, e3) := ⟨_, _, rfl⟩
      have w3 := Dev.program_wear E2 (Y.sector * D.size + 10) [0]
      rw [hQ] at w3
      rw [hQ]
      dsimp only
      rw [← w3]
      refine G.q Gd.no (Qt.asg rfl) rfl ?_
      refine G.nil (GK.then (GC.seq (GC.seq (GC.region ?_))))
      refine G.q Gd.no (Qt.mv rfl) rfl ?_
      refine G.q Gd.no (Qt.eqI rfl rfl) rfl ?_
      refine G.nil (GK.then ?_)
      refine GC.condb rfl (fun c13 => ?_) (fun c13 => ?_)
      ·try simp only [sB0, sB1, sB2, sB3, sB4, sB5, sB6, sB7, sB8] at c13
       refine GC.seq ?_
       refine GC.draw mixed _ (Held.tk (b := some b3) Held.none) ?_
       refine GT 0 1 rfl (by kernel_rfl) rfl rfl Gd.no (Qt.mv rfl) Held.c ?_
       refine GT 1 3 rfl (by kernel_rfl) rfl rfl Gd.no (Qt.mv rfl) Held.c ?_
       refine GT 2 7 rfl (by kernel_rfl) rfl rfl Gd.no (Qt.mv rfl) Held.c ?_
       refine GT 3 15 rfl (by kernel_rfl) rfl rfl Gd.no (Qt.mv rfl) Held.c ?_
       refine GT 4 31 rfl (by kernel_rfl) rfl rfl Gd.no (Qt.ldc a3 rfl (by first | exact Rdc.o rfl | exact Rdc.o (nth_vIs (by omega)) | exact Rdc.o (nth_vI (by omega)))) Held.c ?_
       refine GT 5 63 rfl (by kernel_rfl) rfl rfl Gd.no (Qt.nilc rfl) Held.c ?_
       refine GT 6 127 rfl (by kernel_rfl) rfl rfl Gd.no (Qt.fa0 fl85_4 rfl) Held.c ?_
       refine GO 7 255 (by kernel_rfl) rfl rfl Gd.no (Ld.stc z3 rfl rfl rfl (Stc.o SetAt.k4) ?_)
       refine ⟨Held.c, ?_⟩
       refine GT 8 511 rfl (by kernel_rfl) rfl rfl Gd.no (Qt.nilc rfl) Held.c ?_
       refine GT 9 1023 rfl (by kernel_rfl) rfl rfl Gd.no (Qt.fa0 fl85_5 rfl) Held.c ?_
       refine GO 10 2047 (by kernel_rfl) rfl rfl Gd.no (Ld.stc z3 rfl rfl rfl (Stc.o SetAt.k5) ?_)
       refine ⟨Held.c, ?_⟩
       refine GT 11 4095 rfl (by kernel_rfl) rfl rfl Gd.no (Qt.nilc rfl) Held.c ?_
       refine GT 12 8191 rfl (by kernel_rfl) rfl rfl Gd.no (Qt.fa0 fl85_6 rfl) Held.c ?_
       refine GO 13 16383 (by kernel_rfl) rfl rfl Gd.no (Ld.stc z3 rfl rfl rfl (Stc.o SetAt.k6) ?_)
       refine ⟨Held.c, ?_⟩
       refine GH.done (by kernel_rfl) ?_
       refine GK.then (GC.region ?_)
       refine G.q Gd.no (Qt.mv rfl) rfl ?_
       refine G.q Gd.no (Qt.mv rfl) rfl ?_
       refine G.q Gd.no (Qt.nilc rfl) rfl ?_
       refine G.q Gd.no (Qt.fa0 fl85_8 rfl) rfl ?_
       refine G.q Gd.no (Qt.ldc a83 rfl (by first | exact Rdc.o rfl | exact Rdc.o (nth_vIs (by omega)) | exact Rdc.o (nth_vI (by omega)))) rfl ?_
       refine G.q Gd.no (Qt.mkf rfl rfl) rfl ?_
       refine G.ld Gd.no (Ld.call cal92 rfl rfl (Tks.c (.nil _)) (fun F' hF => deleteR_ct F' rb rc sp Y.recs hinv hnil (by omega) (fun r => decide (r.1 < t)) 93 [.pointer (some ⟨b3, 0, none⟩)] cal93 (fun F2 R2 h2 r => open1_ct F2 r b3 t (h2.fr (hF.own In.o)))) (fun sp3 hdel => ?_))
       dsimp only [lCa, lNa]
       refine G.q Gd.no (Qt.nilc rfl) rfl ?_
       refine G.q Gd.no (Qt.fa0 fl85_8 rfl) rfl ?_
       refine G.ld Gd.no (Ld.stc z83 rfl rfl rfl (Stc.o SetAt.k8) ?_)
       refine G.nil (GK.then (GC.seq (GC.region ?_)))
       refine G.q Gd.no (Qt.mv rfl) rfl ?_
       refine G.q Gd.no (Qt.asg rfl) rfl ?_
       refine G.nil (GK.then (GC.ret ?_))
       rw [openT_ok (by assumption) hE (by first | assumption | rfl) hP (by assumption) hQ (by assumption)]
       refine GK.ret (rs := [.tmp 4]) rfl (.tmp rfl .nil) sp3 ?_ ?_ (Tks.c (Tks.c (Tks.c (Tks.c (Tks.c (.nil _))))))
       ·exact hdel
       ·(simp only [*]; rfl)
      ·try simp only [sB0, sB1, sB2, sB3, sB4, sB5, sB6, sB7, sB8] at c13
       refine GC.skip (GK.then (GC.seq (GC.region ?_)))
       refine G.q Gd.no (Qt.mv rfl) rfl ?_
       refine G.q Gd.no (Qt.asg rfl) rfl ?_
       refine G.nil (GK.then (GC.ret ?_))
       rw [openT_q (by assumption) hE (by first | assumption | rfl) hP (by assumption) hQ (by assumption)]
       refine GK.ret (rs := [.tmp 4]) rfl (.tmp rfl .nil) sp ?_ ?_ (Tks.c (Tks.c (Tks.c (Tks.c (Tks.c (.nil _))))))
       ·exact ⟨hinv, hnil⟩
       ·rfl
     ·try simp only [sB0, sB1, sB2, sB3, sB4, sB5, sB6, sB7, sB8] at c12
      refine GC.skip (GK.then (GC.seq (GC.seq (GC.region ?_))))
      refine G.q Gd.no (Qt.mv rfl) rfl ?_
      refine G.q Gd.no (Qt.eqI rfl rfl) rfl ?_
      refine G.nil (GK.then ?_)
      refine GC.condb rfl (fun c14 => ?_) (fun c14 => ?_)
      ·try simp only [sB0, sB1, sB2, sB3, sB4, sB5, sB6, sB7, sB8] at c14
       first | contradiction | omega
      ·try simp only [sB0, sB1, sB2, sB3, sB4, sB5, sB6, sB7, sB8] at c14
       refine GC.skip (GK.then (GC.seq (GC.region ?_)))
       refine G.q Gd.no (Qt.mv rfl) rfl ?_
       refine G.q Gd.no (Qt.asg rfl) rfl ?_
       refine G.nil (GK.then (GC.ret ?_))
       rw [openT_p (by assumption) hE (by first | assumption | rfl) hP (by assumption)]
       refine GK.ret (rs := [.tmp 4]) rfl (.tmp rfl .nil) sp ?_ ?_ (Tks.c (Tks.c (Tks.c (Tks.c (Tks.c (.nil _))))))
       ·exact ⟨hinv, hnil⟩
       ·rfl
   ·try simp only [sB0, sB1, sB2, sB3, sB4, sB5, sB6, sB7, sB8] at c2
    refine GC.skip (GK.then (GC.seq (GC.seq (GC.region ?_))))
    refine G.q Gd.no (Qt.mv rfl) rfl ?_
    refine G.q Gd.no (Qt.eqI rfl rfl) rfl ?_
    refine G.nil (GK.then ?_)
    refine GC.condb rfl (fun c15 => ?_) (fun c15 => ?_)
    ·try simp only [sB0, sB1, sB2, sB3, sB4, sB5, sB6, sB7, sB8] at c15
     first | contradiction | omega
    ·try simp only [sB0, sB1, sB2, sB3, sB4, sB5, sB6, sB7, sB8] at c15
     refine GC.skip (GK.then (GC.seq (GC.seq (GC.region ?_))))
     refine G.q Gd.no (Qt.mv rfl) rfl ?_
     refine G.q Gd.no (Qt.eqI rfl rfl) rfl ?_
     refine G.nil (GK.then ?_)
     refine GC.condb rfl (fun c16 => ?_) (fun c16 => ?_)
     ·try simp only [sB0, sB1, sB2, sB3, sB4, sB5, sB6, sB7, sB8] at c16
      first | contradiction | omega
     ·try simp only [sB0, sB1, sB2, sB3, sB4, sB5, sB6, sB7, sB8] at c16
      refine GC.skip (GK.then (GC.seq (GC.region ?_)))
      refine G.q Gd.no (Qt.mv rfl) rfl ?_
      refine G.q Gd.no (Qt.asg rfl) rfl ?_
      refine G.nil (GK.then (GC.ret ?_))
      rw [openT_e (by assumption) hE (by assumption)]
      refine GK.ret (rs := [.tmp 4]) rfl (.tmp rfl .nil) sp ?_ ?_ (Tks.c (Tks.c (Tks.c (Tks.c (Tks.c (.nil _))))))
      ·exact ⟨hinv, hnil⟩
      ·rfl
  ·try simp only [sB0, sB1, sB2, sB3, sB4, sB5, sB6, sB7, sB8] at c1
   have hE : openE D Y.sector = (D, 0) := by unfold openE; rw [if_pos (by simpa using c1)]
   obtain ⟨E, hED⟩ : ∃ E, E = D := ⟨D, rfl⟩
   have fE : E.Fine := by rw [hED]; exact fine
   refine GC.skip (GK.then (GC.seq (GC.seq (GC.region ?_))))
   refine G.q Gd.no (Qt.mv rfl) rfl ?_
   refine G.q Gd.no (Qt.eqI rfl rfl) rfl ?_
   refine G.nil (GK.then ?_)
   refine GC.condt rfl ?_
   refine GC.draw mixed _ (Held.tk (b := some b3) (Held.tk (b := some b) Held.none)) ?_
   refine GT 0 1 rfl (by kernel_rfl) rfl rfl Gd.no (Qt.mv rfl) Held.c ?_
   refine GT 1 3 rfl (by kernel_rfl) rfl rfl Gd.no (Qt.nilc rfl) Held.c ?_
   refine GT 2 7 rfl (by kernel_rfl) rfl rfl Gd.no (Qt.fa0 fl85_0 rfl) Held.c ?_
   refine GT 3 15 rfl (by kernel_rfl) rfl rfl Gd.no (Qt.ldc a27 rfl (by first | exact Rdc.o rfl | exact Rdc.o (nth_vIs (by omega)) | exact Rdc.o (nth_vI (by omega)))) Held.c ?_
   refine GT 4 31 rfl (by kernel_rfl) rfl rfl Gd.no (Qt.mv rfl) Held.c ?_
   refine GT 5 63 rfl (by kernel_rfl) rfl rfl Gd.no (Qt.mv rfl) Held.c ?_
   refine GT 7 191 rfl (by kernel_rfl) rfl rfl Gd.no (Qt.ldc a3 rfl (by first | exact Rdc.o rfl | exact Rdc.o (nth_vIs (by omega)) | exact Rdc.o (nth_vI (by omega)))) Held.c ?_
   refine GT 10 1215 rfl (by kernel_rfl) rfl rfl Gd.no (Qt.mv rfl) Held.c ?_
   refine GT 11 3263 rfl (by kernel_rfl) rfl rfl Gd.no (Qt.nilc rfl) Held.c ?_
   refine GT 12 7359 rfl (by kernel_rfl) rfl rfl Gd.no (Qt.fa0 fl85_7 rfl) Held.c ?_
   refine GT 13 15551 rfl (by kernel_rfl) rfl rfl Gd.no (Qt.ldc a36 rfl (by first | exact Rdc.o rfl | exact Rdc.o (nth_vIs (by omega)) | exact Rdc.o (nth_vI (by omega)))) Held.c ?_
   refine GT 14 31935 rfl (by kernel_rfl) rfl rfl Gd.no (Qt.conv Try.underlying36 Try.underlying5 rfl (by exact u8_mod _)) Held.c ?_
   refine GT 15 64703 rfl (by kernel_rfl) rfl rfl Gd.no (Qt.mv rfl) Held.c ?_
   refine GT 16 130239 rfl (by kernel_rfl) rfl rfl Gd.no (Qt.nilc rfl) Held.c ?_
   refine GT 17 261311 rfl (by kernel_rfl) rfl rfl Gd.no (Qt.fa0 fl85_7 rfl) Held.c ?_
   refine GT 18 523455 rfl (by kernel_rfl) rfl rfl Gd.no (Qt.ldc a36 rfl (by first | exact Rdc.o rfl | exact Rdc.o (nth_vIs (by omega)) | exact Rdc.o (nth_vI (by omega)))) Held.c ?_
   refine GT 19 1047743 rfl (by kernel_rfl) rfl rfl Gd.no (Qt.shr rfl rfl (by omega) (shrv_lit (k := .u16) 8 _ (by decide))) Held.c ?_
   refine GT 20 2096319 rfl (by kernel_rfl) rfl rfl Gd.no (Qt.conv Try.underlying36 Try.underlying5 rfl (by exact u8_id (by omega) (by omega))) Held.c ?_
   refine GH.two (i := 6) (j := 21) (by kernel_rfl) rfl rfl  (rfl : _ = 2096383) (rfl : _ = 4193471) Gd.no Gd.no (Ld.call cal91 rfl rfl (.nil _) (fun F' hF => write4_ct F' (Y.newest + 1) (by omega) (by omega)) (fun qa _ => ?_)) (Ld.bsl (xs := [.tmp 79, .tmp 85]) rfl Try.underlying53 z5 ze5 rfl rfl rfl rfl rfl (by simp [Value.oneCell']) (fun b86 => ?_))
   ·skip
    dsimp only [lCa, lNa]
    refine ⟨Held.c, ?_⟩
    refine GH.two (i := 8) (j := 21) (by kernel_rfl) rfl rfl  (rfl : _ = 2096639) (rfl : _ = 4193535) Gd.no Gd.no (Ld.call cal91 rfl rfl (.nil _) (fun F' hF => write4_ct F' t (by omega) (by omega)) (fun qb _ => ?_)) (Ld.bsl (xs := [.tmp 79, .tmp 85]) rfl Try.underlying53 z5 ze5 rfl rfl rfl rfl rfl (by simp [Value.oneCell']) (fun b86 => ?_))
    ·skip
     dsimp only [lCa, lNa]
     refine ⟨Held.c, ?_⟩
     refine GH.two (i := 9) (j := 21) (by kernel_rfl) rfl rfl  (rfl : _ = 2097151) (rfl : _ = 4193791) Gd.no Gd.no (Ld.appI (k := .u8) (ob := some qa) (xs := litL 4 (Y.newest + 1)) (sp := []) (ys := litL 4 t) Try.underlying53 z5 by5 ze5 rfl rfl rfl rfl (Vw.pre Rd.o) rfl (by intro e; cases e) (by simp only [List.length_append, List.length_cons, List.length_nil, litL_length]; omega) (by simp only [List.length_append, List.length_cons, List.length_nil, litL_length]; omega) (fun b' sp' => ?_)) (Ld.bsl (xs := [.tmp 79, .tmp 85]) rfl Try.underlying53 z5 ze5 rfl rfl rfl rfl rfl (by simp [Value.oneCell']) (fun b86 => ?_))
     ·skip
      refine ⟨Held.c, ?_⟩
      refine GO 21 4194303 (by kernel_rfl) rfl rfl Gd.no (Ld.bsl (xs := [.tmp 79, .tmp 85]) rfl Try.underlying53 z5 ze5 rfl rfl rfl rfl rfl (by simp [Value.oneCell']) (fun b86 => ?_))
      refine ⟨Held.c, ?_⟩
      refine GO 22 8388607 (by kernel_rfl) rfl rfl Gd.no (Ld.appI (k := .u8) (ob := some b') (xs := litL 4 (Y.newest + 1) ++ litL 4 t) (ys := [Y.next % 256, Y.next / 256]) Try.underlying53 z5 by5 ze5 rfl rfl rfl rfl (Vw.all Rd.o) rfl (by intro e; cases e) (by simp only [List.length_append, List.length_cons, List.length_nil, litL_length]; omega) (by simp only [List.length_append, List.length_cons, List.length_nil, litL_length]; omega) (fun b' sp' => ?_))
      refine ⟨Held.c, ?_⟩
      refine GO 23 16777215 (by kernel_rfl) rfl rfl Gd.no (Ld.call cal23 rfl rfl (Tks.c (Tks.c (.nil _))) (fun F' hF => program_ct F' _ _ _ _ _ _ _ (by assumption) (Y.sector * D.size) (some ⟨b', 0, none⟩) _ (hdL (Y.newest + 1) t Y.next) (VwF.ofPre (hF.own In.o)) (by simp only [hdL, List.length_append, List.length_cons, List.length_nil, litL_length]; omega)) (fun _ _ => ?_))
      dsimp only [lCa, lNa]
      obtain ⟨E2, e2, hP⟩ : ∃ E2 e2, Dev.program E (Y.sector * D.size) (hdL (Y.newest + 1) t Y.next) = (E2, e2) := ⟨_, _, rfl⟩
      obtain ⟨f2, l2⟩ := Dev.program_fine fE (Y.sector * D.size) (hdL (Y.newest + 1) t Y.next)
      have w2 := Dev.program_wear E (Y.sector * D.size) (hdL (Y.newest + 1) t Y.next)
      rw [hP] at f2 l2 w2
      rw [hED] at hP w2
      have ok2E := f2.ok
      rw [hP]
      dsimp only
      rw [← w2]
      refine ⟨Held.c, ?_⟩
      refine GT 24 33554431 rfl (by kernel_rfl) rfl rfl Gd.no (Qt.asg rfl) Held.c ?_
      refine GH.done (by kernel_rfl) ?_
      refine GK.then (GC.seq (GC.seq (GC.region ?_)))
      refine G.q Gd.no (Qt.mv rfl) rfl ?_
      refine G.q Gd.no (Qt.eqI rfl rfl) rfl ?_
      refine G.nil (GK.then ?_)
      refine GC.condb rfl (fun c18 => ?_) (fun c18 => ?_)
      ·try simp only [sB0, sB1, sB2, sB3, sB4, sB5, sB6, sB7, sB8] at c18
       refine GC.region ?_
       refine G.q Gd.no (Qt.mv rfl) rfl ?_
       refine G.q Gd.no (Qt.nilc rfl) rfl ?_
       refine G.q Gd.no (Qt.fa0 fl85_0 rfl) rfl ?_
       refine G.q Gd.no (Qt.ldc a27 rfl (by first | exact Rdc.o rfl | exact Rdc.o (nth_vIs (by omega)) | exact Rdc.o (nth_vI (by omega)))) rfl ?_
       refine G.q Gd.no (Qt.mv rfl) rfl ?_
       refine G.q Gd.no (Qt.add rfl rfl (by exact i64_id (by omega) (by omega))) rfl ?_
       refine G.ld Gd.no (Ld.bsl (xs := [.const (.int .u8 0)]) rfl Try.underlying53 z5 ze5 rfl rfl rfl rfl rfl (by simp [Value.oneCell']) (fun b97 => ?_))
       refine G.ld Gd.no (Ld.call cal23 rfl rfl (Tks.c (Tks.c (.nil _))) (fun F' hF => program_ct F' _ _ _ _ _ _ _ (by assumption) (Y.sector * D.size + 10) (some ⟨b97, 0, none⟩) _ [0] (VwF.ofAll (hF.own In.o)) (by simp)) (fun _ _ => ?_))
       dsimp only [lCa, lNa]
       obtain ⟨E3, e3, hQ⟩ : ∃ E3 e3, E2.program (Y.sector * D.size + 10) [0] = (E3, e3) := ⟨_, _, rfl⟩
       have w3 := Dev.program_wear E2 (Y.sector * D.size + 10) [0]
       rw [hQ] at w3
       rw [hQ]
       dsimp only
       rw [← w3]
       refine G.q Gd.no (Qt.asg rfl) rfl ?_
       refine G.nil (GK.then (GC.seq (GC.seq (GC.region ?_))))
       refine G.q Gd.no (Qt.mv rfl) rfl ?_
       refine G.q Gd.no (Qt.eqI rfl rfl) rfl ?_
       refine G.nil (GK.then ?_)
       refine GC.condb rfl (fun c19 => ?_) (fun c19 => ?_)
       ·try simp only [sB0, sB1, sB2, sB3, sB4, sB5, sB6, sB7, sB8] at c19
        refine GC.seq ?_
        refine GC.draw mixed _ (Held.tk (b := some b3) Held.none) ?_
        refine GT 0 1 rfl (by kernel_rfl) rfl rfl Gd.no (Qt.mv rfl) Held.c ?_
        refine GT 1 3 rfl (by kernel_rfl) rfl rfl Gd.no (Qt.mv rfl) Held.c ?_
        refine GT 2 7 rfl (by kernel_rfl) rfl rfl Gd.no (Qt.mv rfl) Held.c ?_
        refine GT 3 15 rfl (by kernel_rfl) rfl rfl Gd.no (Qt.mv rfl) Held.c ?_
        refine GT 4 31 rfl (by kernel_rfl) rfl rfl Gd.no (Qt.ldc a3 rfl (by first | exact Rdc.o rfl | exact Rdc.o (nth_vIs (by omega)) | exact Rdc.o (nth_vI (by omega)))) Held.c ?_
        refine GT 5 63 rfl (by kernel_rfl) rfl rfl Gd.no (Qt.nilc rfl) Held.c ?_
        refine GT 6 127 rfl (by kernel_rfl) rfl rfl Gd.no (Qt.fa0 fl85_4 rfl) Held.c ?_
        refine GO 7 255 (by kernel_rfl) rfl rfl Gd.no (Ld.stc z3 rfl rfl rfl (Stc.o SetAt.k4) ?_)
        refine ⟨Held.c, ?_⟩
        refine GT 8 511 rfl (by kernel_rfl) rfl rfl Gd.no (Qt.nilc rfl) Held.c ?_
        refine GT 9 1023 rfl (by kernel_rfl) rfl rfl Gd.no (Qt.fa0 fl85_5 rfl) Held.c ?_
        refine GO 10 2047 (by kernel_rfl) rfl rfl Gd.no (Ld.stc z3 rfl rfl rfl (Stc.o SetAt.k5) ?_)
        refine ⟨Held.c, ?_⟩
        refine GT 11 4095 rfl (by kernel_rfl) rfl rfl Gd.no (Qt.nilc rfl) Held.c ?_
        refine GT 12 8191 rfl (by kernel_rfl) rfl rfl Gd.no (Qt.fa0 fl85_6 rfl) Held.c ?_
        refine GO 13 16383 (by kernel_rfl) rfl rfl Gd.no (Ld.stc z3 rfl rfl rfl (Stc.o SetAt.k6) ?_)
        refine ⟨Held.c, ?_⟩
        refine GH.done (by kernel_rfl) ?_
        refine GK.then (GC.region ?_)
        refine G.q Gd.no (Qt.mv rfl) rfl ?_
        refine G.q Gd.no (Qt.mv rfl) rfl ?_
        refine G.q Gd.no (Qt.nilc rfl) rfl ?_
        refine G.q Gd.no (Qt.fa0 fl85_8 rfl) rfl ?_
        refine G.q Gd.no (Qt.ldc a83 rfl (by first | exact Rdc.o rfl | exact Rdc.o (nth_vIs (by omega)) | exact Rdc.o (nth_vI (by omega)))) rfl ?_
        refine G.q Gd.no (Qt.mkf rfl rfl) rfl ?_
        refine G.ld Gd.no (Ld.call cal92 rfl rfl (Tks.c (.nil _)) (fun F' hF => deleteR_ct F' rb rc sp Y.recs hinv hnil (by omega) (fun r => decide (r.1 < t)) 93 [.pointer (some ⟨b3, 0, none⟩)] cal93 (fun F2 R2 h2 r => open1_ct F2 r b3 t (h2.fr (hF.own In.o)))) (fun sp3 hdel => ?_))
        dsimp only [lCa, lNa]
        refine G.q Gd.no (Qt.nilc rfl) rfl ?_
        refine G.q Gd.no (Qt.fa0 fl85_8 rfl) rfl ?_
        refine G.ld Gd.no (Ld.stc z83 rfl rfl rfl (Stc.o SetAt.k8) ?_)
        refine G.nil (GK.then (GC.seq (GC.region ?_)))
        refine G.q Gd.no (Qt.mv rfl) rfl ?_
        refine G.q Gd.no (Qt.asg rfl) rfl ?_
        refine G.nil (GK.then (GC.ret ?_))
        rw [openT_ok (by assumption) hE (by first | assumption | rfl) hP (by assumption) hQ (by assumption)]
        refine GK.ret (rs := [.tmp 4]) rfl (.tmp rfl .nil) sp3 ?_ ?_ (Tks.c (Tks.c (Tks.c (Tks.c (Tks.c (.nil _))))))
        ·exact hdel
        ·(simp only [*]; rfl)
       ·try simp only [sB0, sB1, sB2, sB3, sB4, sB5, sB6, sB7, sB8] at c19
        refine GC.skip (GK.then (GC.seq (GC.region ?_)))
        refine G.q Gd.no (Qt.mv rfl) rfl ?_
        refine G.q Gd.no (Qt.asg rfl) rfl ?_
        refine G.nil (GK.then (GC.ret ?_))
        rw [openT_q (by assumption) hE (by first | assumption | rfl) hP (by assumption) hQ (by assumption)]
        refine GK.ret (rs := [.tmp 4]) rfl (.tmp rfl .nil) sp ?_ ?_ (Tks.c (Tks.c (Tks.c (Tks.c (Tks.c (.nil _))))))
        ·exact ⟨hinv, hnil⟩
        ·rfl
      ·try simp only [sB0, sB1, sB2, sB3, sB4, sB5, sB6, sB7, sB8] at c18
       refine GC.skip (GK.then (GC.seq (GC.seq (GC.region ?_))))
       refine G.q Gd.no (Qt.mv rfl) rfl ?_
       refine G.q Gd.no (Qt.eqI rfl rfl) rfl ?_
       refine G.nil (GK.then ?_)
       refine GC.condb rfl (fun c20 => ?_) (fun c20 => ?_)
       ·try simp only [sB0, sB1, sB2, sB3, sB4, sB5, sB6, sB7, sB8] at c20
        first | contradiction | omega
       ·try simp only [sB0, sB1, sB2, sB3, sB4, sB5, sB6, sB7, sB8] at c20
        refine GC.skip (GK.then (GC.seq (GC.region ?_)))
        refine G.q Gd.no (Qt.mv rfl) rfl ?_
        refine G.q Gd.no (Qt.asg rfl) rfl ?_
        refine G.nil (GK.then (GC.ret ?_))
        rw [openT_p (by assumption) hE (by first | assumption | rfl) hP (by assumption)]
        refine GK.ret (rs := [.tmp 4]) rfl (.tmp rfl .nil) sp ?_ ?_ (Tks.c (Tks.c (Tks.c (Tks.c (Tks.c (.nil _))))))
        ·exact ⟨hinv, hnil⟩
        ·rfl
     ·skip
      refine ⟨Held.c, ?_⟩
      refine GO 9 4194303 (by kernel_rfl) rfl rfl Gd.no (Ld.appI (k := .u8) (ob := some qa) (xs := litL 4 (Y.newest + 1)) (sp := []) (ys := litL 4 t) Try.underlying53 z5 by5 ze5 rfl rfl rfl rfl (Vw.pre Rd.o) rfl (by intro e; cases e) (by simp only [List.length_append, List.length_cons, List.length_nil, litL_length]; omega) (by simp only [List.length_append, List.length_cons, List.length_nil, litL_length]; omega) (fun b' sp' => ?_))
      refine ⟨Held.c, ?_⟩
      refine GO 22 8388607 (by kernel_rfl) rfl rfl Gd.no (Ld.appI (k := .u8) (ob := some b') (xs := litL 4 (Y.newest + 1) ++ litL 4 t) (ys := [Y.next % 256, Y.next / 256]) Try.underlying53 z5 by5 ze5 rfl rfl rfl rfl (Vw.all Rd.o) rfl (by intro e; cases e) (by simp only [List.length_append, List.length_cons, List.length_nil, litL_length]; omega) (by simp only [List.length_append, List.length_cons, List.length_nil, litL_length]; omega) (fun b' sp' => ?_))
      refine ⟨Held.c, ?_⟩
      refine GO 23 16777215 (by kernel_rfl) rfl rfl Gd.no (Ld.call cal23 rfl rfl (Tks.c (Tks.c (.nil _))) (fun F' hF => program_ct F' _ _ _ _ _ _ _ (by assumption) (Y.sector * D.size) (some ⟨b', 0, none⟩) _ (hdL (Y.newest + 1) t Y.next) (VwF.ofPre (hF.own In.o)) (by simp only [hdL, List.length_append, List.length_cons, List.length_nil, litL_length]; omega)) (fun _ _ => ?_))
      dsimp only [lCa, lNa]
      obtain ⟨E2, e2, hP⟩ : ∃ E2 e2, Dev.program E (Y.sector * D.size) (hdL (Y.newest + 1) t Y.next) = (E2, e2) := ⟨_, _, rfl⟩
      obtain ⟨f2, l2⟩ := Dev.program_fine fE (Y.sector * D.size) (hdL (Y.newest + 1) t Y.next)
      have w2 := Dev.program_wear E (Y.sector * D.size) (hdL (Y.newest + 1) t Y.next)
      rw [hP] at f2 l2 w2
      rw [hED] at hP w2
      have ok2E := f2.ok
      rw [hP]
      dsimp only
      rw [← w2]
      refine ⟨Held.c, ?_⟩
      refine GT 24 33554431 rfl (by kernel_rfl) rfl rfl Gd.no (Qt.asg rfl) Held.c ?_
      refine GH.done (by kernel_rfl) ?_
      refine GK.then (GC.seq (GC.seq (GC.region ?_)))
      refine G.q Gd.no (Qt.mv rfl) rfl ?_
      refine G.q Gd.no (Qt.eqI rfl rfl) rfl ?_
      refine G.nil (GK.then ?_)
      refine GC.condb rfl (fun c21 => ?_) (fun c21 => ?_)
      ·try simp only [sB0, sB1, sB2, sB3, sB4, sB5, sB6, sB7, sB8] at c21
       refine GC.region ?_
       refine G.q Gd.no (Qt.mv rfl) rfl ?_
       refine G.q Gd.no (Qt.nilc rfl) rfl ?_
       refine G.q Gd.no (Qt.fa0 fl85_0 rfl) rfl ?_
       refine G.q Gd.no (Qt.ldc a27 rfl (by first | exact Rdc.o rfl | exact Rdc.o (nth_vIs (by omega)) | exact Rdc.o (nth_vI (by omega)))) rfl ?_
       refine G.q Gd.no (Qt.mv rfl) rfl ?_
       refine G.q Gd.no (Qt.add rfl rfl (by exact i64_id (by omega) (by omega))) rfl ?_
       refine G.ld Gd.no (Ld.bsl (xs := [.const (.int .u8 0)]) rfl Try.underlying53 z5 ze5 rfl rfl rfl rfl rfl (by simp [Value.oneCell']) (fun b97 => ?_))
       refine G.ld Gd.no (Ld.call cal23 rfl rfl (Tks.c (Tks.c (.nil _))) (fun F' hF => program_ct F' _ _ _ _ _ _ _ (by assumption) (Y.sector * D.size + 10) (some ⟨b97, 0, none⟩) _ [0] (VwF.ofAll (hF.own In.o)) (by simp)) (fun _ _ => ?_))
       dsimp only [lCa, lNa]
       obtain ⟨E3, e3, hQ⟩ : ∃ E3 e3, E2.program (Y.sector * D.size + 10) [0] = (E3, e3) := ⟨_, _, rfl⟩
       have w3 := Dev.program_wear E2 (Y.sector * D.size + 10) [0]
       rw [hQ] at w3
       rw [hQ]
       dsimp only
       rw [← w3]
       refine G.q Gd.no (Qt.asg rfl) rfl ?_
       refine G.nil (GK.then (GC.seq (GC.seq (GC.region ?_))))
       refine G.q Gd.no (Qt.mv rfl) rfl ?_
       refine G.q Gd.no (Qt.eqI rfl rfl) rfl ?_
       refine G.nil (GK.then ?_)
       refine GC.condb rfl (fun c22 => ?_) (fun c22 => ?_)
       ·try simp only [sB0, sB1, sB2, sB3, sB4, sB5, sB6, sB7, sB8] at c22
        refine GC.seq ?_
        refine GC.draw mixed _ (Held.tk (b := some b3) Held.none) ?_
        refine GT 0 1 rfl (by kernel_rfl) rfl rfl Gd.no (Qt.mv rfl) Held.c ?_
        refine GT 1 3 rfl (by kernel_rfl) rfl rfl Gd.no (Qt.mv rfl) Held.c ?_
        refine GT 2 7 rfl (by kernel_rfl) rfl rfl Gd.no (Qt.mv rfl) Held.c ?_
        refine GT 3 15 rfl (by kernel_rfl) rfl rfl Gd.no (Qt.mv rfl) Held.c ?_
        refine GT 4 31 rfl (by kernel_rfl) rfl rfl Gd.no (Qt.ldc a3 rfl (by first | exact Rdc.o rfl | exact Rdc.o (nth_vIs (by omega)) | exact Rdc.o (nth_vI (by omega)))) Held.c ?_
        refine GT 5 63 rfl (by kernel_rfl) rfl rfl Gd.no (Qt.nilc rfl) Held.c ?_
        refine GT 6 127 rfl (by kernel_rfl) rfl rfl Gd.no (Qt.fa0 fl85_4 rfl) Held.c ?_
        refine GO 7 255 (by kernel_rfl) rfl rfl Gd.no (Ld.stc z3 rfl rfl rfl (Stc.o SetAt.k4) ?_)
        refine ⟨Held.c, ?_⟩
        refine GT 8 511 rfl (by kernel_rfl) rfl rfl Gd.no (Qt.nilc rfl) Held.c ?_
        refine GT 9 1023 rfl (by kernel_rfl) rfl rfl Gd.no (Qt.fa0 fl85_5 rfl) Held.c ?_
        refine GO 10 2047 (by kernel_rfl) rfl rfl Gd.no (Ld.stc z3 rfl rfl rfl (Stc.o SetAt.k5) ?_)
        refine ⟨Held.c, ?_⟩
        refine GT 11 4095 rfl (by kernel_rfl) rfl rfl Gd.no (Qt.nilc rfl) Held.c ?_
        refine GT 12 8191 rfl (by kernel_rfl) rfl rfl Gd.no (Qt.fa0 fl85_6 rfl) Held.c ?_
        refine GO 13 16383 (by kernel_rfl) rfl rfl Gd.no (Ld.stc z3 rfl rfl rfl (Stc.o SetAt.k6) ?_)
        refine ⟨Held.c, ?_⟩
        refine GH.done (by kernel_rfl) ?_
        refine GK.then (GC.region ?_)
        refine G.q Gd.no (Qt.mv rfl) rfl ?_
        refine G.q Gd.no (Qt.mv rfl) rfl ?_
        refine G.q Gd.no (Qt.nilc rfl) rfl ?_
        refine G.q Gd.no (Qt.fa0 fl85_8 rfl) rfl ?_
        refine G.q Gd.no (Qt.ldc a83 rfl (by first | exact Rdc.o rfl | exact Rdc.o (nth_vIs (by omega)) | exact Rdc.o (nth_vI (by omega)))) rfl ?_
        refine G.q Gd.no (Qt.mkf rfl rfl) rfl ?_
        refine G.ld Gd.no (Ld.call cal92 rfl rfl (Tks.c (.nil _)) (fun F' hF => deleteR_ct F' rb rc sp Y.recs hinv hnil (by omega) (fun r => decide (r.1 < t)) 93 [.pointer (some ⟨b3, 0, none⟩)] cal93 (fun F2 R2 h2 r => open1_ct F2 r b3 t (h2.fr (hF.own In.o)))) (fun sp3 hdel => ?_))
        dsimp only [lCa, lNa]
        refine G.q Gd.no (Qt.nilc rfl) rfl ?_
        refine G.q Gd.no (Qt.fa0 fl85_8 rfl) rfl ?_
        refine G.ld Gd.no (Ld.stc z83 rfl rfl rfl (Stc.o SetAt.k8) ?_)
        refine G.nil (GK.then (GC.seq (GC.region ?_)))
        refine G.q Gd.no (Qt.mv rfl) rfl ?_
        refine G.q Gd.no (Qt.asg rfl) rfl ?_
        refine G.nil (GK.then (GC.ret ?_))
        rw [openT_ok (by assumption) hE (by first | assumption | rfl) hP (by assumption) hQ (by assumption)]
        refine GK.ret (rs := [.tmp 4]) rfl (.tmp rfl .nil) sp3 ?_ ?_ (Tks.c (Tks.c (Tks.c (Tks.c (Tks.c (.nil _))))))
        ·exact hdel
        ·(simp only [*]; rfl)
       ·try simp only [sB0, sB1, sB2, sB3, sB4, sB5, sB6, sB7, sB8] at c22
        refine GC.skip (GK.then (GC.seq (GC.region ?_)))
        refine G.q Gd.no (Qt.mv rfl) rfl ?_
        refine G.q Gd.no (Qt.asg rfl) rfl ?_
        refine G.nil (GK.then (GC.ret ?_))
        rw [openT_q (by assumption) hE (by first | assumption | rfl) hP (by assumption) hQ (by assumption)]
        refine GK.ret (rs := [.tmp 4]) rfl (.tmp rfl .nil) sp ?_ ?_ (Tks.c (Tks.c (Tks.c (Tks.c (Tks.c (.nil _))))))
        ·exact ⟨hinv, hnil⟩
        ·rfl
      ·try simp only [sB0, sB1, sB2, sB3, sB4, sB5, sB6, sB7, sB8] at c21
       refine GC.skip (GK.then (GC.seq (GC.seq (GC.region ?_))))
       refine G.q Gd.no (Qt.mv rfl) rfl ?_
       refine G.q Gd.no (Qt.eqI rfl rfl) rfl ?_
       refine G.nil (GK.then ?_)
       refine GC.condb rfl (fun c23 => ?_) (fun c23 => ?_)
       ·try simp only [sB0, sB1, sB2, sB3, sB4, sB5, sB6, sB7, sB8] at c23
        first | contradiction | omega
       ·try simp only [sB0, sB1, sB2, sB3, sB4, sB5, sB6, sB7, sB8] at c23
        refine GC.skip (GK.then (GC.seq (GC.region ?_)))
        refine G.q Gd.no (Qt.mv rfl) rfl ?_
        refine G.q Gd.no (Qt.asg rfl) rfl ?_
        refine G.nil (GK.then (GC.ret ?_))
        rw [openT_p (by assumption) hE (by first | assumption | rfl) hP (by assumption)]
        refine GK.ret (rs := [.tmp 4]) rfl (.tmp rfl .nil) sp ?_ ?_ (Tks.c (Tks.c (Tks.c (Tks.c (Tks.c (.nil _))))))
        ·exact ⟨hinv, hnil⟩
        ·rfl
    ·skip
     refine ⟨Held.c, ?_⟩
     refine GO 8 4193791 (by kernel_rfl) rfl rfl Gd.no (Ld.call cal91 rfl rfl (.nil _) (fun F' hF => write4_ct F' t (by omega) (by omega)) (fun qb _ => ?_))
     dsimp only [lCa, lNa]
     refine ⟨Held.c, ?_⟩
     refine GO 9 4194303 (by kernel_rfl) rfl rfl Gd.no (Ld.appI (k := .u8) (ob := some qa) (xs := litL 4 (Y.newest + 1)) (sp := []) (ys := litL 4 t) Try.underlying53 z5 by5 ze5 rfl rfl rfl rfl (Vw.pre Rd.o) rfl (by intro e; cases e) (by simp only [List.length_append, List.length_cons, List.length_nil, litL_length]; omega) (by simp only [List.length_append, List.length_cons, List.length_nil, litL_length]; omega) (fun b' sp' => ?_))
     refine ⟨Held.c, ?_⟩
     refine GO 22 8388607 (by kernel_rfl) rfl rfl Gd.no (Ld.appI (k := .u8) (ob := some b') (xs := litL 4 (Y.newest + 1) ++ litL 4 t) (ys := [Y.next % 256, Y.next / 256]) Try.underlying53 z5 by5 ze5 rfl rfl rfl rfl (Vw.all Rd.o) rfl (by intro e; cases e) (by simp only [List.length_append, List.length_cons, List.length_nil, litL_length]; omega) (by simp only [List.length_append, List.length_cons, List.length_nil, litL_length]; omega) (fun b' sp' => ?_))
     refine ⟨Held.c, ?_⟩
     refine GO 23 16777215 (by kernel_rfl) rfl rfl Gd.no (Ld.call cal23 rfl rfl (Tks.c (Tks.c (.nil _))) (fun F' hF => program_ct F' _ _ _ _ _ _ _ (by assumption) (Y.sector * D.size) (some ⟨b', 0, none⟩) _ (hdL (Y.newest + 1) t Y.next) (VwF.ofPre (hF.own In.o)) (by simp only [hdL, List.length_append, List.length_cons, List.length_nil, litL_length]; omega)) (fun _ _ => ?_))
     dsimp only [lCa, lNa]
     obtain ⟨E2, e2, hP⟩ : ∃ E2 e2, Dev.program E (Y.sector * D.size) (hdL (Y.newest + 1) t Y.next) = (E2, e2) := ⟨_, _, rfl⟩
     obtain ⟨f2, l2⟩ := Dev.program_fine fE (Y.sector * D.size) (hdL (Y.newest + 1) t Y.next)
     have w2 := Dev.program_wear E (Y.sector * D.size) (hdL (Y.newest + 1) t Y.next)
     rw [hP] at f2 l2 w2
     rw [hED] at hP w2
     have ok2E := f2.ok
     rw [hP]
     dsimp only
     rw [← w2]
     refine ⟨Held.c, ?_⟩
     refine GT 24 33554431 rfl (by kernel_rfl) rfl rfl Gd.no (Qt.asg rfl) Held.c ?_
     refine GH.done (by kernel_rfl) ?_
     refine GK.then (GC.seq (GC.seq (GC.region ?_)))
     refine G.q Gd.no (Qt.mv rfl) rfl ?_
     refine G.q Gd.no (Qt.eqI rfl rfl) rfl ?_
     refine G.nil (GK.then ?_)
     refine GC.condb rfl (fun c24 => ?_) (fun c24 => ?_)
     ·try simp only [sB0, sB1, sB2, sB3, sB4, sB5, sB6, sB7, sB8] at c24
      refine GC.region ?_
      refine G.q Gd.no (Qt.mv rfl) rfl ?_
      refine G.q Gd.no (Qt.nilc rfl) rfl ?_
      refine G.q Gd.no (Qt.fa0 fl85_0 rfl) rfl ?_
      refine G.q Gd.no (Qt.ldc a27 rfl (by first | exact Rdc.o rfl | exact Rdc.o (nth_vIs (by omega)) | exact Rdc.o (nth_vI (by omega)))) rfl ?_
      refine G.q Gd.no (Qt.mv rfl) rfl ?_
      refine G.q Gd.no (Qt.add rfl rfl (by exact i64_id (by omega) (by omega))) rfl ?_
      refine G.ld Gd.no (Ld.bsl (xs := [.const (.int .u8 0)]) rfl Try.underlying53 z5 ze5 rfl rfl rfl rfl rfl (by simp [Value.oneCell']) (fun b97 => ?_))
      refine G.ld Gd.no (Ld.call cal23 rfl rfl (Tks.c (Tks.c (.nil _))) (fun F' hF => program_ct F' _ _ _ _ _ _ _ (by assumption) (Y.sector * D.size + 10) (some ⟨b97, 0, none⟩) _ [0] (VwF.ofAll (hF.own In.o)) (by simp)) (fun _ _ => ?_))
      dsimp only [lCa, lNa]
      obtain ⟨E3, e3, hQ⟩ : ∃ E3 e3, E2.program (Y.sector * D.size + 10) [0] = (E3, e3) := ⟨_, _, rfl⟩
      have w3 := Dev.program_wear E2 (Y.sector * D.size + 10) [0]
      rw [hQ] at w3
      rw [hQ]
      dsimp only
      rw [← w3]
      refine G.q Gd.no (Qt.asg rfl) rfl ?_
      refine G.nil (GK.then (GC.seq (GC.seq (GC.region ?_))))
      refine G.q Gd.no (Qt.mv rfl) rfl ?_
      refine G.q Gd.no (Qt.eqI rfl rfl) rfl ?_
      refine G.nil (GK.then ?_)
      refine GC.condb rfl (fun c25 => ?_) (fun c25 => ?_)
      ·try simp only [sB0, sB1, sB2, sB3, sB4, sB5, sB6, sB7, sB8] at c25
       refine GC.seq ?_
       refine GC.draw mixed _ (Held.tk (b := some b3) Held.none) ?_
       refine GT 0 1 rfl (by kernel_rfl) rfl rfl Gd.no (Qt.mv rfl) Held.c ?_
       refine GT 1 3 rfl (by kernel_rfl) rfl rfl Gd.no (Qt.mv rfl) Held.c ?_
       refine GT 2 7 rfl (by kernel_rfl) rfl rfl Gd.no (Qt.mv rfl) Held.c ?_
       refine GT 3 15 rfl (by kernel_rfl) rfl rfl Gd.no (Qt.mv rfl) Held.c ?_
       refine GT 4 31 rfl (by kernel_rfl) rfl rfl Gd.no (Qt.ldc a3 rfl (by first | exact Rdc.o rfl | exact Rdc.o (nth_vIs (by omega)) | exact Rdc.o (nth_vI (by omega)))) Held.c ?_
       refine GT 5 63 rfl (by kernel_rfl) rfl rfl Gd.no (Qt.nilc rfl) Held.c ?_
       refine GT 6 127 rfl (by kernel_rfl) rfl rfl Gd.no (Qt.fa0 fl85_4 rfl) Held.c ?_
       refine GO 7 255 (by kernel_rfl) rfl rfl Gd.no (Ld.stc z3 rfl rfl rfl (Stc.o SetAt.k4) ?_)
       refine ⟨Held.c, ?_⟩
       refine GT 8 511 rfl (by kernel_rfl) rfl rfl Gd.no (Qt.nilc rfl) Held.c ?_
       refine GT 9 1023 rfl (by kernel_rfl) rfl rfl Gd.no (Qt.fa0 fl85_5 rfl) Held.c ?_
       refine GO 10 2047 (by kernel_rfl) rfl rfl Gd.no (Ld.stc z3 rfl rfl rfl (Stc.o SetAt.k5) ?_)
       refine ⟨Held.c, ?_⟩
       refine GT 11 4095 rfl (by kernel_rfl) rfl rfl Gd.no (Qt.nilc rfl) Held.c ?_
       refine GT 12 8191 rfl (by kernel_rfl) rfl rfl Gd.no (Qt.fa0 fl85_6 rfl) Held.c ?_
       refine GO 13 16383 (by kernel_rfl) rfl rfl Gd.no (Ld.stc z3 rfl rfl rfl (Stc.o SetAt.k6) ?_)
       refine ⟨Held.c, ?_⟩
       refine GH.done (by kernel_rfl) ?_
       refine GK.then (GC.region ?_)
       refine G.q Gd.no (Qt.mv rfl) rfl ?_
       refine G.q Gd.no (Qt.mv rfl) rfl ?_
       refine G.q Gd.no (Qt.nilc rfl) rfl ?_
       refine G.q Gd.no (Qt.fa0 fl85_8 rfl) rfl ?_
       refine G.q Gd.no (Qt.ldc a83 rfl (by first | exact Rdc.o rfl | exact Rdc.o (nth_vIs (by omega)) | exact Rdc.o (nth_vI (by omega)))) rfl ?_
       refine G.q Gd.no (Qt.mkf rfl rfl) rfl ?_
       refine G.ld Gd.no (Ld.call cal92 rfl rfl (Tks.c (.nil _)) (fun F' hF => deleteR_ct F' rb rc sp Y.recs hinv hnil (by omega) (fun r => decide (r.1 < t)) 93 [.pointer (some ⟨b3, 0, none⟩)] cal93 (fun F2 R2 h2 r => open1_ct F2 r b3 t (h2.fr (hF.own In.o)))) (fun sp3 hdel => ?_))
       dsimp only [lCa, lNa]
       refine G.q Gd.no (Qt.nilc rfl) rfl ?_
       refine G.q Gd.no (Qt.fa0 fl85_8 rfl) rfl ?_
       refine G.ld Gd.no (Ld.stc z83 rfl rfl rfl (Stc.o SetAt.k8) ?_)
       refine G.nil (GK.then (GC.seq (GC.region ?_)))
       refine G.q Gd.no (Qt.mv rfl) rfl ?_
       refine G.q Gd.no (Qt.asg rfl) rfl ?_
       refine G.nil (GK.then (GC.ret ?_))
       rw [openT_ok (by assumption) hE (by first | assumption | rfl) hP (by assumption) hQ (by assumption)]
       refine GK.ret (rs := [.tmp 4]) rfl (.tmp rfl .nil) sp3 ?_ ?_ (Tks.c (Tks.c (Tks.c (Tks.c (Tks.c (.nil _))))))
       ·exact hdel
       ·(simp only [*]; rfl)
      ·try simp only [sB0, sB1, sB2, sB3, sB4, sB5, sB6, sB7, sB8] at c25
       refine GC.skip (GK.then (GC.seq (GC.region ?_)))
       refine G.q Gd.no (Qt.mv rfl) rfl ?_
       refine G.q Gd.no (Qt.asg rfl) rfl ?_
       refine G.nil (GK.then (GC.ret ?_))
       rw [openT_q (by assumption) hE (by first | assumption | rfl) hP (by assumption) hQ (by assumption)]
       refine GK.ret (rs := [.tmp 4]) rfl (.tmp rfl .nil) sp ?_ ?_ (Tks.c (Tks.c (Tks.c (Tks.c (Tks.c (.nil _))))))
       ·exact ⟨hinv, hnil⟩
       ·rfl
     ·try simp only [sB0, sB1, sB2, sB3, sB4, sB5, sB6, sB7, sB8] at c24
      refine GC.skip (GK.then (GC.seq (GC.seq (GC.region ?_))))
      refine G.q Gd.no (Qt.mv rfl) rfl ?_
      refine G.q Gd.no (Qt.eqI rfl rfl) rfl ?_
      refine G.nil (GK.then ?_)
      refine GC.condb rfl (fun c26 => ?_) (fun c26 => ?_)
      ·try simp only [sB0, sB1, sB2, sB3, sB4, sB5, sB6, sB7, sB8] at c26
       first | contradiction | omega
      ·try simp only [sB0, sB1, sB2, sB3, sB4, sB5, sB6, sB7, sB8] at c26
       refine GC.skip (GK.then (GC.seq (GC.region ?_)))
       refine G.q Gd.no (Qt.mv rfl) rfl ?_
       refine G.q Gd.no (Qt.asg rfl) rfl ?_
       refine G.nil (GK.then (GC.ret ?_))
       rw [openT_p (by assumption) hE (by first | assumption | rfl) hP (by assumption)]
       refine GK.ret (rs := [.tmp 4]) rfl (.tmp rfl .nil) sp ?_ ?_ (Tks.c (Tks.c (Tks.c (Tks.c (Tks.c (.nil _))))))
       ·exact ⟨hinv, hnil⟩
       ·rfl
   ·skip
    refine ⟨Held.c, ?_⟩
    refine GO 6 4193535 (by kernel_rfl) rfl rfl Gd.no (Ld.call cal91 rfl rfl (.nil _) (fun F' hF => write4_ct F' (Y.newest + 1) (by omega) (by omega)) (fun qa _ => ?_))
    dsimp only [lCa, lNa]
    refine ⟨Held.c, ?_⟩
    refine GO 8 4193791 (by kernel_rfl) rfl rfl Gd.no (Ld.call cal91 rfl rfl (.nil _) (fun F' hF => write4_ct F' t (by omega) (by omega)) (fun qb _ => ?_))
    dsimp only [lCa, lNa]
    refine ⟨Held.c, ?_⟩
    refine GO 9 4194303 (by kernel_rfl) rfl rfl Gd.no (Ld.appI (k := .u8) (ob := some qa) (xs := litL 4 (Y.newest + 1)) (sp := []) (ys := litL 4 t) Try.underlying53 z5 by5 ze5 rfl rfl rfl rfl (Vw.pre Rd.o) rfl (by intro e; cases e) (by simp only [List.length_append, List.length_cons, List.length_nil, litL_length]; omega) (by simp only [List.length_append, List.length_cons, List.length_nil, litL_length]; omega) (fun b' sp' => ?_))
    refine ⟨Held.c, ?_⟩
    refine GO 22 8388607 (by kernel_rfl) rfl rfl Gd.no (Ld.appI (k := .u8) (ob := some b') (xs := litL 4 (Y.newest + 1) ++ litL 4 t) (ys := [Y.next % 256, Y.next / 256]) Try.underlying53 z5 by5 ze5 rfl rfl rfl rfl (Vw.all Rd.o) rfl (by intro e; cases e) (by simp only [List.length_append, List.length_cons, List.length_nil, litL_length]; omega) (by simp only [List.length_append, List.length_cons, List.length_nil, litL_length]; omega) (fun b' sp' => ?_))
    refine ⟨Held.c, ?_⟩
    refine GO 23 16777215 (by kernel_rfl) rfl rfl Gd.no (Ld.call cal23 rfl rfl (Tks.c (Tks.c (.nil _))) (fun F' hF => program_ct F' _ _ _ _ _ _ _ (by assumption) (Y.sector * D.size) (some ⟨b', 0, none⟩) _ (hdL (Y.newest + 1) t Y.next) (VwF.ofPre (hF.own In.o)) (by simp only [hdL, List.length_append, List.length_cons, List.length_nil, litL_length]; omega)) (fun _ _ => ?_))
    dsimp only [lCa, lNa]
    obtain ⟨E2, e2, hP⟩ : ∃ E2 e2, Dev.program E (Y.sector * D.size) (hdL (Y.newest + 1) t Y.next) = (E2, e2) := ⟨_, _, rfl⟩
    obtain ⟨f2, l2⟩ := Dev.program_fine fE (Y.sector * D.size) (hdL (Y.newest + 1) t Y.next)
    have w2 := Dev.program_wear E (Y.sector * D.size) (hdL (Y.newest + 1) t Y.next)
    rw [hP] at f2 l2 w2
    rw [hED] at hP w2
    have ok2E := f2.ok
    rw [hP]
    dsimp only
    rw [← w2]
    refine ⟨Held.c, ?_⟩
    refine GT 24 33554431 rfl (by kernel_rfl) rfl rfl Gd.no (Qt.asg rfl) Held.c ?_
    refine GH.done (by kernel_rfl) ?_
    refine GK.then (GC.seq (GC.seq (GC.region ?_)))
    refine G.q Gd.no (Qt.mv rfl) rfl ?_
    refine G.q Gd.no (Qt.eqI rfl rfl) rfl ?_
    refine G.nil (GK.then ?_)
    refine GC.condb rfl (fun c27 => ?_) (fun c27 => ?_)
    ·try simp only [sB0, sB1, sB2, sB3, sB4, sB5, sB6, sB7, sB8] at c27
     refine GC.region ?_
     refine G.q Gd.no (Qt.mv rfl) rfl ?_
     refine G.q Gd.no (Qt.nilc rfl) rfl ?_
     refine G.q Gd.no (Qt.fa0 fl85_0 rfl) rfl ?_
     refine G.q Gd.no (Qt.ldc a27 rfl (by first | exact Rdc.o rfl | exact Rdc.o (nth_vIs (by omega)) | exact Rdc.o (nth_vI (by omega)))) rfl ?_
     refine G.q Gd.no (Qt.mv rfl) rfl ?_
     refine G.q Gd.no (Qt.add rfl rfl (by exact i64_id (by omega) (by omega))) rfl ?_
     refine G.ld Gd.no (Ld.bsl (xs := [.const (.int .u8 0)]) rfl Try.underlying53 z5 ze5 rfl rfl rfl rfl rfl (by simp [Value.oneCell']) (fun b97 => ?_))
     refine G.ld Gd.no (Ld.call cal23 rfl rfl (Tks.c (Tks.c (.nil _))) (fun F' hF => program_ct F' _ _ _ _ _ _ _ (by assumption) (Y.sector * D.size + 10) (some ⟨b97, 0, none⟩) _ [0] (VwF.ofAll (hF.own In.o)) (by simp)) (fun _ _ => ?_))
     dsimp only [lCa, lNa]
     obtain ⟨E3, e3, hQ⟩ : ∃ E3 e3, E2.program (Y.sector * D.size + 10) [0] = (E3, e3) := ⟨_, _, rfl⟩
     have w3 := Dev.program_wear E2 (Y.sector * D.size + 10) [0]
     rw [hQ] at w3
     rw [hQ]
     dsimp only
     rw [← w3]
     refine G.q Gd.no (Qt.asg rfl) rfl ?_
     refine G.nil (GK.then (GC.seq (GC.seq (GC.region ?_))))
     refine G.q Gd.no (Qt.mv rfl) rfl ?_
     refine G.q Gd.no (Qt.eqI rfl rfl) rfl ?_
     refine G.nil (GK.then ?_)
     refine GC.condb rfl (fun c28 => ?_) (fun c28 => ?_)
     ·try simp only [sB0, sB1, sB2, sB3, sB4, sB5, sB6, sB7, sB8] at c28
      refine GC.seq ?_
      refine GC.draw mixed _ (Held.tk (b := some b3) Held.none) ?_
      refine GT 0 1 rfl (by kernel_rfl) rfl rfl Gd.no (Qt.mv rfl) Held.c ?_
      refine GT 1 3 rfl (by kernel_rfl) rfl rfl Gd.no (Qt.mv rfl) Held.c ?_
      refine GT 2 7 rfl (by kernel_rfl) rfl rfl Gd.no (Qt.mv rfl) Held.c ?_
      refine GT 3 15 rfl (by kernel_rfl) rfl rfl Gd.no (Qt.mv rfl) Held.c ?_
      refine GT 4 31 rfl (by kernel_rfl) rfl rfl Gd.no (Qt.ldc a3 rfl (by first | exact Rdc.o rfl | exact Rdc.o (nth_vIs (by omega)) | exact Rdc.o (nth_vI (by omega)))) Held.c ?_
      refine GT 5 63 rfl (by kernel_rfl) rfl rfl Gd.no (Qt.nilc rfl) Held.c ?_
      refine GT 6 127 rfl (by kernel_rfl) rfl rfl Gd.no (Qt.fa0 fl85_4 rfl) Held.c ?_
      refine GO 7 255 (by kernel_rfl) rfl rfl Gd.no (Ld.stc z3 rfl rfl rfl (Stc.o SetAt.k4) ?_)
      refine ⟨Held.c, ?_⟩
      refine GT 8 511 rfl (by kernel_rfl) rfl rfl Gd.no (Qt.nilc rfl) Held.c ?_
      refine GT 9 1023 rfl (by kernel_rfl) rfl rfl Gd.no (Qt.fa0 fl85_5 rfl) Held.c ?_
      refine GO 10 2047 (by kernel_rfl) rfl rfl Gd.no (Ld.stc z3 rfl rfl rfl (Stc.o SetAt.k5) ?_)
      refine ⟨Held.c, ?_⟩
      refine GT 11 4095 rfl (by kernel_rfl) rfl rfl Gd.no (Qt.nilc rfl) Held.c ?_
      refine GT 12 8191 rfl (by kernel_rfl) rfl rfl Gd.no (Qt.fa0 fl85_6 rfl) Held.c ?_
      refine GO 13 16383 (by kernel_rfl) rfl rfl Gd.no (Ld.stc z3 rfl rfl rfl (Stc.o SetAt.k6) ?_)
      refine ⟨Held.c, ?_⟩
      refine GH.done (by kernel_rfl) ?_
      refine GK.then (GC.region ?_)
      refine G.q Gd.no (Qt.mv rfl) rfl ?_
      refine G.q Gd.no (Qt.mv rfl) rfl ?_
      refine G.q Gd.no (Qt.nilc rfl) rfl ?_
      refine G.q Gd.no (Qt.fa0 fl85_8 rfl) rfl ?_
      refine G.q Gd.no (Qt.ldc a83 rfl (by first | exact Rdc.o rfl | exact Rdc.o (nth_vIs (by omega)) | exact Rdc.o (nth_vI (by omega)))) rfl ?_
      refine G.q Gd.no (Qt.mkf rfl rfl) rfl ?_
      refine G.ld Gd.no (Ld.call cal92 rfl rfl (Tks.c (.nil _)) (fun F' hF => deleteR_ct F' rb rc sp Y.recs hinv hnil (by omega) (fun r => decide (r.1 < t)) 93 [.pointer (some ⟨b3, 0, none⟩)] cal93 (fun F2 R2 h2 r => open1_ct F2 r b3 t (h2.fr (hF.own In.o)))) (fun sp3 hdel => ?_))
      dsimp only [lCa, lNa]
      refine G.q Gd.no (Qt.nilc rfl) rfl ?_
      refine G.q Gd.no (Qt.fa0 fl85_8 rfl) rfl ?_
      refine G.ld Gd.no (Ld.stc z83 rfl rfl rfl (Stc.o SetAt.k8) ?_)
      refine G.nil (GK.then (GC.seq (GC.region ?_)))
      refine G.q Gd.no (Qt.mv rfl) rfl ?_
      refine G.q Gd.no (Qt.asg rfl) rfl ?_
      refine G.nil (GK.then (GC.ret ?_))
      rw [openT_ok (by assumption) hE (by first | assumption | rfl) hP (by assumption) hQ (by assumption)]
      refine GK.ret (rs := [.tmp 4]) rfl (.tmp rfl .nil) sp3 ?_ ?_ (Tks.c (Tks.c (Tks.c (Tks.c (Tks.c (.nil _))))))
      ·exact hdel
      ·(simp only [*]; rfl)
     ·try simp only [sB0, sB1, sB2, sB3, sB4, sB5, sB6, sB7, sB8] at c28
      refine GC.skip (GK.then (GC.seq (GC.region ?_)))
      refine G.q Gd.no (Qt.mv rfl) rfl ?_
      refine G.q Gd.no (Qt.asg rfl) rfl ?_
      refine G.nil (GK.then (GC.ret ?_))
      rw [openT_q (by assumption) hE (by first | assumption | rfl) hP (by assumption) hQ (by assumption)]
      refine GK.ret (rs := [.tmp 4]) rfl (.tmp rfl .nil) sp ?_ ?_ (Tks.c (Tks.c (Tks.c (Tks.c (Tks.c (.nil _))))))
      ·exact ⟨hinv, hnil⟩
      ·rfl
    ·try simp only [sB0, sB1, sB2, sB3, sB4, sB5, sB6, sB7, sB8] at c27
     refine GC.skip (GK.then (GC.seq (GC.seq (GC.region ?_))))
     refine G.q Gd.no (Qt.mv rfl) rfl ?_
     refine G.q Gd.no (Qt.eqI rfl rfl) rfl ?_
     refine G.nil (GK.then ?_)
     refine GC.condb rfl (fun c29 => ?_) (fun c29 => ?_)
     ·try simp only [sB0, sB1, sB2, sB3, sB4, sB5, sB6, sB7, sB8] at c29
      first | contradiction | omega
     ·try simp only [sB0, sB1, sB2, sB3, sB4, sB5, sB6, sB7, sB8] at c29
      refine GC.skip (GK.then (GC.seq (GC.region ?_)))
      refine G.q Gd.no (Qt.mv rfl) rfl ?_
      refine G.q Gd.no (Qt.asg rfl) rfl ?_
      refine G.nil (GK.then (GC.ret ?_))
      rw [openT_p (by assumption) hE (by first | assumption | rfl) hP (by assumption)]
      refine GK.ret (rs := [.tmp 4]) rfl (.tmp rfl .nil) sp ?_ ?_ (Tks.c (Tks.c (Tks.c (Tks.c (Tks.c (.nil _))))))
      ·exact ⟨hinv, hnil⟩
      ·rfl
end Go.Proofs.Ytbeiciinppmekaa
