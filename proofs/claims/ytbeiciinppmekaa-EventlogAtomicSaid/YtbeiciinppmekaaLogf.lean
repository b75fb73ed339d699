/-
  eventlog's Log: Add does what the model says; each contract's conditions are its premises.
-/
import Derived.Test.YtbeiciinppmekaaTb
import Derived.Test.YtbeiciinppmekaaLoge
import Derived.Test.YtbeiciinppmekaaProg
namespace Go.Proofs.Ytbeiciinppmekaa
open Go Go.Sx Go.Proofs
set_option maxRecDepth 100000
set_option linter.unusedSimpArgs false
set_option linter.unusedVariables false
def Dev.nn {α : Type} (D : Dev) (x : Option α) : Option α := if D.down then none else x
def Dev.n0 (D : Dev) (n : Nat) : Nat := if D.down then 0 else n
/-- down of a live log. -/
def Lg.fell (Y : Lg) (D : Dev) : Lg := if D.down then Lg.gone else Y
def Lg.place (Y : Lg) (D : Dev) : Int := (Y.first + (Y.newest - 1) % Y.S) * D.size + 11 + Y.used * 17
def dOf (Y : Lg) (db : Nat) : Option Addr := if Y.ended then none else some ⟨db, 0, none⟩
def Lg.put (Y : Lg) (D : Dev) (e : Ev) : Lg × Dev × Int × Int :=
  if (D.program (Y.place D) (evEnc { e with id := Y.next } ++ [0])).2 = 0 then
    ({ Y with recs := Y.recs ++ [(Y.newest, { e with id := Y.next })], used := Y.used + 1, next := behind Y.next }, (D.program (Y.place D) (evEnc { e with id := Y.next } ++ [0])).1, Y.next, 0)
  else (Y.fell (D.program (Y.place D) (evEnc { e with id := Y.next } ++ [0])).1, (D.program (Y.place D) (evEnc { e with id := Y.next } ++ [0])).1, 0, (D.program (Y.place D) (evEnc { e with id := Y.next } ++ [0])).2)
def Lg.addUp (Y : Lg) (D : Dev) (e : Ev) : Lg × Dev × Int × Int :=
  if e.valid = false ∨ ¬ e.id = 0 then (Y, D, 0, 1) else
  if Y.newest = 0 ∨ Y.used = (D.size - 11) / 17 then
    if (Y.grow D).2.2 = 0 then (Y.grow D).1.put (Y.grow D).2.1 e else ((Y.grow D).1.fell (Y.grow D).2.1, (Y.grow D).2.1, 0, (Y.grow D).2.2)
  else Y.put D e
theorem put_ok {Y : Lg} {D E : Dev} {e e1 : Ev} {x : Int} (he : { e with id := Y.next } = e1) (hP : D.program (Y.place D) (evEnc e1 ++ [0]) = (E, x)) (hx : x = 0) : Y.put D e = ({ Y with recs := Y.recs ++ [(Y.newest, e1)], used := Y.used + 1, next := behind e1.id }, E, e1.id, 0) := by
  subst he
  unfold Lg.put
  rw [hP, if_pos hx]
theorem put_no {Y : Lg} {D E : Dev} {e e1 : Ev} {x : Int} (he : { e with id := Y.next } = e1) (hP : D.program (Y.place D) (evEnc e1 ++ [0]) = (E, x)) (hx : ¬ x = 0) : Y.put D e = (Y.fell E, E, 0, x) := by
  subst he
  unfold Lg.put
  rw [hP, if_neg hx]
theorem openP_fine {D : Dev} (h : D.Fine) (s q t i : Int) : (openP D s q t i).1.Fine ∧ (openP D s q t i).1.Like D := by
  have h1 : (openE D s).1.Fine ∧ (openE D s).1.Like D := by
    unfold openE
    split
    · exact ⟨h, Dev.Like.refl D⟩
    · exact Dev.erase_fine h s
  unfold openP
  split
  · have h2 := Dev.program_fine h1.1 (s * D.size) (hdL q t i)
    split
    · have h3 := Dev.program_fine h2.1 (s * D.size + 10) [0]
      exact ⟨h3.1, h3.2.trans (h2.2.trans h1.2)⟩
    · exact ⟨h2.1, h2.2.trans h1.2⟩
  · exact h1
/-- What open leaves. -/
theorem openT_fine {Y : Lg} {D : Dev} (h : D.Fine) (t : Int) : (Y.openT D t).2.1.Fine ∧ (Y.openT D t).2.1.Like D ∧ ((Y.openT D t).2.2 = 0 → (Y.openT D t).1 = Y.opened t ∧ Y.newest + 1 ≤ 2147483648) ∧ (¬ (Y.openT D t).2.2 = 0 → (Y.openT D t).1 = Y) := by
  unfold Lg.openT
  have h1 := openP_fine h Y.sector (Y.newest + 1) t Y.next
  split
  · exact ⟨h, Dev.Like.refl D, fun e => by simp at e, fun _ => rfl⟩
  · split
    · rename_i h2 h3
      exact ⟨h1.1, h1.2, fun _ => ⟨rfl, by omega⟩, fun e => absurd rfl e⟩
    · rename_i h2 h3
      exact ⟨h1.1, h1.2, fun e => absurd e h3, fun _ => rfl⟩
theorem Lg.Fine.like {Y : Lg} {D E : Dev} (h : Y.Fine D) (l : E.Like D) : Y.Fine E := ⟨h.f0, h.S2, by rw [l.2.1]; exact h.fS, h.n0, h.n1, h.t0, h.t1, h.i0, h.i1, h.u0, by rw [l.2.2]; exact h.u1, by rw [l.2.2]; exact h.sz, h.nm0, h.nm1⟩
theorem opened_fine {Y : Lg} {D : Dev} (h : Y.Fine D) {t : Int} (h0 : 0 ≤ t) (h1 : t ≤ 2147483648) (h2 : Y.newest + 1 ≤ 2147483648) : (Y.opened t).Fine D :=
  ⟨h.f0, h.S2, h.fS, by have := h.n0; simp only [Lg.opened]; omega, h2, h0, h1, h.i0, h.i1, by simp [Lg.opened], by have := h.sz; simp only [Lg.opened]; omega, h.sz, h.nm0, h.nm1⟩
theorem grow_fine {Y : Lg} {D : Dev} (h : D.Fine) (g : Y.Fine D) (he : Y.ended = false) : (Y.grow D).2.1.Fine ∧ (Y.grow D).2.1.Like D ∧ (Y.grow D).1.ended = false ∧ (Y.grow D).1.Fine (Y.grow D).2.1 ∧ (Y.grow D).1.recs.length ≤ Y.recs.length ∧ ((Y.grow D).2.2 = 0 → (Y.grow D).1.used = 0 ∧ 1 ≤ (Y.grow D).1.newest) := by
  have hopen : ∀ t, 0 ≤ t → (Y.newest + 1 ≤ 2147483648 → t ≤ 2147483648) → (Y.openT D t).2.1.Fine ∧ (Y.openT D t).2.1.Like D ∧ (Y.openT D t).1.ended = false ∧ (Y.openT D t).1.Fine (Y.openT D t).2.1 ∧ (Y.openT D t).1.recs.length ≤ Y.recs.length ∧ ((Y.openT D t).2.2 = 0 → (Y.openT D t).1.used = 0 ∧ 1 ≤ (Y.openT D t).1.newest) := by
    intro t ht ht2
    obtain ⟨a, b, c, d⟩ := openT_fine (Y := Y) h t
    refine ⟨a, b, ?_⟩
    by_cases e : (Y.openT D t).2.2 = 0
    · obtain ⟨c1, c2⟩ := c e
      rw [c1]
      exact ⟨he, (opened_fine g ht (ht2 c2) c2).like b, List.length_filter_le _ _, fun _ => ⟨rfl, by have := g.n0; simp only [Lg.opened]; omega⟩⟩
    · rw [d e]
      exact ⟨he, g.like b, Nat.le_refl _, fun x => absurd x e⟩
  have t0 := g.t0
  have t1 := g.t1
  have n0 := g.n0
  have S2 := g.S2
  unfold Lg.grow
  split
  · split
    · exact hopen _ (by omega) (by omega)
    · exact ⟨h, Dev.Like.refl D, he, ⟨g.f0, g.S2, g.fS, g.n0, g.n1, g.t0, g.t1, g.i0, g.i1, g.u0, g.u1, g.sz, g.nm0, g.nm1⟩, Nat.le_refl _, fun e => by simp at e⟩
  · exact hopen _ (by omega) (by omega)
theorem gdown3_ct (F : Fr) (b db bb bw cb cw : Nat) (rb : Option Nat) (rc : Nat) (Y : Lg) (D : Dev) (hdb : F.h db = some (Blk.cells (devC D bb bw cb cw) 81).toObj) (he : Y.ended = false) (hd : D.down = false) :
    Ct Try.prog F 42 [.pointer (some ⟨b, 0, none⟩)] [(some b, .cells (lgC Y (some ⟨db, 0, none⟩) rb rc) 85)] (S := Unit) (fun _ => True) (fun _ => .bool false) (fun _ => [(some b, .cells (lgC Y (some ⟨db, 0, none⟩) rb rc) 85)]) := by
 refine Ct.of 21 [(0, _)] Try.func42 rfl rfl rfl rfl ?_
 refine GC.seq (GC.region ?_)
 refine G.q Gd.no (Qt.asg rfl) rfl ?_
 refine G.nil (GK.then (GC.seq (GC.seq (GC.region ?_))))
 refine G.q Gd.no (Qt.mv rfl) rfl ?_
 refine G.q Gd.no (Qt.nilc rfl) rfl ?_
 refine G.q Gd.no (Qt.fa0 fl85_12 rfl) rfl ?_
 refine G.q Gd.no (Qt.ldc a4 rfl (by first | exact Rdc.o rfl | exact Rdc.o (nth_vIs (by omega)) | exact Rdc.o (nth_vI (by omega)) | exact Rdc.f hdb rfl)) rfl ?_
 rw [he]
 refine G.q Gd.no (Qt.mv rfl) rfl ?_
 apply G.orb (seg := [_, _, _, _, _])
 exact rfl
 exact rfl
 exact rfl
 exact Gd.no
 exact rfl
 exact rfl
 ·intro g5; try simp only [sB0, sB1, sB2, sB3, sB4, sB5, sB6, sB7, sB8] at g5
  refine G.q (Gd.yes rfl rfl) (Qt.mv rfl) rfl ?_
  refine G.q (Gd.yes rfl rfl) (Qt.nilc rfl) rfl ?_
  refine G.q (Gd.yes rfl rfl) (Qt.fa0 fl85_0 rfl) rfl ?_
  refine G.q (Gd.yes rfl rfl) (Qt.ldc a27 rfl (by first | exact Rdc.o rfl | exact Rdc.o (nth_vIs (by omega)) | exact Rdc.o (nth_vI (by omega)) | exact Rdc.f hdb rfl)) rfl ?_
  refine G.ld (Gd.yes rfl rfl) (Ld.call cal69 rfl rfl (.nil _) (fun F' hF => down_ct F' _ _ _ _ _ _ (hF.fr hdb)) (fun _ _ => ?_))
  dsimp only [lCa, lNa]
  rw [hd]
  refine G.nil (GK.seg (n := [_, _, _, _, _]) rfl rfl rfl (by first | exact Tks.all _ | exact Tks.skip (Tks.all _) | exact Tks.skip (Tks.skip (Tks.all _)) | exact Tks.skip (Tks.skip (Tks.skip (Tks.all _)))))
 refine G.nil (GK.then ?_)
 refine GC.condf rfl ?_
 refine GC.skip (GK.then (GC.seq (GC.region ?_)))
 refine G.q Gd.no (Qt.mv rfl) rfl ?_
 refine G.q Gd.no (Qt.nilc rfl) rfl ?_
 refine G.q Gd.no (Qt.fa0 fl85_12 rfl) rfl ?_
 refine G.q Gd.no (Qt.ldc a4 rfl (by first | exact Rdc.o rfl | exact Rdc.o (nth_vIs (by omega)) | exact Rdc.o (nth_vI (by omega)) | exact Rdc.f hdb rfl)) rfl ?_
 rw [he]
 refine G.q Gd.no (Qt.asg rfl) rfl ?_
 refine G.nil (GK.then (GC.ret ?_))
 refine GK.ret (rs := [.tmp 2]) rfl (.tmp rfl .nil) () ?_ ?_ (Tks.c (.nil _))
 ·trivial
 ·rfl
theorem gfell_ct (F : Fr) (b db bb bw cb cw : Nat) (rb : Option Nat) (rc : Nat) (Y : Lg) (D : Dev) (hdb : F.h db = some (Blk.cells (devC D bb bw cb cw) 81).toObj) (he : Y.ended = false) :
    Ct Try.prog F 42 [.pointer (some ⟨b, 0, none⟩)] [(some b, .cells (lgC Y (some ⟨db, 0, none⟩) rb rc) 85)] (S := Unit) (fun _ => True) (fun _ => .bool D.down) (fun _ => [(some b, .cells (lgC (Y.fell D) (D.nn (some ⟨db, 0, none⟩)) (D.nn rb) (D.n0 rc)) 85)]) := by
  cases hd : D.down with
  | false =>
    have h := gdown3_ct F b db bb bw cb cw rb rc Y D hdb he hd
    simp only [Lg.fell, Dev.nn, Dev.n0, hd, Bool.false_eq_true, if_false]
    exact h
  | true =>
    have h := gdown1_ct F b db bb bw cb cw rb rc Y D hdb he hd
    simp only [Lg.fell, Dev.nn, Dev.n0, hd, if_true]
    exact h
set_option maxHeartbeats 1600000 in
theorem addUp_ct (F : Fr) (b db bb bw cb cw : Nat) (sb sw : List Value) (rb : Option Nat) (rc : Nat) (sp : List Value) (Y : Lg) (D : Dev) (fine : D.Fine) (hcb : D.n ≤ cb) (hdn : D.down = false) (he : Y.ended = false) (hinv : Y.recs.length * 11 + sp.length = rc * 11) (hnil : rb = none → Y.recs = [] ∧ sp = []) (hlen : Y.recs.length ≤ 16777216) (gf : Y.Fine D) (e : Ev) (wf : e.Wf) :
    Ct Try.prog F 15 [.pointer (some ⟨b, 0, none⟩), .agg (evC e).toArray] [(some b, .cells (lgC Y (some ⟨db, 0, none⟩) rb rc) 85), (rb, .cells (Y.recs.flatMap recC ++ sp) 90), (some db, .cells (devC D bb bw cb cw) 81), (some bb, .cells (vI .u8 D.bytes ++ sb) 5), (some bw, .cells (vI .i64 D.wear ++ sw) 3)] (S := Option Nat × Nat × List Value) (fun x => (Y.addUp D e).1.recs.length * 11 + x.2.2.length = x.2.1 * 11 ∧ (x.1 = none → (Y.addUp D e).1.recs = [] ∧ x.2.2 = [])) (fun _ => .tuple #[.int .u16 (Y.addUp D e).2.2.1, .int .i64 (Y.addUp D e).2.2.2]) (fun x => [(some b, .cells (lgC (Y.addUp D e).1 (dOf (Y.addUp D e).1 db) x.1 x.2.1) 85), (x.1, .cells ((Y.addUp D e).1.recs.flatMap recC ++ x.2.2) 90), (some db, .cells (devC (Y.addUp D e).2.1 bb bw cb cw) 81), (some bb, .cells (vI .u8 (Y.addUp D e).2.1.bytes ++ sb) 5), (some bw, .cells (vI .i64 (Y.addUp D e).2.1.wear ++ sw) 3)]) := by
 refine Ct.of 128 [(0, _), (1, _)] Try.func15 rfl rfl rfl rfl ?_
 obtain ⟨RR, hRR⟩ : ∃ RR, Y.addUp D e = RR := ⟨_, rfl⟩
 rw [hRR]
 have z0 := gf.sz
 have z1 := fine.geo.size1
 refine GC.seq (GC.region ?_)
 refine G.ld Gd.no (Ld.box rfl rfl (by first | exact Cl.one rfl | exact Cl.agg) (fun b3 => ?_))
 refine G.q Gd.no (Qt.asg rfl) rfl ?_
 refine G.q Gd.no (Qt.asg rfl) rfl ?_
 refine G.nil (GK.then (GC.seq (GC.seq (GC.region ?_))))
 refine G.q Gd.no (Qt.mv rfl) rfl ?_
 refine G.ld Gd.no (Ld.call cal42 rfl rfl (Tks.c (.nil _)) (fun F' hF => gdown3_ct F' b db bb bw cb cw rb rc Y D (hF.own In.o) he hdn) (fun _ _ => ?_))
 dsimp only [lCa, lNa]
 refine G.nil (GK.then ?_)
 refine GC.condf rfl ?_
 refine GC.skip (GK.then (GC.seq (GC.seq (GC.region ?_))))
 refine G.q Gd.no (Qt.ldW a40 rfl Rd.o z40) rfl ?_
 refine G.ld Gd.no (Ld.call cal43 rfl rfl (.nil _) (fun F' hF => valid_ct F' e) (fun _ _ => ?_))
 dsimp only [lCa, lNa]
 refine G.q Gd.no (Qt.not rfl) rfl ?_
 refine G.q Gd.no (Qt.mv rfl) rfl ?_
 apply G.orb (seg := [_, _, _])
 exact rfl
 exact rfl
 exact rfl
 exact Gd.no
 exact rfl
 exact rfl
 ·intro g4; try simp only [sB0, sB1, sB2, sB3, sB4, sB5, sB6, sB7, sB8] at g4
  refine G.q (Gd.yes rfl rfl) (Qt.fa0 fl40_0 rfl) rfl ?_
  refine G.q (Gd.yes rfl rfl) (Qt.ldc a36 rfl (by first | exact Rdc.o rfl | exact Rdc.o (nth_vIs (by omega)) | exact Rdc.o (nth_vI (by omega)))) rfl ?_
  refine G.q (Gd.yes rfl rfl) (Qt.neI rfl rfl) rfl ?_
  refine G.nil (GK.seg (n := [_, _, _]) rfl rfl rfl (by first | exact Tks.all _ | exact Tks.skip (Tks.all _) | exact Tks.skip (Tks.skip (Tks.all _)) | exact Tks.skip (Tks.skip (Tks.skip (Tks.all _)))))
 refine G.nil (GK.then ?_)
 refine GC.condb rfl (fun c1 => ?_) (fun c1 => ?_)
 ·try simp only [sB0, sB1, sB2, sB3, sB4, sB5, sB6, sB7, sB8] at c1
  refine GC.seq (GC.region ?_)
  refine G.q Gd.no (Qt.asg rfl) rfl ?_
  refine G.q Gd.no (Qt.asg rfl) rfl ?_
  refine G.nil (GK.then (GC.ret (GK.thenr ?_)))
  rw [show RR = (Y, D, 0, 1) from by rw [← hRR]; exact if_pos c1]
  simp only [dOf, he, Bool.false_eq_true, if_false]
  refine GK.ret (rs := [.tmp 4, .tmp 5]) rfl (.tmp rfl (.tmp rfl .nil)) (rb, rc, sp) ?_ ?_ (Tks.c (Tks.c (Tks.c (Tks.c (Tks.c (.nil _))))))
  ·exact ⟨hinv, hnil⟩
  ·rfl
 ·try simp only [sB0, sB1, sB2, sB3, sB4, sB5, sB6, sB7, sB8] at c1
  have hgood : ¬ (e.valid = false ∨ ¬ e.id = 0) := by simpa using c1
  refine GC.skip (GK.then (GC.seq (GC.seq ?_)))
  refine GC.draw mixed _ Held.all ?_
  refine GT 0 1 rfl (by kernel_rfl) rfl rfl Gd.no (Qt.mv rfl) Held.c ?_
  refine GT 1 3 rfl (by kernel_rfl) rfl rfl Gd.no (Qt.nilc rfl) Held.c ?_
  refine GT 2 7 rfl (by kernel_rfl) rfl rfl Gd.no (Qt.fa0 fl85_4 rfl) Held.c ?_
  refine GT 3 15 rfl (by kernel_rfl) rfl rfl Gd.no (Qt.ldc a3 rfl (by first | exact Rdc.o rfl | exact Rdc.o (nth_vIs (by omega)) | exact Rdc.o (nth_vI (by omega)))) Held.c ?_
  refine GT 4 31 rfl (by kernel_rfl) rfl rfl Gd.no (Qt.eqI rfl rfl) Held.c ?_
  refine GT 5 63 rfl (by kernel_rfl) rfl rfl Gd.no (Qt.mv rfl) Held.c ?_
  refine GH.split (tg := 26) rfl (fun g5 => ?_) (fun g5 => ?_)
  ·try simp only [sB0, sB1, sB2, sB3, sB4, sB5, sB6, sB7, sB8] at g5
   refine GP 6 127 rfl (by kernel_rfl) rfl rfl rfl rfl rfl Held.c ?_
   refine GP 7 255 rfl (by kernel_rfl) rfl rfl rfl rfl rfl Held.c ?_
   refine GP 8 511 rfl (by kernel_rfl) rfl rfl rfl rfl rfl Held.c ?_
   refine GP 9 1023 rfl (by kernel_rfl) rfl rfl rfl rfl rfl Held.c ?_
   refine GP 10 2047 rfl (by kernel_rfl) rfl rfl rfl rfl rfl Held.c ?_
   refine GP 11 4095 rfl (by kernel_rfl) rfl rfl rfl rfl rfl Held.c ?_
   refine GP 12 8191 rfl (by kernel_rfl) rfl rfl rfl rfl rfl Held.c ?_
   refine GP 13 16383 rfl (by kernel_rfl) rfl rfl rfl rfl rfl Held.c ?_
   refine GP 14 32767 rfl (by kernel_rfl) rfl rfl rfl rfl rfl Held.c ?_
   refine GP 15 65535 rfl (by kernel_rfl) rfl rfl rfl rfl rfl Held.c ?_
   refine GP 16 131071 rfl (by kernel_rfl) rfl rfl rfl rfl rfl Held.c ?_
   refine GT 17 262143 rfl (by kernel_rfl) rfl rfl Gd.no (Qt.pickt rfl rfl) Held.c ?_
   refine GH.done (by kernel_rfl) ?_
   refine GK.then ?_
   have hroom : Y.newest = 0 ∨ Y.used = (D.size - 11) / 17 := Or.inl g5
   refine GC.condt rfl ?_
   refine GC.seq (GC.region ?_)
   refine G.q Gd.no (Qt.mv rfl) rfl ?_
   refine G.ld Gd.no (Ld.call cal45 rfl rfl (Tks.c (Tks.c (Tks.c (Tks.c (Tks.c (.nil _)))))) (fun F' hF => grow_ct F' _ _ _ _ _ _ _ _ rb rc sp Y D fine hcb hdn hinv hnil hlen gf) (fun sp2 hop => ?_))
   dsimp only [lCa, lNa]
   obtain ⟨Z, E, e0, hg⟩ : ∃ Z E e0, Y.grow D = (Z, E, e0) := ⟨_, _, _, rfl⟩
   obtain ⟨fE, lE, heZ, gfZ, hlz, hge⟩ := grow_fine fine gf he
   rw [hg] at fE lE heZ gfZ hlz hge hop
   dsimp only at fE lE heZ gfZ hlz hge hop
   rw [hg]
   dsimp only
   obtain ⟨spZ, hspZ⟩ : ∃ s, sp2 = s := ⟨_, rfl⟩
   rw [hspZ] at hop
   rw [hspZ]
   obtain ⟨hinvZ, hnilZ⟩ := hop
   have hlenZ : Z.recs.length ≤ 16777216 := by omega
   refine G.q Gd.no (Qt.asg rfl) rfl ?_
   refine G.nil (GK.then (GC.seq (GC.region ?_)))
   refine G.q Gd.no (Qt.mv rfl) rfl ?_
   refine G.q Gd.no (Qt.neI rfl rfl) rfl ?_
   refine G.nil (GK.then ?_)
   refine GC.condb rfl (fun c3 => ?_) (fun c3 => ?_)
   ·try simp only [sB0, sB1, sB2, sB3, sB4, sB5, sB6, sB7, sB8] at c3
    refine GC.seq (GC.region ?_)
    refine G.q Gd.no (Qt.mv rfl) rfl ?_
    refine G.ld Gd.no (Ld.call cal42 rfl rfl (Tks.c (.nil _)) (fun F' hF => gfell_ct F' b db bb bw cb cw rb rc Z E (hF.own In.o) heZ) (fun _ _ => ?_))
    dsimp only [lCa, lNa]
    refine G.nil (GK.then (GC.seq (GC.region ?_)))
    refine G.q Gd.no (Qt.mv rfl) rfl ?_
    refine G.q Gd.no (Qt.asg rfl) rfl ?_
    refine G.q Gd.no (Qt.asg rfl) rfl ?_
    refine G.nil (GK.then (GC.ret (GK.thenr ?_)))
    rw [show RR = (Z.fell E, E, 0, _) from by rw [← hRR]; unfold Lg.addUp; rw [if_neg hgood, if_pos hroom, hg, if_neg (by assumption)]]
    cases hdd : E.down with
    | true =>
     simp only [Lg.fell, Dev.nn, Dev.n0, hdd, if_true]
     refine GK.addNil (.cells (([] : List (Int × Ev)).flatMap recC ++ []) 90) ?_
     refine GK.ret (rs := [.tmp 4, .tmp 5]) rfl (.tmp rfl (.tmp rfl .nil)) (none, 0, []) ?_ ?_ (Tks.c (Tks.c (Tks.c (Tks.c (Tks.c (.nil _))))))
     ·exact ⟨rfl, fun _ => ⟨rfl, rfl⟩⟩
     ·rfl
    | false =>
     simp only [Lg.fell, Dev.nn, Dev.n0, hdd, Bool.false_eq_true, if_false, dOf, heZ]
     refine GK.ret (rs := [.tmp 4, .tmp 5]) rfl (.tmp rfl (.tmp rfl .nil)) (rb, rc, spZ) ?_ ?_ (Tks.c (Tks.c (Tks.c (Tks.c (Tks.c (.nil _))))))
     ·exact ⟨hinvZ, hnilZ⟩
     ·rfl
   ·try simp only [sB0, sB1, sB2, sB3, sB4, sB5, sB6, sB7, sB8] at c3
    have hput : Y.addUp D e = Z.put E e := by unfold Lg.addUp; rw [if_neg hgood, if_pos hroom, hg, if_pos (by assumption)]
    have hnz : 1 ≤ Z.newest := (hge (by assumption)).2
    have hus : Z.used < (E.size - 11) / 17 := by have h1 := (hge (by assumption)).1; have h2 := gfZ.sz; omega
    have hbE : E.n ≤ cb := by rw [lE.1]; exact hcb
    have b0 := fE.geo.size0
    have b1 := fE.geo.size1
    have b2 := fE.geo.all
    have b3l := fE.ok.len
    have b4 := gfZ.f0
    have b5 := gfZ.S2
    have b6 := gfZ.fS
    have b7 := fE.ok.wlen
    have b8 := gfZ.i0
    have b9 := gfZ.i1
    have b10 := gfZ.n1
    have b11 := gfZ.u0
    have hm0 := Int.emod_nonneg (Z.newest - 1) (show Z.S ≠ 0 by omega)
    have hm1 := Int.emod_lt_of_pos (Z.newest - 1) (show 0 < Z.S by omega)
    have s0 : 0 ≤ (Z.first + (Z.newest - 1) % Z.S) * E.size := Int.mul_nonneg (by omega) (by omega)
    have s1 : (Z.first + (Z.newest - 1) % Z.S + 1) * E.size ≤ E.nw * E.size := Int.mul_le_mul_of_nonneg_right (by omega) (by omega)
    have s2 : (Z.first + (Z.newest - 1) % Z.S + 1) * E.size = (Z.first + (Z.newest - 1) % Z.S) * E.size + E.size := by rw [Int.add_mul, Int.one_mul]
    obtain ⟨e1, he1⟩ : ∃ e1 : Ev, { e with id := Z.next } = e1 := ⟨_, rfl⟩
    have hid1 : e1.id = Z.next := by rw [← he1]
    have wf1 : e1.Wf := by rw [← he1]; exact ⟨by simp only; omega, wf.time, wf.gen, wf.st, wf.sn, wf.ty, wf.d0, wf.d1, wf.d2⟩
    have hv1 : e1.valid = true := by
     rw [← he1]
     have hv0 : e.valid = true := by cases h : e.valid; exact absurd (Or.inl h) hgood; rfl
     simp only [Ev.valid, Bool.and_eq_true, decide_eq_true_eq] at hv0 ⊢
     omega
    refine GC.skip (GK.then (GC.seq (GC.region ?_)))
    refine G.q Gd.no (Qt.mv rfl) rfl ?_
    refine G.q Gd.no (Qt.nilc rfl) rfl ?_
    refine G.q Gd.no (Qt.fa0 fl85_7 rfl) rfl ?_
    refine G.q Gd.no (Qt.ldc a36 rfl (by first | exact Rdc.o rfl | exact Rdc.o (nth_vIs (by omega)) | exact Rdc.o (nth_vI (by omega)))) rfl ?_
    refine G.q Gd.no (Qt.fa0 fl40_0 rfl) rfl ?_
    refine G.ld Gd.no (Ld.stc z36 rfl rfl rfl (Stc.o (cs' := evC e1) (by rw [← he1]; exact SetAt.k0)) ?_)
    refine G.nil (GK.then (GC.seq (GC.region ?_)))
    refine G.q Gd.no (Qt.ldW a40 rfl Rd.o z40) rfl ?_
    refine G.ld Gd.no (Ld.call cal46 rfl rfl (.nil _) (fun F' hF => enc_ct F' e1 wf1 hv1) (fun q _ => ?_))
    dsimp only [lCa, lNa]
    rw [← List.append_nil (vI .u8 (evEnc e1))]
    refine G.q Gd.no (Qt.mv rfl) rfl ?_
    refine G.q Gd.no (Qt.ext rfl rfl) rfl ?_
    refine G.q Gd.no (Qt.ext rfl rfl) rfl ?_
    refine G.q Gd.no (Qt.asg rfl) rfl ?_
    refine G.q Gd.no (Qt.asg rfl) rfl ?_
    refine G.nil (GK.then (GC.seq ?_))
    refine GC.draw mixed _ Held.all ?_
    refine GT 0 1 rfl (by kernel_rfl) rfl rfl Gd.no (Qt.mv rfl) Held.c ?_
    refine GT 1 3 rfl (by kernel_rfl) rfl rfl Gd.no (Qt.nilc rfl) Held.c ?_
    refine GT 2 7 rfl (by kernel_rfl) rfl rfl Gd.no (Qt.fa0 fl85_1 rfl) Held.c ?_
    refine GT 3 15 rfl (by kernel_rfl) rfl rfl Gd.no (Qt.ldc a3 rfl (by first | exact Rdc.o rfl | exact Rdc.o (nth_vIs (by omega)) | exact Rdc.o (nth_vI (by omega)))) Held.c ?_
    refine GT 4 31 rfl (by kernel_rfl) rfl rfl Gd.no (Qt.mv rfl) Held.c ?_
    refine GT 5 63 rfl (by kernel_rfl) rfl rfl Gd.no (Qt.nilc rfl) Held.c ?_
    refine GT 6 127 rfl (by kernel_rfl) rfl rfl Gd.no (Qt.fa0 fl85_4 rfl) Held.c ?_
    refine GT 7 255 rfl (by kernel_rfl) rfl rfl Gd.no (Qt.ldc a3 rfl (by first | exact Rdc.o rfl | exact Rdc.o (nth_vIs (by omega)) | exact Rdc.o (nth_vI (by omega)))) Held.c ?_
    refine GT 8 511 rfl (by kernel_rfl) rfl rfl Gd.no (Qt.sub rfl rfl (by exact i64_id (by omega) (by omega))) Held.c ?_
    refine GT 9 1023 rfl (by kernel_rfl) rfl rfl Gd.no (Qt.mv rfl) Held.c ?_
    refine GT 10 2047 rfl (by kernel_rfl) rfl rfl Gd.no (Qt.nilc rfl) Held.c ?_
    refine GT 11 4095 rfl (by kernel_rfl) rfl rfl Gd.no (Qt.fa0 fl85_2 rfl) Held.c ?_
    refine GT 12 8191 rfl (by kernel_rfl) rfl rfl Gd.no (Qt.ldc a3 rfl (by first | exact Rdc.o rfl | exact Rdc.o (nth_vIs (by omega)) | exact Rdc.o (nth_vI (by omega)))) Held.c ?_
    refine GT 13 16383 rfl (by kernel_rfl) rfl rfl Gd.no (Qt.rem rfl rfl (by omega) (by first | exact rem_nn (by omega) | exact rfl)) Held.c ?_
    refine GT 14 32767 rfl (by kernel_rfl) rfl rfl Gd.no (Qt.add rfl rfl (by exact i64_id (by omega) (by omega))) Held.c ?_
    refine GT 15 65535 rfl (by kernel_rfl) rfl rfl Gd.no (Qt.mv rfl) Held.c ?_
    refine GT 16 131071 rfl (by kernel_rfl) rfl rfl Gd.no (Qt.nilc rfl) Held.c ?_
    refine GT 17 262143 rfl (by kernel_rfl) rfl rfl Gd.no (Qt.fa0 fl85_0 rfl) Held.c ?_
    refine GT 18 524287 rfl (by kernel_rfl) rfl rfl Gd.no (Qt.ldc a27 rfl (by first | exact Rdc.o rfl | exact Rdc.o (nth_vIs (by omega)) | exact Rdc.o (nth_vI (by omega)))) Held.c ?_
    refine GT 22 4718591 rfl (by kernel_rfl) rfl rfl Gd.no (Qt.mv rfl) Held.c ?_
    refine GT 23 13107199 rfl (by kernel_rfl) rfl rfl Gd.no (Qt.nilc rfl) Held.c ?_
    refine GT 24 29884415 rfl (by kernel_rfl) rfl rfl Gd.no (Qt.fa0 fl85_6 rfl) Held.c ?_
    refine GT 25 63438847 rfl (by kernel_rfl) rfl rfl Gd.no (Qt.ldc a3 rfl (by first | exact Rdc.o rfl | exact Rdc.o (nth_vIs (by omega)) | exact Rdc.o (nth_vI (by omega)))) Held.c ?_
    refine GT 26 130547711 rfl (by kernel_rfl) rfl rfl Gd.no (Qt.mul rfl rfl (by first | exact i64_id (by omega) (by omega) | exact rfl)) Held.c ?_
    refine GO 19 131071999 (by kernel_rfl) rfl rfl Gd.no (Ld.call cal44 rfl rfl (.nil _) (fun F' hF => size_ct F' _ _ _ _ _ _ (hF.own In.o)) (fun _ _ => ?_))
    dsimp only [lCa, lNa]
    refine ⟨Held.c, ?_⟩
    refine GT 20 132120575 rfl (by kernel_rfl) rfl rfl Gd.no (Qt.mul rfl rfl (by exact i64_id (by omega) (by omega))) Held.c ?_
    refine GT 21 134217727 rfl (by kernel_rfl) rfl rfl Gd.no (Qt.add rfl rfl (by first | exact i64_id (by omega) (by omega) | exact rfl)) Held.c ?_
    refine GT 27 268435455 rfl (by kernel_rfl) rfl rfl Gd.no (Qt.add rfl rfl (by first | exact i64_id (by omega) (by omega) | exact rfl)) Held.c ?_
    refine GT 28 536870911 rfl (by kernel_rfl) rfl rfl Gd.no (Qt.asg rfl) Held.c ?_
    rw [show (Z.first + (Z.newest - 1) % Z.S) * E.size + 11 + Z.used * 17 = Z.place E from rfl]
    refine GH.done (by kernel_rfl) ?_
    refine GK.then (GC.seq (GC.seq ?_))
    refine GC.draw mixed _ (Held.tk (b := some b) Held.none) ?_
    refine GT 0 1 rfl (by kernel_rfl) rfl rfl Gd.no (Qt.mv rfl) Held.c ?_
    refine GT 1 3 rfl (by kernel_rfl) rfl rfl Gd.no (Qt.nilc rfl) Held.c ?_
    refine GT 2 7 rfl (by kernel_rfl) rfl rfl Gd.no (Qt.fa0 fl85_0 rfl) Held.c ?_
    refine GT 3 15 rfl (by kernel_rfl) rfl rfl Gd.no (Qt.ldc a27 rfl (by first | exact Rdc.o rfl | exact Rdc.o (nth_vIs (by omega)) | exact Rdc.o (nth_vI (by omega)))) Held.c ?_
    refine GT 4 31 rfl (by kernel_rfl) rfl rfl Gd.no (Qt.mv rfl) Held.c ?_
    refine GT 5 63 rfl (by kernel_rfl) rfl rfl Gd.no (Qt.mv rfl) Held.c ?_
    refine GO 6 127 (by kernel_rfl) rfl rfl Gd.no (Ld.bsl (xs := [.const (.int .u8 0)]) rfl Try.underlying53 z5 ze5 rfl rfl rfl rfl rfl (by simp [Value.oneCell']) (fun b90 => ?_))
    refine ⟨Held.c, ?_⟩
    refine GO 7 255 (by kernel_rfl) rfl rfl Gd.no (Ld.appI (k := .u8) (ob := some q) (xs := evEnc e1) (sp := []) (ys := [0]) Try.underlying53 z5 by5 ze5 rfl rfl rfl rfl (Vw.all Rd.o) rfl (by intro e; cases e) (by simp [evEnc]) (by simp [evEnc]) (fun b' sp' => ?_))
    refine ⟨Held.c, ?_⟩
    refine GO 8 511 (by kernel_rfl) rfl rfl Gd.no (Ld.call cal23 rfl rfl (Tks.c (Tks.c (.nil _))) (fun F' hF => program_ct F' _ _ _ _ _ _ _ fE.ok (Z.place E) (some ⟨b', 0, none⟩) _ (evEnc e1 ++ [0]) (VwF.ofPre (hF.own In.o)) (by simp [evEnc])) (fun _ _ => ?_))
    dsimp only [lCa, lNa]
    obtain ⟨E2, e2, hP⟩ : ∃ E2 e2, E.program (Z.place E) (evEnc e1 ++ [0]) = (E2, e2) := ⟨_, _, rfl⟩
    have w2 := Dev.program_wear E (Z.place E) (evEnc e1 ++ [0])
    rw [hP] at w2
    rw [hP]
    dsimp only
    rw [← w2]
    refine ⟨Held.c, ?_⟩
    refine GT 9 1023 rfl (by kernel_rfl) rfl rfl Gd.no (Qt.asg rfl) Held.c ?_
    refine GH.done (by kernel_rfl) ?_
    refine GK.then (GC.seq (GC.region ?_))
    refine G.q Gd.no (Qt.mv rfl) rfl ?_
    refine G.q Gd.no (Qt.neI rfl rfl) rfl ?_
    refine G.nil (GK.then ?_)
    refine GC.condb rfl (fun c4 => ?_) (fun c4 => ?_)
    ·try simp only [sB0, sB1, sB2, sB3, sB4, sB5, sB6, sB7, sB8] at c4
     refine GC.seq (GC.region ?_)
     refine G.q Gd.no (Qt.mv rfl) rfl ?_
     refine G.ld Gd.no (Ld.call cal42 rfl rfl (Tks.c (.nil _)) (fun F' hF => gfell_ct F' b db bb bw cb cw rb rc Z E2 (hF.own In.o) heZ) (fun _ _ => ?_))
     dsimp only [lCa, lNa]
     refine G.nil (GK.then (GC.seq (GC.region ?_)))
     refine G.q Gd.no (Qt.mv rfl) rfl ?_
     refine G.q Gd.no (Qt.asg rfl) rfl ?_
     refine G.q Gd.no (Qt.asg rfl) rfl ?_
     refine G.nil (GK.then (GC.ret (GK.thenr ?_)))
     rw [show RR = (Z.fell E2, E2, 0, _) from by rw [← hRR, hput]; exact put_no he1 hP (by assumption)]
     cases hdd : E2.down with
     | true =>
      simp only [Lg.fell, Dev.nn, Dev.n0, hdd, if_true]
      refine GK.addNil (.cells (([] : List (Int × Ev)).flatMap recC ++ []) 90) ?_
      refine GK.ret (rs := [.tmp 4, .tmp 5]) rfl (.tmp rfl (.tmp rfl .nil)) (none, 0, []) ?_ ?_ (Tks.c (Tks.c (Tks.c (Tks.c (Tks.c (.nil _))))))
      ·exact ⟨rfl, fun _ => ⟨rfl, rfl⟩⟩
      ·rfl
     | false =>
      simp only [Lg.fell, Dev.nn, Dev.n0, hdd, Bool.false_eq_true, if_false, dOf, heZ]
      refine GK.ret (rs := [.tmp 4, .tmp 5]) rfl (.tmp rfl (.tmp rfl .nil)) (rb, rc, spZ) ?_ ?_ (Tks.c (Tks.c (Tks.c (Tks.c (Tks.c (.nil _))))))
      ·exact ⟨hinvZ, hnilZ⟩
      ·rfl
    ·try simp only [sB0, sB1, sB2, sB3, sB4, sB5, sB6, sB7, sB8] at c4
     refine GC.skip (GK.then (GC.seq ?_))
     refine GC.draw mixed _ (Held.tk (b := some b3) Held.none) ?_
     refine GT 0 1 rfl (by kernel_rfl) rfl rfl Gd.no (Qt.mv rfl) Held.c ?_
     refine GT 1 3 rfl (by kernel_rfl) rfl rfl Gd.no (Qt.mv rfl) Held.c ?_
     refine GT 2 7 rfl (by kernel_rfl) rfl rfl Gd.no (Qt.nilc rfl) Held.c ?_
     refine GT 3 15 rfl (by kernel_rfl) rfl rfl Gd.no (Qt.fa0 fl85_8 rfl) Held.c ?_
     refine GT 5 47 rfl (by kernel_rfl) rfl rfl Gd.no (Qt.mv rfl) Held.c ?_
     refine GT 6 111 rfl (by kernel_rfl) rfl rfl Gd.no (Qt.nilc rfl) Held.c ?_
     refine GT 7 239 rfl (by kernel_rfl) rfl rfl Gd.no (Qt.fa0 fl85_4 rfl) Held.c ?_
     refine GT 9 751 rfl (by kernel_rfl) rfl rfl Gd.no (Qt.ldW a40 rfl Rd.o z40) Held.c ?_
     refine GH.two (i := 4) (j := 8) (by kernel_rfl) rfl rfl  (rfl : _ = 767) (rfl : _ = 1007) Gd.no Gd.no (Qt.ld (Qt.ldc a83 rfl (by first | exact Rdc.o rfl | exact Rdc.o (nth_vIs (by omega)) | exact Rdc.o (nth_vI (by omega)))) rfl ?_) (Qt.ld (Qt.ldc a3 rfl (by first | exact Rdc.o rfl | exact Rdc.o (nth_vIs (by omega)) | exact Rdc.o (nth_vI (by omega)))) rfl ?_)
     ·skip
      refine ⟨Held.c, ?_⟩
      refine GO 8 1023 (by kernel_rfl) rfl rfl Gd.no (Qt.ld (Qt.ldc a3 rfl (by first | exact Rdc.o rfl | exact Rdc.o (nth_vIs (by omega)) | exact Rdc.o (nth_vI (by omega)))) rfl ?_)
      refine ⟨Held.c, ?_⟩
      refine GT 10 2047 rfl (by kernel_rfl) rfl rfl Gd.no (Qt.buildS Try.underlying90 pl90 ze90 (.cons rfl rfl (Cl.one rfl) rfl (SetM.cons SetAt.k0 (.nil _ _)) (.cons rfl rfl Cl.agg rfl (setM_rec _ _) (.nil _)))) Held.c ?_
      refine GO 11 4095 (by kernel_rfl) rfl rfl Gd.no (Ld.bsl1 rfl Try.underlying83 z90 ze90 (by first | exact Cl.one rfl | exact Cl.agg) (by rfl) (by decide) (by decide) rfl (by first | exact Cl.one rfl | exact Cl.agg) (by rfl) (fun b109 => ?_))
      refine ⟨Held.c, ?_⟩
      refine GO 12 8191 (by kernel_rfl) rfl rfl Gd.no (Ld.appS (f := recC) (ys := [(Z.newest, e1)]) Try.underlying83 z90 by90 ze90 (by first | exact Cl.one rfl | exact Cl.agg) rfl rfl recC_len recC_one rfl rfl (Vw.all Rd.o) hinvZ (fun e => by obtain ⟨h1, h2⟩ := hnilZ e; exact ⟨h1, h2, by simp⟩) (by simp only [List.length_cons, List.length_nil]; omega) (by decide) (by simp only [List.length_cons, List.length_nil]; omega) (fun b' c' sp' hcap => ?_))
      refine ⟨Held.c, ?_⟩
      refine GT 13 16383 rfl (by kernel_rfl) rfl rfl Gd.no (Qt.nilc rfl) Held.c ?_
      refine GT 14 32767 rfl (by kernel_rfl) rfl rfl Gd.no (Qt.fa0 fl85_8 rfl) Held.c ?_
      refine GO 15 65535 (by kernel_rfl) rfl rfl Gd.no (Ld.stc z83 rfl rfl rfl (Stc.o SetAt.k8) ?_)
      refine ⟨Held.c, ?_⟩
      refine GH.done (by kernel_rfl) ?_
      refine GK.then (GC.seq (GC.region ?_))
      refine G.q Gd.no (Qt.mv rfl) rfl ?_
      refine G.q Gd.no (Qt.nilc rfl) rfl ?_
      refine G.q Gd.no (Qt.fa0 fl85_6 rfl) rfl ?_
      refine G.q Gd.no (Qt.ldc a3 rfl (by first | exact Rdc.o rfl | exact Rdc.o (nth_vIs (by omega)) | exact Rdc.o (nth_vI (by omega)))) rfl ?_
      refine G.q Gd.no (Qt.add rfl rfl (by exact i64_id (by omega) (by omega))) rfl ?_
      refine G.q Gd.no (Qt.nilc rfl) rfl ?_
      refine G.q Gd.no (Qt.fa0 fl85_6 rfl) rfl ?_
      refine G.ld Gd.no (Ld.stc z3 rfl rfl rfl (Stc.o SetAt.k6) ?_)
      refine G.nil (GK.then (GC.seq (GC.region ?_)))
      refine G.q Gd.no (Qt.mv rfl) rfl ?_
      refine G.q Gd.no (Qt.fa0 fl40_0 rfl) rfl ?_
      refine G.q Gd.no (Qt.ldc a36 rfl (by first | exact Rdc.o rfl | exact Rdc.o (nth_vIs (by omega)) | exact Rdc.o (nth_vI (by omega)))) rfl ?_
      refine G.ld Gd.no (Ld.call cal47 rfl rfl (.nil _) (fun F' hF => behind_ct F' _ (by omega) (by omega)) (fun _ _ => ?_))
      dsimp only [lCa, lNa]
      refine G.q Gd.no (Qt.nilc rfl) rfl ?_
      refine G.q Gd.no (Qt.fa0 fl85_7 rfl) rfl ?_
      refine G.ld Gd.no (Ld.stc z36 rfl rfl rfl (Stc.o SetAt.k7) ?_)
      refine G.nil (GK.then (GC.seq (GC.region ?_)))
      refine G.q Gd.no (Qt.fa0 fl40_0 rfl) rfl ?_
      refine G.q Gd.no (Qt.ldc a36 rfl (by first | exact Rdc.o rfl | exact Rdc.o (nth_vIs (by omega)) | exact Rdc.o (nth_vI (by omega)))) rfl ?_
      refine G.q Gd.no (Qt.asg rfl) rfl ?_
      refine G.q Gd.no (Qt.asg rfl) rfl ?_
      refine G.nil (GK.then (GC.ret ?_))
      rw [show RR = ({ Z with recs := Z.recs ++ [(Z.newest, e1)], used := Z.used + 1, next := behind e1.id }, E2, e1.id, 0) from by rw [← hRR, hput]; exact put_ok he1 hP (by assumption)]
      simp only [dOf, heZ, Bool.false_eq_true, if_false]
      refine GK.ret (rs := [.tmp 4, .tmp 5]) rfl (.tmp rfl (.tmp rfl .nil)) (some b', c', sp') ?_ ?_ (Tks.c (Tks.c (Tks.c (Tks.c (Tks.c (.nil _))))))
      ·exact ⟨hcap, fun e => by cases e⟩
      ·(first | rfl | (rw [← hid1]; rfl))
     ·skip
      refine ⟨Held.c, ?_⟩
      refine GT 10 2031 rfl (by kernel_rfl) rfl rfl Gd.no (Qt.buildS Try.underlying90 pl90 ze90 (.cons rfl rfl (Cl.one rfl) rfl (SetM.cons SetAt.k0 (.nil _ _)) (.cons rfl rfl Cl.agg rfl (setM_rec _ _) (.nil _)))) Held.c ?_
      refine GH.two (i := 4) (j := 11) (by kernel_rfl) rfl rfl  (rfl : _ = 2047) (rfl : _ = 4079) Gd.no Gd.no (Qt.ld (Qt.ldc a83 rfl (by first | exact Rdc.o rfl | exact Rdc.o (nth_vIs (by omega)) | exact Rdc.o (nth_vI (by omega)))) rfl ?_) (Ld.bsl1 rfl Try.underlying83 z90 ze90 (by first | exact Cl.one rfl | exact Cl.agg) (by rfl) (by decide) (by decide) rfl (by first | exact Cl.one rfl | exact Cl.agg) (by rfl) (fun b109 => ?_))
      ·skip
       refine ⟨Held.c, ?_⟩
       refine GO 11 4095 (by kernel_rfl) rfl rfl Gd.no (Ld.bsl1 rfl Try.underlying83 z90 ze90 (by first | exact Cl.one rfl | exact Cl.agg) (by rfl) (by decide) (by decide) rfl (by first | exact Cl.one rfl | exact Cl.agg) (by rfl) (fun b109 => ?_))
       refine ⟨Held.c, ?_⟩
       refine GO 12 8191 (by kernel_rfl) rfl rfl Gd.no (Ld.appS (f := recC) (ys := [(Z.newest, e1)]) Try.underlying83 z90 by90 ze90 (by first | exact Cl.one rfl | exact Cl.agg) rfl rfl recC_len recC_one rfl rfl (Vw.all Rd.o) hinvZ (fun e => by obtain ⟨h1, h2⟩ := hnilZ e; exact ⟨h1, h2, by simp⟩) (by simp only [List.length_cons, List.length_nil]; omega) (by decide) (by simp only [List.length_cons, List.length_nil]; omega) (fun b' c' sp' hcap => ?_))
       refine ⟨Held.c, ?_⟩
       refine GT 13 16383 rfl (by kernel_rfl) rfl rfl Gd.no (Qt.nilc rfl) Held.c ?_
       refine GT 14 32767 rfl (by kernel_rfl) rfl rfl Gd.no (Qt.fa0 fl85_8 rfl) Held.c ?_
       refine GO 15 65535 (by kernel_rfl) rfl rfl Gd.no (Ld.stc z83 rfl rfl rfl (Stc.o SetAt.k8) ?_)
       refine ⟨Held.c, ?_⟩
       refine GH.done (by kernel_rfl) ?_
       refine GK.then (GC.seq (GC.region ?_))
       refine G.q Gd.no (Qt.mv rfl) rfl ?_
       refine G.q Gd.no (Qt.nilc rfl) rfl ?_
       refine G.q Gd.no (Qt.fa0 fl85_6 rfl) rfl ?_
       refine G.q Gd.no (Qt.ldc a3 rfl (by first | exact Rdc.o rfl | exact Rdc.o (nth_vIs (by omega)) | exact Rdc.o (nth_vI (by omega)))) rfl ?_
       refine G.q Gd.no (Qt.add rfl rfl (by exact i64_id (by omega) (by omega))) rfl ?_
       refine G.q Gd.no (Qt.nilc rfl) rfl ?_
       refine G.q Gd.no (Qt.fa0 fl85_6 rfl) rfl ?_
       refine G.ld Gd.no (Ld.stc z3 rfl rfl rfl (Stc.o SetAt.k6) ?_)
       refine G.nil (GK.then (GC.seq (GC.region ?_)))
       refine G.q Gd.no (Qt.mv rfl) rfl ?_
       refine G.q Gd.no (Qt.fa0 fl40_0 rfl) rfl ?_
       refine G.q Gd.no (Qt.ldc a36 rfl (by first | exact Rdc.o rfl | exact Rdc.o (nth_vIs (by omega)) | exact Rdc.o (nth_vI (by omega)))) rfl ?_
       refine G.ld Gd.no (Ld.call cal47 rfl rfl (.nil _) (fun F' hF => behind_ct F' _ (by omega) (by omega)) (fun _ _ => ?_))
       dsimp only [lCa, lNa]
       refine G.q Gd.no (Qt.nilc rfl) rfl ?_
       refine G.q Gd.no (Qt.fa0 fl85_7 rfl) rfl ?_
       refine G.ld Gd.no (Ld.stc z36 rfl rfl rfl (Stc.o SetAt.k7) ?_)
       refine G.nil (GK.then (GC.seq (GC.region ?_)))
       refine G.q Gd.no (Qt.fa0 fl40_0 rfl) rfl ?_
       refine G.q Gd.no (Qt.ldc a36 rfl (by first | exact Rdc.o rfl | exact Rdc.o (nth_vIs (by omega)) | exact Rdc.o (nth_vI (by omega)))) rfl ?_
       refine G.q Gd.no (Qt.asg rfl) rfl ?_
       refine G.q Gd.no (Qt.asg rfl) rfl ?_
       refine G.nil (GK.then (GC.ret ?_))
       rw [show RR = ({ Z with recs := Z.recs ++ [(Z.newest, e1)], used := Z.used + 1, next := behind e1.id }, E2, e1.id, 0) from by rw [← hRR, hput]; exact put_ok he1 hP (by assumption)]
       simp only [dOf, heZ, Bool.false_eq_true, if_false]
       refine GK.ret (rs := [.tmp 4, .tmp 5]) rfl (.tmp rfl (.tmp rfl .nil)) (some b', c', sp') ?_ ?_ (Tks.c (Tks.c (Tks.c (Tks.c (Tks.c (.nil _))))))
       ·exact ⟨hcap, fun e => by cases e⟩
       ·(first | rfl | (rw [← hid1]; rfl))
      ·skip
       refine ⟨Held.c, ?_⟩
       refine GO 4 4095 (by kernel_rfl) rfl rfl Gd.no (Qt.ld (Qt.ldc a83 rfl (by first | exact Rdc.o rfl | exact Rdc.o (nth_vIs (by omega)) | exact Rdc.o (nth_vI (by omega)))) rfl ?_)
       refine ⟨Held.c, ?_⟩
       refine GO 12 8191 (by kernel_rfl) rfl rfl Gd.no (Ld.appS (f := recC) (ys := [(Z.newest, e1)]) Try.underlying83 z90 by90 ze90 (by first | exact Cl.one rfl | exact Cl.agg) rfl rfl recC_len recC_one rfl rfl (Vw.all Rd.o) hinvZ (fun e => by obtain ⟨h1, h2⟩ := hnilZ e; exact ⟨h1, h2, by simp⟩) (by simp only [List.length_cons, List.length_nil]; omega) (by decide) (by simp only [List.length_cons, List.length_nil]; omega) (fun b' c' sp' hcap => ?_))
       refine ⟨Held.c, ?_⟩
       refine GT 13 16383 rfl (by kernel_rfl) rfl rfl Gd.no (Qt.nilc rfl) Held.c ?_
       refine GT 14 32767 rfl (by kernel_rfl) rfl rfl Gd.no (Qt.fa0 fl85_8 rfl) Held.c ?_
       refine GO 15 65535 (by kernel_rfl) rfl rfl Gd.no (Ld.stc z83 rfl rfl rfl (Stc.o SetAt.k8) ?_)
       refine ⟨Held.c, ?_⟩
       refine GH.done (by kernel_rfl) ?_
       refine GK.then (GC.seq (GC.region ?_))
       refine G.q Gd.no (Qt.mv rfl) rfl ?_
       refine G.q Gd.no (Qt.nilc rfl) rfl ?_
       refine G.q Gd.no (Qt.fa0 fl85_6 rfl) rfl ?_
       refine G.q Gd.no (Qt.ldc a3 rfl (by first | exact Rdc.o rfl | exact Rdc.o (nth_vIs (by omega)) | exact Rdc.o (nth_vI (by omega)))) rfl ?_
       refine G.q Gd.no (Qt.add rfl rfl (by exact i64_id (by omega) (by omega))) rfl ?_
       refine G.q Gd.no (Qt.nilc rfl) rfl ?_
       refine G.q Gd.no (Qt.fa0 fl85_6 rfl) rfl ?_
       refine G.ld Gd.no (Ld.stc z3 rfl rfl rfl (Stc.o SetAt.k6) ?_)
       refine G.nil (GK.then (GC.seq (GC.region ?_)))
       refine G.q Gd.no (Qt.mv rfl) rfl ?_
       refine G.q Gd.no (Qt.fa0 fl40_0 rfl) rfl ?_
       refine G.q Gd.no (Qt.ldc a36 rfl (by first | exact Rdc.o rfl | exact Rdc.o (nth_vIs (by omega)) | exact Rdc.o (nth_vI (by omega)))) rfl ?_
       refine G.ld Gd.no (Ld.call cal47 rfl rfl (.nil _) (fun F' hF => behind_ct F' _ (by omega) (by omega)) (fun _ _ => ?_))
       dsimp only [lCa, lNa]
       refine G.q Gd.no (Qt.nilc rfl) rfl ?_
       refine G.q Gd.no (Qt.fa0 fl85_7 rfl) rfl ?_
       refine G.ld Gd.no (Ld.stc z36 rfl rfl rfl (Stc.o SetAt.k7) ?_)
       refine G.nil (GK.then (GC.seq (GC.region ?_)))
       refine G.q Gd.no (Qt.fa0 fl40_0 rfl) rfl ?_
       refine G.q Gd.no (Qt.ldc a36 rfl (by first | exact Rdc.o rfl | exact Rdc.o (nth_vIs (by omega)) | exact Rdc.o (nth_vI (by omega)))) rfl ?_
       refine G.q Gd.no (Qt.asg rfl) rfl ?_
       refine G.q Gd.no (Qt.asg rfl) rfl ?_
       refine G.nil (GK.then (GC.ret ?_))
       rw [show RR = ({ Z with recs := Z.recs ++ [(Z.newest, e1)], used := Z.used + 1, next := behind e1.id }, E2, e1.id, 0) from by rw [← hRR, hput]; exact put_ok he1 hP (by assumption)]
       simp only [dOf, heZ, Bool.false_eq_true, if_false]
       refine GK.ret (rs := [.tmp 4, .tmp 5]) rfl (.tmp rfl (.tmp rfl .nil)) (some b', c', sp') ?_ ?_ (Tks.c (Tks.c (Tks.c (Tks.c (Tks.c (.nil _))))))
       ·exact ⟨hcap, fun e => by cases e⟩
       ·(first | rfl | (rw [← hid1]; rfl))
  ·try simp only [sB0, sB1, sB2, sB3, sB4, sB5, sB6, sB7, sB8] at g5
   refine GT 6 127 rfl (by kernel_rfl) rfl rfl (Gd.yes rfl rfl) (Qt.mv rfl) Held.c ?_
   refine GT 7 255 rfl (by kernel_rfl) rfl rfl (Gd.yes rfl rfl) (Qt.nilc rfl) Held.c ?_
   refine GT 8 511 rfl (by kernel_rfl) rfl rfl (Gd.yes rfl rfl) (Qt.fa0 fl85_6 rfl) Held.c ?_
   refine GT 9 1023 rfl (by kernel_rfl) rfl rfl (Gd.yes rfl rfl) (Qt.ldc a3 rfl (by first | exact Rdc.o rfl | exact Rdc.o (nth_vIs (by omega)) | exact Rdc.o (nth_vI (by omega)))) Held.c ?_
   refine GT 10 2047 rfl (by kernel_rfl) rfl rfl (Gd.yes rfl rfl) (Qt.mv rfl) Held.c ?_
   refine GT 11 4095 rfl (by kernel_rfl) rfl rfl (Gd.yes rfl rfl) (Qt.nilc rfl) Held.c ?_
   refine GT 12 8191 rfl (by kernel_rfl) rfl rfl (Gd.yes rfl rfl) (Qt.fa0 fl85_0 rfl) Held.c ?_
   refine GT 13 16383 rfl (by kernel_rfl) rfl rfl (Gd.yes rfl rfl) (Qt.ldc a27 rfl (by first | exact Rdc.o rfl | exact Rdc.o (nth_vIs (by omega)) | exact Rdc.o (nth_vI (by omega)))) Held.c ?_
   refine GO 14 32767 (by kernel_rfl) rfl rfl (Gd.yes rfl rfl) (Ld.call cal44 rfl rfl (.nil _) (fun F' hF => size_ct F' _ _ _ _ _ _ (hF.own In.o)) (fun _ _ => ?_))
   dsimp only [lCa, lNa]
   refine ⟨Held.c, ?_⟩
   refine GO 15 65535 (by kernel_rfl) rfl rfl (Gd.yes rfl rfl) (Ld.call cal38 rfl rfl (.nil _) (fun F' hF => slots_ct F' _ (by omega) (by omega)) (fun _ _ => ?_))
   dsimp only [lCa, lNa]
   refine ⟨Held.c, ?_⟩
   refine GT 16 131071 rfl (by kernel_rfl) rfl rfl (Gd.yes rfl rfl) (Qt.eqI rfl rfl) Held.c ?_
   refine GT 17 262143 rfl (by kernel_rfl) rfl rfl Gd.no (Qt.pickf rfl rfl) Held.c ?_
   refine GH.done (by kernel_rfl) ?_
   refine GK.then ?_
   refine GC.condb rfl (fun c5 => ?_) (fun c5 => ?_)
   ·try simp only [sB0, sB1, sB2, sB3, sB4, sB5, sB6, sB7, sB8] at c5
    have hroom : Y.newest = 0 ∨ Y.used = (D.size - 11) / 17 := Or.inr c5
    refine GC.seq (GC.region ?_)
    refine G.q Gd.no (Qt.mv rfl) rfl ?_
    refine G.ld Gd.no (Ld.call cal45 rfl rfl (Tks.c (Tks.c (Tks.c (Tks.c (Tks.c (.nil _)))))) (fun F' hF => grow_ct F' _ _ _ _ _ _ _ _ rb rc sp Y D fine hcb hdn hinv hnil hlen gf) (fun sp2 hop => ?_))
    dsimp only [lCa, lNa]
    obtain ⟨Z, E, e0, hg⟩ : ∃ Z E e0, Y.grow D = (Z, E, e0) := ⟨_, _, _, rfl⟩
    obtain ⟨fE, lE, heZ, gfZ, hlz, hge⟩ := grow_fine fine gf he
    rw [hg] at fE lE heZ gfZ hlz hge hop
    dsimp only at fE lE heZ gfZ hlz hge hop
    rw [hg]
    dsimp only
    obtain ⟨spZ, hspZ⟩ : ∃ s, sp2 = s := ⟨_, rfl⟩
    rw [hspZ] at hop
    rw [hspZ]
    obtain ⟨hinvZ, hnilZ⟩ := hop
    have hlenZ : Z.recs.length ≤ 16777216 := by omega
    refine G.q Gd.no (Qt.asg rfl) rfl ?_
    refine G.nil (GK.then (GC.seq (GC.region ?_)))
    refine G.q Gd.no (Qt.mv rfl) rfl ?_
    refine G.q Gd.no (Qt.neI rfl rfl) rfl ?_
    refine G.nil (GK.then ?_)
    refine GC.condb rfl (fun c6 => ?_) (fun c6 => ?_)
    ·try simp only [sB0, sB1, sB2, sB3, sB4, sB5, sB6, sB7, sB8] at c6
     refine GC.seq (GC.region ?_)
     refine G.q Gd.no (Qt.mv rfl) rfl ?_
     refine G.ld Gd.no (Ld.call cal42 rfl rfl (Tks.c (.nil _)) (fun F' hF => gfell_ct F' b db bb bw cb cw rb rc Z E (hF.own In.o) heZ) (fun _ _ => ?_))
     dsimp only [lCa, lNa]
     refine G.nil (GK.then (GC.seq (GC.region ?_)))
     refine G.q Gd.no (Qt.mv rfl) rfl ?_
     refine G.q Gd.no (Qt.asg rfl) rfl ?_
     refine G.q Gd.no (Qt.asg rfl) rfl ?_
     refine G.nil (GK.then (GC.ret (GK.thenr ?_)))
     rw [show RR = (Z.fell E, E, 0, _) from by rw [← hRR]; unfold Lg.addUp; rw [if_neg hgood, if_pos hroom, hg, if_neg (by assumption)]]
     cases hdd : E.down with
     | true =>
      simp only [Lg.fell, Dev.nn, Dev.n0, hdd, if_true]
      refine GK.addNil (.cells (([] : List (Int × Ev)).flatMap recC ++ []) 90) ?_
      refine GK.ret (rs := [.tmp 4, .tmp 5]) rfl (.tmp rfl (.tmp rfl .nil)) (none, 0, []) ?_ ?_ (Tks.c (Tks.c (Tks.c (Tks.c (Tks.c (.nil _))))))
      ·exact ⟨rfl, fun _ => ⟨rfl, rfl⟩⟩
      ·rfl
     | false =>
      simp only [Lg.fell, Dev.nn, Dev.n0, hdd, Bool.false_eq_true, if_false, dOf, heZ]
      refine GK.ret (rs := [.tmp 4, .tmp 5]) rfl (.tmp rfl (.tmp rfl .nil)) (rb, rc, spZ) ?_ ?_ (Tks.c (Tks.c (Tks.c (Tks.c (Tks.c (.nil _))))))
      ·exact ⟨hinvZ, hnilZ⟩
      ·rfl
    ·try simp only [sB0, sB1, sB2, sB3, sB4, sB5, sB6, sB7, sB8] at c6
     have hput : Y.addUp D e = Z.put E e := by unfold Lg.addUp; rw [if_neg hgood, if_pos hroom, hg, if_pos (by assumption)]
     have hnz : 1 ≤ Z.newest := (hge (by assumption)).2
     have hus : Z.used < (E.size - 11) / 17 := by have h1 := (hge (by assumption)).1; have h2 := gfZ.sz; omega
     have hbE : E.n ≤ cb := by rw [lE.1]; exact hcb
     have b0 := fE.geo.size0
     have b1 := fE.geo.size1
     have b2 := fE.geo.all
     have b3l := fE.ok.len
     have b4 := gfZ.f0
     have b5 := gfZ.S2
     have b6 := gfZ.fS
     have b7 := fE.ok.wlen
     have b8 := gfZ.i0
     have b9 := gfZ.i1
     have b10 := gfZ.n1
     have b11 := gfZ.u0
     have hm0 := Int.emod_nonneg (Z.newest - 1) (show Z.S ≠ 0 by omega)
     have hm1 := Int.emod_lt_of_pos (Z.newest - 1) (show 0 < Z.S by omega)
     have s0 : 0 ≤ (Z.first + (Z.newest - 1) % Z.S) * E.size := Int.mul_nonneg (by omega) (by omega)
     have s1 : (Z.first + (Z.newest - 1) % Z.S + 1) * E.size ≤ E.nw * E.size := Int.mul_le_mul_of_nonneg_right (by omega) (by omega)
     have s2 : (Z.first + (Z.newest - 1) % Z.S + 1) * E.size = (Z.first + (Z.newest - 1) % Z.S) * E.size + E.size := by rw [Int.add_mul, Int.one_mul]
     obtain ⟨e1, he1⟩ : ∃ e1 : Ev, { e with id := Z.next } = e1 := ⟨_, rfl⟩
     have hid1 : e1.id = Z.next := by rw [← he1]
     have wf1 : e1.Wf := by rw [← he1]; exact ⟨by simp only; omega, wf.time, wf.gen, wf.st, wf.sn, wf.ty, wf.d0, wf.d1, wf.d2⟩
     have hv1 : e1.valid = true := by
      rw [← he1]
      have hv0 : e.valid = true := by cases h : e.valid; exact absurd (Or.inl h) hgood; rfl
      simp only [Ev.valid, Bool.and_eq_true, decide_eq_true_eq] at hv0 ⊢
      omega
     refine GC.skip (GK.then (GC.seq (GC.region ?_)))
     refine G.q Gd.no (Qt.mv rfl) rfl ?_
     refine G.q Gd.no (Qt.nilc rfl) rfl ?_
     refine G.q Gd.no (Qt.fa0 fl85_7 rfl) rfl ?_
     refine G.q Gd.no (Qt.ldc a36 rfl (by first | exact Rdc.o rfl | exact Rdc.o (nth_vIs (by omega)) | exact Rdc.o (nth_vI (by omega)))) rfl ?_
     refine G.q Gd.no (Qt.fa0 fl40_0 rfl) rfl ?_
     refine G.ld Gd.no (Ld.stc z36 rfl rfl rfl (Stc.o (cs' := evC e1) (by rw [← he1]; exact SetAt.k0)) ?_)
     refine G.nil (GK.then (GC.seq (GC.region ?_)))
     refine G.q Gd.no (Qt.ldW a40 rfl Rd.o z40) rfl ?_
     refine G.ld Gd.no (Ld.call cal46 rfl rfl (.nil _) (fun F' hF => enc_ct F' e1 wf1 hv1) (fun q _ => ?_))
     dsimp only [lCa, lNa]
     rw [← List.append_nil (vI .u8 (evEnc e1))]
     refine G.q Gd.no (Qt.mv rfl) rfl ?_
     refine G.q Gd.no (Qt.ext rfl rfl) rfl ?_
     refine G.q Gd.no (Qt.ext rfl rfl) rfl ?_
     refine G.q Gd.no (Qt.asg rfl) rfl ?_
     refine G.q Gd.no (Qt.asg rfl) rfl ?_
     refine G.nil (GK.then (GC.seq ?_))
     refine GC.draw mixed _ Held.all ?_
     refine GT 0 1 rfl (by kernel_rfl) rfl rfl Gd.no (Qt.mv rfl) Held.c ?_
     refine GT 1 3 rfl (by kernel_rfl) rfl rfl Gd.no (Qt.nilc rfl) Held.c ?_
     refine GT 2 7 rfl (by kernel_rfl) rfl rfl Gd.no (Qt.fa0 fl85_1 rfl) Held.c ?_
     refine GT 3 15 rfl (by kernel_rfl) rfl rfl Gd.no (Qt.ldc a3 rfl (by first | exact Rdc.o rfl | exact Rdc.o (nth_vIs (by omega)) | exact Rdc.o (nth_vI (by omega)))) Held.c ?_
     refine GT 4 31 rfl (by kernel_rfl) rfl rfl Gd.no (Qt.mv rfl) Held.c ?_
     refine GT 5 63 rfl (by kernel_rfl) rfl rfl Gd.no (Qt.nilc rfl) Held.c ?_
     refine GT 6 127 rfl (by kernel_rfl) rfl rfl Gd.no (Qt.fa0 fl85_4 rfl) Held.c ?_
     refine GT 7 255 rfl (by kernel_rfl) rfl rfl Gd.no (Qt.ldc a3 rfl (by first | exact Rdc.o rfl | exact Rdc.o (nth_vIs (by omega)) | exact Rdc.o (nth_vI (by omega)))) Held.c ?_
     refine GT 8 511 rfl (by kernel_rfl) rfl rfl Gd.no (Qt.sub rfl rfl (by exact i64_id (by omega) (by omega))) Held.c ?_
     refine GT 9 1023 rfl (by kernel_rfl) rfl rfl Gd.no (Qt.mv rfl) Held.c ?_
     refine GT 10 2047 rfl (by kernel_rfl) rfl rfl Gd.no (Qt.nilc rfl) Held.c ?_
     refine GT 11 4095 rfl (by kernel_rfl) rfl rfl Gd.no (Qt.fa0 fl85_2 rfl) Held.c ?_
     refine GT 12 8191 rfl (by kernel_rfl) rfl rfl Gd.no (Qt.ldc a3 rfl (by first | exact Rdc.o rfl | exact Rdc.o (nth_vIs (by omega)) | exact Rdc.o (nth_vI (by omega)))) Held.c ?_
     refine GT 13 16383 rfl (by kernel_rfl) rfl rfl Gd.no (Qt.rem rfl rfl (by omega) (by first | exact rem_nn (by omega) | exact rfl)) Held.c ?_
     refine GT 14 32767 rfl (by kernel_rfl) rfl rfl Gd.no (Qt.add rfl rfl (by exact i64_id (by omega) (by omega))) Held.c ?_
     refine GT 15 65535 rfl (by kernel_rfl) rfl rfl Gd.no (Qt.mv rfl) Held.c ?_
     refine GT 16 131071 rfl (by kernel_rfl) rfl rfl Gd.no (Qt.nilc rfl) Held.c ?_
     refine GT 17 262143 rfl (by kernel_rfl) rfl rfl Gd.no (Qt.fa0 fl85_0 rfl) Held.c ?_
     refine GT 18 524287 rfl (by kernel_rfl) rfl rfl Gd.no (Qt.ldc a27 rfl (by first | exact Rdc.o rfl | exact Rdc.o (nth_vIs (by omega)) | exact Rdc.o (nth_vI (by omega)))) Held.c ?_
     refine GT 22 4718591 rfl (by kernel_rfl) rfl rfl Gd.no (Qt.mv rfl) Held.c ?_
     refine GT 23 13107199 rfl (by kernel_rfl) rfl rfl Gd.no (Qt.nilc rfl) Held.c ?_
     refine GT 24 29884415 rfl (by kernel_rfl) rfl rfl Gd.no (Qt.fa0 fl85_6 rfl) Held.c ?_
     refine GT 25 63438847 rfl (by kernel_rfl) rfl rfl Gd.no (Qt.ldc a3 rfl (by first | exact Rdc.o rfl | exact Rdc.o (nth_vIs (by omega)) | exact Rdc.o (nth_vI (by omega)))) Held.c ?_
     refine GT 26 130547711 rfl (by kernel_rfl) rfl rfl Gd.no (Qt.mul rfl rfl (by first | exact i64_id (by omega) (by omega) | exact rfl)) Held.c ?_
     refine GO 19 131071999 (by kernel_rfl) rfl rfl Gd.no (Ld.call cal44 rfl rfl (.nil _) (fun F' hF => size_ct F' _ _ _ _ _ _ (hF.own In.o)) (fun _ _ => ?_))
     dsimp only [lCa, lNa]
     refine ⟨Held.c, ?_⟩
     refine GT 20 132120575 rfl (by kernel_rfl) rfl rfl Gd.no (Qt.mul rfl rfl (by exact i64_id (by omega) (by omega))) Held.c ?_
     refine GT 21 134217727 rfl (by kernel_rfl) rfl rfl Gd.no (Qt.add rfl rfl (by first | exact i64_id (by omega) (by omega) | exact rfl)) Held.c ?_
     refine GT 27 268435455 rfl (by kernel_rfl) rfl rfl Gd.no (Qt.add rfl rfl (by first | exact i64_id (by omega) (by omega) | exact rfl)) Held.c ?_
     refine GT 28 536870911 rfl (by kernel_rfl) rfl rfl Gd.no (Qt.asg rfl) Held.c ?_
     rw [show (Z.first + (Z.newest - 1) % Z.S) * E.size + 11 + Z.used * 17 = Z.place E from rfl]
     refine GH.done (by kernel_rfl) ?_
     refine GK.then (GC.seq (GC.seq ?_))
     refine GC.draw mixed _ (Held.tk (b := some b) Held.none) ?_
     refine GT 0 1 rfl (by kernel_rfl) rfl rfl Gd.no (Qt.mv rfl) Held.c ?_
     refine GT 1 3 rfl (by kernel_rfl) rfl rfl Gd.no (Qt.nilc rfl) Held.c ?_
     refine GT 2 7 rfl (by kernel_rfl) rfl rfl Gd.no (Qt.fa0 fl85_0 rfl) Held.c ?_
     refine GT 3 15 rfl (by kernel_rfl) rfl rfl Gd.no (Qt.ldc a27 rfl (by first | exact Rdc.o rfl | exact Rdc.o (nth_vIs (by omega)) | exact Rdc.o (nth_vI (by omega)))) Held.c ?_
     refine GT 4 31 rfl (by kernel_rfl) rfl rfl Gd.no (Qt.mv rfl) Held.c ?_
     refine GT 5 63 rfl (by kernel_rfl) rfl rfl Gd.no (Qt.mv rfl) Held.c ?_
     refine GO 6 127 (by kernel_rfl) rfl rfl Gd.no (Ld.bsl (xs := [.const (.int .u8 0)]) rfl Try.underlying53 z5 ze5 rfl rfl rfl rfl rfl (by simp [Value.oneCell']) (fun b90 => ?_))
     refine ⟨Held.c, ?_⟩
     refine GO 7 255 (by kernel_rfl) rfl rfl Gd.no (Ld.appI (k := .u8) (ob := some q) (xs := evEnc e1) (sp := []) (ys := [0]) Try.underlying53 z5 by5 ze5 rfl rfl rfl rfl (Vw.all Rd.o) rfl (by intro e; cases e) (by simp [evEnc]) (by simp [evEnc]) (fun b' sp' => ?_))
     refine ⟨Held.c, ?_⟩
     refine GO 8 511 (by kernel_rfl) rfl rfl Gd.no (Ld.call cal23 rfl rfl (Tks.c (Tks.c (.nil _))) (fun F' hF => program_ct F' _ _ _ _ _ _ _ fE.ok (Z.place E) (some ⟨b', 0, none⟩) _ (evEnc e1 ++ [0]) (VwF.ofPre (hF.own In.o)) (by simp [evEnc])) (fun _ _ => ?_))
     dsimp only [lCa, lNa]
     obtain ⟨E2, e2, hP⟩ : ∃ E2 e2, E.program (Z.place E) (evEnc e1 ++ [0]) = (E2, e2) := ⟨_, _, rfl⟩
     have w2 := Dev.program_wear E (Z.place E) (evEnc e1 ++ [0])
     rw [hP] at w2
     rw [hP]
     dsimp only
     rw [← w2]
     refine ⟨Held.c, ?_⟩
     refine GT 9 1023 rfl (by kernel_rfl) rfl rfl Gd.no (Qt.asg rfl) Held.c ?_
     refine GH.done (by kernel_rfl) ?_
     refine GK.then (GC.seq (GC.region ?_))
     refine G.q Gd.no (Qt.mv rfl) rfl ?_
     refine G.q Gd.no (Qt.neI rfl rfl) rfl ?_
     refine G.nil (GK.then ?_)
     refine GC.condb rfl (fun c7 => ?_) (fun c7 => ?_)
     ·try simp only [sB0, sB1, sB2, sB3, sB4, sB5, sB6, sB7, sB8] at c7
      refine GC.seq (GC.region ?_)
      refine G.q Gd.no (Qt.mv rfl) rfl ?_
      refine G.ld Gd.no (Ld.call cal42 rfl rfl (Tks.c (.nil _)) (fun F' hF => gfell_ct F' b db bb bw cb cw rb rc Z E2 (hF.own In.o) heZ) (fun _ _ => ?_))
      dsimp only [lCa, lNa]
      refine G.nil (GK.then (GC.seq (GC.region ?_)))
      refine G.q Gd.no (Qt.mv rfl) rfl ?_
      refine G.q Gd.no (Qt.asg rfl) rfl ?_
      refine G.q Gd.no (Qt.asg rfl) rfl ?_
      refine G.nil (GK.then (GC.ret (GK.thenr ?_)))
      rw [show RR = (Z.fell E2, E2, 0, _) from by rw [← hRR, hput]; exact put_no he1 hP (by assumption)]
      cases hdd : E2.down with
      | true =>
       simp only [Lg.fell, Dev.nn, Dev.n0, hdd, if_true]
       refine GK.addNil (.cells (([] : List (Int × Ev)).flatMap recC ++ []) 90) ?_
       refine GK.ret (rs := [.tmp 4, .tmp 5]) rfl (.tmp rfl (.tmp rfl .nil)) (none, 0, []) ?_ ?_ (Tks.c (Tks.c (Tks.c (Tks.c (Tks.c (.nil _))))))
       ·exact ⟨rfl, fun _ => ⟨rfl, rfl⟩⟩
       ·rfl
      | false =>
       simp only [Lg.fell, Dev.nn, Dev.n0, hdd, Bool.false_eq_true, if_false, dOf, heZ]
       refine GK.ret (rs := [.tmp 4, .tmp 5]) rfl (.tmp rfl (.tmp rfl .nil)) (rb, rc, spZ) ?_ ?_ (Tks.c (Tks.c (Tks.c (Tks.c (Tks.c (.nil _))))))
       ·exact ⟨hinvZ, hnilZ⟩
       ·rfl
     ·try simp only [sB0, sB1, sB2, sB3, sB4, sB5, sB6, sB7, sB8] at c7
      refine GC.skip (GK.then (GC.seq ?_))
      refine GC.draw mixed _ (Held.tk (b := some b3) Held.none) ?_
      refine GT 0 1 rfl (by kernel_rfl) rfl rfl Gd.no (Qt.mv rfl) Held.c ?_
      refine GT 1 3 rfl (by kernel_rfl) rfl rfl Gd.no (Qt.mv rfl) Held.c ?_
      refine GT 2 7 rfl (by kernel_rfl) rfl rfl Gd.no (Qt.nilc rfl) Held.c ?_
      refine GT 3 15 rfl (by kernel_rfl) rfl rfl Gd.no (Qt.fa0 fl85_8 rfl) Held.c ?_
      refine GT 5 47 rfl (by kernel_rfl) rfl rfl Gd.no (Qt.mv rfl) Held.c ?_
      refine GT 6 111 rfl (by kernel_rfl) rfl rfl Gd.no (Qt.nilc rfl) Held.c ?_
      refine GT 7 239 rfl (by kernel_rfl) rfl rfl Gd.no (Qt.fa0 fl85_4 rfl) Held.c ?_
      refine GT 9 751 rfl (by kernel_rfl) rfl rfl Gd.no (Qt.ldW a40 rfl Rd.o z40) Held.c ?_
      refine GH.two (i := 4) (j := 8) (by kernel_rfl) rfl rfl  (rfl : _ = 767) (rfl : _ = 1007) Gd.no Gd.no (Qt.ld (Qt.ldc a83 rfl (by first | exact Rdc.o rfl | exact Rdc.o (nth_vIs (by omega)) | exact Rdc.o (nth_vI (by omega)))) rfl ?_) (Qt.ld (Qt.ldc a3 rfl (by first | exact Rdc.o rfl | exact Rdc.o (nth_vIs (by omega)) | exact Rdc.o (nth_vI (by omega)))) rfl ?_)
      ·skip
       refine ⟨Held.c, ?_⟩
       refine GO 8 1023 (by kernel_rfl) rfl rfl Gd.no (Qt.ld (Qt.ldc a3 rfl (by first | exact Rdc.o rfl | exact Rdc.o (nth_vIs (by omega)) | exact Rdc.o (nth_vI (by omega)))) rfl ?_)
       refine ⟨Held.c, ?_⟩
       refine GT 10 2047 rfl (by kernel_rfl) rfl rfl Gd.no (Qt.buildS Try.underlying90 pl90 ze90 (.cons rfl rfl (Cl.one rfl) rfl (SetM.cons SetAt.k0 (.nil _ _)) (.cons rfl rfl Cl.agg rfl (setM_rec _ _) (.nil _)))) Held.c ?_
       refine GO 11 4095 (by kernel_rfl) rfl rfl Gd.no (Ld.bsl1 rfl Try.underlying83 z90 ze90 (by first | exact Cl.one rfl | exact Cl.agg) (by rfl) (by decide) (by decide) rfl (by first | exact Cl.one rfl | exact Cl.agg) (by rfl) (fun b109 => ?_))
       refine ⟨Held.c, ?_⟩
       refine GO 12 8191 (by kernel_rfl) rfl rfl Gd.no (Ld.appS (f := recC) (ys := [(Z.newest, e1)]) Try.underlying83 z90 by90 ze90 (by first | exact Cl.one rfl | exact Cl.agg) rfl rfl recC_len recC_one rfl rfl (Vw.all Rd.o) hinvZ (fun e => by obtain ⟨h1, h2⟩ := hnilZ e; exact ⟨h1, h2, by simp⟩) (by simp only [List.length_cons, List.length_nil]; omega) (by decide) (by simp only [List.length_cons, List.length_nil]; omega) (fun b' c' sp' hcap => ?_))
       refine ⟨Held.c, ?_⟩
       refine GT 13 16383 rfl (by kernel_rfl) rfl rfl Gd.no (Qt.nilc rfl) Held.c ?_
       refine GT 14 32767 rfl (by kernel_rfl) rfl rfl Gd.no (Qt.fa0 fl85_8 rfl) Held.c ?_
       refine GO 15 65535 (by kernel_rfl) rfl rfl Gd.no (Ld.stc z83 rfl rfl rfl (Stc.o SetAt.k8) ?_)
       refine ⟨Held.c, ?_⟩
       refine GH.done (by kernel_rfl) ?_
       refine GK.then (GC.seq (GC.region ?_))
       refine G.q Gd.no (Qt.mv rfl) rfl ?_
       refine G.q Gd.no (Qt.nilc rfl) rfl ?_
       refine G.q Gd.no (Qt.fa0 fl85_6 rfl) rfl ?_
       refine G.q Gd.no (Qt.ldc a3 rfl (by first | exact Rdc.o rfl | exact Rdc.o (nth_vIs (by omega)) | exact Rdc.o (nth_vI (by omega)))) rfl ?_
       refine G.q Gd.no (Qt.add rfl rfl (by exact i64_id (by omega) (by omega))) rfl ?_
       refine G.q Gd.no (Qt.nilc rfl) rfl ?_
       refine G.q Gd.no (Qt.fa0 fl85_6 rfl) rfl ?_
       refine G.ld Gd.no (Ld.stc z3 rfl rfl rfl (Stc.o SetAt.k6) ?_)
       refine G.nil (GK.then (GC.seq (GC.region ?_)))
       refine G.q Gd.no (Qt.mv rfl) rfl ?_
       refine G.q Gd.no (Qt.fa0 fl40_0 rfl) rfl ?_
       refine G.q Gd.no (Qt.ldc a36 rfl (by first | exact Rdc.o rfl | exact Rdc.o (nth_vIs (by omega)) | exact Rdc.o (nth_vI (by omega)))) rfl ?_
       refine G.ld Gd.no (Ld.call cal47 rfl rfl (.nil _) (fun F' hF => behind_ct F' _ (by omega) (by omega)) (fun _ _ => ?_))
       dsimp only [lCa, lNa]
       refine G.q Gd.no (Qt.nilc rfl) rfl ?_
       refine G.q Gd.no (Qt.fa0 fl85_7 rfl) rfl ?_
       refine G.ld Gd.no (Ld.stc z36 rfl rfl rfl (Stc.o SetAt.k7) ?_)
       refine G.nil (GK.then (GC.seq (GC.region ?_)))
       refine G.q Gd.no (Qt.fa0 fl40_0 rfl) rfl ?_
       refine G.q Gd.no (Qt.ldc a36 rfl (by first | exact Rdc.o rfl | exact Rdc.o (nth_vIs (by omega)) | exact Rdc.o (nth_vI (by omega)))) rfl ?_
       refine G.q Gd.no (Qt.asg rfl) rfl ?_
       refine G.q Gd.no (Qt.asg rfl) rfl ?_
       refine G.nil (GK.then (GC.ret ?_))
       rw [show RR = ({ Z with recs := Z.recs ++ [(Z.newest, e1)], used := Z.used + 1, next := behind e1.id }, E2, e1.id, 0) from by rw [← hRR, hput]; exact put_ok he1 hP (by assumption)]
       simp only [dOf, heZ, Bool.false_eq_true, if_false]
       refine GK.ret (rs := [.tmp 4, .tmp 5]) rfl (.tmp rfl (.tmp rfl .nil)) (some b', c', sp') ?_ ?_ (Tks.c (Tks.c (Tks.c (Tks.c (Tks.c (.nil _))))))
       ·exact ⟨hcap, fun e => by cases e⟩
       ·(first | rfl | (rw [← hid1]; rfl))
      ·skip
       refine ⟨Held.c, ?_⟩
       refine GT 10 2031 rfl (by kernel_rfl) rfl rfl Gd.no (Qt.buildS Try.underlying90 pl90 ze90 (.cons rfl rfl (Cl.one rfl) rfl (SetM.cons SetAt.k0 (.nil _ _)) (.cons rfl rfl Cl.agg rfl (setM_rec _ _) (.nil _)))) Held.c ?_
       refine GH.two (i := 4) (j := 11) (by kernel_rfl) rfl rfl  (rfl : _ = 2047) (rfl : _ = 4079) Gd.no Gd.no (Qt.ld (Qt.ldc a83 rfl (by first | exact Rdc.o rfl | exact Rdc.o (nth_vIs (by omega)) | exact Rdc.o (nth_vI (by omega)))) rfl ?_) (Ld.bsl1 rfl Try.underlying83 z90 ze90 (by first | exact Cl.one rfl | exact Cl.agg) (by rfl) (by decide) (by decide) rfl (by first | exact Cl.one rfl | exact Cl.agg) (by rfl) (fun b109 => ?_))
       ·skip
        refine ⟨Held.c, ?_⟩
        refine GO 11 4095 (by kernel_rfl) rfl rfl Gd.no (Ld.bsl1 rfl Try.underlying83 z90 ze90 (by first | exact Cl.one rfl | exact Cl.agg) (by rfl) (by decide) (by decide) rfl (by first | exact Cl.one rfl | exact Cl.agg) (by rfl) (fun b109 => ?_))
        refine ⟨Held.c, ?_⟩
        refine GO 12 8191 (by kernel_rfl) rfl rfl Gd.no (Ld.appS (f := recC) (ys := [(Z.newest, e1)]) Try.underlying83 z90 by90 ze90 (by first | exact Cl.one rfl | exact Cl.agg) rfl rfl recC_len recC_one rfl rfl (Vw.all Rd.o) hinvZ (fun e => by obtain ⟨h1, h2⟩ := hnilZ e; exact ⟨h1, h2, by simp⟩) (by simp only [List.length_cons, List.length_nil]; omega) (by decide) (by simp only [List.length_cons, List.length_nil]; omega) (fun b' c' sp' hcap => ?_))
        refine ⟨Held.c, ?_⟩
        refine GT 13 16383 rfl (by kernel_rfl) rfl rfl Gd.no (Qt.nilc rfl) Held.c ?_
        refine GT 14 32767 rfl (by kernel_rfl) rfl rfl Gd.no (Qt.fa0 fl85_8 rfl) Held.c ?_
        refine GO 15 65535 (by kernel_rfl) rfl rfl Gd.no (Ld.stc z83 rfl rfl rfl (Stc.o SetAt.k8) ?_)
        refine ⟨Held.c, ?_⟩
        refine GH.done (by kernel_rfl) ?_
        refine GK.then (GC.seq (GC.region ?_))
        refine G.q Gd.no (Qt.mv rfl) rfl ?_
        refine G.q Gd.no (Qt.nilc rfl) rfl ?_
        refine G.q Gd.no (Qt.fa0 fl85_6 rfl) rfl ?_
        refine G.q Gd.no (Qt.ldc a3 rfl (by first | exact Rdc.o rfl | exact Rdc.o (nth_vIs (by omega)) | exact Rdc.o (nth_vI (by omega)))) rfl ?_
        refine G.q Gd.no (Qt.add rfl rfl (by exact i64_id (by omega) (by omega))) rfl ?_
        refine G.q Gd.no (Qt.nilc rfl) rfl ?_
        refine G.q Gd.no (Qt.fa0 fl85_6 rfl) rfl ?_
        refine G.ld Gd.no (Ld.stc z3 rfl rfl rfl (Stc.o SetAt.k6) ?_)
        refine G.nil (GK.then (GC.seq (GC.region ?_)))
        refine G.q Gd.no (Qt.mv rfl) rfl ?_
        refine G.q Gd.no (Qt.fa0 fl40_0 rfl) rfl ?_
        refine G.q Gd.no (Qt.ldc a36 rfl (by first | exact Rdc.o rfl | exact Rdc.o (nth_vIs (by omega)) | exact Rdc.o (nth_vI (by omega)))) rfl ?_
        refine G.ld Gd.no (Ld.call cal47 rfl rfl (.nil _) (fun F' hF => behind_ct F' _ (by omega) (by omega)) (fun _ _ => ?_))
        dsimp only [lCa, lNa]
        refine G.q Gd.no (Qt.nilc rfl) rfl ?_
        refine G.q Gd.no (Qt.fa0 fl85_7 rfl) rfl ?_
        refine G.ld Gd.no (Ld.stc z36 rfl rfl rfl (Stc.o SetAt.k7) ?_)
        refine G.nil (GK.then (GC.seq (GC.region ?_)))
        refine G.q Gd.no (Qt.fa0 fl40_0 rfl) rfl ?_
        refine G.q Gd.no (Qt.ldc a36 rfl (by first | exact Rdc.o rfl | exact Rdc.o (nth_vIs (by omega)) | exact Rdc.o (nth_vI (by omega)))) rfl ?_
        refine G.q Gd.no (Qt.asg rfl) rfl ?_
        refine G.q Gd.no (Qt.asg rfl) rfl ?_
        refine G.nil (GK.then (GC.ret ?_))
        rw [show RR = ({ Z with recs := Z.recs ++ [(Z.newest, e1)], used := Z.used + 1, next := behind e1.id }, E2, e1.id, 0) from by rw [← hRR, hput]; exact put_ok he1 hP (by assumption)]
        simp only [dOf, heZ, Bool.false_eq_true, if_false]
        refine GK.ret (rs := [.tmp 4, .tmp 5]) rfl (.tmp rfl (.tmp rfl .nil)) (some b', c', sp') ?_ ?_ (Tks.c (Tks.c (Tks.c (Tks.c (Tks.c (.nil _))))))
        ·exact ⟨hcap, fun e => by cases e⟩
        ·(first | rfl | (rw [← hid1]; rfl))
       ·skip
        refine ⟨Held.c, ?_⟩
        refine GO 4 4095 (by kernel_rfl) rfl rfl Gd.no (Qt.ld (Qt.ldc a83 rfl (by first | exact Rdc.o rfl | exact Rdc.o (nth_vIs (by omega)) | exact Rdc.o (nth_vI (by omega)))) rfl ?_)
        refine ⟨Held.c, ?_⟩
        refine GO 12 8191 (by kernel_rfl) rfl rfl Gd.no (Ld.appS (f := recC) (ys := [(Z.newest, e1)]) Try.underlying83 z90 by90 ze90 (by first | exact Cl.one rfl | exact Cl.agg) rfl rfl recC_len recC_one rfl rfl (Vw.all Rd.o) hinvZ (fun e => by obtain ⟨h1, h2⟩ := hnilZ e; exact ⟨h1, h2, by simp⟩) (by simp only [List.length_cons, List.length_nil]; omega) (by decide) (by simp only [List.length_cons, List.length_nil]; omega) (fun b' c' sp' hcap => ?_))
        refine ⟨Held.c, ?_⟩
        refine GT 13 16383 rfl (by kernel_rfl) rfl rfl Gd.no (Qt.nilc rfl) Held.c ?_
        refine GT 14 32767 rfl (by kernel_rfl) rfl rfl Gd.no (Qt.fa0 fl85_8 rfl) Held.c ?_
        refine GO 15 65535 (by kernel_rfl) rfl rfl Gd.no (Ld.stc z83 rfl rfl rfl (Stc.o SetAt.k8) ?_)
        refine ⟨Held.c, ?_⟩
        refine GH.done (by kernel_rfl) ?_
        refine GK.then (GC.seq (GC.region ?_))
        refine G.q Gd.no (Qt.mv rfl) rfl ?_
        refine G.q Gd.no (Qt.nilc rfl) rfl ?_
        refine G.q Gd.no (Qt.fa0 fl85_6 rfl) rfl ?_
        refine G.q Gd.no (Qt.ldc a3 rfl (by first | exact Rdc.o rfl | exact Rdc.o (nth_vIs (by omega)) | exact Rdc.o (nth_vI (by omega)))) rfl ?_
        refine G.q Gd.no (Qt.add rfl rfl (by exact i64_id (by omega) (by omega))) rfl ?_
        refine G.q Gd.no (Qt.nilc rfl) rfl ?_
        refine G.q Gd.no (Qt.fa0 fl85_6 rfl) rfl ?_
        refine G.ld Gd.no (Ld.stc z3 rfl rfl rfl (Stc.o SetAt.k6) ?_)
        refine G.nil (GK.then (GC.seq (GC.region ?_)))
        refine G.q Gd.no (Qt.mv rfl) rfl ?_
        refine G.q Gd.no (Qt.fa0 fl40_0 rfl) rfl ?_
        refine G.q Gd.no (Qt.ldc a36 rfl (by first | exact Rdc.o rfl | exact Rdc.o (nth_vIs (by omega)) | exact Rdc.o (nth_vI (by omega)))) rfl ?_
        refine G.ld Gd.no (Ld.call cal47 rfl rfl (.nil _) (fun F' hF => behind_ct F' _ (by omega) (by omega)) (fun _ _ => ?_))
        dsimp only [lCa, lNa]
        refine G.q Gd.no (Qt.nilc rfl) rfl ?_
        refine G.q Gd.no (Qt.fa0 fl85_7 rfl) rfl ?_
        refine G.ld Gd.no (Ld.stc z36 rfl rfl rfl (Stc.o SetAt.k7) ?_)
        refine G.nil (GK.then (GC.seq (GC.region ?_)))
        refine G.q Gd.no (Qt.fa0 fl40_0 rfl) rfl ?_
        refine G.q Gd.no (Qt.ldc a36 rfl (by first | exact Rdc.o rfl | exact Rdc.o (nth_vIs (by omega)) | exact Rdc.o (nth_vI (by omega)))) rfl ?_
        refine G.q Gd.no (Qt.asg rfl) rfl ?_
        refine G.q Gd.no (Qt.asg rfl) rfl ?_
        refine G.nil (GK.then (GC.ret ?_))
        rw [show RR = ({ Z with recs := Z.recs ++ [(Z.newest, e1)], used := Z.used + 1, next := behind e1.id }, E2, e1.id, 0) from by rw [← hRR, hput]; exact put_ok he1 hP (by assumption)]
        simp only [dOf, heZ, Bool.false_eq_true, if_false]
        refine GK.ret (rs := [.tmp 4, .tmp 5]) rfl (.tmp rfl (.tmp rfl .nil)) (some b', c', sp') ?_ ?_ (Tks.c (Tks.c (Tks.c (Tks.c (Tks.c (.nil _))))))
        ·exact ⟨hcap, fun e => by cases e⟩
        ·(first | rfl | (rw [← hid1]; rfl))
   ·try simp only [sB0, sB1, sB2, sB3, sB4, sB5, sB6, sB7, sB8] at c5
    have hroom : ¬ (Y.newest = 0 ∨ Y.used = (D.size - 11) / 17) := by omega
    obtain ⟨Z, hZY⟩ : ∃ Z, Y = Z := ⟨_, rfl⟩
    obtain ⟨E, hED⟩ : ∃ E, D = E := ⟨_, rfl⟩
    obtain ⟨spZ, hspZ⟩ : ∃ s, sp = s := ⟨_, rfl⟩
    rw [hZY, hED, hspZ]
    have fE : E.Fine := by rw [← hED]; exact fine
    have lE : E.Like D := by rw [hED]; exact Dev.Like.refl E
    have heZ : Z.ended = false := by rw [← hZY]; exact he
    have gfZ : Z.Fine E := by rw [← hZY, ← hED]; exact gf
    have hinvZ : Z.recs.length * 11 + spZ.length = rc * 11 := by rw [← hZY, ← hspZ]; exact hinv
    have hnilZ : rb = none → Z.recs = [] ∧ spZ = [] := by rw [← hZY, ← hspZ]; exact hnil
    have hlenZ : Z.recs.length ≤ 16777216 := by rw [← hZY]; exact hlen
    have hput : Y.addUp D e = Z.put E e := by unfold Lg.addUp; rw [if_neg hgood, if_neg hroom, hZY, hED]
    have hnz : 1 ≤ Z.newest := by rw [← hZY]; have := gf.n0; omega
    have hus : Z.used < (E.size - 11) / 17 := by rw [← hZY, ← hED]; have := gf.u1; omega
    have hbE : E.n ≤ cb := by rw [lE.1]; exact hcb
    have b0 := fE.geo.size0
    have b1 := fE.geo.size1
    have b2 := fE.geo.all
    have b3l := fE.ok.len
    have b4 := gfZ.f0
    have b5 := gfZ.S2
    have b6 := gfZ.fS
    have b7 := fE.ok.wlen
    have b8 := gfZ.i0
    have b9 := gfZ.i1
    have b10 := gfZ.n1
    have b11 := gfZ.u0
    have hm0 := Int.emod_nonneg (Z.newest - 1) (show Z.S ≠ 0 by omega)
    have hm1 := Int.emod_lt_of_pos (Z.newest - 1) (show 0 < Z.S by omega)
    have s0 : 0 ≤ (Z.first + (Z.newest - 1) % Z.S) * E.size := Int.mul_nonneg (by omega) (by omega)
    have s1 : (Z.first + (Z.newest - 1) % Z.S + 1) * E.size ≤ E.nw * E.size := Int.mul_le_mul_of_nonneg_right (by omega) (by omega)
    have s2 : (Z.first + (Z.newest - 1) % Z.S + 1) * E.size = (Z.first + (Z.newest - 1) % Z.S) * E.size + E.size := by rw [Int.add_mul, Int.one_mul]
    obtain ⟨e1, he1⟩ : ∃ e1 : Ev, { e with id := Z.next } = e1 := ⟨_, rfl⟩
    have hid1 : e1.id = Z.next := by rw [← he1]
    have wf1 : e1.Wf := by rw [← he1]; exact ⟨by simp only; omega, wf.time, wf.gen, wf.st, wf.sn, wf.ty, wf.d0, wf.d1, wf.d2⟩
    have hv1 : e1.valid = true := by
     rw [← he1]
     have hv0 : e.valid = true := by cases h : e.valid; exact absurd (Or.inl h) hgood; rfl
     simp only [Ev.valid, Bool.and_eq_true, decide_eq_true_eq] at hv0 ⊢
     omega
    refine GC.skip (GK.then (GC.seq (GC.region ?_)))
    refine G.q Gd.no (Qt.mv rfl) rfl ?_
    refine G.q Gd.no (Qt.nilc rfl) rfl ?_
    refine G.q Gd.no (Qt.fa0 fl85_7 rfl) rfl ?_
    refine G.q Gd.no (Qt.ldc a36 rfl (by first | exact Rdc.o rfl | exact Rdc.o (nth_vIs (by omega)) | exact Rdc.o (nth_vI (by omega)))) rfl ?_
    refine G.q Gd.no (Qt.fa0 fl40_0 rfl) rfl ?_
    refine G.ld Gd.no (Ld.stc z36 rfl rfl rfl (Stc.o (cs' := evC e1) (by rw [← he1]; exact SetAt.k0)) ?_)
    refine G.nil (GK.then (GC.seq (GC.region ?_)))
    refine G.q Gd.no (Qt.ldW a40 rfl Rd.o z40) rfl ?_
    refine G.ld Gd.no (Ld.call cal46 rfl rfl (.nil _) (fun F' hF => enc_ct F' e1 wf1 hv1) (fun q _ => ?_))
    dsimp only [lCa, lNa]
    rw [← List.append_nil (vI .u8 (evEnc e1))]
    refine G.q Gd.no (Qt.mv rfl) rfl ?_
    refine G.q Gd.no (Qt.ext rfl rfl) rfl ?_
    refine G.q Gd.no (Qt.ext rfl rfl) rfl ?_
    refine G.q Gd.no (Qt.asg rfl) rfl ?_
    refine G.q Gd.no (Qt.asg rfl) rfl ?_
    refine G.nil (GK.then (GC.seq ?_))
    refine GC.draw mixed _ Held.all ?_
    refine GT 0 1 rfl (by kernel_rfl) rfl rfl Gd.no (Qt.mv rfl) Held.c ?_
    refine GT 1 3 rfl (by kernel_rfl) rfl rfl Gd.no (Qt.nilc rfl) Held.c ?_
    refine GT 2 7 rfl (by kernel_rfl) rfl rfl Gd.no (Qt.fa0 fl85_1 rfl) Held.c ?_
    refine GT 3 15 rfl (by kernel_rfl) rfl rfl Gd.no (Qt.ldc a3 rfl (by first | exact Rdc.o rfl | exact Rdc.o (nth_vIs (by omega)) | exact Rdc.o (nth_vI (by omega)))) Held.c ?_
    refine GT 4 31 rfl (by kernel_rfl) rfl rfl Gd.no (Qt.mv rfl) Held.c ?_
    refine GT 5 63 rfl (by kernel_rfl) rfl rfl Gd.no (Qt.nilc rfl) Held.c ?_
    refine GT 6 127 rfl (by kernel_rfl) rfl rfl Gd.no (Qt.fa0 fl85_4 rfl) Held.c ?_
    refine GT 7 255 rfl (by kernel_rfl) rfl rfl Gd.no (Qt.ldc a3 rfl (by first | exact Rdc.o rfl | exact Rdc.o (nth_vIs (by omega)) | exact Rdc.o (nth_vI (by omega)))) Held.c ?_
    refine GT 8 511 rfl (by kernel_rfl) rfl rfl Gd.no (Qt.sub rfl rfl (by exact i64_id (by omega) (by omega))) Held.c ?_
    refine GT 9 1023 rfl (by kernel_rfl) rfl rfl Gd.no (Qt.mv rfl) Held.c ?_
    refine GT 10 2047 rfl (by kernel_rfl) rfl rfl Gd.no (Qt.nilc rfl) Held.c ?_
    refine GT 11 4095 rfl (by kernel_rfl) rfl rfl Gd.no (Qt.fa0 fl85_2 rfl) Held.c ?_
    refine GT 12 8191 rfl (by kernel_rfl) rfl rfl Gd.no (Qt.ldc a3 rfl (by first | exact Rdc.o rfl | exact Rdc.o (nth_vIs (by omega)) | exact Rdc.o (nth_vI (by omega)))) Held.c ?_
    refine GT 13 16383 rfl (by kernel_rfl) rfl rfl Gd.no (Qt.rem rfl rfl (by omega) (by first | exact rem_nn (by omega) | exact rfl)) Held.c ?_
    refine GT 14 32767 rfl (by kernel_rfl) rfl rfl Gd.no (Qt.add rfl rfl (by exact i64_id (by omega) (by omega))) Held.c ?_
    refine GT 15 65535 rfl (by kernel_rfl) rfl rfl Gd.no (Qt.mv rfl) Held.c ?_
    refine GT 16 131071 rfl (by kernel_rfl) rfl rfl Gd.no (Qt.nilc rfl) Held.c ?_
    refine GT 17 262143 rfl (by kernel_rfl) rfl rfl Gd.no (Qt.fa0 fl85_0 rfl) Held.c ?_
    refine GT 18 524287 rfl (by kernel_rfl) rfl rfl Gd.no (Qt.ldc a27 rfl (by first | exact Rdc.o rfl | exact Rdc.o (nth_vIs (by omega)) | exact Rdc.o (nth_vI (by omega)))) Held.c ?_
    refine GT 22 4718591 rfl (by kernel_rfl) rfl rfl Gd.no (Qt.mv rfl) Held.c ?_
    refine GT 23 13107199 rfl (by kernel_rfl) rfl rfl Gd.no (Qt.nilc rfl) Held.c ?_
    refine GT 24 29884415 rfl (by kernel_rfl) rfl rfl Gd.no (Qt.fa0 fl85_6 rfl) Held.c ?_
    refine GT 25 63438847 rfl (by kernel_rfl) rfl rfl Gd.no (Qt.ldc a3 rfl (by first | exact Rdc.o rfl | exact Rdc.o (nth_vIs (by omega)) | exact Rdc.o (nth_vI (by omega)))) Held.c ?_
    refine GT 26 130547711 rfl (by kernel_rfl) rfl rfl Gd.no (Qt.mul rfl rfl (by first | exact i64_id (by omega) (by omega) | exact rfl)) Held.c ?_
    refine GO 19 131071999 (by kernel_rfl) rfl rfl Gd.no (Ld.call cal44 rfl rfl (.nil _) (fun F' hF => size_ct F' _ _ _ _ _ _ (hF.own In.o)) (fun _ _ => ?_))
    dsimp only [lCa, lNa]
    refine ⟨Held.c, ?_⟩
    refine GT 20 132120575 rfl (by kernel_rfl) rfl rfl Gd.no (Qt.mul rfl rfl (by exact i64_id (by omega) (by omega))) Held.c ?_
    refine GT 21 134217727 rfl (by kernel_rfl) rfl rfl Gd.no (Qt.add rfl rfl (by first | exact i64_id (by omega) (by omega) | exact rfl)) Held.c ?_
    refine GT 27 268435455 rfl (by kernel_rfl) rfl rfl Gd.no (Qt.add rfl rfl (by first | exact i64_id (by omega) (by omega) | exact rfl)) Held.c ?_
    refine GT 28 536870911 rfl (by kernel_rfl) rfl rfl Gd.no (Qt.asg rfl) Held.c ?_
    rw [show (Z.first + (Z.newest - 1) % Z.S) * E.size + 11 + Z.used * 17 = Z.place E from rfl]
    refine GH.done (by kernel_rfl) ?_
    refine GK.then (GC.seq (GC.seq ?_))
    refine GC.draw mixed _ (Held.tk (b := some b) Held.none) ?_
    refine GT 0 1 rfl (by kernel_rfl) rfl rfl Gd.no (Qt.mv rfl) Held.c ?_
    refine GT 1 3 rfl (by kernel_rfl) rfl rfl Gd.no (Qt.nilc rfl) Held.c ?_
    refine GT 2 7 rfl (by kernel_rfl) rfl rfl Gd.no (Qt.fa0 fl85_0 rfl) Held.c ?_
    refine GT 3 15 rfl (by kernel_rfl) rfl rfl Gd.no (Qt.ldc a27 rfl (by first | exact Rdc.o rfl | exact Rdc.o (nth_vIs (by omega)) | exact Rdc.o (nth_vI (by omega)))) Held.c ?_
    refine GT 4 31 rfl (by kernel_rfl) rfl rfl Gd.no (Qt.mv rfl) Held.c ?_
    refine GT 5 63 rfl (by kernel_rfl) rfl rfl Gd.no (Qt.mv rfl) Held.c ?_
    refine GO 6 127 (by kernel_rfl) rfl rfl Gd.no (Ld.bsl (xs := [.const (.int .u8 0)]) rfl Try.underlying53 z5 ze5 rfl rfl rfl rfl rfl (by simp [Value.oneCell']) (fun b90 => ?_))
    refine ⟨Held.c, ?_⟩
    refine GO 7 255 (by kernel_rfl) rfl rfl Gd.no (Ld.appI (k := .u8) (ob := some q) (xs := evEnc e1) (sp := []) (ys := [0]) Try.underlying53 z5 by5 ze5 rfl rfl rfl rfl (Vw.all Rd.o) rfl (by intro e; cases e) (by simp [evEnc]) (by simp [evEnc]) (fun b' sp' => ?_))
    refine ⟨Held.c, ?_⟩
    refine GO 8 511 (by kernel_rfl) rfl rfl Gd.no (Ld.call cal23 rfl rfl (Tks.c (Tks.c (.nil _))) (fun F' hF => program_ct F' _ _ _ _ _ _ _ fE.ok (Z.place E) (some ⟨b', 0, none⟩) _ (evEnc e1 ++ [0]) (VwF.ofPre (hF.own In.o)) (by simp [evEnc])) (fun _ _ => ?_))
    dsimp only [lCa, lNa]
    obtain ⟨E2, e2, hP⟩ : ∃ E2 e2, E.program (Z.place E) (evEnc e1 ++ [0]) = (E2, e2) := ⟨_, _, rfl⟩
    have w2 := Dev.program_wear E (Z.place E) (evEnc e1 ++ [0])
    rw [hP] at w2
    rw [hP]
    dsimp only
    rw [← w2]
    refine ⟨Held.c, ?_⟩
    refine GT 9 1023 rfl (by kernel_rfl) rfl rfl Gd.no (Qt.asg rfl) Held.c ?_
    refine GH.done (by kernel_rfl) ?_
    refine GK.then (GC.seq (GC.region ?_))
    refine G.q Gd.no (Qt.mv rfl) rfl ?_
    refine G.q Gd.no (Qt.neI rfl rfl) rfl ?_
    refine G.nil (GK.then ?_)
    refine GC.condb rfl (fun c8 => ?_) (fun c8 => ?_)
    ·try simp only [sB0, sB1, sB2, sB3, sB4, sB5, sB6, sB7, sB8] at c8
     refine GC.seq (GC.region ?_)
     refine G.q Gd.no (Qt.mv rfl) rfl ?_
     refine G.ld Gd.no (Ld.call cal42 rfl rfl (Tks.c (.nil _)) (fun F' hF => gfell_ct F' b db bb bw cb cw rb rc Z E2 (hF.own In.o) heZ) (fun _ _ => ?_))
     dsimp only [lCa, lNa]
     refine G.nil (GK.then (GC.seq (GC.region ?_)))
     refine G.q Gd.no (Qt.mv rfl) rfl ?_
     refine G.q Gd.no (Qt.asg rfl) rfl ?_
     refine G.q Gd.no (Qt.asg rfl) rfl ?_
     refine G.nil (GK.then (GC.ret (GK.thenr ?_)))
     rw [show RR = (Z.fell E2, E2, 0, _) from by rw [← hRR, hput]; exact put_no he1 hP (by assumption)]
     cases hdd : E2.down with
     | true =>
      simp only [Lg.fell, Dev.nn, Dev.n0, hdd, if_true]
      refine GK.addNil (.cells (([] : List (Int × Ev)).flatMap recC ++ []) 90) ?_
      refine GK.ret (rs := [.tmp 4, .tmp 5]) rfl (.tmp rfl (.tmp rfl .nil)) (none, 0, []) ?_ ?_ (Tks.c (Tks.c (Tks.c (Tks.c (Tks.c (.nil _))))))
      ·exact ⟨rfl, fun _ => ⟨rfl, rfl⟩⟩
      ·rfl
     | false =>
      simp only [Lg.fell, Dev.nn, Dev.n0, hdd, Bool.false_eq_true, if_false, dOf, heZ]
      refine GK.ret (rs := [.tmp 4, .tmp 5]) rfl (.tmp rfl (.tmp rfl .nil)) (rb, rc, spZ) ?_ ?_ (Tks.c (Tks.c (Tks.c (Tks.c (Tks.c (.nil _))))))
      ·exact ⟨hinvZ, hnilZ⟩
      ·rfl
    ·try simp only [sB0, sB1, sB2, sB3, sB4, sB5, sB6, sB7, sB8] at c8
     refine GC.skip (GK.then (GC.seq ?_))
     refine GC.draw mixed _ (Held.tk (b := some b3) Held.none) ?_
     refine GT 0 1 rfl (by kernel_rfl) rfl rfl Gd.no (Qt.mv rfl) Held.c ?_
     refine GT 1 3 rfl (by kernel_rfl) rfl rfl Gd.no (Qt.mv rfl) Held.c ?_
     refine GT 2 7 rfl (by kernel_rfl) rfl rfl Gd.no (Qt.nilc rfl) Held.c ?_
     refine GT 3 15 rfl (by kernel_rfl) rfl rfl Gd.no (Qt.fa0 fl85_8 rfl) Held.c ?_
     refine GT 5 47 rfl (by kernel_rfl) rfl rfl Gd.no (Qt.mv rfl) Held.c ?_
     refine GT 6 111 rfl (by kernel_rfl) rfl rfl Gd.no (Qt.nilc rfl) Held.c ?_
     refine GT 7 239 rfl (by kernel_rfl) rfl rfl Gd.no (Qt.fa0 fl85_4 rfl) Held.c ?_
     refine GT 9 751 rfl (by kernel_rfl) rfl rfl Gd.no (Qt.ldW a40 rfl Rd.o z40) Held.c ?_
     refine GH.two (i := 4) (j := 8) (by kernel_rfl) rfl rfl  (rfl : _ = 767) (rfl : _ = 1007) Gd.no Gd.no (Qt.ld (Qt.ldc a83 rfl (by first | exact Rdc.o rfl | exact Rdc.o (nth_vIs (by omega)) | exact Rdc.o (nth_vI (by omega)))) rfl ?_) (Qt.ld (Qt.ldc a3 rfl (by first | exact Rdc.o rfl | exact Rdc.o (nth_vIs (by omega)) | exact Rdc.o (nth_vI (by omega)))) rfl ?_)
     ·skip
      refine ⟨Held.c, ?_⟩
      refine GO 8 1023 (by kernel_rfl) rfl rfl Gd.no (Qt.ld (Qt.ldc a3 rfl (by first | exact Rdc.o rfl | exact Rdc.o (nth_vIs (by omega)) | exact Rdc.o (nth_vI (by omega)))) rfl ?_)
      refine ⟨Held.c, ?_⟩
      refine GT 10 2047 rfl (by kernel_rfl) rfl rfl Gd.no (Qt.buildS Try.underlying90 pl90 ze90 (.cons rfl rfl (Cl.one rfl) rfl (SetM.cons SetAt.k0 (.nil _ _)) (.cons rfl rfl Cl.agg rfl (setM_rec _ _) (.nil _)))) Held.c ?_
      refine GO 11 4095 (by kernel_rfl) rfl rfl Gd.no (Ld.bsl1 rfl Try.underlying83 z90 ze90 (by first | exact Cl.one rfl | exact Cl.agg) (by rfl) (by decide) (by decide) rfl (by first | exact Cl.one rfl | exact Cl.agg) (by rfl) (fun b109 => ?_))
      refine ⟨Held.c, ?_⟩
      refine GO 12 8191 (by kernel_rfl) rfl rfl Gd.no (Ld.appS (f := recC) (ys := [(Z.newest, e1)]) Try.underlying83 z90 by90 ze90 (by first | exact Cl.one rfl | exact Cl.agg) rfl rfl recC_len recC_one rfl rfl (Vw.all Rd.o) hinvZ (fun e => by obtain ⟨h1, h2⟩ := hnilZ e; exact ⟨h1, h2, by simp⟩) (by simp only [List.length_cons, List.length_nil]; omega) (by decide) (by simp only [List.length_cons, List.length_nil]; omega) (fun b' c' sp' hcap => ?_))
      refine ⟨Held.c, ?_⟩
      refine GT 13 16383 rfl (by kernel_rfl) rfl rfl Gd.no (Qt.nilc rfl) Held.c ?_
      refine GT 14 32767 rfl (by kernel_rfl) rfl rfl Gd.no (Qt.fa0 fl85_8 rfl) Held.c ?_
      refine GO 15 65535 (by kernel_rfl) rfl rfl Gd.no (Ld.stc z83 rfl rfl rfl (Stc.o SetAt.k8) ?_)
      refine ⟨Held.c, ?_⟩
      refine GH.done (by kernel_rfl) ?_
      refine GK.then (GC.seq (GC.region ?_))
      refine G.q Gd.no (Qt.mv rfl) rfl ?_
      refine G.q Gd.no (Qt.nilc rfl) rfl ?_
      refine G.q Gd.no (Qt.fa0 fl85_6 rfl) rfl ?_
      refine G.q Gd.no (Qt.ldc a3 rfl (by first | exact Rdc.o rfl | exact Rdc.o (nth_vIs (by omega)) | exact Rdc.o (nth_vI (by omega)))) rfl ?_
      refine G.q Gd.no (Qt.add rfl rfl (by exact i64_id (by omega) (by omega))) rfl ?_
      refine G.q Gd.no (Qt.nilc rfl) rfl ?_
      refine G.q Gd.no (Qt.fa0 fl85_6 rfl) rfl ?_
      refine G.ld Gd.no (Ld.stc z3 rfl rfl rfl (Stc.o SetAt.k6) ?_)
      refine G.nil (GK.then (GC.seq (GC.region ?_)))
      refine G.q Gd.no (Qt.mv rfl) rfl ?_
      refine G.q Gd.no (Qt.fa0 fl40_0 rfl) rfl ?_
      refine G.q Gd.no (Qt.ldc a36 rfl (by first | exact Rdc.o rfl | exact Rdc.o (nth_vIs (by omega)) | exact Rdc.o (nth_vI (by omega)))) rfl ?_
      refine G.ld Gd.no (Ld.call cal47 rfl rfl (.nil _) (fun F' hF => behind_ct F' _ (by omega) (by omega)) (fun _ _ => ?_))
      dsimp only [lCa, lNa]
      refine G.q Gd.no (Qt.nilc rfl) rfl ?_
      refine G.q Gd.no (Qt.fa0 fl85_7 rfl) rfl ?_
      refine G.ld Gd.no (Ld.stc z36 rfl rfl rfl (Stc.o SetAt.k7) ?_)
      refine G.nil (GK.then (GC.seq (GC.region ?_)))
      refine G.q Gd.no (Qt.fa0 fl40_0 rfl) rfl ?_
      refine G.q Gd.no (Qt.ldc a36 rfl (by first | exact Rdc.o rfl | exact Rdc.o (nth_vIs (by omega)) | exact Rdc.o (nth_vI (by omega)))) rfl ?_
      refine G.q Gd.no (Qt.asg rfl) rfl ?_
      refine G.q Gd.no (Qt.asg rfl) rfl ?_
      refine G.nil (GK.then (GC.ret ?_))
      rw [show RR = ({ Z with recs := Z.recs ++ [(Z.newest, e1)], used := Z.used + 1, next := behind e1.id }, E2, e1.id, 0) from by rw [← hRR, hput]; exact put_ok he1 hP (by assumption)]
      simp only [dOf, heZ, Bool.false_eq_true, if_false]
      refine GK.ret (rs := [.tmp 4, .tmp 5]) rfl (.tmp rfl (.tmp rfl .nil)) (some b', c', sp') ?_ ?_ (Tks.c (Tks.c (Tks.c (Tks.c (Tks.c (.nil _))))))
      ·exact ⟨hcap, fun e => by cases e⟩
      ·(first | rfl | (rw [← hid1]; rfl))
     ·skip
      refine ⟨Held.c, ?_⟩
      refine GT 10 2031 rfl (by kernel_rfl) rfl rfl Gd.no (Qt.buildS Try.underlying90 pl90 ze90 (.cons rfl rfl (Cl.one rfl) rfl (SetM.cons SetAt.k0 (.nil _ _)) (.cons rfl rfl Cl.agg rfl (setM_rec _ _) (.nil _)))) Held.c ?_
      refine GH.two (i := 4) (j := 11) (by kernel_rfl) rfl rfl  (rfl : _ = 2047) (rfl : _ = 4079) Gd.no Gd.no (Qt.ld (Qt.ldc a83 rfl (by first | exact Rdc.o rfl | exact Rdc.o (nth_vIs (by omega)) | exact Rdc.o (nth_vI (by omega)))) rfl ?_) (Ld.bsl1 rfl Try.underlying83 z90 ze90 (by first | exact Cl.one rfl | exact Cl.agg) (by rfl) (by decide) (by decide) rfl (by first | exact Cl.one rfl | exact Cl.agg) (by rfl) (fun b109 => ?_))
      ·skip
       refine ⟨Held.c, ?_⟩
       refine GO 11 4095 (by kernel_rfl) rfl rfl Gd.no (Ld.bsl1 rfl Try.underlying83 z90 ze90 (by first | exact Cl.one rfl | exact Cl.agg) (by rfl) (by decide) (by decide) rfl (by first | exact Cl.one rfl | exact Cl.agg) (by rfl) (fun b109 => ?_))
       refine ⟨Held.c, ?_⟩
       refine GO 12 8191 (by kernel_rfl) rfl rfl Gd.no (Ld.appS (f := recC) (ys := [(Z.newest, e1)]) Try.underlying83 z90 by90 ze90 (by first | exact Cl.one rfl | exact Cl.agg) rfl rfl recC_len recC_one rfl rfl (Vw.all Rd.o) hinvZ (fun e => by obtain ⟨h1, h2⟩ := hnilZ e; exact ⟨h1, h2, by simp⟩) (by simp only [List.length_cons, List.length_nil]; omega) (by decide) (by simp only [List.length_cons, List.length_nil]; omega) (fun b' c' sp' hcap => ?_))
       refine ⟨Held.c, ?_⟩
       refine GT 13 16383 rfl (by kernel_rfl) rfl rfl Gd.no (Qt.nilc rfl) Held.c ?_
       refine GT 14 32767 rfl (by kernel_rfl) rfl rfl Gd.no (Qt.fa0 fl85_8 rfl) Held.c ?_
       refine GO 15 65535 (by kernel_rfl) rfl rfl Gd.no (Ld.stc z83 rfl rfl rfl (Stc.o SetAt.k8) ?_)
       refine ⟨Held.c, ?_⟩
       refine GH.done (by kernel_rfl) ?_
       refine GK.then (GC.seq (GC.region ?_))
       refine G.q Gd.no (Qt.mv rfl) rfl ?_
       refine G.q Gd.no (Qt.nilc rfl) rfl ?_
       refine G.q Gd.no (Qt.fa0 fl85_6 rfl) rfl ?_
       refine G.q Gd.no (Qt.ldc a3 rfl (by first | exact Rdc.o rfl | exact Rdc.o (nth_vIs (by omega)) | exact Rdc.o (nth_vI (by omega)))) rfl ?_
       refine G.q Gd.no (Qt.add rfl rfl (by exact i64_id (by omega) (by omega))) rfl ?_
       refine G.q Gd.no (Qt.nilc rfl) rfl ?_
       refine G.q Gd.no (Qt.fa0 fl85_6 rfl) rfl ?_
       refine G.ld Gd.no (Ld.stc z3 rfl rfl rfl (Stc.o SetAt.k6) ?_)
       refine G.nil (GK.then (GC.seq (GC.region ?_)))
       refine G.q Gd.no (Qt.mv rfl) rfl ?_
       refine G.q Gd.no (Qt.fa0 fl40_0 rfl) rfl ?_
       refine G.q Gd.no (Qt.ldc a36 rfl (by first | exact Rdc.o rfl | exact Rdc.o (nth_vIs (by omega)) | exact Rdc.o (nth_vI (by omega)))) rfl ?_
       refine G.ld Gd.no (Ld.call cal47 rfl rfl (.nil _) (fun F' hF => behind_ct F' _ (by omega) (by omega)) (fun _ _ => ?_))
       dsimp only [lCa, lNa]
       refine G.q Gd.no (Qt.nilc rfl) rfl ?_
       refine G.q Gd.no (Qt.fa0 fl85_7 rfl) rfl ?_
       refine G.ld Gd.no (Ld.stc z36 rfl rfl rfl (Stc.o SetAt.k7) ?_)
       refine G.nil (GK.then (GC.seq (GC.region ?_)))
       refine G.q Gd.no (Qt.fa0 fl40_0 rfl) rfl ?_
       refine G.q Gd.no (Qt.ldc a36 rfl (by first | exact Rdc.o rfl | exact Rdc.o (nth_vIs (by omega)) | exact Rdc.o (nth_vI (by omega)))) rfl ?_
       refine G.q Gd.no (Qt.asg rfl) rfl ?_
       refine G.q Gd.no (Qt.asg rfl) rfl ?_
       refine G.nil (GK.then (GC.ret ?_))
       rw [show RR = ({ Z with recs := Z.recs ++ [(Z.newest, e1)], used := Z.used + 1, next := behind e1.id }, E2, e1.id, 0) from by rw [← hRR, hput]; exact put_ok he1 hP (by assumption)]
       simp only [dOf, heZ, Bool.false_eq_true, if_false]
       refine GK.ret (rs := [.tmp 4, .tmp 5]) rfl (.tmp rfl (.tmp rfl .nil)) (some b', c', sp') ?_ ?_ (Tks.c (Tks.c (Tks.c (Tks.c (Tks.c (.nil _))))))
       ·exact ⟨hcap, fun e => by cases e⟩
       ·(first | rfl | (rw [← hid1]; rfl))
      ·skip
       refine ⟨Held.c, ?_⟩
       refine GO 4 4095 (by kernel_rfl) rfl rfl Gd.no (Qt.ld (Qt.ldc a83 rfl (by first | exact Rdc.o rfl | exact Rdc.o (nth_vIs (by omega)) | exact Rdc.o (nth_vI (by omega)))) rfl ?_)
       refine ⟨Held.c, ?_⟩
       refine GO 12 8191 (by kernel_rfl) rfl rfl Gd.no (Ld.appS (f := recC) (ys := [(Z.newest, e1)]) Try.underlying83 z90 by90 ze90 (by first | exact Cl.one rfl | exact Cl.agg) rfl rfl recC_len recC_one rfl rfl (Vw.all Rd.o) hinvZ (fun e => by obtain ⟨h1, h2⟩ := hnilZ e; exact ⟨h1, h2, by simp⟩) (by simp only [List.length_cons, List.length_nil]; omega) (by decide) (by simp only [List.length_cons, List.length_nil]; omega) (fun b' c' sp' hcap => ?_))
       refine ⟨Held.c, ?_⟩
       refine GT 13 16383 rfl (by kernel_rfl) rfl rfl Gd.no (Qt.nilc rfl) Held.c ?_
       refine GT 14 32767 rfl (by kernel_rfl) rfl rfl Gd.no (Qt.fa0 fl85_8 rfl) Held.c ?_
       refine GO 15 65535 (by kernel_rfl) rfl rfl Gd.no (Ld.stc z83 rfl rfl rfl (Stc.o SetAt.k8) ?_)
       refine ⟨Held.c, ?_⟩
       refine GH.done (by kernel_rfl) ?_
       refine GK.then (GC.seq (GC.region ?_))
       refine G.q Gd.no (Qt.mv rfl) rfl ?_
       refine G.q Gd.no (Qt.nilc rfl) rfl ?_
       refine G.q Gd.no (Qt.fa0 fl85_6 rfl) rfl ?_
       refine G.q Gd.no (Qt.ldc a3 rfl (by first | exact Rdc.o rfl | exact Rdc.o (nth_vIs (by omega)) | exact Rdc.o (nth_vI (by omega)))) rfl ?_
       refine G.q Gd.no (Qt.add rfl rfl (by exact i64_id (by omega) (by omega))) rfl ?_
       refine G.q Gd.no (Qt.nilc rfl) rfl ?_
       refine G.q Gd.no (Qt.fa0 fl85_6 rfl) rfl ?_
       refine G.ld Gd.no (Ld.stc z3 rfl rfl rfl (Stc.o SetAt.k6) ?_)
       refine G.nil (GK.then (GC.seq (GC.region ?_)))
       refine G.q Gd.no (Qt.mv rfl) rfl ?_
       refine G.q Gd.no (Qt.fa0 fl40_0 rfl) rfl ?_
       refine G.q Gd.no (Qt.ldc a36 rfl (by first | exact Rdc.o rfl | exact Rdc.o (nth_vIs (by omega)) | exact Rdc.o (nth_vI (by omega)))) rfl ?_
       refine G.ld Gd.no (Ld.call cal47 rfl rfl (.nil _) (fun F' hF => behind_ct F' _ (by omega) (by omega)) (fun _ _ => ?_))
       dsimp only [lCa, lNa]
       refine G.q Gd.no (Qt.nilc rfl) rfl ?_
       refine G.q Gd.no (Qt.fa0 fl85_7 rfl) rfl ?_
       refine G.ld Gd.no (Ld.stc z36 rfl rfl rfl (Stc.o SetAt.k7) ?_)
       refine G.nil (GK.then (GC.seq (GC.region ?_)))
       refine G.q Gd.no (Qt.fa0 fl40_0 rfl) rfl ?_
       refine G.q Gd.no (Qt.ldc a36 rfl (by first | exact Rdc.o rfl | exact Rdc.o (nth_vIs (by omega)) | exact Rdc.o (nth_vI (by omega)))) rfl ?_
       refine G.q Gd.no (Qt.asg rfl) rfl ?_
       refine G.q Gd.no (Qt.asg rfl) rfl ?_
       refine G.nil (GK.then (GC.ret ?_))
       rw [show RR = ({ Z with recs := Z.recs ++ [(Z.newest, e1)], used := Z.used + 1, next := behind e1.id }, E2, e1.id, 0) from by rw [← hRR, hput]; exact put_ok he1 hP (by assumption)]
       simp only [dOf, heZ, Bool.false_eq_true, if_false]
       refine GK.ret (rs := [.tmp 4, .tmp 5]) rfl (.tmp rfl (.tmp rfl .nil)) (some b', c', sp') ?_ ?_ (Tks.c (Tks.c (Tks.c (Tks.c (Tks.c (.nil _))))))
       ·exact ⟨hcap, fun e => by cases e⟩
       ·(first | rfl | (rw [← hid1]; rfl))
end Go.Proofs.Ytbeiciinppmekaa
