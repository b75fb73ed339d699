/-
  eventlog's Log: grow, Len, Full, Reserve, Records, Get do what the models say; each contract's conditions are its premises.
-/
import Derived.Test.YtbeiciinppmekaaTb
import Derived.Test.YtbeiciinppmekaaLogd
import Derived.Test.YtbeiciinppmekaaProg
namespace Go.Proofs.Ytbeiciinppmekaa
open Go Go.Sx Go.Proofs
set_option maxRecDepth 100000
set_option linter.unusedSimpArgs false
set_option linter.unusedVariables false
def Lg.grow (Y : Lg) (D : Dev) : Lg × Dev × Int :=
  if Y.S - 2 < Y.newest + 1 - max Y.tail 1 then
    if Y.over then Y.openT D (max Y.tail 1 + 1) else ({ Y with full := true }, D, 9)
  else Y.openT D (max Y.tail 1)
/-- What holds of a live log between the calls. -/
structure Lg.Fine (Y : Lg) (D : Dev) : Prop where
  f0 : 0 ≤ Y.first
  S2 : 2 ≤ Y.S
  fS : Y.first + Y.S ≤ D.nw
  n0 : 0 ≤ Y.newest
  n1 : Y.newest ≤ 2147483648
  t0 : 0 ≤ Y.tail
  t1 : Y.tail ≤ 2147483648
  i0 : 1 ≤ Y.next
  i1 : Y.next ≤ 65534
  u0 : 0 ≤ Y.used
  u1 : Y.used ≤ (D.size - 11) / 17
  sz : 64 ≤ D.size
  nm0 : 0 ≤ Y.num
  nm1 : Y.num ≤ 65535
def Lg.events (Y : Lg) : List Ev := Y.recs.map (·.2)
theorem grow_ct (F : Fr) (b db bb bw cb cw : Nat) (sb sw : List Value) (rb : Option Nat) (rc : Nat) (sp : List Value) (Y : Lg) (D : Dev) (fine : D.Fine) (hcb : D.n ≤ cb) (hdn : D.down = false) (hinv : Y.recs.length * 11 + sp.length = rc * 11) (hnil : rb = none → Y.recs = [] ∧ sp = []) (hlen : Y.recs.length ≤ 16777216) (gf : Y.Fine D) :
    Ct Try.prog F 45 [.pointer (some ⟨b, 0, none⟩)] [(some b, .cells (lgC Y (some ⟨db, 0, none⟩) rb rc) 85), (rb, .cells (Y.recs.flatMap recC ++ sp) 90), (some db, .cells (devC D bb bw cb cw) 81), (some bb, .cells (vI .u8 D.bytes ++ sb) 5), (some bw, .cells (vI .i64 D.wear ++ sw) 3)] (S := List Value) (fun x => (Y.grow D).1.recs.length * 11 + x.length = rc * 11 ∧ (rb = none → (Y.grow D).1.recs = [] ∧ x = [])) (fun _ => .int .i64 (Y.grow D).2.2) (fun x => [(some b, .cells (lgC (Y.grow D).1 (some ⟨db, 0, none⟩) rb rc) 85), (rb, .cells ((Y.grow D).1.recs.flatMap recC ++ x) 90), (some db, .cells (devC (Y.grow D).2.1 bb bw cb cw) 81), (some bb, .cells (vI .u8 (Y.grow D).2.1.bytes ++ sb) 5), (some bw, .cells (vI .i64 (Y.grow D).2.1.wear ++ sw) 3)]) := by
 have h1 := gf.n0
 have h2 := gf.n1
 have h3 := gf.t0
 have h4 := gf.t1
 have h5 := gf.S2
 have h6 := gf.f0
 have h7 := gf.fS
 have h8 := fine.ok.wlen
 refine Ct.of 35 [(0, _)] Try.func45 rfl rfl rfl rfl ?_
 refine GC.seq (GC.region ?_)
 refine G.q Gd.no (Qt.asg rfl) rfl ?_
 refine G.nil (GK.then (GC.seq (GC.region ?_)))
 refine G.q Gd.no (Qt.mv rfl) rfl ?_
 refine G.q Gd.no (Qt.nilc rfl) rfl ?_
 refine G.q Gd.no (Qt.fa0 fl85_5 rfl) rfl ?_
 refine G.q Gd.no (Qt.ldc a3 rfl (by first | exact Rdc.o rfl | exact Rdc.o (nth_vIs (by omega)) | exact Rdc.o (nth_vI (by omega)))) rfl ?_
 refine G.q Gd.no (Qt.max2 rfl rfl) rfl ?_
 refine G.q Gd.no (Qt.asg rfl) rfl ?_
 refine G.nil (GK.then (GC.seq (GC.seq ?_)))
 refine GC.draw mixed _ Held.all ?_
 refine GT 0 1 rfl (by kernel_rfl) rfl rfl Gd.no (Qt.mv rfl) Held.c ?_
 refine GT 1 3 rfl (by kernel_rfl) rfl rfl Gd.no (Qt.nilc rfl) Held.c ?_
 refine GT 2 7 rfl (by kernel_rfl) rfl rfl Gd.no (Qt.fa0 fl85_4 rfl) Held.c ?_
 refine GT 3 15 rfl (by kernel_rfl) rfl rfl Gd.no (Qt.ldc a3 rfl (by first | exact Rdc.o rfl | exact Rdc.o (nth_vIs (by omega)) | exact Rdc.o (nth_vI (by omega)))) Held.c ?_
 refine GT 4 31 rfl (by kernel_rfl) rfl rfl Gd.no (Qt.add rfl rfl (by first | exact i64_id (by omega) (by omega) | exact rfl)) Held.c ?_
 refine GT 5 63 rfl (by kernel_rfl) rfl rfl Gd.no (Qt.mv rfl) Held.c ?_
 refine GT 6 127 rfl (by kernel_rfl) rfl rfl Gd.no (Qt.sub rfl rfl (by first | exact i64_id (by omega) (by omega) | exact rfl)) Held.c ?_
 refine GT 7 255 rfl (by kernel_rfl) rfl rfl Gd.no (Qt.mv rfl) Held.c ?_
 refine GT 8 511 rfl (by kernel_rfl) rfl rfl Gd.no (Qt.nilc rfl) Held.c ?_
 refine GT 9 1023 rfl (by kernel_rfl) rfl rfl Gd.no (Qt.fa0 fl85_2 rfl) Held.c ?_
 refine GT 10 2047 rfl (by kernel_rfl) rfl rfl Gd.no (Qt.ldc a3 rfl (by first | exact Rdc.o rfl | exact Rdc.o (nth_vIs (by omega)) | exact Rdc.o (nth_vI (by omega)))) Held.c ?_
 refine GT 11 4095 rfl (by kernel_rfl) rfl rfl Gd.no (Qt.sub rfl rfl (by first | exact i64_id (by omega) (by omega) | exact rfl)) Held.c ?_
 refine GT 12 8191 rfl (by kernel_rfl) rfl rfl Gd.no (Qt.gtr rfl rfl) Held.c ?_
 refine GH.done (by kernel_rfl) ?_
 refine GK.then ?_
 refine GC.condb rfl (fun c0 => ?_) (fun c0 => ?_)
 ·try simp only [sB0, sB1, sB2, sB3, sB4, sB5, sB6, sB7, sB8] at c0
  refine GC.seq (GC.seq (GC.region ?_))
  refine G.q Gd.no (Qt.mv rfl) rfl ?_
  refine G.q Gd.no (Qt.nilc rfl) rfl ?_
  refine G.q Gd.no (Qt.fa0 fl85_3 rfl) rfl ?_
  refine G.q Gd.no (Qt.ldc a4 rfl (by first | exact Rdc.o rfl | exact Rdc.o (nth_vIs (by omega)) | exact Rdc.o (nth_vI (by omega)))) rfl ?_
  refine G.q Gd.no (Qt.not rfl) rfl ?_
  refine G.nil (GK.then ?_)
  refine GC.condb rfl (fun c1 => ?_) (fun c1 => ?_)
  ·try simp only [sB0, sB1, sB2, sB3, sB4, sB5, sB6, sB7, sB8] at c1
   refine GC.seq (GC.region ?_)
   refine G.q Gd.no (Qt.mv rfl) rfl ?_
   refine G.q Gd.no (Qt.nilc rfl) rfl ?_
   refine G.q Gd.no (Qt.fa0 fl85_9 rfl) rfl ?_
   refine G.ld Gd.no (Ld.stc z4 rfl rfl rfl (Stc.o SetAt.k9) ?_)
   refine G.nil (GK.then (GC.seq (GC.region ?_)))
   refine G.q Gd.no (Qt.asg rfl) rfl ?_
   refine G.nil (GK.then (GC.ret (GK.thenr (GK.thenr ?_))))
   rw [show Y.grow D = ({ Y with full := true }, D, 9) from by unfold Lg.grow; rw [if_pos (by omega), if_neg (by simp [c1])]]
   refine GK.ret (rs := [.tmp 2]) rfl (.tmp rfl .nil) sp ?_ ?_ (Tks.c (Tks.c (Tks.c (Tks.c (Tks.c (.nil _))))))
   ·exact ⟨hinv, hnil⟩
   ·rfl
  ·try simp only [sB0, sB1, sB2, sB3, sB4, sB5, sB6, sB7, sB8] at c1
   refine GC.skip (GK.then (GC.region ?_))
   refine G.q Gd.no (Qt.mv rfl) rfl ?_
   refine G.q Gd.no (Qt.add rfl rfl (by first | exact i64_id (by omega) (by omega) | exact rfl)) rfl ?_
   refine G.q Gd.no (Qt.asg rfl) rfl ?_
   refine G.nil (GK.then (GC.seq (GC.region ?_)))
   refine G.q Gd.no (Qt.mv rfl) rfl ?_
   refine G.q Gd.no (Qt.mv rfl) rfl ?_
   refine G.ld Gd.no (Ld.call cal72 rfl rfl (Tks.c (Tks.c (Tks.c (Tks.c (Tks.c (.nil _)))))) (fun F' hF => gopen_ct F' _ _ _ _ _ _ _ _ rb rc sp Y D _ fine hcb hdn hinv hnil hlen gf.f0 gf.S2 gf.fS gf.n0 gf.n1 (by omega) (by omega) (by have := gf.i0; omega) (by have := gf.i1; omega) (by have := gf.sz; omega)) (fun sp2 hop => ?_))
   dsimp only [lCa, lNa]
   refine G.q Gd.no (Qt.asg rfl) rfl ?_
   refine G.nil (GK.then (GC.ret ?_))
   rw [show Y.grow D = Y.openT D (max Y.tail 1 + 1) from by unfold Lg.grow; rw [if_pos (by omega), if_pos (by simp [c1])]]
   refine GK.ret (rs := [.tmp 2]) rfl (.tmp rfl .nil) sp2 ?_ ?_ (Tks.c (Tks.c (Tks.c (Tks.c (Tks.c (.nil _))))))
   ·exact hop
   ·rfl
 ·try simp only [sB0, sB1, sB2, sB3, sB4, sB5, sB6, sB7, sB8] at c0
  refine GC.skip (GK.then (GC.seq (GC.region ?_)))
  refine G.q Gd.no (Qt.mv rfl) rfl ?_
  refine G.q Gd.no (Qt.mv rfl) rfl ?_
  refine G.ld Gd.no (Ld.call cal72 rfl rfl (Tks.c (Tks.c (Tks.c (Tks.c (Tks.c (.nil _)))))) (fun F' hF => gopen_ct F' _ _ _ _ _ _ _ _ rb rc sp Y D _ fine hcb hdn hinv hnil hlen gf.f0 gf.S2 gf.fS gf.n0 gf.n1 (by omega) (by omega) (by have := gf.i0; omega) (by have := gf.i1; omega) (by have := gf.sz; omega)) (fun sp2 hop => ?_))
  dsimp only [lCa, lNa]
  refine G.q Gd.no (Qt.asg rfl) rfl ?_
  refine G.nil (GK.then (GC.ret ?_))
  rw [show Y.grow D = Y.openT D (max Y.tail 1) from by unfold Lg.grow; rw [if_neg (by omega)]]
  refine GK.ret (rs := [.tmp 2]) rfl (.tmp rfl .nil) sp2 ?_ ?_ (Tks.c (Tks.c (Tks.c (Tks.c (Tks.c (.nil _))))))
  ·exact hop
  ·rfl
theorem len_ct (F : Fr) (b : Nat) (d : Option Addr) (rb : Option Nat) (rc : Nat) (Y : Lg) (hb : F.h b = some (Blk.cells (lgC Y d rb rc) 85).toObj) :
    Ct Try.prog F 36 [.pointer (some ⟨b, 0, none⟩)] [] (S := Unit) (fun _ => True) (fun _ => .int .i64 (Y.recs.length : Int)) (fun _ => []) := by
 refine Ct.of 8 [(0, _)] Try.func36 rfl rfl rfl rfl ?_
 refine GC.seq (GC.region ?_)
 refine G.q Gd.no (Qt.asg rfl) rfl ?_
 refine G.nil (GK.then (GC.seq (GC.region ?_)))
 refine G.q Gd.no (Qt.mv rfl) rfl ?_
 refine G.q Gd.no (Qt.nilc rfl) rfl ?_
 refine G.q Gd.no (Qt.fa0 fl85_8 rfl) rfl ?_
 refine G.q Gd.no (Qt.ldc a83 rfl (by first | exact Rdc.o rfl | exact Rdc.o (nth_vIs (by omega)) | exact Rdc.o (nth_vI (by omega)) | exact Rdc.f hb rfl)) rfl ?_
 refine G.q Gd.no (Qt.lenS (rt := 0) Try.underlying83 rfl) rfl ?_
 refine G.q Gd.no (Qt.asg rfl) rfl ?_
 refine G.nil (GK.then (GC.ret ?_))
 refine GK.ret (rs := [.tmp 2]) rfl (.tmp rfl .nil) () ?_ ?_ (.nil _)
 ·trivial
 ·rfl
theorem full_ct (F : Fr) (b : Nat) (d : Option Addr) (rb : Option Nat) (rc : Nat) (Y : Lg) (hb : F.h b = some (Blk.cells (lgC Y d rb rc) 85).toObj) :
    Ct Try.prog F 37 [.pointer (some ⟨b, 0, none⟩)] [] (S := Unit) (fun _ => True) (fun _ => .bool Y.full) (fun _ => []) := by
 refine Ct.of 7 [(0, _)] Try.func37 rfl rfl rfl rfl ?_
 refine GC.seq (GC.region ?_)
 refine G.q Gd.no (Qt.asg rfl) rfl ?_
 refine G.nil (GK.then (GC.seq (GC.region ?_)))
 refine G.q Gd.no (Qt.mv rfl) rfl ?_
 refine G.q Gd.no (Qt.nilc rfl) rfl ?_
 refine G.q Gd.no (Qt.fa0 fl85_9 rfl) rfl ?_
 refine G.q Gd.no (Qt.ldc a4 rfl (by first | exact Rdc.o rfl | exact Rdc.o (nth_vIs (by omega)) | exact Rdc.o (nth_vI (by omega)) | exact Rdc.f hb rfl)) rfl ?_
 refine G.q Gd.no (Qt.asg rfl) rfl ?_
 refine G.nil (GK.then (GC.ret ?_))
 refine GK.ret (rs := [.tmp 2]) rfl (.tmp rfl .nil) () ?_ ?_ (.nil _)
 ·trivial
 ·rfl
theorem records_ct (F : Fr) (b : Nat) (d : Option Addr) (rb : Option Nat) (rc : Nat) (Y : Lg) (hb : F.h b = some (Blk.cells (lgC Y d rb rc) 85).toObj) (hr : VwF F (oA rb) (Y.recs.flatMap recC)) (hlen : Y.recs.length ≤ 16777216) :
    Ct Try.prog F 18 [.pointer (some ⟨b, 0, none⟩)] [] (S := Option Nat × Nat × List Value) (fun x => Y.recs.length * 10 + x.2.2.length = x.2.1 * 10 ∧ (x.1 = none → Y.recs = [] ∧ x.2.2 = [])) (fun x => .slice (oA x.1) Y.events.length x.2.1) (fun x => [(x.1, .cells (Y.events.flatMap evC ++ x.2.2) 40)]) := by
 refine Ct.of 22 [(0, _)] Try.func18 rfl rfl rfl rfl ?_
 refine GC.seq (GC.region ?_)
 refine G.q Gd.no (Qt.asg rfl) rfl ?_
 refine G.nil (GK.then (GC.seq (GC.region ?_)))
 refine G.q Gd.no (Qt.asg rfl) rfl ?_
 refine G.nil (GK.then (GC.seq (GC.seq (GC.region ?_))))
 refine G.q Gd.no (Qt.mv rfl) rfl ?_
 refine G.q Gd.no (Qt.nilc rfl) rfl ?_
 refine G.q Gd.no (Qt.fa0 fl85_8 rfl) rfl ?_
 refine G.q Gd.no (Qt.ldc a83 rfl (by first | exact Rdc.o rfl | exact Rdc.o (nth_vIs (by omega)) | exact Rdc.o (nth_vI (by omega)) | exact Rdc.f hb rfl)) rfl ?_
 refine G.q Gd.no (Qt.lenS (rt := 0) Try.underlying83 rfl) rfl ?_
 refine G.q Gd.no (Qt.mv rfl) rfl ?_
 refine G.nil (GK.then (GC.block ?_))
 refine GC.addNil (.cells (([] : List Ev).flatMap evC ++ []) 40) ?_
 refine GC.loop (S := Nat × Option Nat × Nat × List Value) (fun x => x.1 ≤ Y.recs.length ∧ x.1 * 10 + x.2.2.2.length = x.2.2.1 * 10 ∧ (x.2.1 = none → x.1 = 0 ∧ x.2.2.2 = [])) (fun x => Y.recs.length - x.1)
  (fun x => [(0, .pointer (some ⟨b, 0, none⟩)), (3, .slice (oA x.2.1) (Y.events.take x.1).length x.2.2.1), (9, .slice (oA rb) Y.recs.length rc), (10, .int .i64 (Y.recs.length : Int)), (11, .int .i64 (x.1 : Int))]) (fun x => [(x.2.1, .cells ((Y.events.take x.1).flatMap evC ++ x.2.2.2) 40)]) (0, none, 0, []) ?_ ?_ ?_ ?_
 ·exact ⟨by simp, rfl, fun _ => ⟨rfl, rfl⟩⟩
 ·exact ⟨rfl, rfl, rfl, rfl, rfl, trivial⟩
 ·exact ⟨_, (Tks.c (.nil _))⟩
 intro ⟨i, ob, cc, sp⟩ ⟨h1, h2, h3⟩
 simp only at h1 h2 h3
 refine GC.seq (GC.region ?_)
 refine G.q Gd.no (Qt.lss rfl rfl) rfl ?_
 refine G.nil (GK.then (GC.seq ?_))
 refine GC.condb rfl (fun c0 => ?_) (fun c0 => ?_)
 ·try simp only [sB0, sB1, sB2, sB3, sB4, sB5, sB6, sB7, sB8] at c0
  have hlt : i < Y.recs.length := by omega
  obtain ⟨u, hu⟩ : ∃ u, Y.recs[i]? = some u := ⟨_, List.getElem?_eq_getElem hlt⟩
  obtain ⟨ad, hAd⟩ := someR hr (by omega)
  have hev : Y.events[i]? = some u.2 := by simp [Lg.events, hu]
  have htk : Y.events.take (i + 1) = Y.events.take i ++ [u.2] := take_succ_some hev
  have hel : Y.events.length = Y.recs.length := by simp [Lg.events]
  have hle : (Y.events.take i).length = i := by rw [List.length_take]; omega
  have hle2 : (Y.events.take (i + 1)).length = i + 1 := by rw [List.length_take]; omega
  have hr2 := hr
  rw [hAd] at hr2
  rw [hAd]
  refine GC.skip (GK.then (GC.seq (GC.block (GC.seq (GC.region ?_)))))
  refine G.q Gd.no (Qt.ia Try.underlying83 z90 rfl rfl (by omega) (by omega) (show ((i : Nat) : Int).toNat = i from rfl)) rfl ?_
  refine G.q Gd.no (Qt.ldV a90 rfl z90 (vs := recC u) (hr2.elem recC_len hu _)) rfl ?_
  refine G.ld Gd.no (Ld.alloc rfl ze90 (by first | exact Cl.one rfl | exact Cl.agg) (fun b5 => ?_))
  refine G.ld Gd.no (Ld.stW (by exact z90) rfl rfl (recC_one _) (E := 90) (by rfl) UpdC.u ?_)
  refine G.nil (GK.then (GC.region ?_))
  refine G.q Gd.no (Qt.mv rfl) rfl ?_
  refine G.q Gd.no (Qt.fa0 fl90_1 rfl) rfl ?_
  refine G.q Gd.no (Qt.ldV a40 rfl z40 (vs := evC u.2) (Vw.blk Rd.o (fun j v h => by rw [Nat.add_comm]; exact h))) rfl ?_
  refine G.ld Gd.no (Ld.bsl1 rfl Try.underlying29 z40 ze40 (by first | exact Cl.one rfl | exact Cl.agg) (by rfl) (by decide) (by decide) rfl (by first | exact Cl.one rfl | exact Cl.agg) (by rfl) (fun b18 => ?_))
  refine G.ld Gd.no (Ld.appS (f := evC) (ys := [u.2]) Try.underlying29 z40 by40 ze40 (by first | exact Cl.one rfl | exact Cl.agg) rfl rfl evC_len evC_one rfl rfl (Vw.all Rd.o) (by rw [hle]; exact h2) (fun e => by obtain ⟨h4, h5⟩ := h3 e; subst h4; exact ⟨rfl, h5, by simp⟩) (by simp only [List.length_cons, List.length_nil]; omega) (by decide) (by simp only [List.length_cons, List.length_nil]; omega) (fun b' c' sp' hcap => ?_))
  refine G.q Gd.no (Qt.asg rfl) rfl ?_
  refine G.nil (GK.blockn (GK.then (GC.region ?_)))
  refine G.q Gd.no (Qt.add rfl rfl (by first | exact i64_id (by omega) (by omega) | exact rfl)) rfl ?_
  refine G.q Gd.no (Qt.mv rfl) rfl ?_
  refine G.nil ?_
  rw [← htk]
  refine GK.head (i + 1, some b', c', sp') ?_ ?_ ?_ ?_
  ·simp only; omega
  ·exact ⟨by simp only; omega, by simp only; rw [← htk, hle2] at hcap; exact hcap, fun e => by cases e⟩
  ·exact ⟨rfl, rfl, rfl, rfl, rfl, trivial⟩
  ·exact ⟨_, (Tks.c (.nil _))⟩
 ·try simp only [sB0, sB1, sB2, sB3, sB4, sB5, sB6, sB7, sB8] at c0
  refine GC.exit (GK.thene (GK.thene (GK.blocke (GK.then (GC.seq (GC.region ?_))))))
  refine G.q Gd.no (Qt.mv rfl) rfl ?_
  refine G.q Gd.no (Qt.asg rfl) rfl ?_
  refine G.nil (GK.then (GC.ret ?_))
  obtain rfl : i = Y.recs.length := by omega
  have hel : Y.events.length = Y.recs.length := by simp [Lg.events]
  rw [← hel, List.take_length]
  refine GK.ret (rs := [.tmp 2]) rfl (.tmp rfl .nil) (ob, cc, sp) ?_ ?_ (Tks.c (.nil _))
  ·exact ⟨by simp only [hel]; exact h2, fun e => by obtain ⟨h4, h5⟩ := h3 e; exact ⟨List.eq_nil_of_length_eq_zero h4, h5⟩⟩
  ·rfl
end Go.Proofs.Ytbeiciinppmekaa
