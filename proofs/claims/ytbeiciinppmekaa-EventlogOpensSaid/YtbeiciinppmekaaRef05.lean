/-
  The functions of baseboardref05 do what the model Dev of flash says; each contract's conditions are its premises.
-/
import Derived.Test.YtbeiciinppmekaaTb
import Derived.Test.YtbeiciinppmekaaLib
import Derived.Test.YtbeiciinppmekaaFlash
import Derived.Test.YtbeiciinppmekaaProg
namespace Go.Proofs.Ytbeiciinppmekaa
open Go Go.Sx Go.Proofs
set_option maxRecDepth 100000
set_option linter.unusedSimpArgs false
set_option linter.unusedVariables false
/-- Numbers that are bytes. -/
def Bytes (xs : List Int) : Prop := ∀ x ∈ xs, 0 ≤ x ∧ x ≤ 255
theorem Bytes.ix {xs : List Int} (h : Bytes xs) (i : Nat) : 0 ≤ ix xs i ∧ Sx.ix xs i ≤ 255 := by
  unfold Sx.ix
  rw [List.getD_eq_getElem?_getD]
  cases hi : xs[i]? with
  | none => simp
  | some x => simpa using h x (List.mem_of_getElem? hi)
theorem Bytes.set {xs : List Int} (h : Bytes xs) (i : Nat) {v : Int} (hv : 0 ≤ v ∧ v ≤ 255) : Bytes (xs.set i v) := by
  intro x hx
  rcases List.mem_or_eq_of_mem_set hx with hx | rfl
  · exact h x hx
  · exact hv
theorem bor_ff : ∀ x : Fin 256, bor .u8 (x.val : Int) 255 = 255 := by decide
theorem bor_u8_ff {x : Int} (h0 : 0 ≤ x) (h1 : x ≤ 255) : bor .u8 x 255 = 255 := by
  have := bor_ff ⟨x.toNat, by omega⟩
  simpa [Int.toNat_of_nonneg h0] using this
theorem within_eq (D : Dev) (at_ n : Int) : (((decide (0 ≤ at_) && decide (0 ≤ n)) && decide (at_ ≤ D.n)) && decide (n ≤ D.n - at_)) = D.within at_ n := by
  unfold Dev.within
  cases decide (0 ≤ at_) <;> cases decide (0 ≤ n) <;> cases decide (at_ ≤ (D.n : Int)) <;> cases decide (n ≤ (D.n : Int) - at_) <;> rfl
/-- What holds between the calls, when the device is up or down. -/
structure Dev.Ok2 (D : Dev) : Prop where
  left0 : 0 ≤ D.left
  bytes : Bytes D.bytes
theorem Dev.step_ok2 {D : Dev} (h : D.Ok2) : D.step.Ok2 := by
  unfold Dev.step
  split
  · exact ⟨by simp only; omega, h.bytes⟩
  · exact ⟨h.left0, h.bytes⟩
theorem Dev.put_ok2 {D : Dev} (h : D.Ok2) (p : Nat) {v : Int} (hv : 0 ≤ v ∧ v ≤ 255) : (D.put p v).Ok2 := ⟨h.left0, h.bytes.set p hv⟩
theorem Dev.step_torn (D : Dev) : D.step.torn = D.torn := by unfold Dev.step; split <;> rfl
theorem fits_ct (F : Fr) (b bb bw cb cw : Nat) (D : Dev) (hb : F.h b = some (Blk.cells (devC D bb bw cb cw) 102).toObj) (ok : D.Ok) (at_ n : Int) :
    Ct Try.prog F 55 [.pointer (some ⟨b, 0, none⟩), .int .i64 at_, .int .i64 n] [] (S := Unit) (fun _ => True) (fun _ => .bool (D.within at_ n)) (fun _ => []) := by
 have hl := ok.len
 rw [← within_eq]
 refine Ct.of 33 [(0, _), (1, _), (2, _)] Try.func55 rfl rfl rfl rfl ?_
 refine GC.seq (GC.region ?_)
 refine G.q Gd.no (Qt.asg rfl) rfl ?_
 refine G.nil (GK.then (GC.seq (GC.region ?_)))
 refine G.q Gd.no (Qt.mv rfl) rfl ?_
 refine G.q Gd.no (Qt.geq rfl rfl) rfl ?_
 refine G.q Gd.no (Qt.mv rfl) rfl ?_
 apply G.andb (seg := [_, _])
 exact rfl
 exact rfl
 exact rfl
 exact Gd.no
 exact rfl
 exact rfl
 ·intro g3; try simp only [sB0, sB1, sB2, sB3, sB4, sB5, sB6, sB7, sB8] at g3
  refine G.q (Gd.yes rfl rfl) (Qt.mv rfl) rfl ?_
  refine G.q (Gd.yes rfl rfl) (Qt.geq rfl rfl) rfl ?_
  refine G.nil (GK.seg (n := [_, _]) rfl rfl rfl (by first | exact Tks.all _ | exact Tks.skip (Tks.all _) | exact Tks.skip (Tks.skip (Tks.all _)) | exact Tks.skip (Tks.skip (Tks.skip (Tks.all _)))))
 refine G.q Gd.no (Qt.mv rfl) rfl ?_
 apply G.andb (seg := [_, _, _, _, _, _, _])
 exact rfl
 exact rfl
 exact rfl
 exact Gd.no
 exact rfl
 exact rfl
 ·intro g7; try simp only [sB0, sB1, sB2, sB3, sB4, sB5, sB6, sB7, sB8] at g7
  refine G.q (Gd.yes rfl rfl) (Qt.mv rfl) rfl ?_
  refine G.q (Gd.yes rfl rfl) (Qt.mv rfl) rfl ?_
  refine G.q (Gd.yes rfl rfl) (Qt.nilc rfl) rfl ?_
  refine G.q (Gd.yes rfl rfl) (Qt.fa0 fl102_1 rfl) rfl ?_
  refine G.q (Gd.yes rfl rfl) (Qt.ldc a53 rfl (by first | exact Rdc.o rfl | exact Rdc.o (nth_vIs (by omega)) | exact Rdc.o (nth_vI (by omega)) | exact Rdc.f hb rfl)) rfl ?_
  refine G.q (Gd.yes rfl rfl) (Qt.lenS (rt := 0) Try.underlying53 rfl) rfl ?_
  refine G.q (Gd.yes rfl rfl) (Qt.leq rfl rfl) rfl ?_
  refine G.nil (GK.seg (n := [_, _, _, _, _, _, _]) rfl rfl rfl (by first | exact Tks.all _ | exact Tks.skip (Tks.all _) | exact Tks.skip (Tks.skip (Tks.all _)) | exact Tks.skip (Tks.skip (Tks.skip (Tks.all _)))))
 refine G.q Gd.no (Qt.mv rfl) rfl ?_
 apply G.andb (seg := [_, _, _, _, _, _, _, _, _])
 exact rfl
 exact rfl
 exact rfl
 exact Gd.no
 exact rfl
 exact rfl
 ·intro g16; try simp only [sB0, sB1, sB2, sB3, sB4, sB5, sB6, sB7, sB8] at g16
  refine G.q (Gd.yes rfl rfl) (Qt.mv rfl) rfl ?_
  refine G.q (Gd.yes rfl rfl) (Qt.mv rfl) rfl ?_
  refine G.q (Gd.yes rfl rfl) (Qt.nilc rfl) rfl ?_
  refine G.q (Gd.yes rfl rfl) (Qt.fa0 fl102_1 rfl) rfl ?_
  refine G.q (Gd.yes rfl rfl) (Qt.ldc a53 rfl (by first | exact Rdc.o rfl | exact Rdc.o (nth_vIs (by omega)) | exact Rdc.o (nth_vI (by omega)) | exact Rdc.f hb rfl)) rfl ?_
  refine G.q (Gd.yes rfl rfl) (Qt.lenS (rt := 0) Try.underlying53 rfl) rfl ?_
  refine G.q (Gd.yes rfl rfl) (Qt.mv rfl) rfl ?_
  refine G.q (Gd.yes rfl rfl) (Qt.sub rfl rfl (by first | exact i64_id (by omega) (by omega) | exact rfl)) rfl ?_
  refine G.q (Gd.yes rfl rfl) (Qt.leq rfl rfl) rfl ?_
  refine G.nil (GK.seg (n := [_, _, _, _, _, _, _, _, _]) rfl rfl rfl (by first | exact Tks.all _ | exact Tks.skip (Tks.all _) | exact Tks.skip (Tks.skip (Tks.all _)) | exact Tks.skip (Tks.skip (Tks.skip (Tks.all _)))))
 refine G.q Gd.no (Qt.asg rfl) rfl ?_
 refine G.nil (GK.then (GC.ret ?_))
 refine GK.ret (rs := [.tmp 6]) rfl (.tmp rfl .nil) () ?_ ?_ (.nil _)
 ·trivial
 ·rfl
theorem fails_ct (F : Fr) (b bb bw cb cw : Nat) (D : Dev) (ok : D.Ok) (h0 : 0 ≤ D.left) (hd : D.down = false) :
    Ct Try.prog F 56 [.pointer (some ⟨b, 0, none⟩)] [(some b, .cells (devC D bb bw cb cw) 102)] (S := Unit) (fun _ => True) (fun _ => .bool D.step.down) (fun _ => [(some b, .cells (devC D.step bb bw cb cw) 102)]) := by
 have hl := ok.left
 refine Ct.of 30 [(0, _)] Try.func56 rfl rfl rfl rfl ?_
 refine GC.seq (GC.region ?_)
 refine G.q Gd.no (Qt.asg rfl) rfl ?_
 refine G.nil (GK.then (GC.seq (GC.region ?_)))
 refine G.q Gd.no (Qt.mv rfl) rfl ?_
 refine G.q Gd.no (Qt.nilc rfl) rfl ?_
 refine G.q Gd.no (Qt.fa0 fl102_3 rfl) rfl ?_
 refine G.q Gd.no (Qt.ldc a3 rfl (by first | exact Rdc.o rfl | exact Rdc.o (nth_vIs (by omega)) | exact Rdc.o (nth_vI (by omega)))) rfl ?_
 refine G.q Gd.no (Qt.add rfl rfl (by exact rfl)) rfl ?_
 refine G.q Gd.no (Qt.nilc rfl) rfl ?_
 refine G.q Gd.no (Qt.fa0 fl102_3 rfl) rfl ?_
 refine G.ld Gd.no (Ld.stc z3 rfl rfl rfl (Stc.o SetAt.k3) ?_)
 refine G.nil (GK.then (GC.seq (GC.seq (GC.region ?_))))
 refine G.q Gd.no (Qt.mv rfl) rfl ?_
 refine G.q Gd.no (Qt.nilc rfl) rfl ?_
 refine G.q Gd.no (Qt.fa0 fl102_4 rfl) rfl ?_
 refine G.q Gd.no (Qt.ldc a3 rfl (by first | exact Rdc.o rfl | exact Rdc.o (nth_vIs (by omega)) | exact Rdc.o (nth_vI (by omega)))) rfl ?_
 refine G.q Gd.no (Qt.eqI rfl rfl) rfl ?_
 refine G.nil (GK.then ?_)
 refine GC.condb rfl (fun c0 => ?_) (fun c0 => ?_)
 ·try simp only [sB0, sB1, sB2, sB3, sB4, sB5, sB6, sB7, sB8] at c0
  refine GC.seq (GC.region ?_)
  refine G.q Gd.no (Qt.asg rfl) rfl ?_
  refine G.nil (GK.then (GC.ret (GK.thenr ?_)))
  have e : D.step = { D with steps := IntKind.i64.wrap (D.steps + 1) } := by unfold Dev.step; rw [if_neg (by omega)]
  rw [e]
  refine GK.ret (rs := [.tmp 2]) rfl (.tmp rfl .nil) () ?_ ?_ (Tks.c (.nil _))
  ·trivial
  ·exact congrArg Value.bool hd.symm
 ·try simp only [sB0, sB1, sB2, sB3, sB4, sB5, sB6, sB7, sB8] at c0
  refine GC.skip (GK.then (GC.seq (GC.region ?_)))
  refine G.q Gd.no (Qt.mv rfl) rfl ?_
  refine G.q Gd.no (Qt.nilc rfl) rfl ?_
  refine G.q Gd.no (Qt.fa0 fl102_4 rfl) rfl ?_
  refine G.q Gd.no (Qt.ldc a3 rfl (by first | exact Rdc.o rfl | exact Rdc.o (nth_vIs (by omega)) | exact Rdc.o (nth_vI (by omega)))) rfl ?_
  refine G.q Gd.no (Qt.sub rfl rfl (by first | exact i64_id (by omega) (by omega) | exact rfl)) rfl ?_
  refine G.q Gd.no (Qt.nilc rfl) rfl ?_
  refine G.q Gd.no (Qt.fa0 fl102_4 rfl) rfl ?_
  refine G.ld Gd.no (Ld.stc z3 rfl rfl rfl (Stc.o SetAt.k4) ?_)
  refine G.nil (GK.then (GC.seq (GC.seq (GC.region ?_))))
  refine G.q Gd.no (Qt.mv rfl) rfl ?_
  refine G.q Gd.no (Qt.nilc rfl) rfl ?_
  refine G.q Gd.no (Qt.fa0 fl102_4 rfl) rfl ?_
  refine G.q Gd.no (Qt.ldc a3 rfl (by first | exact Rdc.o rfl | exact Rdc.o (nth_vIs (by omega)) | exact Rdc.o (nth_vI (by omega)))) rfl ?_
  refine G.q Gd.no (Qt.gtr rfl rfl) rfl ?_
  refine G.nil (GK.then ?_)
  refine GC.condb rfl (fun c1 => ?_) (fun c1 => ?_)
  ·try simp only [sB0, sB1, sB2, sB3, sB4, sB5, sB6, sB7, sB8] at c1
   refine GC.seq (GC.region ?_)
   refine G.q Gd.no (Qt.asg rfl) rfl ?_
   refine G.nil (GK.then (GC.ret (GK.thenr ?_)))
   have e : D.step = { D with steps := IntKind.i64.wrap (D.steps + 1), left := D.left - 1, down := false } := by unfold Dev.step; rw [if_pos (by omega)]; simp; omega
   rw [e, ← hd]
   refine GK.ret (rs := [.tmp 2]) rfl (.tmp rfl .nil) () ?_ ?_ (Tks.c (.nil _))
   ·trivial
   ·rfl
  ·try simp only [sB0, sB1, sB2, sB3, sB4, sB5, sB6, sB7, sB8] at c1
   refine GC.skip (GK.then (GC.seq (GC.region ?_)))
   refine G.q Gd.no (Qt.mv rfl) rfl ?_
   refine G.q Gd.no (Qt.nilc rfl) rfl ?_
   refine G.q Gd.no (Qt.fa0 fl102_6 rfl) rfl ?_
   refine G.ld Gd.no (Ld.stc z4 rfl rfl rfl (Stc.o SetAt.k6) ?_)
   refine G.nil (GK.then (GC.seq (GC.region ?_)))
   refine G.q Gd.no (Qt.asg rfl) rfl ?_
   refine G.nil (GK.then (GC.ret ?_))
   have e : D.step = { D with steps := IntKind.i64.wrap (D.steps + 1), left := D.left - 1, down := true } := by unfold Dev.step; rw [if_pos (by omega)]; simp; omega
   rw [e]
   refine GK.ret (rs := [.tmp 2]) rfl (.tmp rfl .nil) () ?_ ?_ (Tks.c (.nil _))
   ·trivial
   ·rfl
theorem rnew_ct (F : Fr) (sectors size : Int) (h1 : 1 ≤ sectors) (h2 : sectors ≤ 16) (h3 : 64 ≤ size) (h4 : size ≤ 1024) :
    Ct Try.prog F 22 [.int .i64 sectors, .int .i64 size] [] (S := Nat × Nat × Nat × List Value) (fun _ => True) (fun x => .tuple #[.pointer (some ⟨x.1, 0, none⟩), .int .i64 0]) (fun x => [(some x.1, .cells (devC (Dev.new sectors size) x.2.1 x.2.2.1 ((sectors * size).toNat + x.2.2.2.length) sectors.toNat) 102), (some x.2.1, .cells (vI .u8 (Dev.new sectors size).bytes ++ x.2.2.2) 5), (some x.2.2.1, .cells (vI .i64 (Dev.new sectors size).wear ++ []) 3)]) := by
 have m1 : 1 * 64 ≤ sectors * size := Int.mul_le_mul h1 h3 (by omega) (by omega)
 have m2 : sectors * size ≤ 16 * 1024 := Int.mul_le_mul h2 h4 (by omega) (by omega)
 have hw : IntKind.i64.wrap (sectors * size) = sectors * size := i64_id (by omega) (by omega)
 refine Ct.of 44 [(0, _), (1, _)] Try.func22 rfl rfl rfl rfl ?_
 refine GC.seq (GC.region ?_)
 refine G.q Gd.no (Qt.asg rfl) rfl ?_
 refine G.q Gd.no (Qt.asg rfl) rfl ?_
 refine G.nil (GK.then (GC.seq (GC.seq (GC.region ?_))))
 refine G.q Gd.no (Qt.mv rfl) rfl ?_
 refine G.q Gd.no (Qt.lss rfl rfl) rfl ?_
 refine G.q Gd.no (Qt.mv rfl) rfl ?_
 apply G.orb (seg := [_, _])
 exact rfl
 exact rfl
 exact rfl
 exact Gd.no
 exact rfl
 exact rfl
 ·intro g3; try simp only [sB0, sB1, sB2, sB3, sB4, sB5, sB6, sB7, sB8] at g3
  refine G.q (Gd.yes rfl rfl) (Qt.mv rfl) rfl ?_
  refine G.q (Gd.yes rfl rfl) (Qt.gtr rfl rfl) rfl ?_
  refine G.nil (GK.seg (n := [_, _]) rfl rfl rfl (by first | exact Tks.all _ | exact Tks.skip (Tks.all _) | exact Tks.skip (Tks.skip (Tks.all _)) | exact Tks.skip (Tks.skip (Tks.skip (Tks.all _)))))
 refine G.q Gd.no (Qt.mv rfl) rfl ?_
 apply G.orb (seg := [_, _])
 exact rfl
 exact rfl
 exact rfl
 exact Gd.no
 exact rfl
 exact rfl
 ·intro g7; try simp only [sB0, sB1, sB2, sB3, sB4, sB5, sB6, sB7, sB8] at g7
  refine G.q (Gd.yes rfl rfl) (Qt.mv rfl) rfl ?_
  refine G.q (Gd.yes rfl rfl) (Qt.lss rfl rfl) rfl ?_
  refine G.nil (GK.seg (n := [_, _]) rfl rfl rfl (by first | exact Tks.all _ | exact Tks.skip (Tks.all _) | exact Tks.skip (Tks.skip (Tks.all _)) | exact Tks.skip (Tks.skip (Tks.skip (Tks.all _)))))
 refine G.q Gd.no (Qt.mv rfl) rfl ?_
 apply G.orb (seg := [_, _])
 exact rfl
 exact rfl
 exact rfl
 exact Gd.no
 exact rfl
 exact rfl
 ·intro g11; try simp only [sB0, sB1, sB2, sB3, sB4, sB5, sB6, sB7, sB8] at g11
  refine G.q (Gd.yes rfl rfl) (Qt.mv rfl) rfl ?_
  refine G.q (Gd.yes rfl rfl) (Qt.gtr rfl rfl) rfl ?_
  refine G.nil (GK.seg (n := [_, _]) rfl rfl rfl (by first | exact Tks.all _ | exact Tks.skip (Tks.all _) | exact Tks.skip (Tks.skip (Tks.all _)) | exact Tks.skip (Tks.skip (Tks.skip (Tks.all _)))))
 refine G.nil (GK.then ?_)
 refine GC.condb rfl (fun c0 => ?_) (fun c0 => ?_)
 ·try simp only [sB0, sB1, sB2, sB3, sB4, sB5, sB6, sB7, sB8] at c0
  omega
 ·try simp only [sB0, sB1, sB2, sB3, sB4, sB5, sB6, sB7, sB8] at c0
  refine GC.skip (GK.then (GC.seq (GC.region ?_)))
  refine G.q Gd.no (Qt.mv rfl) rfl ?_
  refine G.q Gd.no (Qt.mv rfl) rfl ?_
  refine G.ld Gd.no (Ld.mks Try.underlying22 z3 by3 ze3 rfl rfl rfl rfl (by omega) rfl (by omega) (by omega) (fun b24 => ?_))
  rw [show List.replicate sectors.toNat (Value.int .i64 0) = vI .i64 (List.replicate sectors.toNat 0) ++ [] from by simp [vI]]
  refine G.q Gd.no (Qt.buildS Try.underlying102 pl102 ze102 (.cons rfl rfl (by first | exact Cl.one rfl | exact Cl.agg) rfl (SetM.cons SetAt.k0 (.nil _ _)) (.cons rfl rfl (by first | exact Cl.one rfl | exact Cl.agg) rfl (SetM.cons SetAt.k2 (.nil _ _)) (.nil _)))) rfl ?_
  refine G.ld Gd.no (Ld.box rfl rfl (by first | exact Cl.one rfl | exact Cl.agg) (fun b26 => ?_))
  refine G.q Gd.no (Qt.asg rfl) rfl ?_
  refine G.nil (GK.then (GC.seq (GC.seq (GC.region ?_))))
  refine G.q Gd.no (Qt.asg rfl) rfl ?_
  refine G.nil (GK.then (GC.block ?_))
  refine GC.addNil (.cells (vI .u8 (List.replicate 0 255) ++ []) 5) ?_
  refine GC.loop (S := Nat × Option Nat × List Value) (fun x => (x.1 : Int) ≤ sectors * size ∧ (x.2.1 = none → x.1 = 0 ∧ x.2.2 = [])) (fun x => (sectors * size).toNat - x.1)
   (fun x => [(0, .int .i64 sectors), (1, .int .i64 size), (6, .pointer (some ⟨b26, 0, none⟩)), (7, .int .i64 (x.1 : Int))]) (fun x => [(some b26, .cells [.int .i64 size, .slice (oA x.2.1) (List.replicate x.1 (255 : Int)).length ((List.replicate x.1 (255 : Int)).length + x.2.2.length), .slice (some ⟨b24, 0, none⟩) sectors.toNat sectors.toNat, .int .i64 0, .int .i64 0, .int .u8 0, .bool false] 102), (x.2.1, .cells (vI .u8 (List.replicate x.1 255) ++ x.2.2) 5), (some b24, .cells (vI .i64 (List.replicate sectors.toNat 0) ++ []) 3)]) (0, none, []) ?_ ?_ ?_ ?_
  ·exact ⟨by simp; omega, fun _ => ⟨rfl, rfl⟩⟩
  ·exact ⟨rfl, rfl, rfl, rfl, trivial⟩
  ·exact ⟨_, (Tks.c (Tks.c (Tks.c (.nil _))))⟩
  intro x ⟨hx1, hx2⟩
  refine GC.seq (GC.seq (GC.region ?_))
  refine G.q Gd.no (Qt.mv rfl) rfl ?_
  refine G.q Gd.no (Qt.mv rfl) rfl ?_
  refine G.q Gd.no (Qt.mv rfl) rfl ?_
  refine G.q Gd.no (Qt.mul rfl rfl (by exact hw)) rfl ?_
  refine G.q Gd.no (Qt.lss rfl rfl) rfl ?_
  refine G.nil (GK.then ?_)
  refine GC.condb rfl (fun c1 => ?_) (fun c1 => ?_)
  ·try simp only [sB0, sB1, sB2, sB3, sB4, sB5, sB6, sB7, sB8] at c1
   refine GC.skip (GK.then (GC.seq (GC.block (GC.region ?_))))
   refine G.q Gd.no (Qt.mv rfl) rfl ?_
   refine G.q Gd.no (Qt.mv rfl) rfl ?_
   refine G.q Gd.no (Qt.nilc rfl) rfl ?_
   refine G.q Gd.no (Qt.fa0 fl102_1 rfl) rfl ?_
   refine G.q Gd.no (Qt.ldc a53 rfl (by first | exact Rdc.o rfl | exact Rdc.o (nth_vIs (by omega)) | exact Rdc.o (nth_vI (by omega)))) rfl ?_
   refine G.ld Gd.no (Ld.bsl (xs := [.const (.int .u8 255)]) rfl Try.underlying53 z5 ze5 rfl rfl rfl rfl rfl (by simp [Value.oneCell']) (fun b39 => ?_))
   refine G.ld Gd.no (Ld.appI (k := .u8) (xs := List.replicate x.1 255) (ys := [255]) (sp := x.2.2) (ob := x.2.1) Try.underlying53 z5 by5 ze5 rfl rfl rfl rfl (by first | exact Vw.all Rd.o | exact Vw.pre Rd.o | exact (VwF.vw (by assumption))) rfl (fun e => by obtain ⟨e1, e2⟩ := hx2 e; rw [e1, e2]; exact ⟨rfl, rfl, by decide⟩) (by simp only [List.length_replicate, List.length_cons, List.length_nil]; omega) (by simp only [List.length_replicate, List.length_cons, List.length_nil]; omega) (fun b' sp' => ?_))
   refine G.q Gd.no (Qt.nilc rfl) rfl ?_
   refine G.q Gd.no (Qt.fa0 fl102_1 rfl) rfl ?_
   refine G.ld Gd.no (Ld.stc z53 rfl rfl rfl (Stc.o SetAt.k1) ?_)
   refine G.nil (GK.blockn (GK.then (GC.region ?_)))
   refine G.q Gd.no (Qt.mv rfl) rfl ?_
   refine G.q Gd.no (Qt.add rfl rfl (by first | exact i64_id (by omega) (by omega) | exact rfl)) rfl ?_
   refine G.q Gd.no (Qt.asg rfl) rfl ?_
   refine G.nil ?_
   rw [show List.replicate x.1 (255 : Int) ++ [255] = List.replicate (x.1 + 1) 255 from (List.replicate_succ' ..).symm]
   refine GK.head (x.1 + 1, some b', sp') ?_ ?_ ?_ ?_
   ·simp only; omega
   ·exact ⟨by simp only; omega, fun e => by cases e⟩
   ·exact ⟨rfl, rfl, rfl, rfl, trivial⟩
   ·exact ⟨_, (Tks.c (Tks.c (Tks.c (.nil _))))⟩
  ·try simp only [sB0, sB1, sB2, sB3, sB4, sB5, sB6, sB7, sB8] at c1
   refine GC.exit (GK.thene (GK.thene (GK.blocke (GK.then (GC.seq (GC.region ?_))))))
   refine G.q Gd.no (Qt.mv rfl) rfl ?_
   refine G.q Gd.no (Qt.asg rfl) rfl ?_
   refine G.q Gd.no (Qt.asg rfl) rfl ?_
   refine G.nil (GK.then (GC.ret ?_))
   obtain ⟨bo, hbo⟩ : ∃ bo, x.2.1 = some bo := by cases h : x.2.1 with | none => (have := hx2 h; omega) | some bo => exact ⟨bo, rfl⟩
   have hk : x.1 = (sectors * size).toNat := by omega
   rw [hbo, hk, List.length_replicate]
   refine GK.ret (rs := [.tmp 4, .tmp 5]) rfl (.tmp rfl (.tmp rfl .nil)) (b26, bo, b24, x.2.2) ?_ ?_ (Tks.c (Tks.c (Tks.c (.nil _))))
   ·trivial
   ·rfl
theorem rprogram_ct (F : Fr) (b bb bw cb cw : Nat) (sb : List Value) (D : Dev) (ok : D.Ok) (ok2 : D.Ok2) (at_ : Int) (A : Option Addr) (c : Nat) (xs : List Int) (hA : VwF F A (vI .u8 xs)) (hx : xs.length ≤ 1099511627776) :
    Ct Try.prog F 24 [.pointer (some ⟨b, 0, none⟩), .int .i64 at_, .slice A xs.length c] [(some b, .cells (devC D bb bw cb cw) 102), (some bb, .cells (vI .u8 D.bytes ++ sb) 5)] (S := Unit) (fun _ => True) (fun _ => .int .i64 (D.program at_ xs).2) (fun _ => [(some b, .cells (devC (D.program at_ xs).1 bb bw cb cw) 102), (some bb, .cells (vI .u8 (D.program at_ xs).1.bytes ++ sb) 5)]) := by
 have hl := ok.len
 refine Ct.of 75 [(0, _), (1, _), (2, _)] Try.func24 rfl rfl rfl rfl ?_
 refine GC.seq (GC.region ?_)
 refine G.q Gd.no (Qt.asg rfl) rfl ?_
 refine G.nil (GK.then (GC.seq (GC.seq (GC.region ?_))))
 refine G.q Gd.no (Qt.mv rfl) rfl ?_
 refine G.q Gd.no (Qt.nilc rfl) rfl ?_
 refine G.q Gd.no (Qt.fa0 fl102_6 rfl) rfl ?_
 refine G.q Gd.no (Qt.ldc a4 rfl (by first | exact Rdc.o rfl | exact Rdc.o (nth_vIs (by omega)) | exact Rdc.o (nth_vI (by omega)))) rfl ?_
 refine G.nil (GK.then ?_)
 refine GC.condb rfl (fun c0 => ?_) (fun c0 => ?_)
 ·try simp only [sB0, sB1, sB2, sB3, sB4, sB5, sB6, sB7, sB8] at c0
  refine GC.seq (GC.region ?_)
  refine G.q Gd.no (Qt.asg rfl) rfl ?_
  refine G.nil (GK.then (GC.ret (GK.thenr ?_)))
  have e : D.program at_ xs = (D, 10) := by unfold Dev.program; rw [if_pos c0]
  rw [e]
  refine GK.ret (rs := [.tmp 6]) rfl (.tmp rfl .nil) () ?_ ?_ (Tks.c (Tks.c (.nil _)))
  ·trivial
  ·rfl
 ·try simp only [sB0, sB1, sB2, sB3, sB4, sB5, sB6, sB7, sB8] at c0
  refine GC.skip (GK.then (GC.seq (GC.seq (GC.region ?_))))
  refine G.q Gd.no (Qt.mv rfl) rfl ?_
  refine G.q Gd.no (Qt.mv rfl) rfl ?_
  refine G.q Gd.no (Qt.mv rfl) rfl ?_
  refine G.q Gd.no (Qt.lenS (rt := 0) Try.underlying53 rfl) rfl ?_
  refine G.ld Gd.no (Ld.call cal55 rfl rfl (.nil _) (fun F' hF => fits_ct F' _ _ _ _ _ _ (by first | exact hF.own In.o) (by assumption) _ _) (fun _ _ => ?_))
  dsimp only [lCa, lNa]
  refine G.q Gd.no (Qt.not rfl) rfl ?_
  refine G.nil (GK.then ?_)
  refine GC.condb rfl (fun c1 => ?_) (fun c1 => ?_)
  ·try simp only [sB0, sB1, sB2, sB3, sB4, sB5, sB6, sB7, sB8] at c1
   refine GC.seq (GC.region ?_)
   refine G.q Gd.no (Qt.asg rfl) rfl ?_
   refine G.nil (GK.then (GC.ret (GK.thenr ?_)))
   have e : D.program at_ xs = (D, 2) := by unfold Dev.program; rw [if_neg (by simp [c0]), if_neg (by simp [c1])]
   rw [e]
   refine GK.ret (rs := [.tmp 6]) rfl (.tmp rfl .nil) () ?_ ?_ (Tks.c (Tks.c (.nil _)))
   ·trivial
   ·rfl
  ·try simp only [sB0, sB1, sB2, sB3, sB4, sB5, sB6, sB7, sB8] at c1
   refine GC.skip (GK.then (GC.seq (GC.seq (GC.region ?_))))
   refine G.q Gd.no (Qt.asg rfl) rfl ?_
   refine G.nil (GK.then (GC.block ?_))
   refine GC.loop (S := Int × Dev) (fun x => 0 ≤ x.1 ∧ x.1 ≤ xs.length ∧ x.2.Ok ∧ x.2.Ok2 ∧ x.2.down = false ∧ x.2.n = D.n ∧ D.program at_ xs = x.2.progL (at_ + x.1).toNat (xs.drop x.1.toNat)) (fun x => ((xs.length : Int) - x.1).toNat)
    (fun x => [(0, .pointer (some ⟨b, 0, none⟩)), (1, .int .i64 at_), (2, .slice A xs.length c), (7, .int .i64 x.1)]) (fun x => [(some b, .cells (devC x.2 bb bw cb cw) 102), (some bb, .cells (vI .u8 x.2.bytes ++ sb) 5)]) (0, D) ?_ ?_ ?_ ?_
   ·exact ⟨by simp, by simp, ok, ok2, c0, rfl, by unfold Dev.program; rw [if_neg (by simp [c0]), if_pos c1]; simp⟩
   ·exact ⟨rfl, rfl, rfl, rfl, trivial⟩
   ·exact ⟨_, (Tks.c (Tks.c (.nil _)))⟩
   intro x ⟨h0, h1, hok, hok2, hdn, hn, hpr⟩
   simp only [Dev.within, Bool.and_eq_true, decide_eq_true_eq] at c1
   obtain ⟨⟨⟨w1, w2⟩, w3⟩, w4⟩ := c1
   have hbl := hok.hn
   have hl0 := hok2.left0
   refine GC.seq (GC.seq (GC.region ?_))
   refine G.q Gd.no (Qt.mv rfl) rfl ?_
   refine G.q Gd.no (Qt.mv rfl) rfl ?_
   refine G.q Gd.no (Qt.lenS (rt := 0) Try.underlying53 rfl) rfl ?_
   refine G.q Gd.no (Qt.lss rfl rfl) rfl ?_
   refine G.nil (GK.then ?_)
   refine GC.condb rfl (fun c2 => ?_) (fun c2 => ?_)
   ·try simp only [sB0, sB1, sB2, sB3, sB4, sB5, sB6, sB7, sB8] at c2
    have hlt : x.1.toNat < xs.length := by omega
    obtain ⟨ad, hAd⟩ := hA.some' (by rw [vI_length]; omega)
    subst hAd
    have hsb := x.2.step_bytes
    have hsn := x.2.step_n
    have hbl2 : x.2.step.bytes.length = x.2.n := by rw [hsb]; exact hbl
    refine GC.skip (GK.then (GC.seq (GC.block (GC.seq (GC.seq (GC.region ?_))))))
    refine G.q Gd.no (Qt.mv rfl) rfl ?_
    refine G.ld Gd.no (Ld.call cal56 rfl rfl (Tks.c (.nil _)) (fun F' hF => fails_ct F' _ _ _ _ _ _ (by assumption) (by omega) (by assumption)) (fun _ _ => ?_))
    dsimp only [lCa, lNa]
    rw [← hsb]
    refine G.nil (GK.then ?_)
    refine GC.condb rfl (fun c3 => ?_) (fun c3 => ?_)
    ·try simp only [sB0, sB1, sB2, sB3, sB4, sB5, sB6, sB7, sB8] at c3
     refine GC.seq ?_
     refine GC.draw mixed _ (Held.k (Held.d Held.all)) ?_
     refine GT 0 1 rfl (by kernel_rfl) rfl rfl Gd.no (Qt.mv rfl) Held.c ?_
     refine GT 1 3 rfl (by kernel_rfl) rfl rfl Gd.no (Qt.nilc rfl) Held.c ?_
     refine GT 2 7 rfl (by kernel_rfl) rfl rfl Gd.no (Qt.fa0 fl102_1 rfl) Held.c ?_
     refine GT 3 15 rfl (by kernel_rfl) rfl rfl Gd.no (Qt.ldc a53 rfl (by first | exact Rdc.o rfl | exact Rdc.o (nth_vIs (by omega)) | exact Rdc.o (nth_vI (by omega)))) Held.c ?_
     refine GT 4 31 rfl (by kernel_rfl) rfl rfl Gd.no (Qt.mv rfl) Held.c ?_
     refine GT 5 63 rfl (by kernel_rfl) rfl rfl Gd.no (Qt.mv rfl) Held.c ?_
     refine GT 6 127 rfl (by kernel_rfl) rfl rfl Gd.no (Qt.add rfl rfl (by first | exact i64_id (by omega) (by omega) | exact rfl)) Held.c ?_
     refine GT 7 255 rfl (by kernel_rfl) rfl rfl Gd.no (Qt.mv rfl) Held.c ?_
     refine GT 8 511 rfl (by kernel_rfl) rfl rfl Gd.no (Qt.nilc rfl) Held.c ?_
     refine GT 9 1023 rfl (by kernel_rfl) rfl rfl Gd.no (Qt.fa0 fl102_1 rfl) Held.c ?_
     refine GT 10 2047 rfl (by kernel_rfl) rfl rfl Gd.no (Qt.ldc a53 rfl (by first | exact Rdc.o rfl | exact Rdc.o (nth_vIs (by omega)) | exact Rdc.o (nth_vI (by omega)))) Held.c ?_
     refine GT 11 4095 rfl (by kernel_rfl) rfl rfl Gd.no (Qt.mv rfl) Held.c ?_
     refine GT 12 8191 rfl (by kernel_rfl) rfl rfl Gd.no (Qt.mv rfl) Held.c ?_
     refine GT 13 16383 rfl (by kernel_rfl) rfl rfl Gd.no (Qt.add rfl rfl (by first | exact i64_id (by omega) (by omega) | exact rfl)) Held.c ?_
     refine GT 14 32767 rfl (by kernel_rfl) rfl rfl Gd.no (Qt.iab01 Try.underlying53 z5 rfl rfl (by omega) (by omega) rfl) Held.c ?_
     refine GT 16 98303 rfl (by kernel_rfl) rfl rfl Gd.no (Qt.mv rfl) Held.c ?_
     refine GT 17 229375 rfl (by kernel_rfl) rfl rfl Gd.no (Qt.mv rfl) Held.c ?_
     refine GT 18 491519 rfl (by kernel_rfl) rfl rfl Gd.no (Qt.ia1 Try.underlying53 z5 rfl rfl (by omega) (by omega) rfl) Held.c ?_
     refine GT 19 1015807 rfl (by kernel_rfl) rfl rfl Gd.no (Qt.ldF a5 rfl (hA.at' (nth_vI hlt))) Held.c ?_
     refine GT 20 2064383 rfl (by kernel_rfl) rfl rfl Gd.no (Qt.mv rfl) Held.c ?_
     refine GT 21 4161535 rfl (by kernel_rfl) rfl rfl Gd.no (Qt.nilc rfl) Held.c ?_
     refine GT 22 8355839 rfl (by kernel_rfl) rfl rfl Gd.no (Qt.fa0 fl102_5 rfl) Held.c ?_
     refine GT 23 16744447 rfl (by kernel_rfl) rfl rfl Gd.no (Qt.ldc a5 rfl (by first | exact Rdc.o rfl | exact Rdc.o (nth_vIs (by omega)) | exact Rdc.o (nth_vI (by omega)))) Held.c ?_
     refine GT 24 33521663 rfl (by kernel_rfl) rfl rfl Gd.no (Qt.or rfl rfl) Held.c ?_
     refine GO 15 33554431 (by kernel_rfl) rfl rfl Gd.no (Qt.ld (Qt.ldc a5 rfl (by first | exact Rdc.o rfl | exact Rdc.o (nth_vIs (by omega)) | exact Rdc.o (nth_vI (by omega)))) rfl ?_)
     refine ⟨Held.c, ?_⟩
     refine GT 25 67108863 rfl (by kernel_rfl) rfl rfl Gd.no (Qt.and rfl rfl) Held.c ?_
     refine GT 26 134217727 rfl (by kernel_rfl) rfl rfl Gd.no (Qt.iab01 Try.underlying53 z5 rfl rfl (by omega) (by omega) rfl) Held.c ?_
     refine GO 27 268435455 (by kernel_rfl) rfl rfl Gd.no (Ld.stn z5 rfl rfl (by omega) ?_)
     refine ⟨Held.c, ?_⟩
     refine GH.done (by kernel_rfl) ?_
     refine GK.then (GC.seq (GC.region ?_))
     refine G.q Gd.no (Qt.asg rfl) rfl ?_
     refine G.nil (GK.then (GC.ret (GK.thenr (GK.blockr (GK.thenr (GK.thenr (GK.blockr ?_)))))))
     refine GK.thenr ?_
     have e : D.program at_ xs = (x.2.step.put (at_ + x.1).toNat (band .u8 (ix x.2.step.bytes (at_ + x.1).toNat) (bor .u8 (ix xs x.1.toNat) x.2.step.torn)), 10) := by rw [hpr, Dev.progL_cons hlt, if_pos c3]
     rw [e]
     refine GK.ret (rs := [.tmp 6]) rfl (.tmp rfl .nil) () ?_ ?_ (Tks.c (Tks.c (.nil _)))
     ·trivial
     ·rfl
    ·try simp only [sB0, sB1, sB2, sB3, sB4, sB5, sB6, sB7, sB8] at c3
     refine GC.skip (GK.then ?_)
     refine GC.draw mixed _ (Held.k (Held.d Held.all)) ?_
     refine GT 0 1 rfl (by kernel_rfl) rfl rfl Gd.no (Qt.mv rfl) Held.c ?_
     refine GT 1 3 rfl (by kernel_rfl) rfl rfl Gd.no (Qt.nilc rfl) Held.c ?_
     refine GT 2 7 rfl (by kernel_rfl) rfl rfl Gd.no (Qt.fa0 fl102_1 rfl) Held.c ?_
     refine GT 3 15 rfl (by kernel_rfl) rfl rfl Gd.no (Qt.ldc a53 rfl (by first | exact Rdc.o rfl | exact Rdc.o (nth_vIs (by omega)) | exact Rdc.o (nth_vI (by omega)))) Held.c ?_
     refine GT 4 31 rfl (by kernel_rfl) rfl rfl Gd.no (Qt.mv rfl) Held.c ?_
     refine GT 5 63 rfl (by kernel_rfl) rfl rfl Gd.no (Qt.mv rfl) Held.c ?_
     refine GT 6 127 rfl (by kernel_rfl) rfl rfl Gd.no (Qt.add rfl rfl (by first | exact i64_id (by omega) (by omega) | exact rfl)) Held.c ?_
     refine GT 7 255 rfl (by kernel_rfl) rfl rfl Gd.no (Qt.mv rfl) Held.c ?_
     refine GT 8 511 rfl (by kernel_rfl) rfl rfl Gd.no (Qt.nilc rfl) Held.c ?_
     refine GT 9 1023 rfl (by kernel_rfl) rfl rfl Gd.no (Qt.fa0 fl102_1 rfl) Held.c ?_
     refine GT 10 2047 rfl (by kernel_rfl) rfl rfl Gd.no (Qt.ldc a53 rfl (by first | exact Rdc.o rfl | exact Rdc.o (nth_vIs (by omega)) | exact Rdc.o (nth_vI (by omega)))) Held.c ?_
     refine GT 11 4095 rfl (by kernel_rfl) rfl rfl Gd.no (Qt.mv rfl) Held.c ?_
     refine GT 12 8191 rfl (by kernel_rfl) rfl rfl Gd.no (Qt.mv rfl) Held.c ?_
     refine GT 13 16383 rfl (by kernel_rfl) rfl rfl Gd.no (Qt.add rfl rfl (by first | exact i64_id (by omega) (by omega) | exact rfl)) Held.c ?_
     refine GT 14 32767 rfl (by kernel_rfl) rfl rfl Gd.no (Qt.iab01 Try.underlying53 z5 rfl rfl (by omega) (by omega) rfl) Held.c ?_
     refine GT 16 98303 rfl (by kernel_rfl) rfl rfl Gd.no (Qt.mv rfl) Held.c ?_
     refine GT 17 229375 rfl (by kernel_rfl) rfl rfl Gd.no (Qt.mv rfl) Held.c ?_
     refine GT 18 491519 rfl (by kernel_rfl) rfl rfl Gd.no (Qt.ia1 Try.underlying53 z5 rfl rfl (by omega) (by omega) rfl) Held.c ?_
     refine GT 19 1015807 rfl (by kernel_rfl) rfl rfl Gd.no (Qt.ldF a5 rfl (hA.at' (nth_vI hlt))) Held.c ?_
     refine GO 15 1048575 (by kernel_rfl) rfl rfl Gd.no (Qt.ld (Qt.ldc a5 rfl (by first | exact Rdc.o rfl | exact Rdc.o (nth_vIs (by omega)) | exact Rdc.o (nth_vI (by omega)))) rfl ?_)
     refine ⟨Held.c, ?_⟩
     refine GT 20 2097151 rfl (by kernel_rfl) rfl rfl Gd.no (Qt.and rfl rfl) Held.c ?_
     refine GT 21 4194303 rfl (by kernel_rfl) rfl rfl Gd.no (Qt.iab01 Try.underlying53 z5 rfl rfl (by omega) (by omega) rfl) Held.c ?_
     refine GO 22 8388607 (by kernel_rfl) rfl rfl Gd.no (Ld.stn z5 rfl rfl (by omega) ?_)
     refine ⟨Held.c, ?_⟩
     refine GH.done (by kernel_rfl) ?_
     refine GK.blockn (GK.then (GC.region ?_))
     refine G.q Gd.no (Qt.mv rfl) rfl ?_
     refine G.q Gd.no (Qt.add rfl rfl (by first | exact i64_id (by omega) (by omega) | exact rfl)) rfl ?_
     refine G.q Gd.no (Qt.asg rfl) rfl ?_
     refine G.nil ?_
     refine GK.head (x.1 + 1, x.2.step.put (at_ + x.1).toNat (band .u8 (ix x.2.step.bytes (at_ + x.1).toNat) (ix xs x.1.toNat))) ?_ ?_ ?_ ?_
     ·simp only; omega
     ·exact ⟨by simp only; omega, by simp only; omega, Dev.put_ok (Dev.step_ok hok) _ _, Dev.put_ok2 (Dev.step_ok2 hok2) _ (band_u8 _ _), by simpa [Dev.put] using c3, by simp [Dev.put, hsn, hn], by rw [hpr, Dev.progL_cons hlt, if_neg (by simp [c3])]; simp only; rw [show (at_ + (x.1 + 1)).toNat = (at_ + x.1).toNat + 1 by omega, show (x.1 + 1).toNat = x.1.toNat + 1 by omega]⟩
     ·exact ⟨rfl, rfl, rfl, rfl, trivial⟩
     ·exact ⟨_, (Tks.c (Tks.c (.nil _)))⟩
   ·try simp only [sB0, sB1, sB2, sB3, sB4, sB5, sB6, sB7, sB8] at c2
    refine GC.exit (GK.thene (GK.thene (GK.blocke (GK.then (GC.seq (GC.region ?_))))))
    refine G.q Gd.no (Qt.asg rfl) rfl ?_
    refine G.nil (GK.then (GC.ret ?_))
    have e : D.program at_ xs = (x.2, 0) := by rw [hpr, List.drop_of_length_le (by omega)]; rfl
    rw [e]
    refine GK.ret (rs := [.tmp 6]) rfl (.tmp rfl .nil) () ?_ ?_ (Tks.c (Tks.c (.nil _)))
    ·trivial
    ·rfl
theorem orR_ff {bs : List Int} (h : Bytes bs) (a b : Nat) (hab : a ≤ b) (hb : b < bs.length) : (orR bs a b 255).set b 255 = orR bs a (b + 1) 255 := by
  have := orR_step bs a b 255 hab hb
  have e : ix (orR bs a b 255) b = ix bs b := by
    simp only [ix, orR, List.getD_eq_getElem?_getD, List.getElem?_mapIdx, List.getElem?_eq_getElem hb, Option.map_some, Option.getD_some]
    rw [if_neg (by omega)]
  rw [e, bor_u8_ff (h.ix b).1 (h.ix b).2] at this
  exact this
theorem rerase_ct (F : Fr) (b bb bw cb cw : Nat) (sb sw : List Value) (D : Dev) (ok : D.Ok) (ok2 : D.Ok2) (geo : D.Geo) (s : Int) :
    Ct Try.prog F 85 [.pointer (some ⟨b, 0, none⟩), .int .i64 s] [(some b, .cells (devC D bb bw cb cw) 102), (some bb, .cells (vI .u8 D.bytes ++ sb) 5), (some bw, .cells (vI .i64 D.wear ++ sw) 3)] (S := Unit) (fun _ => True) (fun _ => .int .i64 (D.erase s).2) (fun _ => [(some b, .cells (devC (D.erase s).1 bb bw cb cw) 102), (some bb, .cells (vI .u8 (D.erase s).1.bytes ++ sb) 5), (some bw, .cells (vI .i64 (D.erase s).1.wear ++ sw) 3)]) := by
 have hl := ok.len
 have hbl := ok.hn
 have hwl := ok.hw
 have hwm := ok.wlen
 have z0 := geo.size0
 have z1 := geo.size1
 have z2 := geo.all
 have hl0 := ok2.left0
 refine Ct.of 91 [(0, _), (1, _)] Try.func85 rfl rfl rfl rfl ?_
 refine GC.seq (GC.region ?_)
 refine G.q Gd.no (Qt.asg rfl) rfl ?_
 refine G.nil (GK.then (GC.seq (GC.seq (GC.region ?_))))
 refine G.q Gd.no (Qt.mv rfl) rfl ?_
 refine G.q Gd.no (Qt.nilc rfl) rfl ?_
 refine G.q Gd.no (Qt.fa0 fl102_6 rfl) rfl ?_
 refine G.q Gd.no (Qt.ldc a4 rfl (by first | exact Rdc.o rfl | exact Rdc.o (nth_vIs (by omega)) | exact Rdc.o (nth_vI (by omega)))) rfl ?_
 refine G.nil (GK.then ?_)
 refine GC.condb rfl (fun c0 => ?_) (fun c0 => ?_)
 ·try simp only [sB0, sB1, sB2, sB3, sB4, sB5, sB6, sB7, sB8] at c0
  refine GC.seq (GC.region ?_)
  refine G.q Gd.no (Qt.asg rfl) rfl ?_
  refine G.nil (GK.then (GC.ret (GK.thenr ?_)))
  have e : D.erase s = (D, 10) := by unfold Dev.erase; rw [if_pos c0]
  rw [e]
  refine GK.ret (rs := [.tmp 4]) rfl (.tmp rfl .nil) () ?_ ?_ (Tks.c (Tks.c (Tks.c (.nil _))))
  ·trivial
  ·rfl
 ·try simp only [sB0, sB1, sB2, sB3, sB4, sB5, sB6, sB7, sB8] at c0
  refine GC.skip (GK.then (GC.seq (GC.seq (GC.region ?_))))
  refine G.q Gd.no (Qt.mv rfl) rfl ?_
  refine G.q Gd.no (Qt.lss rfl rfl) rfl ?_
  refine G.q Gd.no (Qt.mv rfl) rfl ?_
  apply G.orb (seg := [_, _, _, _, _, _, _])
  exact rfl
  exact rfl
  exact rfl
  exact Gd.no
  exact rfl
  exact rfl
  ·intro g3; try simp only [sB0, sB1, sB2, sB3, sB4, sB5, sB6, sB7, sB8] at g3
   refine G.q (Gd.yes rfl rfl) (Qt.mv rfl) rfl ?_
   refine G.q (Gd.yes rfl rfl) (Qt.mv rfl) rfl ?_
   refine G.q (Gd.yes rfl rfl) (Qt.nilc rfl) rfl ?_
   refine G.q (Gd.yes rfl rfl) (Qt.fa0 fl102_2 rfl) rfl ?_
   refine G.q (Gd.yes rfl rfl) (Qt.ldc a22 rfl (by first | exact Rdc.o rfl | exact Rdc.o (nth_vIs (by omega)) | exact Rdc.o (nth_vI (by omega)))) rfl ?_
   refine G.q (Gd.yes rfl rfl) (Qt.lenS (rt := 0) Try.underlying22 rfl) rfl ?_
   refine G.q (Gd.yes rfl rfl) (Qt.geq rfl rfl) rfl ?_
   refine G.nil (GK.seg (n := [_, _, _, _, _, _, _]) rfl rfl rfl (by first | exact Tks.all _ | exact Tks.skip (Tks.all _) | exact Tks.skip (Tks.skip (Tks.all _)) | exact Tks.skip (Tks.skip (Tks.skip (Tks.all _)))))
  refine G.nil (GK.then ?_)
  refine GC.condb rfl (fun c1 => ?_) (fun c1 => ?_)
  ·try simp only [sB0, sB1, sB2, sB3, sB4, sB5, sB6, sB7, sB8] at c1
   refine GC.seq (GC.region ?_)
   refine G.q Gd.no (Qt.asg rfl) rfl ?_
   refine G.nil (GK.then (GC.ret (GK.thenr ?_)))
   have e : D.erase s = (D, 2) := by unfold Dev.erase; rw [if_neg (by simp [c0]), if_pos c1]
   rw [e]
   refine GK.ret (rs := [.tmp 4]) rfl (.tmp rfl .nil) () ?_ ?_ (Tks.c (Tks.c (Tks.c (.nil _))))
   ·trivial
   ·rfl
  ·try simp only [sB0, sB1, sB2, sB3, sB4, sB5, sB6, sB7, sB8] at c1
   have s0 : 0 ≤ s * D.size := Int.mul_nonneg (by omega) (by omega)
   have s1 : (s + 1) * D.size ≤ D.nw * D.size := Int.mul_le_mul_of_nonneg_right (by omega) (by omega)
   have s2 : (s + 1) * D.size = s * D.size + D.size := by rw [Int.add_mul, Int.one_mul]
   have hm1 : IntKind.i64.wrap (s * (D.erase1 s).size) = s * D.size := by rw [D.erase1_size]; exact i64_id (by omega) (by omega)
   have hm2 : IntKind.i64.wrap ((s + 1) * (D.erase1 s).size) = (s + 1) * D.size := by rw [D.erase1_size]; exact i64_id (by omega) (by omega)
   have hn1 := D.erase1_n s
   obtain ⟨i, hi⟩ : ∃ i, (s * D.size).toNat = i := ⟨_, rfl⟩
   obtain ⟨j, hj⟩ : ∃ j, ((s + 1) * D.size).toNat = j := ⟨_, rfl⟩
   refine GC.skip (GK.then (GC.seq (GC.region ?_)))
   refine G.q Gd.no (Qt.mv rfl) rfl ?_
   refine G.q Gd.no (Qt.nilc rfl) rfl ?_
   refine G.q Gd.no (Qt.fa0 fl102_2 rfl) rfl ?_
   refine G.q Gd.no (Qt.ldc a22 rfl (by first | exact Rdc.o rfl | exact Rdc.o (nth_vIs (by omega)) | exact Rdc.o (nth_vI (by omega)))) rfl ?_
   refine G.q Gd.no (Qt.mv rfl) rfl ?_
   refine G.q Gd.no (Qt.iab01 Try.underlying22 z3 rfl rfl (by omega) (by omega) rfl) rfl ?_
   refine G.q Gd.no (Qt.ldc a3 rfl (by first | exact Rdc.o rfl | exact Rdc.o (nth_vIs (by omega)) | exact Rdc.o (nth_vI (by omega)))) rfl ?_
   refine G.q Gd.no (Qt.add rfl rfl (by exact rfl)) rfl ?_
   refine G.q Gd.no (Qt.iab01 Try.underlying22 z3 rfl rfl (by omega) (by omega) rfl) rfl ?_
   refine G.ld Gd.no (Ld.stn z3 rfl rfl (by omega) ?_)
   refine G.nil (GK.then (GC.seq (GC.seq (GC.region ?_))))
   refine G.q Gd.no (Qt.mv rfl) rfl ?_
   refine G.ld Gd.no (Ld.call cal56 rfl rfl (Tks.c (.nil _)) (fun F' hF => fails_ct F' _ _ _ _ _ { D with wear := D.wear.set s.toNat (IntKind.i64.wrap (ix D.wear s.toNat + 1)) } (Dev.set_ok ok _ _) hl0 c0) (fun _ _ => ?_))
   dsimp only [lCa, lNa]
   rw [show Dev.step { D with wear := D.wear.set s.toNat (IntKind.i64.wrap (ix D.wear s.toNat + 1)) } = D.erase1 s from rfl]
   refine G.nil (GK.then ?_)
   refine GC.condb rfl (fun c2 => ?_) (fun c2 => ?_)
   ·try simp only [sB0, sB1, sB2, sB3, sB4, sB5, sB6, sB7, sB8] at c2
    refine GC.seq (GC.seq (GC.region ?_))
    refine G.q Gd.no (Qt.mv rfl) rfl ?_
    refine G.q Gd.no (Qt.mv rfl) rfl ?_
    refine G.q Gd.no (Qt.nilc rfl) rfl ?_
    refine G.q Gd.no (Qt.fa0 fl102_0 rfl) rfl ?_
    refine G.q Gd.no (Qt.ldc a3 rfl (by first | exact Rdc.o rfl | exact Rdc.o (nth_vIs (by omega)) | exact Rdc.o (nth_vI (by omega)))) rfl ?_
    refine G.q Gd.no (Qt.mul rfl rfl (by exact hm1)) rfl ?_
    refine G.q Gd.no (Qt.asg rfl) rfl ?_
    refine G.nil (GK.then (GC.block ?_))
    rw [show vI .u8 D.bytes = vI .u8 (orR D.bytes i i ((D.erase1 s).torn)) by rw [orR_self]]
    refine GC.loop (S := Nat) (fun x => i ≤ x ∧ x ≤ j) (fun x => j - x)
     (fun x => [(0, .pointer (some ⟨b, 0, none⟩)), (1, .int .i64 s), (5, .int .i64 (x : Int))]) (fun x => [(some b, .cells (devC (D.erase1 s) bb bw cb cw) 102), (some bb, .cells (vI .u8 (orR D.bytes i x ((D.erase1 s).torn)) ++ sb) 5), (some bw, .cells (vI .i64 (D.wear.set s.toNat (IntKind.i64.wrap (ix D.wear s.toNat + 1))) ++ sw) 3)]) i ?_ ?_ ?_ ?_
    ·omega
    ·exact ⟨rfl, rfl, by rw [show (i : Int) = s * D.size by omega]; rfl, trivial⟩
    ·exact ⟨_, (Tks.c (Tks.c (Tks.c (.nil _))))⟩
    intro x ⟨hx1, hx2⟩
    have hol := orR_length D.bytes i x ((D.erase1 s).torn)
    refine GC.seq (GC.seq (GC.region ?_))
    refine G.q Gd.no (Qt.mv rfl) rfl ?_
    refine G.q Gd.no (Qt.mv rfl) rfl ?_
    refine G.q Gd.no (Qt.add rfl rfl (by first | exact i64_id (by omega) (by omega) | exact rfl)) rfl ?_
    refine G.q Gd.no (Qt.mv rfl) rfl ?_
    refine G.q Gd.no (Qt.nilc rfl) rfl ?_
    refine G.q Gd.no (Qt.fa0 fl102_0 rfl) rfl ?_
    refine G.q Gd.no (Qt.ldc a3 rfl (by first | exact Rdc.o rfl | exact Rdc.o (nth_vIs (by omega)) | exact Rdc.o (nth_vI (by omega)))) rfl ?_
    refine G.q Gd.no (Qt.mul rfl rfl (by exact hm2)) rfl ?_
    refine G.q Gd.no (Qt.lss rfl rfl) rfl ?_
    refine G.nil (GK.then ?_)
    refine GC.condb rfl (fun c3 => ?_) (fun c3 => ?_)
    ·try simp only [sB0, sB1, sB2, sB3, sB4, sB5, sB6, sB7, sB8] at c3
     refine GC.skip (GK.then (GC.seq (GC.block ?_)))
     refine GC.draw mixed _ (Held.k (Held.d (Held.k Held.all))) ?_
     refine GT 0 1 rfl (by kernel_rfl) rfl rfl Gd.no (Qt.mv rfl) Held.c ?_
     refine GT 1 3 rfl (by kernel_rfl) rfl rfl Gd.no (Qt.nilc rfl) Held.c ?_
     refine GT 2 7 rfl (by kernel_rfl) rfl rfl Gd.no (Qt.fa0 fl102_1 rfl) Held.c ?_
     refine GT 3 15 rfl (by kernel_rfl) rfl rfl Gd.no (Qt.ldc a53 rfl (by first | exact Rdc.o rfl | exact Rdc.o (nth_vIs (by omega)) | exact Rdc.o (nth_vI (by omega)))) Held.c ?_
     refine GT 4 31 rfl (by kernel_rfl) rfl rfl Gd.no (Qt.mv rfl) Held.c ?_
     refine GT 5 63 rfl (by kernel_rfl) rfl rfl Gd.no (Qt.mv rfl) Held.c ?_
     refine GT 6 127 rfl (by kernel_rfl) rfl rfl Gd.no (Qt.nilc rfl) Held.c ?_
     refine GT 7 255 rfl (by kernel_rfl) rfl rfl Gd.no (Qt.fa0 fl102_1 rfl) Held.c ?_
     refine GT 8 511 rfl (by kernel_rfl) rfl rfl Gd.no (Qt.ldc a53 rfl (by first | exact Rdc.o rfl | exact Rdc.o (nth_vIs (by omega)) | exact Rdc.o (nth_vI (by omega)))) Held.c ?_
     refine GT 9 1023 rfl (by kernel_rfl) rfl rfl Gd.no (Qt.mv rfl) Held.c ?_
     refine GT 10 2047 rfl (by kernel_rfl) rfl rfl Gd.no (Qt.iab01 Try.underlying53 z5 rfl rfl (by omega) (by omega) rfl) Held.c ?_
     refine GT 12 6143 rfl (by kernel_rfl) rfl rfl Gd.no (Qt.mv rfl) Held.c ?_
     refine GT 13 14335 rfl (by kernel_rfl) rfl rfl Gd.no (Qt.nilc rfl) Held.c ?_
     refine GT 14 30719 rfl (by kernel_rfl) rfl rfl Gd.no (Qt.fa0 fl102_5 rfl) Held.c ?_
     refine GT 15 63487 rfl (by kernel_rfl) rfl rfl Gd.no (Qt.ldc a5 rfl (by first | exact Rdc.o rfl | exact Rdc.o (nth_vIs (by omega)) | exact Rdc.o (nth_vI (by omega)))) Held.c ?_
     refine GO 11 65535 (by kernel_rfl) rfl rfl Gd.no (Qt.ld (Qt.ldc a5 rfl (by first | exact Rdc.o rfl | exact Rdc.o (nth_vIs (by omega)) | exact Rdc.o (nth_vI (by omega)))) rfl ?_)
     refine ⟨Held.c, ?_⟩
     refine GT 16 131071 rfl (by kernel_rfl) rfl rfl Gd.no (Qt.or rfl rfl) Held.c ?_
     refine GT 17 262143 rfl (by kernel_rfl) rfl rfl Gd.no (Qt.iab01 Try.underlying53 z5 rfl rfl (by omega) (by omega) rfl) Held.c ?_
     refine GO 18 524287 (by kernel_rfl) rfl rfl Gd.no (Ld.stn z5 rfl rfl (by omega) ?_)
     refine ⟨Held.c, ?_⟩
     refine GH.done (by kernel_rfl) ?_
     refine GK.blockn (GK.then (GC.region ?_))
     refine G.q Gd.no (Qt.mv rfl) rfl ?_
     refine G.q Gd.no (Qt.add rfl rfl (by first | exact i64_id (by omega) (by omega) | exact rfl)) rfl ?_
     refine G.q Gd.no (Qt.asg rfl) rfl ?_
     refine G.nil ?_
     simp only [Int.toNat_natCast]
     rw [orR_step D.bytes i x _ (by omega) (by omega)]
     refine GK.head (x + 1) ?_ ?_ ?_ ?_
     ·omega
     ·omega
     ·exact ⟨rfl, rfl, rfl, trivial⟩
     ·exact ⟨_, (Tks.c (Tks.c (Tks.c (.nil _))))⟩
    ·try simp only [sB0, sB1, sB2, sB3, sB4, sB5, sB6, sB7, sB8] at c3
     refine GC.exit (GK.thene (GK.thene (GK.blocke (GK.then (GC.seq (GC.region ?_))))))
     refine G.q Gd.no (Qt.asg rfl) rfl ?_
     refine G.nil (GK.then (GC.ret (GK.thenr ?_)))
     obtain rfl : x = j := by omega
     have e : D.erase s = ({ D.erase1 s with bytes := orR D.bytes i x D.torn }, 10) := by unfold Dev.erase; rw [if_neg (by simp [c0]), if_neg (by omega), if_pos c2, hi, hj]
     rw [e, D.erase1_torn, ← D.erase1_wear]
     refine GK.ret (rs := [.tmp 4]) rfl (.tmp rfl .nil) () ?_ ?_ (Tks.c (Tks.c (Tks.c (.nil _))))
     ·trivial
     ·rfl
   ·try simp only [sB0, sB1, sB2, sB3, sB4, sB5, sB6, sB7, sB8] at c2
    refine GC.skip (GK.then (GC.seq (GC.seq (GC.region ?_))))
    refine G.q Gd.no (Qt.mv rfl) rfl ?_
    refine G.q Gd.no (Qt.mv rfl) rfl ?_
    refine G.q Gd.no (Qt.nilc rfl) rfl ?_
    refine G.q Gd.no (Qt.fa0 fl102_0 rfl) rfl ?_
    refine G.q Gd.no (Qt.ldc a3 rfl (by first | exact Rdc.o rfl | exact Rdc.o (nth_vIs (by omega)) | exact Rdc.o (nth_vI (by omega)))) rfl ?_
    refine G.q Gd.no (Qt.mul rfl rfl (by exact hm1)) rfl ?_
    refine G.q Gd.no (Qt.asg rfl) rfl ?_
    refine G.nil (GK.then (GC.block ?_))
    rw [show vI .u8 D.bytes = vI .u8 (orR D.bytes i i (255)) by rw [orR_self]]
    refine GC.loop (S := Nat) (fun x => i ≤ x ∧ x ≤ j) (fun x => j - x)
     (fun x => [(0, .pointer (some ⟨b, 0, none⟩)), (1, .int .i64 s), (6, .int .i64 (x : Int))]) (fun x => [(some b, .cells (devC (D.erase1 s) bb bw cb cw) 102), (some bb, .cells (vI .u8 (orR D.bytes i x (255)) ++ sb) 5), (some bw, .cells (vI .i64 (D.wear.set s.toNat (IntKind.i64.wrap (ix D.wear s.toNat + 1))) ++ sw) 3)]) i ?_ ?_ ?_ ?_
    ·omega
    ·exact ⟨rfl, rfl, by rw [show (i : Int) = s * D.size by omega]; rfl, trivial⟩
    ·exact ⟨_, (Tks.c (Tks.c (Tks.c (.nil _))))⟩
    intro x ⟨hx1, hx2⟩
    have hol := orR_length D.bytes i x (255)
    refine GC.seq (GC.seq (GC.region ?_))
    refine G.q Gd.no (Qt.mv rfl) rfl ?_
    refine G.q Gd.no (Qt.mv rfl) rfl ?_
    refine G.q Gd.no (Qt.add rfl rfl (by first | exact i64_id (by omega) (by omega) | exact rfl)) rfl ?_
    refine G.q Gd.no (Qt.mv rfl) rfl ?_
    refine G.q Gd.no (Qt.nilc rfl) rfl ?_
    refine G.q Gd.no (Qt.fa0 fl102_0 rfl) rfl ?_
    refine G.q Gd.no (Qt.ldc a3 rfl (by first | exact Rdc.o rfl | exact Rdc.o (nth_vIs (by omega)) | exact Rdc.o (nth_vI (by omega)))) rfl ?_
    refine G.q Gd.no (Qt.mul rfl rfl (by exact hm2)) rfl ?_
    refine G.q Gd.no (Qt.lss rfl rfl) rfl ?_
    refine G.nil (GK.then ?_)
    refine GC.condb rfl (fun c4 => ?_) (fun c4 => ?_)
    ·try simp only [sB0, sB1, sB2, sB3, sB4, sB5, sB6, sB7, sB8] at c4
     refine GC.skip (GK.then (GC.seq (GC.block (GC.region ?_))))
     refine G.q Gd.no (Qt.mv rfl) rfl ?_
     refine G.q Gd.no (Qt.nilc rfl) rfl ?_
     refine G.q Gd.no (Qt.fa0 fl102_1 rfl) rfl ?_
     refine G.q Gd.no (Qt.ldc a53 rfl (by first | exact Rdc.o rfl | exact Rdc.o (nth_vIs (by omega)) | exact Rdc.o (nth_vI (by omega)))) rfl ?_
     refine G.q Gd.no (Qt.mv rfl) rfl ?_
     refine G.q Gd.no (Qt.iab01 Try.underlying53 z5 rfl rfl (by omega) (by omega) rfl) rfl ?_
     refine G.ld Gd.no (Ld.stn z5 rfl rfl (by omega) ?_)
     refine G.nil (GK.blockn (GK.then (GC.region ?_)))
     refine G.q Gd.no (Qt.mv rfl) rfl ?_
     refine G.q Gd.no (Qt.add rfl rfl (by first | exact i64_id (by omega) (by omega) | exact rfl)) rfl ?_
     refine G.q Gd.no (Qt.asg rfl) rfl ?_
     refine G.nil ?_
     simp only [Int.toNat_natCast]
     rw [orR_ff ok2.bytes i x (by omega) (by omega)]
     refine GK.head (x + 1) ?_ ?_ ?_ ?_
     ·omega
     ·omega
     ·exact ⟨rfl, rfl, rfl, trivial⟩
     ·exact ⟨_, (Tks.c (Tks.c (Tks.c (.nil _))))⟩
    ·try simp only [sB0, sB1, sB2, sB3, sB4, sB5, sB6, sB7, sB8] at c4
     refine GC.exit (GK.thene (GK.thene (GK.blocke (GK.then (GC.seq (GC.region ?_))))))
     refine G.q Gd.no (Qt.asg rfl) rfl ?_
     refine G.nil (GK.then (GC.ret ?_))
     obtain rfl : x = j := by omega
     have e : D.erase s = ({ D.erase1 s with bytes := orR D.bytes i x 255 }, 0) := by unfold Dev.erase; rw [if_neg (by simp [c0]), if_neg (by omega), if_neg (by simp [c2]), hi, hj]
     rw [e, ← D.erase1_wear]
     refine GK.ret (rs := [.tmp 4]) rfl (.tmp rfl .nil) () ?_ ?_ (Tks.c (Tks.c (Tks.c (.nil _))))
     ·trivial
     ·rfl
theorem all_ff_no {xs : List Int} {k : Nat} (hk : k < xs.length) (h : ¬ ix xs k = 255) : (xs.all fun x => decide (x = 255)) = false := by
  rw [List.all_eq_false]
  refine ⟨xs[k], List.getElem_mem hk, ?_⟩
  simp [ix, hk] at h
  simp [h]
theorem all_ff_yes {xs : List Int} (h : ∀ k, k < xs.length → ix xs k = 255) : (xs.all fun x => decide (x = 255)) = true := by
  rw [List.all_eq_true]
  intro x hx
  obtain ⟨j, hj, rfl⟩ := List.mem_iff_getElem.1 hx
  have := h j hj
  simp [ix, hj] at this
  simp [this]
theorem rblank_ct (F : Fr) (A : Option Addr) (c : Nat) (xs : List Int) (hA : VwF F A (vI .u8 xs)) (hx : xs.length ≤ 1099511627776) :
    Ct Try.prog F 84 [.slice A xs.length c] [] (S := Unit) (fun _ => True) (fun _ => .bool (xs.all fun x => decide (x = 255))) (fun _ => []) := by
 refine Ct.of 15 [(0, _)] Try.func84 rfl rfl rfl rfl ?_
 refine GC.seq (GC.region ?_)
 refine G.q Gd.no (Qt.asg rfl) rfl ?_
 refine G.nil (GK.then (GC.seq (GC.seq (GC.region ?_))))
 refine G.q Gd.no (Qt.asg rfl) rfl ?_
 refine G.nil (GK.then (GC.block ?_))
 refine GC.loop (S := Nat) (fun x => x ≤ xs.length ∧ ∀ j, j < x → ix xs j = 255) (fun x => xs.length - x)
  (fun x => [(0, .slice A xs.length c), (3, .int .i64 (x : Int))]) (fun x => []) 0 ?_ ?_ ?_ ?_
 ·exact ⟨by omega, fun j h => by omega⟩
 ·exact ⟨rfl, rfl, trivial⟩
 ·exact ⟨_, (.nil _)⟩
 intro x ⟨hx1, hx2⟩
 refine GC.seq (GC.seq (GC.region ?_))
 refine G.q Gd.no (Qt.mv rfl) rfl ?_
 refine G.q Gd.no (Qt.mv rfl) rfl ?_
 refine G.q Gd.no (Qt.lenS (rt := 0) Try.underlying53 rfl) rfl ?_
 refine G.q Gd.no (Qt.lss rfl rfl) rfl ?_
 refine G.nil (GK.then ?_)
 refine GC.condb rfl (fun c0 => ?_) (fun c0 => ?_)
 ·try simp only [sB0, sB1, sB2, sB3, sB4, sB5, sB6, sB7, sB8] at c0
  have hlt : x < xs.length := by omega
  obtain ⟨ad, hAd⟩ := hA.some' (by rw [vI_length]; omega)
  subst hAd
  refine GC.skip (GK.then (GC.seq (GC.block (GC.seq (GC.region ?_)))))
  refine G.q Gd.no (Qt.mv rfl) rfl ?_
  refine G.q Gd.no (Qt.mv rfl) rfl ?_
  refine G.q Gd.no (Qt.ia1 Try.underlying53 z5 rfl rfl (by omega) (by omega) (rfl : ((x : Nat) : Int).toNat = x)) rfl ?_
  refine G.q Gd.no (Qt.ldF a5 rfl (hA.at' (nth_vI hlt))) rfl ?_
  refine G.q Gd.no (Qt.neI rfl rfl) rfl ?_
  refine G.nil (GK.then ?_)
  refine GC.condb rfl (fun c1 => ?_) (fun c1 => ?_)
  ·try simp only [sB0, sB1, sB2, sB3, sB4, sB5, sB6, sB7, sB8] at c1
   refine GC.seq (GC.region ?_)
   refine G.q Gd.no (Qt.asg rfl) rfl ?_
   refine G.nil (GK.then (GC.ret (GK.blockr (GK.thenr (GK.thenr (GK.blockr (GK.thenr ?_)))))))
   refine GK.ret (rs := [.tmp 2]) rfl (.tmp rfl .nil) () ?_ ?_ (.nil _)
   ·trivial
   ·exact congrArg Value.bool (all_ff_no hlt c1).symm
  ·try simp only [sB0, sB1, sB2, sB3, sB4, sB5, sB6, sB7, sB8] at c1
   refine GC.skip (GK.blockn (GK.then (GC.region ?_)))
   refine G.q Gd.no (Qt.mv rfl) rfl ?_
   refine G.q Gd.no (Qt.add rfl rfl (by first | exact i64_id (by omega) (by omega) | exact rfl)) rfl ?_
   refine G.q Gd.no (Qt.asg rfl) rfl ?_
   refine G.nil ?_
   refine GK.head (x + 1) ?_ ?_ ?_ ?_
   ·omega
   ·exact ⟨by omega, fun j h => by by_cases e : j < x; exact hx2 j e; rw [show j = x by omega]; exact c1⟩
   ·exact ⟨rfl, rfl, trivial⟩
   ·exact ⟨_, (.nil _)⟩
 ·try simp only [sB0, sB1, sB2, sB3, sB4, sB5, sB6, sB7, sB8] at c0
  refine GC.exit (GK.thene (GK.thene (GK.blocke (GK.then (GC.seq (GC.region ?_))))))
  refine G.q Gd.no (Qt.asg rfl) rfl ?_
  refine G.nil (GK.then (GC.ret ?_))
  refine GK.ret (rs := [.tmp 2]) rfl (.tmp rfl .nil) () ?_ ?_ (.nil _)
  ·trivial
  ·exact congrArg Value.bool (all_ff_yes (fun j hj => hx2 j (by omega))).symm
end Go.Proofs.Ytbeiciinppmekaa
