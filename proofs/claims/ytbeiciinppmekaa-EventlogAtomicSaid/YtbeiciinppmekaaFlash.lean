/-
  The functions of package flash do what the model Dev says; each contract's conditions are its premises.
-/
import Derived.Test.YtbeiciinppmekaaTb
import Derived.Test.YtbeiciinppmekaaLib
import Derived.Test.YtbeiciinppmekaaProg
namespace Go.Proofs.Ytbeiciinppmekaa
open Go Go.Sx Go.Proofs
set_option maxRecDepth 100000
set_option linter.unusedSimpArgs false
set_option linter.unusedVariables false
/-- A flash device. -/
structure Dev where
  size : Int
  n : Nat
  nw : Nat
  bytes : List Int
  wear : List Int
  steps : Int
  left : Int
  torn : Int
  down : Bool
/-- n and nw: how many bytes and sectors. Its variable: bb, bw are the blocks of the bytes and of the wear, cb, cw their capacities. -/
def devC (D : Dev) (bb bw cb cw : Nat) : List Value :=
  [.int .i64 D.size, .slice (some ⟨bb, 0, none⟩) D.n cb, .slice (some ⟨bw, 0, none⟩) D.nw cw, .int .i64 D.steps, .int .i64 D.left, .int .u8 D.torn, .bool D.down]
def Dev.step (D : Dev) : Dev :=
  if 0 < D.left then { D with steps := IntKind.i64.wrap (D.steps + 1), left := D.left - 1, down := decide (D.left - 1 = 0) } else { D with steps := IntKind.i64.wrap (D.steps + 1) }
def Dev.within (D : Dev) (at_ n : Int) : Bool := ((decide (0 ≤ at_) && decide (at_ ≤ D.n)) && decide (0 ≤ n)) && decide (n ≤ D.n - at_)
/-- What the numbers of a device are good for. -/
structure Dev.Ok (D : Dev) : Prop where
  hn : D.bytes.length = D.n
  hw : D.wear.length = D.nw
  len : D.n ≤ 1099511627776
  wlen : D.nw ≤ 1099511627776
  left : D.left ≤ 4611686018427387904
def Dev.arm (D : Dev) (n t : Int) : Dev := if D.down then D else { D with left := max n 0, torn := t }
def Dev.restore (D : Dev) : Dev := { D with down := false, left := 0 }
def Dev.put (D : Dev) (p : Nat) (v : Int) : Dev := { D with bytes := D.bytes.set p v }
/-- Programming bytes from place p on; the error. -/
def Dev.progL : Dev → Nat → List Int → Dev × Int
  | D, _, [] => (D, 0)
  | D, p, x :: xs => if D.step.down then (D.step.put p (band .u8 (ix D.step.bytes p) (bor .u8 x D.step.torn)), 10) else Dev.progL (D.step.put p (band .u8 (ix D.step.bytes p) x)) (p + 1) xs
def Dev.program (D : Dev) (at_ : Int) (xs : List Int) : Dev × Int := if D.down then (D, 10) else if D.within at_ xs.length then D.progL at_.toNat xs else (D, 2)
theorem Dev.step_bytes (D : Dev) : D.step.bytes = D.bytes := by unfold Dev.step; split <;> rfl
theorem Dev.step_n (D : Dev) : D.step.n = D.n := by unfold Dev.step; split <;> rfl
theorem Dev.step_ok {D : Dev} (h : D.Ok) : D.step.Ok := by
  unfold Dev.step
  split
  · exact ⟨h.hn, h.hw, h.len, h.wlen, by have := h.left; simp only; omega⟩
  · exact ⟨h.hn, h.hw, h.len, h.wlen, h.left⟩
theorem Dev.put_ok {D : Dev} (h : D.Ok) (p : Nat) (v : Int) : (D.put p v).Ok := ⟨by simp [Dev.put, h.hn], h.hw, h.len, h.wlen, h.left⟩
theorem Dev.progL_cons {D : Dev} {p : Nat} {xs : List Int} {k : Nat} (h : k < xs.length) : D.progL p (xs.drop k) = if D.step.down then (D.step.put p (band .u8 (ix D.step.bytes p) (bor .u8 (ix xs k) D.step.torn)), 10) else Dev.progL (D.step.put p (band .u8 (ix D.step.bytes p) (ix xs k))) (p + 1) (xs.drop (k + 1)) := by
  rw [List.drop_eq_getElem_cons h, Dev.progL]
  simp [ix, h]
/-- A device that is new. -/
def Dev.new (sectors size : Int) : Dev := { size := size, n := (sectors * size).toNat, nw := sectors.toNat, bytes := List.replicate (sectors * size).toNat 255, wear := List.replicate sectors.toNat 0, steps := 0, left := 0, torn := 0, down := false }
/-- bytes a to b - 1 or-ed with t. -/
def orR (bs : List Int) (a b : Nat) (t : Int) : List Int := bs.mapIdx fun i x => if a ≤ i ∧ i < b then bor .u8 x t else x
theorem orR_length (bs : List Int) (a b : Nat) (t : Int) : (orR bs a b t).length = bs.length := by simp [orR]
theorem orR_self (bs : List Int) (a : Nat) (t : Int) : orR bs a a t = bs := by
  apply List.ext_getElem
  · simp [orR]
  · intro i h1 h2
    simp only [orR, List.getElem_mapIdx]
    rw [if_neg (by omega)]
theorem orR_step (bs : List Int) (a b : Nat) (t : Int) (hab : a ≤ b) (hb : b < bs.length) : (orR bs a b t).set b (bor .u8 (ix (orR bs a b t) b) t) = orR bs a (b + 1) t := by
  apply List.ext_getElem
  · simp [orR]
  · intro i h1 h2
    simp only [orR, List.length_mapIdx] at h2
    rw [List.getElem_set]
    by_cases e : b = i
    · subst e
      rw [if_pos rfl]
      simp only [orR, ix, List.getElem_mapIdx, List.getD_eq_getElem?_getD, List.getElem?_mapIdx, List.getElem?_eq_getElem hb, Option.map_some, Option.getD_some]
      rw [if_neg (by omega), if_pos (by omega)]
    · rw [if_neg e]
      simp only [orR, List.getElem_mapIdx]
      by_cases h : a ≤ i ∧ i < b
      · rw [if_pos h, if_pos (by omega)]
      · rw [if_neg h, if_neg (by omega)]
def Dev.erase1 (D : Dev) (s : Int) : Dev := Dev.step { D with wear := D.wear.set s.toNat (IntKind.i64.wrap (ix D.wear s.toNat + 1)) }
def Dev.erase (D : Dev) (s : Int) : Dev × Int :=
  if D.down then (D, 10) else if s < 0 ∨ D.nw ≤ s then (D, 2) else
  if (D.erase1 s).down then ({ D.erase1 s with bytes := orR D.bytes (s * D.size).toNat ((s + 1) * D.size).toNat D.torn }, 10)
  else ({ D.erase1 s with bytes := orR D.bytes (s * D.size).toNat ((s + 1) * D.size).toNat 255 }, 0)
/-- The sectors are as long as the bytes. -/
structure Dev.Geo (D : Dev) : Prop where
  size0 : 1 ≤ D.size
  size1 : D.size ≤ 1048576
  all : (D.nw : Int) * D.size = D.n
theorem Dev.erase1_torn (D : Dev) (s : Int) : (D.erase1 s).torn = D.torn := by unfold Dev.erase1 Dev.step; split <;> rfl
theorem Dev.erase1_size (D : Dev) (s : Int) : (D.erase1 s).size = D.size := by unfold Dev.erase1 Dev.step; split <;> rfl
theorem Dev.erase1_n (D : Dev) (s : Int) : (D.erase1 s).n = D.n := by unfold Dev.erase1 Dev.step; split <;> rfl
theorem Dev.erase1_wear (D : Dev) (s : Int) : (D.erase1 s).wear = D.wear.set s.toNat (IntKind.i64.wrap (ix D.wear s.toNat + 1)) := by unfold Dev.erase1 Dev.step; split <;> rfl
theorem Dev.set_ok {D : Dev} (h : D.Ok) (s : Nat) (v : Int) : ({ D with wear := D.wear.set s v } : Dev).Ok := ⟨h.hn, by simp [h.hw], h.len, h.wlen, h.left⟩
theorem within_ct (F : Fr) (b bb bw cb cw : Nat) (D : Dev) (hb : F.h b = some (Blk.cells (devC D bb bw cb cw) 81).toObj) (ok : D.Ok) (at_ n : Int) :
    Ct Try.prog F 53 [.pointer (some ⟨b, 0, none⟩), .int .i64 at_, .int .i64 n] [] (S := Unit) (fun _ => True) (fun _ => .bool (D.within at_ n)) (fun _ => []) := by
 have hl := ok.len
 refine Ct.of 33 [(0, _), (1, _), (2, _)] Try.func53 rfl rfl rfl rfl ?_
 refine GC.seq (GC.region ?_)
 refine G.q Gd.no (Qt.asg rfl) rfl ?_
 refine G.nil (GK.then (GC.seq (GC.region ?_)))
 refine G.q Gd.no (Qt.mv rfl) rfl ?_
 refine G.q Gd.no (Qt.geq rfl rfl) rfl ?_
 refine G.q Gd.no (Qt.mv rfl) rfl ?_
 apply G.andb (seg := [_, _, _, _, _, _, _])
 exact rfl
 exact rfl
 exact rfl
 exact Gd.no
 exact rfl
 exact rfl
 ·intro g3; try simp only [sB0, sB1, sB2, sB3, sB4, sB5, sB6, sB7, sB8] at g3
  refine G.q (Gd.yes rfl rfl) (Qt.mv rfl) rfl ?_
  refine G.q (Gd.yes rfl rfl) (Qt.mv rfl) rfl ?_
  refine G.q (Gd.yes rfl rfl) (Qt.nilc rfl) rfl ?_
  refine G.q (Gd.yes rfl rfl) (Qt.fa0 fl81_1 rfl) rfl ?_
  refine G.q (Gd.yes rfl rfl) (Qt.ldc a53 rfl (by first | exact Rdc.o rfl | exact Rdc.o (nth_vIs (by omega)) | exact Rdc.o (nth_vI (by omega)) | exact Rdc.f hb rfl)) rfl ?_
  refine G.q (Gd.yes rfl rfl) (Qt.lenS (rt := 0) Try.underlying53 rfl) rfl ?_
  refine G.q (Gd.yes rfl rfl) (Qt.leq rfl rfl) rfl ?_
  refine G.nil (GK.seg (n := [_, _, _, _, _, _, _]) rfl rfl rfl (by first | exact Tks.all _ | exact Tks.skip (Tks.all _) | exact Tks.skip (Tks.skip (Tks.all _)) | exact Tks.skip (Tks.skip (Tks.skip (Tks.all _)))))
 refine G.q Gd.no (Qt.mv rfl) rfl ?_
 apply G.andb (seg := [_, _])
 exact rfl
 exact rfl
 exact rfl
 exact Gd.no
 exact rfl
 exact rfl
 ·intro g12; try simp only [sB0, sB1, sB2, sB3, sB4, sB5, sB6, sB7, sB8] at g12
  refine G.q (Gd.yes rfl rfl) (Qt.mv rfl) rfl ?_
  refine G.q (Gd.yes rfl rfl) (Qt.geq rfl rfl) rfl ?_
  refine G.nil (GK.seg (n := [_, _]) rfl rfl rfl (by first | exact Tks.all _ | exact Tks.skip (Tks.all _) | exact Tks.skip (Tks.skip (Tks.all _)) | exact Tks.skip (Tks.skip (Tks.skip (Tks.all _)))))
 refine G.q Gd.no (Qt.mv rfl) rfl ?_
 apply G.andb (seg := [_, _, _, _, _, _, _, _, _])
 exact rfl
 exact rfl
 exact rfl
 exact Gd.no
 exact rfl
 exact rfl
 ·intro g16; try simp only [sB0, sB1, sB2, sB3, sB4, sB5, sB6, sB7, sB8] at g16
  refine G.q (Gd.yes rfl rfl) (Qt.mv rfl) rfl ?_
  refine G.q (Gd.yes rfl rfl) (Qt.mv rfl) rfl ?_
  refine G.q (Gd.yes rfl rfl) (Qt.nilc rfl) rfl ?_
  refine G.q (Gd.yes rfl rfl) (Qt.fa0 fl81_1 rfl) rfl ?_
  refine G.q (Gd.yes rfl rfl) (Qt.ldc a53 rfl (by first | exact Rdc.o rfl | exact Rdc.o (nth_vIs (by omega)) | exact Rdc.o (nth_vI (by omega)) | exact Rdc.f hb rfl)) rfl ?_
  refine G.q (Gd.yes rfl rfl) (Qt.lenS (rt := 0) Try.underlying53 rfl) rfl ?_
  refine G.q (Gd.yes rfl rfl) (Qt.mv rfl) rfl ?_
  refine G.q (Gd.yes rfl rfl) (Qt.sub rfl rfl (by first | exact i64_id (by omega) (by omega) | exact rfl)) rfl ?_
  refine G.q (Gd.yes rfl rfl) (Qt.leq rfl rfl) rfl ?_
  refine G.nil (GK.seg (n := [_, _, _, _, _, _, _, _, _]) rfl rfl rfl (by first | exact Tks.all _ | exact Tks.skip (Tks.all _) | exact Tks.skip (Tks.skip (Tks.all _)) | exact Tks.skip (Tks.skip (Tks.skip (Tks.all _)))))
 refine G.q Gd.no (Qt.asg rfl) rfl ?_
 refine G.nil (GK.then (GC.ret ?_))
 refine GK.ret (rs := [.tmp 6]) rfl (.tmp rfl .nil) () ?_ ?_ (.nil _)
 ·trivial
 ·rfl
theorem step_ct (F : Fr) (b bb bw cb cw : Nat) (D : Dev) (ok : D.Ok) :
    Ct Try.prog F 54 [.pointer (some ⟨b, 0, none⟩)] [(some b, .cells (devC D bb bw cb cw) 81)] (S := Unit) (fun _ => True) (fun _ => .bool D.step.down) (fun _ => [(some b, .cells (devC D.step bb bw cb cw) 81)]) := by
 have hl := ok.left
 refine Ct.of 34 [(0, _)] Try.func54 rfl rfl rfl rfl ?_
 refine GC.seq (GC.region ?_)
 refine G.q Gd.no (Qt.asg rfl) rfl ?_
 refine G.nil (GK.then (GC.seq (GC.region ?_)))
 refine G.q Gd.no (Qt.mv rfl) rfl ?_
 refine G.q Gd.no (Qt.nilc rfl) rfl ?_
 refine G.q Gd.no (Qt.fa0 fl81_3 rfl) rfl ?_
 refine G.q Gd.no (Qt.ldc a3 rfl (by first | exact Rdc.o rfl | exact Rdc.o (nth_vIs (by omega)) | exact Rdc.o (nth_vI (by omega)))) rfl ?_
 refine G.q Gd.no (Qt.add rfl rfl (by exact rfl)) rfl ?_
 refine G.q Gd.no (Qt.nilc rfl) rfl ?_
 refine G.q Gd.no (Qt.fa0 fl81_3 rfl) rfl ?_
 refine G.ld Gd.no (Ld.stc z3 rfl rfl rfl (Stc.o SetAt.k3) ?_)
 refine G.nil (GK.then (GC.seq (GC.seq (GC.region ?_))))
 refine G.q Gd.no (Qt.mv rfl) rfl ?_
 refine G.q Gd.no (Qt.nilc rfl) rfl ?_
 refine G.q Gd.no (Qt.fa0 fl81_4 rfl) rfl ?_
 refine G.q Gd.no (Qt.ldc a3 rfl (by first | exact Rdc.o rfl | exact Rdc.o (nth_vIs (by omega)) | exact Rdc.o (nth_vI (by omega)))) rfl ?_
 refine G.q Gd.no (Qt.gtr rfl rfl) rfl ?_
 refine G.nil (GK.then ?_)
 refine GC.condb rfl (fun c0 => ?_) (fun c0 => ?_)
 ·try simp only [sB0, sB1, sB2, sB3, sB4, sB5, sB6, sB7, sB8] at c0
  refine GC.seq (GC.region ?_)
  refine G.q Gd.no (Qt.mv rfl) rfl ?_
  refine G.q Gd.no (Qt.nilc rfl) rfl ?_
  refine G.q Gd.no (Qt.fa0 fl81_4 rfl) rfl ?_
  refine G.q Gd.no (Qt.ldc a3 rfl (by first | exact Rdc.o rfl | exact Rdc.o (nth_vIs (by omega)) | exact Rdc.o (nth_vI (by omega)))) rfl ?_
  refine G.q Gd.no (Qt.sub rfl rfl (by first | exact i64_id (by omega) (by omega) | exact rfl)) rfl ?_
  refine G.q Gd.no (Qt.nilc rfl) rfl ?_
  refine G.q Gd.no (Qt.fa0 fl81_4 rfl) rfl ?_
  refine G.ld Gd.no (Ld.stc z3 rfl rfl rfl (Stc.o SetAt.k4) ?_)
  refine G.nil (GK.then (GC.region ?_))
  refine G.q Gd.no (Qt.mv rfl) rfl ?_
  refine G.q Gd.no (Qt.mv rfl) rfl ?_
  refine G.q Gd.no (Qt.nilc rfl) rfl ?_
  refine G.q Gd.no (Qt.fa0 fl81_4 rfl) rfl ?_
  refine G.q Gd.no (Qt.ldc a3 rfl (by first | exact Rdc.o rfl | exact Rdc.o (nth_vIs (by omega)) | exact Rdc.o (nth_vI (by omega)))) rfl ?_
  refine G.q Gd.no (Qt.eqI rfl rfl) rfl ?_
  refine G.q Gd.no (Qt.nilc rfl) rfl ?_
  refine G.q Gd.no (Qt.fa0 fl81_6 rfl) rfl ?_
  refine G.ld Gd.no (Ld.stc z4 rfl rfl rfl (Stc.o SetAt.k6) ?_)
  refine G.nil (GK.then (GC.seq (GC.region ?_)))
  refine G.q Gd.no (Qt.mv rfl) rfl ?_
  refine G.q Gd.no (Qt.nilc rfl) rfl ?_
  refine G.q Gd.no (Qt.fa0 fl81_6 rfl) rfl ?_
  refine G.q Gd.no (Qt.ldc a4 rfl (by first | exact Rdc.o rfl | exact Rdc.o (nth_vIs (by omega)) | exact Rdc.o (nth_vI (by omega)))) rfl ?_
  refine G.q Gd.no (Qt.asg rfl) rfl ?_
  refine G.nil (GK.then (GC.ret ?_))
  have e : D.step = { D with steps := IntKind.i64.wrap (D.steps + 1), left := D.left - 1, down := decide (D.left - 1 = 0) } := by unfold Dev.step; rw [if_pos c0]
  rw [e]
  refine GK.ret (rs := [.tmp 2]) rfl (.tmp rfl .nil) () ?_ ?_ (Tks.c (.nil _))
  ·trivial
  ·rfl
 ·try simp only [sB0, sB1, sB2, sB3, sB4, sB5, sB6, sB7, sB8] at c0
  refine GC.skip (GK.then (GC.seq (GC.region ?_)))
  refine G.q Gd.no (Qt.mv rfl) rfl ?_
  refine G.q Gd.no (Qt.nilc rfl) rfl ?_
  refine G.q Gd.no (Qt.fa0 fl81_6 rfl) rfl ?_
  refine G.q Gd.no (Qt.ldc a4 rfl (by first | exact Rdc.o rfl | exact Rdc.o (nth_vIs (by omega)) | exact Rdc.o (nth_vI (by omega)))) rfl ?_
  refine G.q Gd.no (Qt.asg rfl) rfl ?_
  refine G.nil (GK.then (GC.ret ?_))
  have e : D.step = { D with steps := IntKind.i64.wrap (D.steps + 1) } := by unfold Dev.step; rw [if_neg c0]
  rw [e]
  refine GK.ret (rs := [.tmp 2]) rfl (.tmp rfl .nil) () ?_ ?_ (Tks.c (.nil _))
  ·trivial
  ·rfl
theorem down_ct (F : Fr) (b bb bw cb cw : Nat) (D : Dev) (hb : F.h b = some (Blk.cells (devC D bb bw cb cw) 81).toObj) :
    Ct Try.prog F 69 [.pointer (some ⟨b, 0, none⟩)] [] (S := Unit) (fun _ => True) (fun _ => .bool D.down) (fun _ => []) := by
 refine Ct.of 7 [(0, _)] Try.func69 rfl rfl rfl rfl ?_
 refine GC.seq (GC.region ?_)
 refine G.q Gd.no (Qt.asg rfl) rfl ?_
 refine G.nil (GK.then (GC.seq (GC.region ?_)))
 refine G.q Gd.no (Qt.mv rfl) rfl ?_
 refine G.q Gd.no (Qt.nilc rfl) rfl ?_
 refine G.q Gd.no (Qt.fa0 fl81_6 rfl) rfl ?_
 refine G.q Gd.no (Qt.ldc a4 rfl (by first | exact Rdc.o rfl | exact Rdc.o (nth_vIs (by omega)) | exact Rdc.o (nth_vI (by omega)) | exact Rdc.f hb rfl)) rfl ?_
 refine G.q Gd.no (Qt.asg rfl) rfl ?_
 refine G.nil (GK.then (GC.ret ?_))
 refine GK.ret (rs := [.tmp 2]) rfl (.tmp rfl .nil) () ?_ ?_ (.nil _)
 ·trivial
 ·rfl
theorem size_ct (F : Fr) (b bb bw cb cw : Nat) (D : Dev) (hb : F.h b = some (Blk.cells (devC D bb bw cb cw) 81).toObj) :
    Ct Try.prog F 44 [.pointer (some ⟨b, 0, none⟩)] [] (S := Unit) (fun _ => True) (fun _ => .int .i64 D.size) (fun _ => []) := by
 refine Ct.of 7 [(0, _)] Try.func44 rfl rfl rfl rfl ?_
 refine GC.seq (GC.region ?_)
 refine G.q Gd.no (Qt.asg rfl) rfl ?_
 refine G.nil (GK.then (GC.seq (GC.region ?_)))
 refine G.q Gd.no (Qt.mv rfl) rfl ?_
 refine G.q Gd.no (Qt.nilc rfl) rfl ?_
 refine G.q Gd.no (Qt.fa0 fl81_0 rfl) rfl ?_
 refine G.q Gd.no (Qt.ldc a3 rfl (by first | exact Rdc.o rfl | exact Rdc.o (nth_vIs (by omega)) | exact Rdc.o (nth_vI (by omega)) | exact Rdc.f hb rfl)) rfl ?_
 refine G.q Gd.no (Qt.asg rfl) rfl ?_
 refine G.nil (GK.then (GC.ret ?_))
 refine GK.ret (rs := [.tmp 2]) rfl (.tmp rfl .nil) () ?_ ?_ (.nil _)
 ·trivial
 ·rfl
theorem sectors_ct (F : Fr) (b bb bw cb cw : Nat) (D : Dev) (hb : F.h b = some (Blk.cells (devC D bb bw cb cw) 81).toObj) :
    Ct Try.prog F 48 [.pointer (some ⟨b, 0, none⟩)] [] (S := Unit) (fun _ => True) (fun _ => .int .i64 D.nw) (fun _ => []) := by
 refine Ct.of 8 [(0, _)] Try.func48 rfl rfl rfl rfl ?_
 refine GC.seq (GC.region ?_)
 refine G.q Gd.no (Qt.asg rfl) rfl ?_
 refine G.nil (GK.then (GC.seq (GC.region ?_)))
 refine G.q Gd.no (Qt.mv rfl) rfl ?_
 refine G.q Gd.no (Qt.nilc rfl) rfl ?_
 refine G.q Gd.no (Qt.fa0 fl81_2 rfl) rfl ?_
 refine G.q Gd.no (Qt.ldc a22 rfl (by first | exact Rdc.o rfl | exact Rdc.o (nth_vIs (by omega)) | exact Rdc.o (nth_vI (by omega)) | exact Rdc.f hb rfl)) rfl ?_
 refine G.q Gd.no (Qt.lenS (rt := 0) Try.underlying22 rfl) rfl ?_
 refine G.q Gd.no (Qt.asg rfl) rfl ?_
 refine G.nil (GK.then (GC.ret ?_))
 refine GK.ret (rs := [.tmp 2]) rfl (.tmp rfl .nil) () ?_ ?_ (.nil _)
 ·trivial
 ·rfl
theorem restore_ct (F : Fr) (b bb bw cb cw : Nat) (D : Dev) :
    Ct Try.prog F 16 [.pointer (some ⟨b, 0, none⟩)] [(some b, .cells (devC D bb bw cb cw) 81)] (S := Unit) (fun _ => True) (fun _ => .tuple #[]) (fun _ => [(some b, .cells (devC D.restore bb bw cb cw) 81)]) := by
 refine Ct.of 8 [(0, _)] Try.func16 rfl rfl rfl rfl ?_
 refine GC.region ?_
 refine G.q Gd.no (Qt.mv rfl) rfl ?_
 refine G.q Gd.no (Qt.mv rfl) rfl ?_
 refine G.q Gd.no (Qt.nilc rfl) rfl ?_
 refine G.q Gd.no (Qt.fa0 fl81_6 rfl) rfl ?_
 refine G.ld Gd.no (Ld.stc z4 rfl rfl rfl (Stc.o SetAt.k6) ?_)
 refine G.q Gd.no (Qt.nilc rfl) rfl ?_
 refine G.q Gd.no (Qt.fa0 fl81_4 rfl) rfl ?_
 refine G.ld Gd.no (Ld.stc z3 rfl rfl rfl (Stc.o SetAt.k4) ?_)
 refine G.nil ?_
 refine GK.retn rfl () ?_ ?_ (Tks.c (.nil _))
 ·trivial
 ·rfl
theorem arm_ct (F : Fr) (b bb bw cb cw : Nat) (D : Dev) (n t : Int) :
    Ct Try.prog F 14 [.pointer (some ⟨b, 0, none⟩), .int .i64 n, .int .u8 t] [(some b, .cells (devC D bb bw cb cw) 81)] (S := Unit) (fun _ => True) (fun _ => .tuple #[]) (fun _ => [(some b, .cells (devC (D.arm n t) bb bw cb cw) 81)]) := by
 refine Ct.of 20 [(0, _), (1, _), (2, _)] Try.func14 rfl rfl rfl rfl ?_
 refine GC.seq (GC.region ?_)
 refine G.q Gd.no (Qt.mv rfl) rfl ?_
 refine G.q Gd.no (Qt.nilc rfl) rfl ?_
 refine G.q Gd.no (Qt.fa0 fl81_6 rfl) rfl ?_
 refine G.q Gd.no (Qt.ldc a4 rfl (by first | exact Rdc.o rfl | exact Rdc.o (nth_vIs (by omega)) | exact Rdc.o (nth_vI (by omega)))) rfl ?_
 refine G.q Gd.no (Qt.not rfl) rfl ?_
 refine G.nil (GK.then ?_)
 refine GC.condb rfl (fun c0 => ?_) (fun c0 => ?_)
 ·try simp only [sB0, sB1, sB2, sB3, sB4, sB5, sB6, sB7, sB8] at c0
  refine GC.region ?_
  refine G.q Gd.no (Qt.mv rfl) rfl ?_
  refine G.q Gd.no (Qt.mv rfl) rfl ?_
  refine G.q Gd.no (Qt.mv rfl) rfl ?_
  refine G.q Gd.no (Qt.max2 rfl rfl) rfl ?_
  refine G.q Gd.no (Qt.mv rfl) rfl ?_
  refine G.q Gd.no (Qt.nilc rfl) rfl ?_
  refine G.q Gd.no (Qt.fa0 fl81_4 rfl) rfl ?_
  refine G.ld Gd.no (Ld.stc z3 rfl rfl rfl (Stc.o SetAt.k4) ?_)
  refine G.q Gd.no (Qt.nilc rfl) rfl ?_
  refine G.q Gd.no (Qt.fa0 fl81_5 rfl) rfl ?_
  refine G.ld Gd.no (Ld.stc z5 rfl rfl rfl (Stc.o SetAt.k5) ?_)
  refine G.nil ?_
  have e : D.arm n t = { D with left := max n 0, torn := t } := by unfold Dev.arm; rw [c0]; rfl
  rw [e]
  refine GK.retn rfl () ?_ ?_ (Tks.c (.nil _))
  ·trivial
  ·rfl
 ·try simp only [sB0, sB1, sB2, sB3, sB4, sB5, sB6, sB7, sB8] at c0
  refine GC.skip ?_
  have e : D.arm n t = D := by unfold Dev.arm; rw [c0]; rfl
  rw [e]
  refine GK.retn rfl () ?_ ?_ (Tks.c (.nil _))
  ·trivial
  ·rfl
theorem program_ct (F : Fr) (b bb bw cb cw : Nat) (sb : List Value) (D : Dev) (ok : D.Ok) (at_ : Int) (A : Option Addr) (c : Nat) (xs : List Int) (hA : VwF F A (vI .u8 xs)) (hx : xs.length ≤ 1099511627776) :
    Ct Try.prog F 23 [.pointer (some ⟨b, 0, none⟩), .int .i64 at_, .slice A xs.length c] [(some b, .cells (devC D bb bw cb cw) 81), (some bb, .cells (vI .u8 D.bytes ++ sb) 5)] (S := Unit) (fun _ => True) (fun _ => .int .i64 (D.program at_ xs).2) (fun _ => [(some b, .cells (devC (D.program at_ xs).1 bb bw cb cw) 81), (some bb, .cells (vI .u8 (D.program at_ xs).1.bytes ++ sb) 5)]) := by
 have hl := ok.len
 refine Ct.of 60 [(0, _), (1, _), (2, _)] Try.func23 rfl rfl rfl rfl ?_
 refine GC.seq (GC.region ?_)
 refine G.q Gd.no (Qt.asg rfl) rfl ?_
 refine G.nil (GK.then (GC.seq (GC.block (GC.seq (GC.region ?_)))))
 refine G.q Gd.no (Qt.mv rfl) rfl ?_
 refine G.q Gd.no (Qt.nilc rfl) rfl ?_
 refine G.q Gd.no (Qt.fa0 fl81_6 rfl) rfl ?_
 refine G.q Gd.no (Qt.ldc a4 rfl (by first | exact Rdc.o rfl | exact Rdc.o (nth_vIs (by omega)) | exact Rdc.o (nth_vI (by omega)))) rfl ?_
 refine G.q Gd.no (Qt.asg rfl) rfl ?_
 refine G.nil (GK.then ?_)
 refine GC.condb rfl (fun c0 => ?_) (fun c0 => ?_)
 ·try simp only [sB0, sB1, sB2, sB3, sB4, sB5, sB6, sB7, sB8] at c0
  refine GC.seq (GC.region ?_)
  refine G.q Gd.no (Qt.asg rfl) rfl ?_
  refine G.nil (GK.then (GC.ret (GK.blockr (GK.thenr ?_))))
  have e : D.program at_ xs = (D, 10) := by unfold Dev.program; rw [if_pos c0]
  rw [e]
  refine GK.ret (rs := [.tmp 6]) rfl (.tmp rfl .nil) () ?_ ?_ (Tks.c (Tks.c (.nil _)))
  ·trivial
  ·rfl
 ·try simp only [sB0, sB1, sB2, sB3, sB4, sB5, sB6, sB7, sB8] at c0
  refine GC.seq (GC.region ?_)
  refine G.q Gd.no (Qt.mv rfl) rfl ?_
  refine G.q Gd.no (Qt.mv rfl) rfl ?_
  refine G.q Gd.no (Qt.mv rfl) rfl ?_
  refine G.q Gd.no (Qt.lenS (rt := 0) Try.underlying53 rfl) rfl ?_
  refine G.ld Gd.no (Ld.call cal53 rfl rfl (.nil _) (fun F' hF => within_ct F' _ _ _ _ _ _ (by first | exact hF.own In.o) (by assumption) _ _) (fun _ _ => ?_))
  dsimp only [lCa, lNa]
  refine G.q Gd.no (Qt.not rfl) rfl ?_
  refine G.q Gd.no (Qt.asg rfl) rfl ?_
  refine G.nil (GK.then ?_)
  refine GC.condb rfl (fun c1 => ?_) (fun c1 => ?_)
  ·try simp only [sB0, sB1, sB2, sB3, sB4, sB5, sB6, sB7, sB8] at c1
   refine GC.seq (GC.region ?_)
   refine G.q Gd.no (Qt.asg rfl) rfl ?_
   refine G.nil (GK.then (GC.ret (GK.blockr (GK.thenr ?_))))
   have e : D.program at_ xs = (D, 2) := by unfold Dev.program; rw [if_neg (by simp [c0]), if_neg (by simp [c1])]
   rw [e]
   refine GK.ret (rs := [.tmp 6]) rfl (.tmp rfl .nil) () ?_ ?_ (Tks.c (Tks.c (.nil _)))
   ·trivial
   ·rfl
  ·try simp only [sB0, sB1, sB2, sB3, sB4, sB5, sB6, sB7, sB8] at c1
   refine GC.skip (GK.blockn (GK.then (GC.seq (GC.seq (GC.region ?_)))))
   refine G.q Gd.no (Qt.mv rfl) rfl ?_
   refine G.q Gd.no (Qt.lenS (rt := 0) Try.underlying53 rfl) rfl ?_
   refine G.q Gd.no (Qt.mv rfl) rfl ?_
   refine G.nil (GK.then (GC.block ?_))
   refine GC.loop (S := Int × Dev) (fun x => 0 ≤ x.1 ∧ x.1 ≤ xs.length ∧ x.2.Ok ∧ x.2.down = false ∧ x.2.n = D.n ∧ D.program at_ xs = x.2.progL (at_ + x.1).toNat (xs.drop x.1.toNat)) (fun x => ((xs.length : Int) - x.1).toNat)
    (fun x => [(0, .pointer (some ⟨b, 0, none⟩)), (1, .int .i64 at_), (2, .slice A xs.length c), (21, .slice A xs.length c), (22, .int .i64 xs.length), (23, .int .i64 x.1)]) (fun x => [(some b, .cells (devC x.2 bb bw cb cw) 81), (some bb, .cells (vI .u8 x.2.bytes ++ sb) 5)]) (0, D) ?_ ?_ ?_ ?_
   ·exact ⟨by simp, by simp, ok, c0, rfl, by unfold Dev.program; rw [if_neg (by simp [c0]), if_pos c1]; simp⟩
   ·exact ⟨rfl, rfl, rfl, rfl, rfl, rfl, trivial⟩
   ·exact ⟨_, (Tks.c (Tks.c (.nil _)))⟩
   intro x ⟨h0, h1, hok, hdn, hn, hpr⟩
   simp only [Dev.within, Bool.and_eq_true, decide_eq_true_eq] at c1
   obtain ⟨⟨⟨w1, w2⟩, w3⟩, w4⟩ := c1
   have hbl := hok.hn
   refine GC.seq (GC.region ?_)
   refine G.q Gd.no (Qt.lss rfl rfl) rfl ?_
   refine G.nil (GK.then (GC.seq ?_))
   refine GC.condb rfl (fun c2 => ?_) (fun c2 => ?_)
   ·try simp only [sB0, sB1, sB2, sB3, sB4, sB5, sB6, sB7, sB8] at c2
    have hlt : x.1.toNat < xs.length := by omega
    obtain ⟨ad, hAd⟩ := hA.some' (by rw [vI_length]; omega)
    subst hAd
    have hsb := x.2.step_bytes
    have hsn := x.2.step_n
    have hbl2 : x.2.step.bytes.length = x.2.n := by rw [hsb]; exact hbl
    refine GC.skip (GK.then (GC.seq (GC.block (GC.seq (GC.region ?_)))))
    refine G.q Gd.no (Qt.mv rfl) rfl ?_
    refine G.q Gd.no (Qt.ia1 Try.underlying53 z5 rfl rfl (by omega) (by omega) rfl) rfl ?_
    refine G.q Gd.no (Qt.ldF a5 rfl (hA.at' (nth_vI hlt))) rfl ?_
    refine G.q Gd.no (Qt.asg rfl) rfl ?_
    refine G.q Gd.no (Qt.asg rfl) rfl ?_
    refine G.nil (GK.then (GC.seq (GC.seq (GC.region ?_))))
    refine G.q Gd.no (Qt.mv rfl) rfl ?_
    refine G.ld Gd.no (Ld.call cal54 rfl rfl (Tks.c (.nil _)) (fun F' hF => step_ct F' _ _ _ _ _ _ (by assumption)) (fun _ _ => ?_))
    dsimp only [lCa, lNa]
    rw [← hsb]
    refine G.nil (GK.then ?_)
    refine GC.condb rfl (fun c3 => ?_) (fun c3 => ?_)
    ·try simp only [sB0, sB1, sB2, sB3, sB4, sB5, sB6, sB7, sB8] at c3
     refine GC.seq ?_
     refine GC.draw mixed _ (Held.k (Held.d Held.all)) ?_
     refine GT 0 1 rfl (by kernel_rfl) rfl rfl Gd.no (Qt.mv rfl) Held.c ?_
     refine GT 1 3 rfl (by kernel_rfl) rfl rfl Gd.no (Qt.nilc rfl) Held.c ?_
     refine GT 2 7 rfl (by kernel_rfl) rfl rfl Gd.no (Qt.fa0 fl81_1 rfl) Held.c ?_
     refine GT 3 15 rfl (by kernel_rfl) rfl rfl Gd.no (Qt.ldc a53 rfl (by first | exact Rdc.o rfl | exact Rdc.o (nth_vIs (by omega)) | exact Rdc.o (nth_vI (by omega)))) Held.c ?_
     refine GT 4 31 rfl (by kernel_rfl) rfl rfl Gd.no (Qt.mv rfl) Held.c ?_
     refine GT 5 63 rfl (by kernel_rfl) rfl rfl Gd.no (Qt.mv rfl) Held.c ?_
     refine GT 6 127 rfl (by kernel_rfl) rfl rfl Gd.no (Qt.add rfl rfl (by first | exact i64_id (by omega) (by omega) | exact rfl)) Held.c ?_
     refine GT 7 255 rfl (by kernel_rfl) rfl rfl Gd.no (Qt.iab01 Try.underlying53 z5 rfl rfl (by omega) (by omega) rfl) Held.c ?_
     refine GT 9 767 rfl (by kernel_rfl) rfl rfl Gd.no (Qt.mv rfl) Held.c ?_
     refine GT 10 1791 rfl (by kernel_rfl) rfl rfl Gd.no (Qt.mv rfl) Held.c ?_
     refine GT 11 3839 rfl (by kernel_rfl) rfl rfl Gd.no (Qt.nilc rfl) Held.c ?_
     refine GT 12 7935 rfl (by kernel_rfl) rfl rfl Gd.no (Qt.fa0 fl81_5 rfl) Held.c ?_
     refine GT 13 16127 rfl (by kernel_rfl) rfl rfl Gd.no (Qt.ldc a5 rfl (by first | exact Rdc.o rfl | exact Rdc.o (nth_vIs (by omega)) | exact Rdc.o (nth_vI (by omega)))) Held.c ?_
     refine GT 14 32511 rfl (by kernel_rfl) rfl rfl Gd.no (Qt.or rfl rfl) Held.c ?_
     refine GO 8 32767 (by kernel_rfl) rfl rfl Gd.no (Qt.ld (Qt.ldc a5 rfl (by first | exact Rdc.o rfl | exact Rdc.o (nth_vIs (by omega)) | exact Rdc.o (nth_vI (by omega)))) rfl ?_)
     refine ⟨Held.c, ?_⟩
     refine GT 15 65535 rfl (by kernel_rfl) rfl rfl Gd.no (Qt.and rfl rfl) Held.c ?_
     refine GT 16 131071 rfl (by kernel_rfl) rfl rfl Gd.no (Qt.iab01 Try.underlying53 z5 rfl rfl (by omega) (by omega) rfl) Held.c ?_
     refine GO 17 262143 (by kernel_rfl) rfl rfl Gd.no (Ld.stn z5 rfl rfl (by omega) ?_)
     refine ⟨Held.c, ?_⟩
     refine GH.done (by kernel_rfl) ?_
     refine GK.then (GC.seq (GC.region ?_))
     refine G.q Gd.no (Qt.asg rfl) rfl ?_
     refine G.nil (GK.then (GC.ret (GK.thenr (GK.blockr (GK.thenr (GK.thenr (GK.blockr ?_)))))))
     refine GK.thenr ?_
     have e : D.program at_ xs = (x.2.step.put (at_ + x.1).toNat (band .u8 (ix x.2.step.bytes (at_ + x.1).toNat) (bor .u8 (ix xs x.1.toNat) x.2.step.torn)), 10) := by rw [hpr, Dev.progL_cons hlt, if_pos c3]
     rw [e]
     refine GK.ret (rs := [.tmp 6]) rfl (.tmp rfl .nil) () ?_ ?_ (Tks.c (Tks.c (.nil _)))
     ·trivial
     ·rfl
    ·try simp only [sB0, sB1, sB2, sB3, sB4, sB5, sB6, sB7, sB8] at c3
     refine GC.skip (GK.then (GC.region ?_))
     refine G.q Gd.no (Qt.mv rfl) rfl ?_
     refine G.q Gd.no (Qt.nilc rfl) rfl ?_
     refine G.q Gd.no (Qt.fa0 fl81_1 rfl) rfl ?_
     refine G.q Gd.no (Qt.ldc a53 rfl (by first | exact Rdc.o rfl | exact Rdc.o (nth_vIs (by omega)) | exact Rdc.o (nth_vI (by omega)))) rfl ?_
     refine G.q Gd.no (Qt.mv rfl) rfl ?_
     refine G.q Gd.no (Qt.mv rfl) rfl ?_
     refine G.q Gd.no (Qt.add rfl rfl (by first | exact i64_id (by omega) (by omega) | exact rfl)) rfl ?_
     refine G.q Gd.no (Qt.iab01 Try.underlying53 z5 rfl rfl (by omega) (by omega) rfl) rfl ?_
     refine G.q Gd.no (Qt.ldc a5 rfl (by first | exact Rdc.o rfl | exact Rdc.o (nth_vIs (by omega)) | exact Rdc.o (nth_vI (by omega)))) rfl ?_
     refine G.q Gd.no (Qt.mv rfl) rfl ?_
     refine G.q Gd.no (Qt.and rfl rfl) rfl ?_
     refine G.q Gd.no (Qt.iab01 Try.underlying53 z5 rfl rfl (by omega) (by omega) rfl) rfl ?_
     refine G.ld Gd.no (Ld.stn z5 rfl rfl (by omega) ?_)
     refine G.nil (GK.blockn (GK.then (GC.region ?_)))
     refine G.q Gd.no (Qt.add rfl rfl (by first | exact i64_id (by omega) (by omega) | exact rfl)) rfl ?_
     refine G.q Gd.no (Qt.mv rfl) rfl ?_
     refine G.nil ?_
     refine GK.head (x.1 + 1, x.2.step.put (at_ + x.1).toNat (band .u8 (ix x.2.step.bytes (at_ + x.1).toNat) (ix xs x.1.toNat))) ?_ ?_ ?_ ?_
     ·simp only; omega
     ·exact ⟨by simp only; omega, by simp only; omega, Dev.put_ok (Dev.step_ok hok) _ _, by simpa [Dev.put] using c3, by simp [Dev.put, hsn, hn], by rw [hpr, Dev.progL_cons hlt, if_neg (by simp [c3])]; simp only; rw [show (at_ + (x.1 + 1)).toNat = (at_ + x.1).toNat + 1 by omega, show (x.1 + 1).toNat = x.1.toNat + 1 by omega]⟩
     ·exact ⟨rfl, rfl, rfl, rfl, rfl, rfl, trivial⟩
     ·exact ⟨_, (Tks.c (Tks.c (.nil _)))⟩
   ·try simp only [sB0, sB1, sB2, sB3, sB4, sB5, sB6, sB7, sB8] at c2
    refine GC.exit (GK.thene (GK.thene (GK.blocke (GK.then (GC.seq (GC.region ?_))))))
    refine G.q Gd.no (Qt.asg rfl) rfl ?_
    refine G.nil (GK.then (GC.ret ?_))
    have e : D.program at_ xs = (x.2, 0) := by rw [hpr, List.drop_of_length_le (by omega)]; rfl
    rw [e]
    refine GK.ret (rs := [.tmp 6]) rfl (.tmp rfl .nil) () ?_ ?_ (Tks.c (Tks.c (.nil _)))
    ·trivial
    ·rfl
theorem new_ct (F : Fr) (sectors size : Int) (h1 : 1 ≤ sectors) (h2 : sectors ≤ 16) (h3 : 64 ≤ size) (h4 : size ≤ 1024) :
    Ct Try.prog F 21 [.int .i64 sectors, .int .i64 size] [] (S := Nat × Nat × Nat) (fun _ => True) (fun x => .tuple #[.pointer (some ⟨x.1, 0, none⟩), .int .i64 0]) (fun x => [(some x.1, .cells (devC (Dev.new sectors size) x.2.1 x.2.2 (sectors * size).toNat sectors.toNat) 81), (some x.2.1, .cells (vI .u8 (Dev.new sectors size).bytes ++ []) 5), (some x.2.2, .cells (vI .i64 (Dev.new sectors size).wear ++ []) 3)]) := by
 have m1 : 1 * 64 ≤ sectors * size := Int.mul_le_mul h1 h3 (by omega) (by omega)
 have m2 : sectors * size ≤ 16 * 1024 := Int.mul_le_mul h2 h4 (by omega) (by omega)
 have hw : IntKind.i64.wrap (sectors * size) = sectors * size := i64_id (by omega) (by omega)
 refine Ct.of 30 [(0, _), (1, _)] Try.func21 rfl rfl rfl rfl ?_
 refine GC.seq (GC.region ?_)
 refine G.q Gd.no (Qt.asg rfl) rfl ?_
 refine G.q Gd.no (Qt.asg rfl) rfl ?_
 refine G.nil (GK.then (GC.seq (GC.seq (GC.region ?_))))
 refine G.q Gd.no (Qt.mv rfl) rfl ?_
 refine G.q Gd.no (Qt.lss rfl rfl) rfl ?_
 refine G.q Gd.no (Qt.mv rfl) rfl ?_
 apply G.orb (seg := [_, _])
 exact rfl
 exact rfl
 exact rfl
 exact Gd.no
 exact rfl
 exact rfl
 ·intro g3; try simp only [sB0, sB1, sB2, sB3, sB4, sB5, sB6, sB7, sB8] at g3
  refine G.q (Gd.yes rfl rfl) (Qt.mv rfl) rfl ?_
  refine G.q (Gd.yes rfl rfl) (Qt.gtr rfl rfl) rfl ?_
  refine G.nil (GK.seg (n := [_, _]) rfl rfl rfl (by first | exact Tks.all _ | exact Tks.skip (Tks.all _) | exact Tks.skip (Tks.skip (Tks.all _)) | exact Tks.skip (Tks.skip (Tks.skip (Tks.all _)))))
 refine G.q Gd.no (Qt.mv rfl) rfl ?_
 apply G.orb (seg := [_, _])
 exact rfl
 exact rfl
 exact rfl
 exact Gd.no
 exact rfl
 exact rfl
 ·intro g7; try simp only [sB0, sB1, sB2, sB3, sB4, sB5, sB6, sB7, sB8] at g7
  refine G.q (Gd.yes rfl rfl) (Qt.mv rfl) rfl ?_
  refine G.q (Gd.yes rfl rfl) (Qt.lss rfl rfl) rfl ?_
  refine G.nil (GK.seg (n := [_, _]) rfl rfl rfl (by first | exact Tks.all _ | exact Tks.skip (Tks.all _) | exact Tks.skip (Tks.skip (Tks.all _)) | exact Tks.skip (Tks.skip (Tks.skip (Tks.all _)))))
 refine G.q Gd.no (Qt.mv rfl) rfl ?_
 apply G.orb (seg := [_, _])
 exact rfl
 exact rfl
 exact rfl
 exact Gd.no
 exact rfl
 exact rfl
 ·intro g11; try simp only [sB0, sB1, sB2, sB3, sB4, sB5, sB6, sB7, sB8] at g11
  refine G.q (Gd.yes rfl rfl) (Qt.mv rfl) rfl ?_
  refine G.q (Gd.yes rfl rfl) (Qt.gtr rfl rfl) rfl ?_
  refine G.nil (GK.seg (n := [_, _]) rfl rfl rfl (by first | exact Tks.all _ | exact Tks.skip (Tks.all _) | exact Tks.skip (Tks.skip (Tks.all _)) | exact Tks.skip (Tks.skip (Tks.skip (Tks.all _)))))
 refine G.nil (GK.then ?_)
 refine GC.condb rfl (fun c0 => ?_) (fun c0 => ?_)
 ·try simp only [sB0, sB1, sB2, sB3, sB4, sB5, sB6, sB7, sB8] at c0
  omega
 ·try simp only [sB0, sB1, sB2, sB3, sB4, sB5, sB6, sB7, sB8] at c0
  refine GC.skip (GK.then (GC.seq ?_))
  refine GC.draw mixed _ Held.none ?_
  refine GT 0 1 rfl (by kernel_rfl) rfl rfl Gd.no (Qt.mv rfl) Held.none ?_
  refine GT 2 5 rfl (by kernel_rfl) rfl rfl Gd.no (Qt.mv rfl) Held.none ?_
  refine GT 3 13 rfl (by kernel_rfl) rfl rfl Gd.no (Qt.mv rfl) Held.none ?_
  refine GT 4 29 rfl (by kernel_rfl) rfl rfl Gd.no (Qt.mul rfl rfl (by exact hw)) Held.none ?_
  refine GT 6 93 rfl (by kernel_rfl) rfl rfl Gd.no (Qt.mv rfl) Held.none ?_
  refine GH.two (i := 1) (j := 7) (by kernel_rfl) rfl rfl  (rfl : _ = 95) (rfl : _ = 221) Gd.no Gd.no (Ld.bsl (xs := [.const (.int .u8 255)]) rfl Try.underlying53 z5 ze5 rfl rfl rfl rfl rfl (by simp [Value.oneCell']) (fun b21 => ?_)) (Ld.mks Try.underlying22 z3 by3 ze3 rfl rfl rfl rfl (by omega) rfl (by omega) (by omega) (fun b27 => ?_))
  ·skip
   refine ⟨Held.none, ?_⟩
   refine GH.two (i := 5) (j := 7) (by kernel_rfl) rfl rfl  (rfl : _ = 127) (rfl : _ = 223) Gd.no Gd.no (Ld.call cal52 rfl rfl (.nil _) (fun F' hF => repeat_ct F' _ _ _ _ (by first | exact hF.own In.o) (by omega) (by omega)) (fun q _ => ?_)) (Ld.mks Try.underlying22 z3 by3 ze3 rfl rfl rfl rfl (by omega) rfl (by omega) (by omega) (fun b27 => ?_))
   ·skip
    dsimp only [lCa, lNa]
    refine ⟨Held.none, ?_⟩
    refine GO 7 255 (by kernel_rfl) rfl rfl Gd.no (Ld.mks Try.underlying22 z3 by3 ze3 rfl rfl rfl rfl (by omega) rfl (by omega) (by omega) (fun b27 => ?_))
    refine ⟨Held.none, ?_⟩
    rw [show List.replicate sectors.toNat (Value.int .i64 0) = vI .i64 (List.replicate sectors.toNat 0) from by simp [vI]]
    refine GT 8 511 rfl (by kernel_rfl) rfl rfl Gd.no (Qt.buildS Try.underlying81 pl81 ze81 (.cons rfl rfl (by first | exact Cl.one rfl | exact Cl.agg) rfl (SetM.cons SetAt.k0 (.nil _ _)) (.cons rfl rfl (by first | exact Cl.one rfl | exact Cl.agg) rfl (SetM.cons SetAt.k1 (.nil _ _)) (.cons rfl rfl (by first | exact Cl.one rfl | exact Cl.agg) rfl (SetM.cons SetAt.k2 (.nil _ _)) (.nil _))))) Held.none ?_
    refine GO 9 1023 (by kernel_rfl) rfl rfl Gd.no (Ld.box rfl rfl (by first | exact Cl.one rfl | exact Cl.agg) (fun b29 => ?_))
    refine ⟨Held.none, ?_⟩
    refine GT 10 2047 rfl (by kernel_rfl) rfl rfl Gd.no (Qt.asg rfl) Held.none ?_
    refine GT 11 4095 rfl (by kernel_rfl) rfl rfl Gd.no (Qt.asg rfl) Held.none ?_
    refine GH.done (by kernel_rfl) ?_
    refine GK.then (GC.ret ?_)
    rw [← List.append_nil (vI .u8 (List.replicate (sectors * size).toNat 255)), ← List.append_nil (vI .i64 (List.replicate sectors.toNat 0))]
    refine GK.ret (rs := [.tmp 4, .tmp 5]) rfl (.tmp rfl (.tmp rfl .nil)) (b29, q, b27) ?_ ?_ (Tks.c (Tks.c (Tks.c (.nil _))))
    ·trivial
    ·rfl
   ·skip
    refine ⟨Held.none, ?_⟩
    rw [show List.replicate sectors.toNat (Value.int .i64 0) = vI .i64 (List.replicate sectors.toNat 0) from by simp [vI]]
    refine GO 5 255 (by kernel_rfl) rfl rfl Gd.no (Ld.call cal52 rfl rfl (.nil _) (fun F' hF => repeat_ct F' _ _ _ _ (by first | exact hF.own In.o) (by omega) (by omega)) (fun q _ => ?_))
    dsimp only [lCa, lNa]
    refine ⟨Held.none, ?_⟩
    refine GT 8 511 rfl (by kernel_rfl) rfl rfl Gd.no (Qt.buildS Try.underlying81 pl81 ze81 (.cons rfl rfl (by first | exact Cl.one rfl | exact Cl.agg) rfl (SetM.cons SetAt.k0 (.nil _ _)) (.cons rfl rfl (by first | exact Cl.one rfl | exact Cl.agg) rfl (SetM.cons SetAt.k1 (.nil _ _)) (.cons rfl rfl (by first | exact Cl.one rfl | exact Cl.agg) rfl (SetM.cons SetAt.k2 (.nil _ _)) (.nil _))))) Held.none ?_
    refine GO 9 1023 (by kernel_rfl) rfl rfl Gd.no (Ld.box rfl rfl (by first | exact Cl.one rfl | exact Cl.agg) (fun b29 => ?_))
    refine ⟨Held.none, ?_⟩
    refine GT 10 2047 rfl (by kernel_rfl) rfl rfl Gd.no (Qt.asg rfl) Held.none ?_
    refine GT 11 4095 rfl (by kernel_rfl) rfl rfl Gd.no (Qt.asg rfl) Held.none ?_
    refine GH.done (by kernel_rfl) ?_
    refine GK.then (GC.ret ?_)
    rw [← List.append_nil (vI .u8 (List.replicate (sectors * size).toNat 255)), ← List.append_nil (vI .i64 (List.replicate sectors.toNat 0))]
    refine GK.ret (rs := [.tmp 4, .tmp 5]) rfl (.tmp rfl (.tmp rfl .nil)) (b29, q, b27) ?_ ?_ (Tks.c (Tks.c (Tks.c (.nil _))))
    ·trivial
    ·rfl
  ·skip
   refine ⟨Held.none, ?_⟩
   rw [show List.replicate sectors.toNat (Value.int .i64 0) = vI .i64 (List.replicate sectors.toNat 0) from by simp [vI]]
   refine GO 1 223 (by kernel_rfl) rfl rfl Gd.no (Ld.bsl (xs := [.const (.int .u8 255)]) rfl Try.underlying53 z5 ze5 rfl rfl rfl rfl rfl (by simp [Value.oneCell']) (fun b21 => ?_))
   refine ⟨Held.none, ?_⟩
   refine GO 5 255 (by kernel_rfl) rfl rfl Gd.no (Ld.call cal52 rfl rfl (.nil _) (fun F' hF => repeat_ct F' _ _ _ _ (by first | exact hF.own In.o) (by omega) (by omega)) (fun q _ => ?_))
   dsimp only [lCa, lNa]
   refine ⟨Held.none, ?_⟩
   refine GT 8 511 rfl (by kernel_rfl) rfl rfl Gd.no (Qt.buildS Try.underlying81 pl81 ze81 (.cons rfl rfl (by first | exact Cl.one rfl | exact Cl.agg) rfl (SetM.cons SetAt.k0 (.nil _ _)) (.cons rfl rfl (by first | exact Cl.one rfl | exact Cl.agg) rfl (SetM.cons SetAt.k1 (.nil _ _)) (.cons rfl rfl (by first | exact Cl.one rfl | exact Cl.agg) rfl (SetM.cons SetAt.k2 (.nil _ _)) (.nil _))))) Held.none ?_
   refine GO 9 1023 (by kernel_rfl) rfl rfl Gd.no (Ld.box rfl rfl (by first | exact Cl.one rfl | exact Cl.agg) (fun b29 => ?_))
   refine ⟨Held.none, ?_⟩
   refine GT 10 2047 rfl (by kernel_rfl) rfl rfl Gd.no (Qt.asg rfl) Held.none ?_
   refine GT 11 4095 rfl (by kernel_rfl) rfl rfl Gd.no (Qt.asg rfl) Held.none ?_
   refine GH.done (by kernel_rfl) ?_
   refine GK.then (GC.ret ?_)
   rw [← List.append_nil (vI .u8 (List.replicate (sectors * size).toNat 255)), ← List.append_nil (vI .i64 (List.replicate sectors.toNat 0))]
   refine GK.ret (rs := [.tmp 4, .tmp 5]) rfl (.tmp rfl (.tmp rfl .nil)) (b29, q, b27) ?_ ?_ (Tks.c (Tks.c (Tks.c (.nil _))))
   ·trivial
   ·rfl
theorem read_ct (F : Fr) (b bb bw cb cw : Nat) (sb : List Value) (D : Dev) (hb : F.h b = some (Blk.cells (devC D bb bw cb cw) 81).toObj) (hbb : F.h bb = some (Blk.cells (vI .u8 D.bytes ++ sb) 5).toObj) (ok : D.Ok) (hcb : D.n ≤ cb) (at_ n : Int) (hd : D.down = false) (h0 : 0 ≤ at_) (h1 : 0 < n) (h2 : at_ + n ≤ D.n) :
    Ct Try.prog F 49 [.pointer (some ⟨b, 0, none⟩), .int .i64 at_, .int .i64 n] [] (S := Nat × List Value) (fun _ => True) (fun x => .tuple #[.slice (some ⟨x.1, 0, none⟩) n.toNat (n.toNat + x.2.length), .int .i64 0]) (fun x => [(some x.1, .cells (vI .u8 ((D.bytes.drop at_.toNat).take n.toNat) ++ x.2) 5)]) := by
 have hl := ok.len
 have hbl := ok.hn
 have hlen : ((D.bytes.drop at_.toNat).take n.toNat).length = n.toNat := by rw [List.length_take, List.length_drop]; omega
 have hvw : VwF F (some ⟨bb, 0 + at_.toNat, none⟩) (vI .u8 ((D.bytes.drop at_.toNat).take n.toNat)) := by have := ((VwF.ofPre hbb).drop (n := at_.toNat)).take (n := n.toNat); simpa [vI, List.map_drop, List.map_take] using this
 refine Ct.of 29 [(0, _), (1, _), (2, _)] Try.func49 rfl rfl rfl rfl ?_
 refine GC.seq (GC.region ?_)
 refine G.q Gd.no (Qt.asg rfl) rfl ?_
 refine G.q Gd.no (Qt.asg rfl) rfl ?_
 refine G.nil (GK.then (GC.seq (GC.block (GC.seq (GC.region ?_)))))
 refine G.q Gd.no (Qt.mv rfl) rfl ?_
 refine G.q Gd.no (Qt.nilc rfl) rfl ?_
 refine G.q Gd.no (Qt.fa0 fl81_6 rfl) rfl ?_
 refine G.q Gd.no (Qt.ldc a4 rfl (by first | exact Rdc.o rfl | exact Rdc.o (nth_vIs (by omega)) | exact Rdc.o (nth_vI (by omega)) | exact Rdc.f hb rfl)) rfl ?_
 refine G.q Gd.no (Qt.asg rfl) rfl ?_
 refine G.nil (GK.then ?_)
 refine GC.condb rfl (fun c0 => ?_) (fun c0 => ?_)
 ·try simp only [sB0, sB1, sB2, sB3, sB4, sB5, sB6, sB7, sB8] at c0
  exact absurd hd (by simp [c0])
 ·try simp only [sB0, sB1, sB2, sB3, sB4, sB5, sB6, sB7, sB8] at c0
  refine GC.seq (GC.region ?_)
  refine G.q Gd.no (Qt.mv rfl) rfl ?_
  refine G.q Gd.no (Qt.mv rfl) rfl ?_
  refine G.q Gd.no (Qt.mv rfl) rfl ?_
  refine G.ld Gd.no (Ld.call cal53 rfl rfl (.nil _) (fun F' hF => within_ct F' _ _ _ _ _ _ (by first | exact hF.own In.o | exact hF.fr hb) (by assumption) _ _) (fun _ _ => ?_))
  dsimp only [lCa, lNa]
  refine G.q Gd.no (Qt.not rfl) rfl ?_
  refine G.q Gd.no (Qt.asg rfl) rfl ?_
  refine G.nil (GK.then ?_)
  refine GC.condb rfl (fun c1 => ?_) (fun c1 => ?_)
  ·try simp only [sB0, sB1, sB2, sB3, sB4, sB5, sB6, sB7, sB8] at c1
   (simp only [Dev.within, Bool.and_eq_false_iff, decide_eq_false_iff_not] at c1; omega)
  ·try simp only [sB0, sB1, sB2, sB3, sB4, sB5, sB6, sB7, sB8] at c1
   refine GC.skip (GK.blockn (GK.then (GC.seq (GC.region ?_))))
   refine G.q Gd.no (Qt.mv rfl) rfl ?_
   refine G.q Gd.no (Qt.nilc rfl) rfl ?_
   refine G.q Gd.no (Qt.fa0 fl81_1 rfl) rfl ?_
   refine G.q Gd.no (Qt.ldc a53 rfl (by first | exact Rdc.o rfl | exact Rdc.o (nth_vIs (by omega)) | exact Rdc.o (nth_vI (by omega)) | exact Rdc.f hb rfl)) rfl ?_
   refine G.q Gd.no (Qt.mv rfl) rfl ?_
   refine G.q Gd.no (Qt.mv rfl) rfl ?_
   refine G.q Gd.no (Qt.mv rfl) rfl ?_
   refine G.q Gd.no (Qt.add rfl rfl (by first | exact i64_id (by omega) (by omega) | exact rfl)) rfl ?_
   refine G.q Gd.no (Qt.sl Try.underlying53 z5 rfl rfl rfl (by omega) (by omega) (by omega) rfl rfl) rfl ?_
   rw [slAt_some (by omega), Nat.mul_one, show (at_ + n).toNat - at_.toNat = ((D.bytes.drop at_.toNat).take n.toNat).length by rw [hlen]; omega]
   refine G.ld Gd.no (Ld.call cal73 rfl rfl (.nil _) (fun F' hF => cloneB_ct F' _ _ _ (hvw.mono hF) (by rw [hlen]; omega) (by simp)) (fun ⟨q1, q2⟩ _ => ?_))
   dsimp only [lCa, lNa]
   rw [hlen]
   refine G.q Gd.no (Qt.asg rfl) rfl ?_
   refine G.q Gd.no (Qt.asg rfl) rfl ?_
   refine G.nil (GK.then (GC.ret ?_))
   refine GK.ret (rs := [.tmp 6, .tmp 7]) rfl (.tmp rfl (.tmp rfl .nil)) (q1, q2) ?_ ?_ (Tks.c (.nil _))
   ·trivial
   ·rfl
theorem erase_ct (F : Fr) (b bb bw cb cw : Nat) (sb sw : List Value) (D : Dev) (ok : D.Ok) (geo : D.Geo) (hcb : D.n ≤ cb) (s : Int) :
    Ct Try.prog F 90 [.pointer (some ⟨b, 0, none⟩), .int .i64 s] [(some b, .cells (devC D bb bw cb cw) 81), (some bb, .cells (vI .u8 D.bytes ++ sb) 5), (some bw, .cells (vI .i64 D.wear ++ sw) 3)] (S := Unit) (fun _ => True) (fun _ => .int .i64 (D.erase s).2) (fun _ => [(some b, .cells (devC (D.erase s).1 bb bw cb cw) 81), (some bb, .cells (vI .u8 (D.erase s).1.bytes ++ sb) 5), (some bw, .cells (vI .i64 (D.erase s).1.wear ++ sw) 3)]) := by
 have hl := ok.len
 have hbl := ok.hn
 have hwl := ok.hw
 have hwm := ok.wlen
 have z0 := geo.size0
 have z1 := geo.size1
 have z2 := geo.all
 refine Ct.of 74 [(0, _), (1, _)] Try.func90 rfl rfl rfl rfl ?_
 refine GC.seq (GC.region ?_)
 refine G.q Gd.no (Qt.asg rfl) rfl ?_
 refine G.nil (GK.then (GC.seq (GC.block (GC.seq (GC.region ?_)))))
 refine G.q Gd.no (Qt.mv rfl) rfl ?_
 refine G.q Gd.no (Qt.nilc rfl) rfl ?_
 refine G.q Gd.no (Qt.fa0 fl81_6 rfl) rfl ?_
 refine G.q Gd.no (Qt.ldc a4 rfl (by first | exact Rdc.o rfl | exact Rdc.o (nth_vIs (by omega)) | exact Rdc.o (nth_vI (by omega)))) rfl ?_
 refine G.q Gd.no (Qt.asg rfl) rfl ?_
 refine G.nil (GK.then ?_)
 refine GC.condb rfl (fun c0 => ?_) (fun c0 => ?_)
 ·try simp only [sB0, sB1, sB2, sB3, sB4, sB5, sB6, sB7, sB8] at c0
  refine GC.seq (GC.region ?_)
  refine G.q Gd.no (Qt.asg rfl) rfl ?_
  refine G.nil (GK.then (GC.ret (GK.blockr (GK.thenr ?_))))
  have e : D.erase s = (D, 10) := by unfold Dev.erase; rw [if_pos c0]
  rw [e]
  refine GK.ret (rs := [.tmp 4]) rfl (.tmp rfl .nil) () ?_ ?_ (Tks.c (Tks.c (Tks.c (.nil _))))
  ·trivial
  ·rfl
 ·try simp only [sB0, sB1, sB2, sB3, sB4, sB5, sB6, sB7, sB8] at c0
  refine GC.seq (GC.region ?_)
  refine G.q Gd.no (Qt.mv rfl) rfl ?_
  refine G.q Gd.no (Qt.lss rfl rfl) rfl ?_
  refine G.q Gd.no (Qt.mv rfl) rfl ?_
  apply G.orb (seg := [_, _, _, _, _, _, _])
  exact rfl
  exact rfl
  exact rfl
  exact Gd.no
  exact rfl
  exact rfl
  ·intro g3; try simp only [sB0, sB1, sB2, sB3, sB4, sB5, sB6, sB7, sB8] at g3
   refine G.q (Gd.yes rfl rfl) (Qt.mv rfl) rfl ?_
   refine G.q (Gd.yes rfl rfl) (Qt.mv rfl) rfl ?_
   refine G.q (Gd.yes rfl rfl) (Qt.nilc rfl) rfl ?_
   refine G.q (Gd.yes rfl rfl) (Qt.fa0 fl81_2 rfl) rfl ?_
   refine G.q (Gd.yes rfl rfl) (Qt.ldc a22 rfl (by first | exact Rdc.o rfl | exact Rdc.o (nth_vIs (by omega)) | exact Rdc.o (nth_vI (by omega)))) rfl ?_
   refine G.q (Gd.yes rfl rfl) (Qt.lenS (rt := 0) Try.underlying22 rfl) rfl ?_
   refine G.q (Gd.yes rfl rfl) (Qt.geq rfl rfl) rfl ?_
   refine G.nil (GK.seg (n := [_, _, _, _, _, _, _]) rfl rfl rfl (by first | exact Tks.all _ | exact Tks.skip (Tks.all _) | exact Tks.skip (Tks.skip (Tks.all _)) | exact Tks.skip (Tks.skip (Tks.skip (Tks.all _)))))
  refine G.q Gd.no (Qt.asg rfl) rfl ?_
  refine G.nil (GK.then ?_)
  refine GC.condb rfl (fun c1 => ?_) (fun c1 => ?_)
  ·try simp only [sB0, sB1, sB2, sB3, sB4, sB5, sB6, sB7, sB8] at c1
   refine GC.seq (GC.region ?_)
   refine G.q Gd.no (Qt.asg rfl) rfl ?_
   refine G.nil (GK.then (GC.ret (GK.blockr (GK.thenr ?_))))
   have e : D.erase s = (D, 2) := by unfold Dev.erase; rw [if_neg (by simp [c0]), if_pos c1]
   rw [e]
   refine GK.ret (rs := [.tmp 4]) rfl (.tmp rfl .nil) () ?_ ?_ (Tks.c (Tks.c (Tks.c (.nil _))))
   ·trivial
   ·rfl
  ·try simp only [sB0, sB1, sB2, sB3, sB4, sB5, sB6, sB7, sB8] at c1
   have s0 : 0 ≤ s * D.size := Int.mul_nonneg (by omega) (by omega)
   have s1 : (s + 1) * D.size ≤ D.nw * D.size := Int.mul_le_mul_of_nonneg_right (by omega) (by omega)
   have s2 : (s + 1) * D.size = s * D.size + D.size := by rw [Int.add_mul, Int.one_mul]
   have hm1 : IntKind.i64.wrap (s * (D.erase1 s).size) = s * D.size := by rw [D.erase1_size]; exact i64_id (by omega) (by omega)
   have hm2 : IntKind.i64.wrap ((s + 1) * (D.erase1 s).size) = (s + 1) * D.size := by rw [D.erase1_size]; exact i64_id (by omega) (by omega)
   obtain ⟨i, hi⟩ : ∃ i, (s * D.size).toNat = i := ⟨_, rfl⟩
   obtain ⟨j, hj⟩ : ∃ j, ((s + 1) * D.size).toNat = j := ⟨_, rfl⟩
   refine GC.skip (GK.blockn (GK.then (GC.seq (GC.region ?_))))
   refine G.q Gd.no (Qt.mv rfl) rfl ?_
   refine G.q Gd.no (Qt.nilc rfl) rfl ?_
   refine G.q Gd.no (Qt.fa0 fl81_2 rfl) rfl ?_
   refine G.q Gd.no (Qt.ldc a22 rfl (by first | exact Rdc.o rfl | exact Rdc.o (nth_vIs (by omega)) | exact Rdc.o (nth_vI (by omega)))) rfl ?_
   refine G.q Gd.no (Qt.mv rfl) rfl ?_
   refine G.q Gd.no (Qt.iab01 Try.underlying22 z3 rfl rfl (by omega) (by omega) rfl) rfl ?_
   refine G.q Gd.no (Qt.ldc a3 rfl (by first | exact Rdc.o rfl | exact Rdc.o (nth_vIs (by omega)) | exact Rdc.o (nth_vI (by omega)))) rfl ?_
   refine G.q Gd.no (Qt.add rfl rfl (by exact rfl)) rfl ?_
   refine G.q Gd.no (Qt.iab01 Try.underlying22 z3 rfl rfl (by omega) (by omega) rfl) rfl ?_
   refine G.ld Gd.no (Ld.stn z3 rfl rfl (by omega) ?_)
   refine G.nil (GK.then (GC.seq (GC.region ?_)))
   refine G.q Gd.no (Qt.mv rfl) rfl ?_
   refine G.ld Gd.no (Ld.call cal54 rfl rfl (Tks.c (.nil _)) (fun F' hF => step_ct F' _ _ _ _ _ { D with wear := D.wear.set s.toNat (IntKind.i64.wrap (ix D.wear s.toNat + 1)) } (Dev.set_ok ok _ _)) (fun _ _ => ?_))
   dsimp only [lCa, lNa]
   rw [show Dev.step { D with wear := D.wear.set s.toNat (IntKind.i64.wrap (ix D.wear s.toNat + 1)) } = D.erase1 s from rfl]
   refine G.q Gd.no (Qt.asg rfl) rfl ?_
   refine G.nil (GK.then (GC.seq (GC.region ?_)))
   refine G.q Gd.no (Qt.asg rfl) rfl ?_
   refine G.nil (GK.then (GC.seq (GC.seq (GC.region ?_))))
   refine G.q Gd.no (Qt.mv rfl) rfl ?_
   refine G.nil (GK.then ?_)
   refine GC.condb rfl (fun c2 => ?_) (fun c2 => ?_)
   ·try simp only [sB0, sB1, sB2, sB3, sB4, sB5, sB6, sB7, sB8] at c2
    refine GC.region ?_
    refine G.q Gd.no (Qt.mv rfl) rfl ?_
    refine G.q Gd.no (Qt.nilc rfl) rfl ?_
    refine G.q Gd.no (Qt.fa0 fl81_5 rfl) rfl ?_
    refine G.q Gd.no (Qt.ldc a5 rfl (by first | exact Rdc.o rfl | exact Rdc.o (nth_vIs (by omega)) | exact Rdc.o (nth_vI (by omega)))) rfl ?_
    refine G.q Gd.no (Qt.asg rfl) rfl ?_
    refine G.nil (GK.then (GC.seq ?_))
    refine GC.draw mixed _ Held.all ?_
    refine GT 0 1 rfl (by kernel_rfl) rfl rfl Gd.no (Qt.mv rfl) Held.c ?_
    refine GT 1 3 rfl (by kernel_rfl) rfl rfl Gd.no (Qt.nilc rfl) Held.c ?_
    refine GT 2 7 rfl (by kernel_rfl) rfl rfl Gd.no (Qt.fa0 fl81_1 rfl) Held.c ?_
    refine GT 3 15 rfl (by kernel_rfl) rfl rfl Gd.no (Qt.ldc a53 rfl (by first | exact Rdc.o rfl | exact Rdc.o (nth_vIs (by omega)) | exact Rdc.o (nth_vI (by omega)))) Held.c ?_
    refine GT 4 31 rfl (by kernel_rfl) rfl rfl Gd.no (Qt.mv rfl) Held.c ?_
    refine GT 5 63 rfl (by kernel_rfl) rfl rfl Gd.no (Qt.mv rfl) Held.c ?_
    refine GT 6 127 rfl (by kernel_rfl) rfl rfl Gd.no (Qt.nilc rfl) Held.c ?_
    refine GT 7 255 rfl (by kernel_rfl) rfl rfl Gd.no (Qt.fa0 fl81_0 rfl) Held.c ?_
    refine GT 8 511 rfl (by kernel_rfl) rfl rfl Gd.no (Qt.ldc a3 rfl (by first | exact Rdc.o rfl | exact Rdc.o (nth_vIs (by omega)) | exact Rdc.o (nth_vI (by omega)))) Held.c ?_
    refine GT 9 1023 rfl (by kernel_rfl) rfl rfl Gd.no (Qt.mul rfl rfl (by exact hm1)) Held.c ?_
    refine GT 10 2047 rfl (by kernel_rfl) rfl rfl Gd.no (Qt.mv rfl) Held.c ?_
    refine GT 11 4095 rfl (by kernel_rfl) rfl rfl Gd.no (Qt.add rfl rfl (by first | exact i64_id (by omega) (by omega) | exact rfl)) Held.c ?_
    refine GT 12 8191 rfl (by kernel_rfl) rfl rfl Gd.no (Qt.mv rfl) Held.c ?_
    refine GT 13 16383 rfl (by kernel_rfl) rfl rfl Gd.no (Qt.nilc rfl) Held.c ?_
    refine GT 14 32767 rfl (by kernel_rfl) rfl rfl Gd.no (Qt.fa0 fl81_0 rfl) Held.c ?_
    refine GT 15 65535 rfl (by kernel_rfl) rfl rfl Gd.no (Qt.ldc a3 rfl (by first | exact Rdc.o rfl | exact Rdc.o (nth_vIs (by omega)) | exact Rdc.o (nth_vI (by omega)))) Held.c ?_
    refine GT 16 131071 rfl (by kernel_rfl) rfl rfl Gd.no (Qt.mul rfl rfl (by exact hm2)) Held.c ?_
    refine GT 17 262143 rfl (by kernel_rfl) rfl rfl Gd.no (Qt.sl Try.underlying53 z5 rfl rfl rfl (by omega) (by omega) (by omega) hi hj) Held.c ?_
    rw [slAt_some (by omega), Nat.mul_one, Nat.zero_add]
    refine GT 18 524287 rfl (by kernel_rfl) rfl rfl Gd.no (Qt.asg rfl) Held.c ?_
    refine GH.done (by kernel_rfl) ?_
    refine GK.then (GC.seq (GC.seq (GC.region ?_)))
    refine G.q Gd.no (Qt.mv rfl) rfl ?_
    refine G.q Gd.no (Qt.lenS (rt := 0) Try.underlying53 rfl) rfl ?_
    refine G.q Gd.no (Qt.mv rfl) rfl ?_
    refine G.nil (GK.then (GC.block ?_))
    rw [show vI .u8 D.bytes = vI .u8 (orR D.bytes i (i + 0) ((D.erase1 s).torn)) by rw [Nat.add_zero, orR_self]]
    refine GC.loop (S := Nat) (fun x => x ≤ j - i) (fun x => j - i - x)
     (fun x => [(5, .bool (D.erase1 s).down), (6, .int .u8 ((D.erase1 s).torn)), (7, .slice (some ⟨bb, i, none⟩) (j - i) (cb - i)), (61, .int .i64 ((j - i : Nat) : Int)), (62, .int .i64 (x : Int))]) (fun x => [(some b, .cells (devC (D.erase1 s) bb bw cb cw) 81), (some bb, .cells (vI .u8 (orR D.bytes i (i + x) ((D.erase1 s).torn)) ++ sb) 5), (some bw, .cells (vI .i64 (D.wear.set s.toNat (IntKind.i64.wrap (ix D.wear s.toNat + 1))) ++ sw) 3)]) 0 ?_ ?_ ?_ ?_
    ·omega
    ·exact ⟨rfl, rfl, rfl, rfl, rfl, trivial⟩
    ·exact ⟨_, (Tks.c (Tks.c (Tks.c (.nil _))))⟩
    intro x hx
    have hol := orR_length D.bytes i (i + x) ((D.erase1 s).torn)
    refine GC.seq (GC.region ?_)
    refine G.q Gd.no (Qt.lss rfl rfl) rfl ?_
    refine G.nil (GK.then (GC.seq ?_))
    refine GC.condb rfl (fun c3 => ?_) (fun c3 => ?_)
    ·try simp only [sB0, sB1, sB2, sB3, sB4, sB5, sB6, sB7, sB8] at c3
     refine GC.skip (GK.then (GC.seq (GC.block (GC.seq (GC.region ?_)))))
     refine G.q Gd.no (Qt.mv rfl) rfl ?_
     refine G.q Gd.no (Qt.asg rfl) rfl ?_
     refine G.nil (GK.then (GC.region ?_))
     refine G.q Gd.no (Qt.mv rfl) rfl ?_
     refine G.q Gd.no (Qt.mv rfl) rfl ?_
     refine G.q Gd.no (Qt.iab1 Try.underlying53 z5 rfl rfl (by omega) (by omega) (rfl : ((x : Nat) : Int).toNat = x)) rfl ?_
     refine G.q Gd.no (Qt.ldc a5 rfl (by first | exact Rdc.o rfl | exact Rdc.o (nth_vIs (by omega)) | exact Rdc.o (nth_vI (by omega)))) rfl ?_
     refine G.q Gd.no (Qt.mv rfl) rfl ?_
     refine G.q Gd.no (Qt.or rfl rfl) rfl ?_
     refine G.q Gd.no (Qt.iab1 Try.underlying53 z5 rfl rfl (by omega) (by omega) (rfl : ((x : Nat) : Int).toNat = x)) rfl ?_
     refine G.ld Gd.no (Ld.stn z5 rfl rfl (by omega) ?_)
     refine G.nil (GK.blockn (GK.then (GC.region ?_)))
     refine G.q Gd.no (Qt.add rfl rfl (by first | exact i64_id (by omega) (by omega) | exact rfl)) rfl ?_
     refine G.q Gd.no (Qt.mv rfl) rfl ?_
     refine G.nil ?_
     simp only [Int.toNat_natCast]
     rw [orR_step D.bytes i (i + x) _ (by omega) (by omega)]
     refine GK.head (x + 1) ?_ ?_ ?_ ?_
     ·omega
     ·omega
     ·exact ⟨rfl, rfl, rfl, rfl, rfl, trivial⟩
     ·exact ⟨_, (Tks.c (Tks.c (Tks.c (.nil _))))⟩
    ·try simp only [sB0, sB1, sB2, sB3, sB4, sB5, sB6, sB7, sB8] at c3
     refine GC.exit (GK.thene (GK.thene (GK.blocke (GK.then (GC.seq (GC.seq (GC.region ?_)))))))
     refine G.q Gd.no (Qt.mv rfl) rfl ?_
     refine G.nil (GK.then ?_)
     refine GC.condb rfl (fun c4 => ?_) (fun c4 => ?_)
     ·try simp only [sB0, sB1, sB2, sB3, sB4, sB5, sB6, sB7, sB8] at c4
      refine GC.seq (GC.region ?_)
      refine G.q Gd.no (Qt.asg rfl) rfl ?_
      refine G.nil (GK.then (GC.ret (GK.thenr ?_)))
      obtain rfl : x = j - i := by omega
      have e : D.erase s = ({ D.erase1 s with bytes := orR D.bytes i j D.torn }, 10) := by unfold Dev.erase; rw [if_neg (by simp [c0]), if_neg (by omega), if_pos c2, hi, hj]
      rw [e, show i + (j - i) = j by omega, D.erase1_torn, ← D.erase1_wear]
      refine GK.ret (rs := [.tmp 4]) rfl (.tmp rfl .nil) () ?_ ?_ (Tks.c (Tks.c (Tks.c (.nil _))))
      ·trivial
      ·rfl
     ·try simp only [sB0, sB1, sB2, sB3, sB4, sB5, sB6, sB7, sB8] at c4
      exact absurd c2 (by simp [c4])
   ·try simp only [sB0, sB1, sB2, sB3, sB4, sB5, sB6, sB7, sB8] at c2
    refine GC.skip (GK.then (GC.seq ?_))
    refine GC.draw mixed _ Held.all ?_
    refine GT 0 1 rfl (by kernel_rfl) rfl rfl Gd.no (Qt.mv rfl) Held.c ?_
    refine GT 1 3 rfl (by kernel_rfl) rfl rfl Gd.no (Qt.nilc rfl) Held.c ?_
    refine GT 2 7 rfl (by kernel_rfl) rfl rfl Gd.no (Qt.fa0 fl81_1 rfl) Held.c ?_
    refine GT 3 15 rfl (by kernel_rfl) rfl rfl Gd.no (Qt.ldc a53 rfl (by first | exact Rdc.o rfl | exact Rdc.o (nth_vIs (by omega)) | exact Rdc.o (nth_vI (by omega)))) Held.c ?_
    refine GT 4 31 rfl (by kernel_rfl) rfl rfl Gd.no (Qt.mv rfl) Held.c ?_
    refine GT 5 63 rfl (by kernel_rfl) rfl rfl Gd.no (Qt.mv rfl) Held.c ?_
    refine GT 6 127 rfl (by kernel_rfl) rfl rfl Gd.no (Qt.nilc rfl) Held.c ?_
    refine GT 7 255 rfl (by kernel_rfl) rfl rfl Gd.no (Qt.fa0 fl81_0 rfl) Held.c ?_
    refine GT 8 511 rfl (by kernel_rfl) rfl rfl Gd.no (Qt.ldc a3 rfl (by first | exact Rdc.o rfl | exact Rdc.o (nth_vIs (by omega)) | exact Rdc.o (nth_vI (by omega)))) Held.c ?_
    refine GT 9 1023 rfl (by kernel_rfl) rfl rfl Gd.no (Qt.mul rfl rfl (by exact hm1)) Held.c ?_
    refine GT 10 2047 rfl (by kernel_rfl) rfl rfl Gd.no (Qt.mv rfl) Held.c ?_
    refine GT 11 4095 rfl (by kernel_rfl) rfl rfl Gd.no (Qt.add rfl rfl (by first | exact i64_id (by omega) (by omega) | exact rfl)) Held.c ?_
    refine GT 12 8191 rfl (by kernel_rfl) rfl rfl Gd.no (Qt.mv rfl) Held.c ?_
    refine GT 13 16383 rfl (by kernel_rfl) rfl rfl Gd.no (Qt.nilc rfl) Held.c ?_
    refine GT 14 32767 rfl (by kernel_rfl) rfl rfl Gd.no (Qt.fa0 fl81_0 rfl) Held.c ?_
    refine GT 15 65535 rfl (by kernel_rfl) rfl rfl Gd.no (Qt.ldc a3 rfl (by first | exact Rdc.o rfl | exact Rdc.o (nth_vIs (by omega)) | exact Rdc.o (nth_vI (by omega)))) Held.c ?_
    refine GT 16 131071 rfl (by kernel_rfl) rfl rfl Gd.no (Qt.mul rfl rfl (by exact hm2)) Held.c ?_
    refine GT 17 262143 rfl (by kernel_rfl) rfl rfl Gd.no (Qt.sl Try.underlying53 z5 rfl rfl rfl (by omega) (by omega) (by omega) hi hj) Held.c ?_
    rw [slAt_some (by omega), Nat.mul_one, Nat.zero_add]
    refine GT 18 524287 rfl (by kernel_rfl) rfl rfl Gd.no (Qt.asg rfl) Held.c ?_
    refine GH.done (by kernel_rfl) ?_
    refine GK.then (GC.seq (GC.seq (GC.region ?_)))
    refine G.q Gd.no (Qt.mv rfl) rfl ?_
    refine G.q Gd.no (Qt.lenS (rt := 0) Try.underlying53 rfl) rfl ?_
    refine G.q Gd.no (Qt.mv rfl) rfl ?_
    refine G.nil (GK.then (GC.block ?_))
    rw [show vI .u8 D.bytes = vI .u8 (orR D.bytes i (i + 0) (255)) by rw [Nat.add_zero, orR_self]]
    refine GC.loop (S := Nat) (fun x => x ≤ j - i) (fun x => j - i - x)
     (fun x => [(5, .bool (D.erase1 s).down), (6, .int .u8 (255)), (7, .slice (some ⟨bb, i, none⟩) (j - i) (cb - i)), (61, .int .i64 ((j - i : Nat) : Int)), (62, .int .i64 (x : Int))]) (fun x => [(some b, .cells (devC (D.erase1 s) bb bw cb cw) 81), (some bb, .cells (vI .u8 (orR D.bytes i (i + x) (255)) ++ sb) 5), (some bw, .cells (vI .i64 (D.wear.set s.toNat (IntKind.i64.wrap (ix D.wear s.toNat + 1))) ++ sw) 3)]) 0 ?_ ?_ ?_ ?_
    ·omega
    ·exact ⟨rfl, rfl, rfl, rfl, rfl, trivial⟩
    ·exact ⟨_, (Tks.c (Tks.c (Tks.c (.nil _))))⟩
    intro x hx
    have hol := orR_length D.bytes i (i + x) (255)
    refine GC.seq (GC.region ?_)
    refine G.q Gd.no (Qt.lss rfl rfl) rfl ?_
    refine G.nil (GK.then (GC.seq ?_))
    refine GC.condb rfl (fun c5 => ?_) (fun c5 => ?_)
    ·try simp only [sB0, sB1, sB2, sB3, sB4, sB5, sB6, sB7, sB8] at c5
     refine GC.skip (GK.then (GC.seq (GC.block (GC.seq (GC.region ?_)))))
     refine G.q Gd.no (Qt.mv rfl) rfl ?_
     refine G.q Gd.no (Qt.asg rfl) rfl ?_
     refine G.nil (GK.then (GC.region ?_))
     refine G.q Gd.no (Qt.mv rfl) rfl ?_
     refine G.q Gd.no (Qt.mv rfl) rfl ?_
     refine G.q Gd.no (Qt.iab1 Try.underlying53 z5 rfl rfl (by omega) (by omega) (rfl : ((x : Nat) : Int).toNat = x)) rfl ?_
     refine G.q Gd.no (Qt.ldc a5 rfl (by first | exact Rdc.o rfl | exact Rdc.o (nth_vIs (by omega)) | exact Rdc.o (nth_vI (by omega)))) rfl ?_
     refine G.q Gd.no (Qt.mv rfl) rfl ?_
     refine G.q Gd.no (Qt.or rfl rfl) rfl ?_
     refine G.q Gd.no (Qt.iab1 Try.underlying53 z5 rfl rfl (by omega) (by omega) (rfl : ((x : Nat) : Int).toNat = x)) rfl ?_
     refine G.ld Gd.no (Ld.stn z5 rfl rfl (by omega) ?_)
     refine G.nil (GK.blockn (GK.then (GC.region ?_)))
     refine G.q Gd.no (Qt.add rfl rfl (by first | exact i64_id (by omega) (by omega) | exact rfl)) rfl ?_
     refine G.q Gd.no (Qt.mv rfl) rfl ?_
     refine G.nil ?_
     simp only [Int.toNat_natCast]
     rw [orR_step D.bytes i (i + x) _ (by omega) (by omega)]
     refine GK.head (x + 1) ?_ ?_ ?_ ?_
     ·omega
     ·omega
     ·exact ⟨rfl, rfl, rfl, rfl, rfl, trivial⟩
     ·exact ⟨_, (Tks.c (Tks.c (Tks.c (.nil _))))⟩
    ·try simp only [sB0, sB1, sB2, sB3, sB4, sB5, sB6, sB7, sB8] at c5
     refine GC.exit (GK.thene (GK.thene (GK.blocke (GK.then (GC.seq (GC.seq (GC.region ?_)))))))
     refine G.q Gd.no (Qt.mv rfl) rfl ?_
     refine G.nil (GK.then ?_)
     refine GC.condb rfl (fun c6 => ?_) (fun c6 => ?_)
     ·try simp only [sB0, sB1, sB2, sB3, sB4, sB5, sB6, sB7, sB8] at c6
      exact absurd c6 (by simp [c2])
     ·try simp only [sB0, sB1, sB2, sB3, sB4, sB5, sB6, sB7, sB8] at c6
      refine GC.skip (GK.then (GC.seq (GC.region ?_)))
      refine G.q Gd.no (Qt.asg rfl) rfl ?_
      refine G.nil (GK.then (GC.ret ?_))
      obtain rfl : x = j - i := by omega
      have e : D.erase s = ({ D.erase1 s with bytes := orR D.bytes i j 255 }, 0) := by unfold Dev.erase; rw [if_neg (by simp [c0]), if_neg (by omega), if_neg (by simp [c2]), hi, hj]
      rw [e, show i + (j - i) = j by omega, ← D.erase1_wear]
      refine GK.ret (rs := [.tmp 4]) rfl (.tmp rfl .nil) () ?_ ?_ (Tks.c (Tks.c (Tks.c (.nil _))))
      ·trivial
      ·rfl
end Go.Proofs.Ytbeiciinppmekaa
