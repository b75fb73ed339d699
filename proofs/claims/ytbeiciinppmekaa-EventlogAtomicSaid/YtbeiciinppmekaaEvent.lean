/-
  The functions of package event, of baseboardref07 and of baseboardref01 that a log needs do what the model Ev says; each contract's conditions are its premises.
-/
import Derived.Test.YtbeiciinppmekaaTb
import Derived.Test.YtbeiciinppmekaaRef05
import Derived.Test.YtbeiciinppmekaaProg
namespace Go.Proofs.Ytbeiciinppmekaa
open Go Go.Sx Go.Proofs
set_option maxRecDepth 100000
set_option linter.unusedSimpArgs false
set_option linter.unusedVariables false
/-- An event. -/
structure Ev where
  id : Int
  time : Int
  gen : Int
  st : Int
  sn : Int
  ty : Int
  de : Bool
  d0 : Int
  d1 : Int
  d2 : Int
  deriving DecidableEq
def evC (e : Ev) : List Value := [.int .u16 e.id, .int .u32 e.time, .int .u16 e.gen, .int .u8 e.st, .int .u8 e.sn, .int .u8 e.ty, .bool e.de, .int .u8 e.d0, .int .u8 e.d1, .int .u8 e.d2]
theorem evC_len (e : Ev) : (evC e).length = 10 := rfl
theorem evC_one (e : Ev) : ∀ v ∈ evC e, v.oneCell' = true := by intro v hv; simp [evC] at hv; rcases hv with rfl | rfl | rfl | rfl | rfl | rfl | rfl | rfl | rfl | rfl <;> rfl
def Ev.zero : Ev := ⟨0, 0, 0, 0, 0, 0, false, 0, 0, 0⟩
/-- The numbers of an event are of their kinds. -/
structure Ev.Wf (e : Ev) : Prop where
  id : 0 ≤ e.id ∧ e.id ≤ 65535
  time : 0 ≤ e.time ∧ e.time ≤ 4294967295
  gen : 0 ≤ e.gen ∧ e.gen ≤ 65535
  st : 0 ≤ e.st ∧ e.st ≤ 255
  sn : 0 ≤ e.sn ∧ e.sn ≤ 255
  ty : 0 ≤ e.ty ∧ e.ty ≤ 255
  d0 : 0 ≤ e.d0 ∧ e.d0 ≤ 255
  d1 : 0 ≤ e.d1 ∧ e.d1 ≤ 255
  d2 : 0 ≤ e.d2 ∧ e.d2 ≤ 255
def Ev.valid (e : Ev) : Bool := (decide (e.id ≤ 65534) && decide (e.time ≤ 4294967294)) && decide (e.ty ≤ 127)
def evEnc (e : Ev) : List Int := [e.id % 256, e.id / 256, 2, e.time % 256, e.time / 256 % 256, e.time / 65536 % 256, e.time / 16777216, e.gen % 256, e.gen / 256, 4, e.st, e.sn, if e.de then e.ty + 128 else e.ty, e.d0, e.d1, e.d2]
def evRaw (xs : List Int) : Ev := ⟨ix xs 0 + ix xs 1 * 256, ix xs 3 + ix xs 4 * 256 + ix xs 5 * 65536 + ix xs 6 * 16777216, ix xs 7 + ix xs 8 * 256, ix xs 10, ix xs 11, ix xs 12 % 128, decide (128 ≤ ix xs 12), ix xs 13, ix xs 14, ix xs 15⟩
/-- Decoding 16 bytes: the event, and the error. -/
def evDec (xs : List Int) : Ev × Int := if ¬ ix xs 2 = 2 ∨ ¬ ix xs 9 = 4 then (Ev.zero, 6) else if (evRaw xs).valid then (evRaw xs, 0) else (Ev.zero, 1)
theorem evEq (a b : Ev) : (decide (a.id = b.id) && (decide (a.time = b.time) && (decide (a.gen = b.gen) && (decide (a.st = b.st) && (decide (a.sn = b.sn) && (decide (a.ty = b.ty) && ((a.de == b.de) && ((decide (a.d0 = b.d0) && (decide (a.d1 = b.d1) && (decide (a.d2 = b.d2) && true))) && true)))))))) = decide (a = b) := by
  obtain ⟨i, t, g, s, n, y, e, u, v, w⟩ := a
  obtain ⟨i', t', g', s', n', y', e', u', v', w'⟩ := b
  rw [Bool.eq_iff_iff]
  simp
theorem or_lo {k : IntKind} (hk : k.signed = false) {x y : Int} (n : Nat) (hx : 0 ≤ x) (hx2 : x < 2 ^ n) (hy : 0 ≤ y) (hb : x + y * 2 ^ n < 2 ^ k.bits) : bor k x (y * 2 ^ n) = x + y * 2 ^ n := by
  obtain ⟨a, rfl⟩ := Int.eq_ofNat_of_zero_le hx
  obtain ⟨b, rfl⟩ := Int.eq_ofNat_of_zero_le hy
  have hp : (0 : Int) < 2 ^ n := by exact_mod_cast Nat.two_pow_pos n
  have h0 : 0 ≤ (b : Int) * 2 ^ n := Int.mul_nonneg (by omega) (by omega)
  rw [bor_nat hk hx (by omega) h0 (by omega)]
  have e1 : ((b : Int) * 2 ^ n).toNat = 2 ^ n * b := by
    have : ((b : Int) * 2 ^ n) = ((2 ^ n * b : Nat) : Int) := by simp [Int.mul_comm]
    rw [this]; rfl
  have ha : a < 2 ^ n := by exact_mod_cast hx2
  rw [e1, Int.toNat_natCast, Nat.or_comm, ← Nat.two_pow_add_eq_or_of_lt ha]
  simp [Int.mul_comm, Int.add_comm]
theorem or_lit {k : IntKind} (hk : k.signed = false) {x y m : Int} (n : Nat) (hm : (2 : Int) ^ n = m) (hx : 0 ≤ x) (hx2 : x < m) (hy : 0 ≤ y) (hb : x + y * m < 2 ^ k.bits) : bor k x (y * m) = x + y * m := by
  subst hm
  exact or_lo hk n hx hx2 hy hb
theorem shlv_lit {k : IntKind} (n : Nat) {x m : Int} (hn : n ≤ k.bits) (hm : (2 : Int) ^ n = m) (hw : k.wrap (x * m) = x * m) : shlv k x (n : Int) = x * m := by
  unfold shlv
  rw [Int.toNat_natCast, Nat.min_eq_left hn, hm, hw]
theorem bandn_128 : ∀ x : Fin 256, bandn .u8 (x.val : Int) 128 = (x.val : Int) % 128 := by decide
theorem band_128 : ∀ x : Fin 256, (band .u8 (x.val : Int) 128 = 0) = (¬ 128 ≤ (x.val : Int)) := by decide
theorem bor_128 : ∀ x : Fin 128, bor .u8 (x.val : Int) 128 = (x.val : Int) + 128 := by decide
theorem u8_bandn {x : Int} (h : 0 ≤ x ∧ x ≤ 255) : bandn .u8 x 128 = x % 128 := by have := bandn_128 ⟨x.toNat, by omega⟩; simpa [Int.toNat_of_nonneg h.1] using this
theorem u8_band {x : Int} (h : 0 ≤ x ∧ x ≤ 255) : (band .u8 x 128 = 0) = (¬ 128 ≤ x) := by have := band_128 ⟨x.toNat, by omega⟩; simpa [Int.toNat_of_nonneg h.1] using this
theorem u8_bor {x : Int} (h : 0 ≤ x ∧ x ≤ 127) : bor .u8 x 128 = x + 128 := by have := bor_128 ⟨x.toNat, by omega⟩; simpa [Int.toNat_of_nonneg h.1] using this
theorem valid_ct (F : Fr) (e : Ev) :
    Ct Try.prog F 43 [.agg (evC e).toArray] [] (S := Unit) (fun _ => True) (fun _ => .bool e.valid) (fun _ => []) := by
 refine Ct.of 16 [(0, _)] Try.func43 rfl rfl rfl rfl ?_
 refine GC.seq (GC.region ?_)
 refine G.ld Gd.no (Ld.box rfl rfl (by first | exact Cl.one rfl | exact Cl.agg) (fun b1 => ?_))
 refine G.q Gd.no (Qt.asg rfl) rfl ?_
 refine G.nil (GK.then (GC.seq (GC.region ?_)))
 refine G.q Gd.no (Qt.fa0 fl40_0 rfl) rfl ?_
 refine G.q Gd.no (Qt.ldc a36 rfl (by first | exact Rdc.o rfl | exact Rdc.o (nth_vIs (by omega)) | exact Rdc.o (nth_vI (by omega)))) rfl ?_
 refine G.q Gd.no (Qt.leq rfl rfl) rfl ?_
 refine G.q Gd.no (Qt.mv rfl) rfl ?_
 apply G.andb (seg := [_, _, _])
 exact rfl
 exact rfl
 exact rfl
 exact Gd.no
 exact rfl
 exact rfl
 ·intro g4; try simp only [sB0, sB1, sB2, sB3, sB4, sB5, sB6, sB7, sB8] at g4
  refine G.q (Gd.yes rfl rfl) (Qt.fa0 fl40_1 rfl) rfl ?_
  refine G.q (Gd.yes rfl rfl) (Qt.ldc a37 rfl (by first | exact Rdc.o rfl | exact Rdc.o (nth_vIs (by omega)) | exact Rdc.o (nth_vI (by omega)))) rfl ?_
  refine G.q (Gd.yes rfl rfl) (Qt.leq rfl rfl) rfl ?_
  refine G.nil (GK.seg (n := [_, _, _]) rfl rfl rfl (by first | exact Tks.all _ | exact Tks.skip (Tks.all _) | exact Tks.skip (Tks.skip (Tks.all _)) | exact Tks.skip (Tks.skip (Tks.skip (Tks.all _)))))
 refine G.q Gd.no (Qt.mv rfl) rfl ?_
 apply G.andb (seg := [_, _, _])
 exact rfl
 exact rfl
 exact rfl
 exact Gd.no
 exact rfl
 exact rfl
 ·intro g9; try simp only [sB0, sB1, sB2, sB3, sB4, sB5, sB6, sB7, sB8] at g9
  refine G.q (Gd.yes rfl rfl) (Qt.fa0 fl40_5 rfl) rfl ?_
  refine G.q (Gd.yes rfl rfl) (Qt.ldc a5 rfl (by first | exact Rdc.o rfl | exact Rdc.o (nth_vIs (by omega)) | exact Rdc.o (nth_vI (by omega)))) rfl ?_
  refine G.q (Gd.yes rfl rfl) (Qt.leq rfl rfl) rfl ?_
  refine G.nil (GK.seg (n := [_, _, _]) rfl rfl rfl (by first | exact Tks.all _ | exact Tks.skip (Tks.all _) | exact Tks.skip (Tks.skip (Tks.all _)) | exact Tks.skip (Tks.skip (Tks.skip (Tks.all _)))))
 refine G.q Gd.no (Qt.asg rfl) rfl ?_
 refine G.nil (GK.then (GC.ret ?_))
 refine GK.ret (rs := [.tmp 2]) rfl (.tmp rfl .nil) () ?_ ?_ (.nil _)
 ·trivial
 ·rfl
theorem enc_ct (F : Fr) (e : Ev) (wf : e.Wf) (hv : e.valid = true) :
    Ct Try.prog F 46 [.agg (evC e).toArray] [] (S := Nat) (fun _ => True) (fun x => .tuple #[.slice (some ⟨x, 0, none⟩) 16 16, .int .i64 0]) (fun x => [(some x, .cells (vI .u8 (evEnc e)) 5)]) := by
 obtain ⟨i1, i2⟩ := wf.id
 obtain ⟨t1, t2⟩ := wf.time
 obtain ⟨n1, n2⟩ := wf.gen
 have hty : 0 ≤ e.ty ∧ e.ty ≤ 127 := by have := wf.ty; simp only [Ev.valid, Bool.and_eq_true, decide_eq_true_eq] at hv; omega
 refine Ct.of 58 [(0, _)] Try.func46 rfl rfl rfl rfl ?_
 refine GC.seq (GC.region ?_)
 refine G.ld Gd.no (Ld.box rfl rfl (by first | exact Cl.one rfl | exact Cl.agg) (fun b1 => ?_))
 refine G.q Gd.no (Qt.asg rfl) rfl ?_
 refine G.q Gd.no (Qt.asg rfl) rfl ?_
 refine G.nil (GK.then (GC.seq (GC.seq (GC.region ?_))))
 refine G.q Gd.no (Qt.ldW a40 rfl Rd.o z40) rfl ?_
 refine G.ld Gd.no (Ld.call cal43 rfl rfl (.nil _) (fun F' hF => valid_ct F' _) (fun _ _ => ?_))
 dsimp only [lCa, lNa]
 refine G.q Gd.no (Qt.not rfl) rfl ?_
 refine G.nil (GK.then ?_)
 refine GC.condb rfl (fun c0 => ?_) (fun c0 => ?_)
 ·try simp only [sB0, sB1, sB2, sB3, sB4, sB5, sB6, sB7, sB8] at c0
  exact absurd hv (by simp [c0])
 ·try simp only [sB0, sB1, sB2, sB3, sB4, sB5, sB6, sB7, sB8] at c0
  refine GC.skip (GK.then (GC.seq (GC.region ?_)))
  refine G.q Gd.no (Qt.fa0 fl40_5 rfl) rfl ?_
  refine G.q Gd.no (Qt.ldc a5 rfl (by first | exact Rdc.o rfl | exact Rdc.o (nth_vIs (by omega)) | exact Rdc.o (nth_vI (by omega)))) rfl ?_
  refine G.q Gd.no (Qt.asg rfl) rfl ?_
  refine G.nil (GK.then (GC.seq (GC.seq (GC.region ?_))))
  refine G.q Gd.no (Qt.fa0 fl40_6 rfl) rfl ?_
  refine G.q Gd.no (Qt.ldc a4 rfl (by first | exact Rdc.o rfl | exact Rdc.o (nth_vIs (by omega)) | exact Rdc.o (nth_vI (by omega)))) rfl ?_
  refine G.nil (GK.then ?_)
  refine GC.condb rfl (fun c1 => ?_) (fun c1 => ?_)
  ·try simp only [sB0, sB1, sB2, sB3, sB4, sB5, sB6, sB7, sB8] at c1
   refine GC.region ?_
   refine G.q Gd.no (Qt.mv rfl) rfl ?_
   refine G.q Gd.no (Qt.or rfl rfl) rfl ?_
   rw [u8_bor hty]
   refine G.q Gd.no (Qt.asg rfl) rfl ?_
   refine G.nil (GK.then (GC.seq (GC.region ?_)))
   refine G.q Gd.no (Qt.fa0 fl40_0 rfl) rfl ?_
   refine G.q Gd.no (Qt.ldc a36 rfl (by first | exact Rdc.o rfl | exact Rdc.o (nth_vIs (by omega)) | exact Rdc.o (nth_vI (by omega)))) rfl ?_
   refine G.q Gd.no (Qt.conv Try.underlying36 Try.underlying5 rfl (by first | exact u8_id (by omega) (by omega) | exact u8_mod _)) rfl ?_
   refine G.q Gd.no (Qt.fa0 fl40_0 rfl) rfl ?_
   refine G.q Gd.no (Qt.ldc a36 rfl (by first | exact Rdc.o rfl | exact Rdc.o (nth_vIs (by omega)) | exact Rdc.o (nth_vI (by omega)))) rfl ?_
   refine G.q Gd.no (Qt.shr rfl rfl (by omega) (shrv_lit (k := .u16) 8 _ (by decide))) rfl ?_
   refine G.q Gd.no (Qt.conv Try.underlying36 Try.underlying5 rfl (by first | exact u8_id (by omega) (by omega) | exact u8_mod _)) rfl ?_
   refine G.q Gd.no (Qt.fa0 fl40_1 rfl) rfl ?_
   refine G.q Gd.no (Qt.ldc a37 rfl (by first | exact Rdc.o rfl | exact Rdc.o (nth_vIs (by omega)) | exact Rdc.o (nth_vI (by omega)))) rfl ?_
   refine G.q Gd.no (Qt.conv Try.underlying37 Try.underlying5 rfl (by first | exact u8_id (by omega) (by omega) | exact u8_mod _)) rfl ?_
   refine G.q Gd.no (Qt.fa0 fl40_1 rfl) rfl ?_
   refine G.q Gd.no (Qt.ldc a37 rfl (by first | exact Rdc.o rfl | exact Rdc.o (nth_vIs (by omega)) | exact Rdc.o (nth_vI (by omega)))) rfl ?_
   refine G.q Gd.no (Qt.shr rfl rfl (by omega) (shrv_lit (k := .u32) 8 _ (by decide))) rfl ?_
   refine G.q Gd.no (Qt.conv Try.underlying37 Try.underlying5 rfl (by first | exact u8_id (by omega) (by omega) | exact u8_mod _)) rfl ?_
   refine G.q Gd.no (Qt.fa0 fl40_1 rfl) rfl ?_
   refine G.q Gd.no (Qt.ldc a37 rfl (by first | exact Rdc.o rfl | exact Rdc.o (nth_vIs (by omega)) | exact Rdc.o (nth_vI (by omega)))) rfl ?_
   refine G.q Gd.no (Qt.shr rfl rfl (by omega) (shrv_lit (k := .u32) 16 _ (by decide))) rfl ?_
   refine G.q Gd.no (Qt.conv Try.underlying37 Try.underlying5 rfl (by first | exact u8_id (by omega) (by omega) | exact u8_mod _)) rfl ?_
   refine G.q Gd.no (Qt.fa0 fl40_1 rfl) rfl ?_
   refine G.q Gd.no (Qt.ldc a37 rfl (by first | exact Rdc.o rfl | exact Rdc.o (nth_vIs (by omega)) | exact Rdc.o (nth_vI (by omega)))) rfl ?_
   refine G.q Gd.no (Qt.shr rfl rfl (by omega) (shrv_lit (k := .u32) 24 _ (by decide))) rfl ?_
   refine G.q Gd.no (Qt.conv Try.underlying37 Try.underlying5 rfl (by first | exact u8_id (by omega) (by omega) | exact u8_mod _)) rfl ?_
   refine G.q Gd.no (Qt.fa0 fl40_2 rfl) rfl ?_
   refine G.q Gd.no (Qt.ldc a36 rfl (by first | exact Rdc.o rfl | exact Rdc.o (nth_vIs (by omega)) | exact Rdc.o (nth_vI (by omega)))) rfl ?_
   refine G.q Gd.no (Qt.conv Try.underlying36 Try.underlying5 rfl (by first | exact u8_id (by omega) (by omega) | exact u8_mod _)) rfl ?_
   refine G.q Gd.no (Qt.fa0 fl40_2 rfl) rfl ?_
   refine G.q Gd.no (Qt.ldc a36 rfl (by first | exact Rdc.o rfl | exact Rdc.o (nth_vIs (by omega)) | exact Rdc.o (nth_vI (by omega)))) rfl ?_
   refine G.q Gd.no (Qt.shr rfl rfl (by omega) (shrv_lit (k := .u16) 8 _ (by decide))) rfl ?_
   refine G.q Gd.no (Qt.conv Try.underlying36 Try.underlying5 rfl (by first | exact u8_id (by omega) (by omega) | exact u8_mod _)) rfl ?_
   refine G.q Gd.no (Qt.fa0 fl40_3 rfl) rfl ?_
   refine G.q Gd.no (Qt.ldc a5 rfl (by first | exact Rdc.o rfl | exact Rdc.o (nth_vIs (by omega)) | exact Rdc.o (nth_vI (by omega)))) rfl ?_
   refine G.q Gd.no (Qt.fa0 fl40_4 rfl) rfl ?_
   refine G.q Gd.no (Qt.ldc a5 rfl (by first | exact Rdc.o rfl | exact Rdc.o (nth_vIs (by omega)) | exact Rdc.o (nth_vI (by omega)))) rfl ?_
   refine G.q Gd.no (Qt.mv rfl) rfl ?_
   refine G.q Gd.no (Qt.fa0 fl40_7 rfl) rfl ?_
   refine G.q Gd.no (by first | exact Qt.iaa01 Try.underlying38 z5 rfl rfl (by omega) (by omega) (show (0 : Int).toNat = 0 from rfl) | exact Qt.iaa1 Try.underlying38 z5 rfl rfl (by omega) (by omega) (show (0 : Int).toNat = 0 from rfl)) rfl ?_
   refine G.q Gd.no (Qt.ldc a5 rfl (by first | exact Rdc.o rfl | exact Rdc.o (nth_vIs (by omega)) | exact Rdc.o (nth_vI (by omega)))) rfl ?_
   refine G.q Gd.no (Qt.fa0 fl40_7 rfl) rfl ?_
   refine G.q Gd.no (by first | exact Qt.iaa01 Try.underlying38 z5 rfl rfl (by omega) (by omega) (show (1 : Int).toNat = 1 from rfl) | exact Qt.iaa1 Try.underlying38 z5 rfl rfl (by omega) (by omega) (show (1 : Int).toNat = 1 from rfl)) rfl ?_
   refine G.q Gd.no (Qt.ldc a5 rfl (by first | exact Rdc.o rfl | exact Rdc.o (nth_vIs (by omega)) | exact Rdc.o (nth_vI (by omega)))) rfl ?_
   refine G.q Gd.no (Qt.fa0 fl40_7 rfl) rfl ?_
   refine G.q Gd.no (by first | exact Qt.iaa01 Try.underlying38 z5 rfl rfl (by omega) (by omega) (show (2 : Int).toNat = 2 from rfl) | exact Qt.iaa1 Try.underlying38 z5 rfl rfl (by omega) (by omega) (show (2 : Int).toNat = 2 from rfl)) rfl ?_
   refine G.q Gd.no (Qt.ldc a5 rfl (by first | exact Rdc.o rfl | exact Rdc.o (nth_vIs (by omega)) | exact Rdc.o (nth_vI (by omega)))) rfl ?_
   refine G.ld Gd.no (Ld.bsl (xs := [.tmp 16, .tmp 20, .const (.int .u8 2), .tmp 23, .tmp 27, .tmp 31, .tmp 35, .tmp 38, .tmp 42, .const (.int .u8 4), .tmp 44, .tmp 46, .tmp 47, .tmp 50, .tmp 53, .tmp 56]) rfl Try.underlying53 z5 ze5 rfl rfl rfl rfl rfl (by simp [Value.oneCell']) (fun b57 => ?_))
   refine G.q Gd.no (Qt.asg rfl) rfl ?_
   refine G.q Gd.no (Qt.asg rfl) rfl ?_
   refine G.nil (GK.then (GC.ret ?_))
   rw [show evEnc e = [e.id % 256, e.id / 256, 2, e.time % 256, e.time / 256 % 256, e.time / 65536 % 256, e.time / 16777216, e.gen % 256, e.gen / 256, 4, e.st, e.sn, if e.de then e.ty + 128 else e.ty, e.d0, e.d1, e.d2] from rfl]
   simp only [c1, if_true, Bool.false_eq_true, if_false]
   refine GK.ret (rs := [.tmp 2, .tmp 3]) rfl (.tmp rfl (.tmp rfl .nil)) b57 ?_ ?_ (Tks.c (.nil _))
   ·trivial
   ·rfl
  ·try simp only [sB0, sB1, sB2, sB3, sB4, sB5, sB6, sB7, sB8] at c1
   refine GC.skip (GK.then (GC.seq (GC.region ?_)))
   refine G.q Gd.no (Qt.fa0 fl40_0 rfl) rfl ?_
   refine G.q Gd.no (Qt.ldc a36 rfl (by first | exact Rdc.o rfl | exact Rdc.o (nth_vIs (by omega)) | exact Rdc.o (nth_vI (by omega)))) rfl ?_
   refine G.q Gd.no (Qt.conv Try.underlying36 Try.underlying5 rfl (by first | exact u8_id (by omega) (by omega) | exact u8_mod _)) rfl ?_
   refine G.q Gd.no (Qt.fa0 fl40_0 rfl) rfl ?_
   refine G.q Gd.no (Qt.ldc a36 rfl (by first | exact Rdc.o rfl | exact Rdc.o (nth_vIs (by omega)) | exact Rdc.o (nth_vI (by omega)))) rfl ?_
   refine G.q Gd.no (Qt.shr rfl rfl (by omega) (shrv_lit (k := .u16) 8 _ (by decide))) rfl ?_
   refine G.q Gd.no (Qt.conv Try.underlying36 Try.underlying5 rfl (by first | exact u8_id (by omega) (by omega) | exact u8_mod _)) rfl ?_
   refine G.q Gd.no (Qt.fa0 fl40_1 rfl) rfl ?_
   refine G.q Gd.no (Qt.ldc a37 rfl (by first | exact Rdc.o rfl | exact Rdc.o (nth_vIs (by omega)) | exact Rdc.o (nth_vI (by omega)))) rfl ?_
   refine G.q Gd.no (Qt.conv Try.underlying37 Try.underlying5 rfl (by first | exact u8_id (by omega) (by omega) | exact u8_mod _)) rfl ?_
   refine G.q Gd.no (Qt.fa0 fl40_1 rfl) rfl ?_
   refine G.q Gd.no (Qt.ldc a37 rfl (by first | exact Rdc.o rfl | exact Rdc.o (nth_vIs (by omega)) | exact Rdc.o (nth_vI (by omega)))) rfl ?_
   refine G.q Gd.no (Qt.shr rfl rfl (by omega) (shrv_lit (k := .u32) 8 _ (by decide))) rfl ?_
   refine G.q Gd.no (Qt.conv Try.underlying37 Try.underlying5 rfl (by first | exact u8_id (by omega) (by omega) | exact u8_mod _)) rfl ?_
   refine G.q Gd.no (Qt.fa0 fl40_1 rfl) rfl ?_
   refine G.q Gd.no (Qt.ldc a37 rfl (by first | exact Rdc.o rfl | exact Rdc.o (nth_vIs (by omega)) | exact Rdc.o (nth_vI (by omega)))) rfl ?_
   refine G.q Gd.no (Qt.shr rfl rfl (by omega) (shrv_lit (k := .u32) 16 _ (by decide))) rfl ?_
   refine G.q Gd.no (Qt.conv Try.underlying37 Try.underlying5 rfl (by first | exact u8_id (by omega) (by omega) | exact u8_mod _)) rfl ?_
   refine G.q Gd.no (Qt.fa0 fl40_1 rfl) rfl ?_
   refine G.q Gd.no (Qt.ldc a37 rfl (by first | exact Rdc.o rfl | exact Rdc.o (nth_vIs (by omega)) | exact Rdc.o (nth_vI (by omega)))) rfl ?_
   refine G.q Gd.no (Qt.shr rfl rfl (by omega) (shrv_lit (k := .u32) 24 _ (by decide))) rfl ?_
   refine G.q Gd.no (Qt.conv Try.underlying37 Try.underlying5 rfl (by first | exact u8_id (by omega) (by omega) | exact u8_mod _)) rfl ?_
   refine G.q Gd.no (Qt.fa0 fl40_2 rfl) rfl ?_
   refine G.q Gd.no (Qt.ldc a36 rfl (by first | exact Rdc.o rfl | exact Rdc.o (nth_vIs (by omega)) | exact Rdc.o (nth_vI (by omega)))) rfl ?_
   refine G.q Gd.no (Qt.conv Try.underlying36 Try.underlying5 rfl (by first | exact u8_id (by omega) (by omega) | exact u8_mod _)) rfl ?_
   refine G.q Gd.no (Qt.fa0 fl40_2 rfl) rfl ?_
   refine G.q Gd.no (Qt.ldc a36 rfl (by first | exact Rdc.o rfl | exact Rdc.o (nth_vIs (by omega)) | exact Rdc.o (nth_vI (by omega)))) rfl ?_
   refine G.q Gd.no (Qt.shr rfl rfl (by omega) (shrv_lit (k := .u16) 8 _ (by decide))) rfl ?_
   refine G.q Gd.no (Qt.conv Try.underlying36 Try.underlying5 rfl (by first | exact u8_id (by omega) (by omega) | exact u8_mod _)) rfl ?_
   refine G.q Gd.no (Qt.fa0 fl40_3 rfl) rfl ?_
   refine G.q Gd.no (Qt.ldc a5 rfl (by first | exact Rdc.o rfl | exact Rdc.o (nth_vIs (by omega)) | exact Rdc.o (nth_vI (by omega)))) rfl ?_
   refine G.q Gd.no (Qt.fa0 fl40_4 rfl) rfl ?_
   refine G.q Gd.no (Qt.ldc a5 rfl (by first | exact Rdc.o rfl | exact Rdc.o (nth_vIs (by omega)) | exact Rdc.o (nth_vI (by omega)))) rfl ?_
   refine G.q Gd.no (Qt.mv rfl) rfl ?_
   refine G.q Gd.no (Qt.fa0 fl40_7 rfl) rfl ?_
   refine G.q Gd.no (by first | exact Qt.iaa01 Try.underlying38 z5 rfl rfl (by omega) (by omega) (show (0 : Int).toNat = 0 from rfl) | exact Qt.iaa1 Try.underlying38 z5 rfl rfl (by omega) (by omega) (show (0 : Int).toNat = 0 from rfl)) rfl ?_
   refine G.q Gd.no (Qt.ldc a5 rfl (by first | exact Rdc.o rfl | exact Rdc.o (nth_vIs (by omega)) | exact Rdc.o (nth_vI (by omega)))) rfl ?_
   refine G.q Gd.no (Qt.fa0 fl40_7 rfl) rfl ?_
   refine G.q Gd.no (by first | exact Qt.iaa01 Try.underlying38 z5 rfl rfl (by omega) (by omega) (show (1 : Int).toNat = 1 from rfl) | exact Qt.iaa1 Try.underlying38 z5 rfl rfl (by omega) (by omega) (show (1 : Int).toNat = 1 from rfl)) rfl ?_
   refine G.q Gd.no (Qt.ldc a5 rfl (by first | exact Rdc.o rfl | exact Rdc.o (nth_vIs (by omega)) | exact Rdc.o (nth_vI (by omega)))) rfl ?_
   refine G.q Gd.no (Qt.fa0 fl40_7 rfl) rfl ?_
   refine G.q Gd.no (by first | exact Qt.iaa01 Try.underlying38 z5 rfl rfl (by omega) (by omega) (show (2 : Int).toNat = 2 from rfl) | exact Qt.iaa1 Try.underlying38 z5 rfl rfl (by omega) (by omega) (show (2 : Int).toNat = 2 from rfl)) rfl ?_
   refine G.q Gd.no (Qt.ldc a5 rfl (by first | exact Rdc.o rfl | exact Rdc.o (nth_vIs (by omega)) | exact Rdc.o (nth_vI (by omega)))) rfl ?_
   refine G.ld Gd.no (Ld.bsl (xs := [.tmp 16, .tmp 20, .const (.int .u8 2), .tmp 23, .tmp 27, .tmp 31, .tmp 35, .tmp 38, .tmp 42, .const (.int .u8 4), .tmp 44, .tmp 46, .tmp 47, .tmp 50, .tmp 53, .tmp 56]) rfl Try.underlying53 z5 ze5 rfl rfl rfl rfl rfl (by simp [Value.oneCell']) (fun b57 => ?_))
   refine G.q Gd.no (Qt.asg rfl) rfl ?_
   refine G.q Gd.no (Qt.asg rfl) rfl ?_
   refine G.nil (GK.then (GC.ret ?_))
   rw [show evEnc e = [e.id % 256, e.id / 256, 2, e.time % 256, e.time / 256 % 256, e.time / 65536 % 256, e.time / 16777216, e.gen % 256, e.gen / 256, 4, e.st, e.sn, if e.de then e.ty + 128 else e.ty, e.d0, e.d1, e.d2] from rfl]
   simp only [c1, if_true, Bool.false_eq_true, if_false]
   refine GK.ret (rs := [.tmp 2, .tmp 3]) rfl (.tmp rfl (.tmp rfl .nil)) b57 ?_ ?_ (Tks.c (.nil _))
   ·trivial
   ·rfl
theorem dec_tail {F : Fr} {A : Addr} {xs : List Int} (hA : VwF F (some A) (vI .u8 xs)) (hl : xs.length = 16) {L : Bl} : Vw F L (A.add 13) [.int .u8 (ix xs 13), .int .u8 (ix xs 14), .int .u8 (ix xs 15)] := by
  intro w hs j v hj
  rw [add_add]
  refine hs.fcell (hA.at' ?_)
  match j, hj with
  | 0, hj => rw [nth_vI (by omega)]; exact hj
  | 1, hj => rw [nth_vI (by omega)]; exact hj
  | 2, hj => rw [nth_vI (by omega)]; exact hj
theorem dec_ct (F : Fr) (A : Addr) (c : Nat) (xs : List Int) (hA : VwF F (some A) (vI .u8 xs)) (hl : xs.length = 16) (hc : 16 ≤ c) (hb : Bytes xs) :
    Ct Try.prog F 77 [.slice (some A) 16 c] [] (S := Unit) (fun _ => True) (fun _ => .tuple #[.agg (evC (evDec xs).1).toArray, .int .i64 (evDec xs).2]) (fun _ => []) := by
 obtain ⟨r0, q0⟩ := hb.ix 0
 obtain ⟨r1, q1⟩ := hb.ix 1
 obtain ⟨r3, q3⟩ := hb.ix 3
 obtain ⟨r4, q4⟩ := hb.ix 4
 obtain ⟨r5, q5⟩ := hb.ix 5
 obtain ⟨r6, q6⟩ := hb.ix 6
 obtain ⟨r7, q7⟩ := hb.ix 7
 obtain ⟨r8, q8⟩ := hb.ix 8
 have r12 := hb.ix 12
 refine Ct.of 94 [(0, _)] Try.func77 rfl rfl rfl rfl ?_
 refine GC.seq (GC.region ?_)
 refine G.ld Gd.no (Ld.alloc rfl ze40 (by first | exact Cl.one rfl | exact Cl.agg) (fun b2 => ?_))
 refine G.q Gd.no (Qt.asg rfl) rfl ?_
 refine G.nil (GK.then (GC.seq (GC.block (GC.seq (GC.region ?_)))))
 refine G.q Gd.no (Qt.mv rfl) rfl ?_
 refine G.q Gd.no (Qt.lenS (rt := 0) Try.underlying53 rfl) rfl ?_
 refine G.q Gd.no (Qt.lss rfl rfl) rfl ?_
 refine G.q Gd.no (Qt.asg rfl) rfl ?_
 refine G.nil (GK.then ?_)
 refine GC.condb rfl (fun c0 => ?_) (fun c0 => ?_)
 ·try simp only [sB0, sB1, sB2, sB3, sB4, sB5, sB6, sB7, sB8] at c0
  omega
 ·try simp only [sB0, sB1, sB2, sB3, sB4, sB5, sB6, sB7, sB8] at c0
  refine GC.seq (GC.region ?_)
  refine G.q Gd.no (Qt.mv rfl) rfl ?_
  refine G.q Gd.no (Qt.lenS (rt := 0) Try.underlying53 rfl) rfl ?_
  refine G.q Gd.no (Qt.gtr rfl rfl) rfl ?_
  refine G.q Gd.no (Qt.mv rfl) rfl ?_
  apply G.orb (seg := [_, _, _, _])
  exact rfl
  exact rfl
  exact rfl
  exact Gd.no
  exact rfl
  exact rfl
  ·intro g4; try simp only [sB0, sB1, sB2, sB3, sB4, sB5, sB6, sB7, sB8] at g4
   refine G.q (Gd.yes rfl rfl) (Qt.mv rfl) rfl ?_
   refine G.q (Gd.yes rfl rfl) (by first | exact Qt.iab01 Try.underlying53 z5 rfl rfl (by omega) (by omega) (show (2 : Int).toNat = 2 from rfl) | exact Qt.ia1 Try.underlying53 z5 rfl rfl (by omega) (by omega) (show (2 : Int).toNat = 2 from rfl)) rfl ?_
   refine G.q (Gd.yes rfl rfl) (by first | exact Qt.ldc a5 rfl (by first | exact Rdc.o rfl | exact Rdc.o (nth_vIs (by omega)) | exact Rdc.o (nth_vI (by omega))) | exact Qt.ldF a5 rfl (hA.at' (nth_vI (by omega)))) rfl ?_
   refine G.q (Gd.yes rfl rfl) (Qt.neI rfl rfl) rfl ?_
   refine G.nil (GK.seg (n := [_, _, _, _]) rfl rfl rfl (by first | exact Tks.all _ | exact Tks.skip (Tks.all _) | exact Tks.skip (Tks.skip (Tks.all _)) | exact Tks.skip (Tks.skip (Tks.skip (Tks.all _)))))
  refine G.q Gd.no (Qt.mv rfl) rfl ?_
  apply G.orb (seg := [_, _, _, _])
  exact rfl
  exact rfl
  exact rfl
  exact Gd.no
  exact rfl
  exact rfl
  ·intro g10; try simp only [sB0, sB1, sB2, sB3, sB4, sB5, sB6, sB7, sB8] at g10
   refine G.q (Gd.yes rfl rfl) (Qt.mv rfl) rfl ?_
   refine G.q (Gd.yes rfl rfl) (by first | exact Qt.iab01 Try.underlying53 z5 rfl rfl (by omega) (by omega) (show (9 : Int).toNat = 9 from rfl) | exact Qt.ia1 Try.underlying53 z5 rfl rfl (by omega) (by omega) (show (9 : Int).toNat = 9 from rfl)) rfl ?_
   refine G.q (Gd.yes rfl rfl) (by first | exact Qt.ldc a5 rfl (by first | exact Rdc.o rfl | exact Rdc.o (nth_vIs (by omega)) | exact Rdc.o (nth_vI (by omega))) | exact Qt.ldF a5 rfl (hA.at' (nth_vI (by omega)))) rfl ?_
   refine G.q (Gd.yes rfl rfl) (Qt.neI rfl rfl) rfl ?_
   refine G.nil (GK.seg (n := [_, _, _, _]) rfl rfl rfl (by first | exact Tks.all _ | exact Tks.skip (Tks.all _) | exact Tks.skip (Tks.skip (Tks.all _)) | exact Tks.skip (Tks.skip (Tks.skip (Tks.all _)))))
  refine G.q Gd.no (Qt.asg rfl) rfl ?_
  refine G.nil (GK.then ?_)
  refine GC.condb rfl (fun c1 => ?_) (fun c1 => ?_)
  ·try simp only [sB0, sB1, sB2, sB3, sB4, sB5, sB6, sB7, sB8] at c1
   have c1 : ¬ ix xs 2 = 2 ∨ ¬ ix xs 9 = 4 := by omega
   refine GC.seq (GC.region ?_)
   refine G.q Gd.no (Qt.buildS Try.underlying40 pl40 ze40 (.nil _)) rfl ?_
   refine G.ld Gd.no (Ld.stW (by exact z40) rfl rfl (by simp [Value.oneCell']) (E := 40) (by rfl) UpdC.u ?_)
   refine G.q Gd.no (Qt.asg rfl) rfl ?_
   refine G.nil (GK.then (GC.ret (GK.blockr (GK.thenr ?_))))
   refine GK.ret (rs := [.cell 2 40, .tmp 3]) rfl (.cellW rfl a40 (by exact z40) Rd.o (.tmp rfl .nil)) () ?_ ?_ (.nil _)
   ·trivial
   ·(rw [show evDec xs = (Ev.zero, 6) from if_pos c1]; rfl)
  ·try simp only [sB0, sB1, sB2, sB3, sB4, sB5, sB6, sB7, sB8] at c1
   have c1 : ¬ (¬ ix xs 2 = 2 ∨ ¬ ix xs 9 = 4) := by omega
   refine GC.skip (GK.blockn (GK.then (GC.seq ?_)))
   refine GC.draw mixed _ Held.all ?_
   refine GT 0 1 rfl (by kernel_rfl) rfl rfl Gd.no (Qt.mv rfl) Held.c ?_
   refine GT 1 3 rfl (by kernel_rfl) rfl rfl Gd.no (by first | exact Qt.iab01 Try.underlying53 z5 rfl rfl (by omega) (by omega) (show (0 : Int).toNat = 0 from rfl) | exact Qt.ia1 Try.underlying53 z5 rfl rfl (by omega) (by omega) (show (0 : Int).toNat = 0 from rfl)) Held.c ?_
   refine GT 2 7 rfl (by kernel_rfl) rfl rfl Gd.no (by first | exact Qt.ldc a5 rfl (by first | exact Rdc.o rfl | exact Rdc.o (nth_vIs (by omega)) | exact Rdc.o (nth_vI (by omega))) | exact Qt.ldF a5 rfl (hA.at' (nth_vI (by omega)))) Held.c ?_
   refine GT 3 15 rfl (by kernel_rfl) rfl rfl Gd.no (Qt.conv Try.underlying5 Try.underlying36 rfl (by first | exact u16_id (by omega) (by omega) | exact rfl)) Held.c ?_
   refine GT 4 31 rfl (by kernel_rfl) rfl rfl Gd.no (Qt.mv rfl) Held.c ?_
   refine GT 5 63 rfl (by kernel_rfl) rfl rfl Gd.no (by first | exact Qt.iab01 Try.underlying53 z5 rfl rfl (by omega) (by omega) (show (1 : Int).toNat = 1 from rfl) | exact Qt.ia1 Try.underlying53 z5 rfl rfl (by omega) (by omega) (show (1 : Int).toNat = 1 from rfl)) Held.c ?_
   refine GT 6 127 rfl (by kernel_rfl) rfl rfl Gd.no (by first | exact Qt.ldc a5 rfl (by first | exact Rdc.o rfl | exact Rdc.o (nth_vIs (by omega)) | exact Rdc.o (nth_vI (by omega))) | exact Qt.ldF a5 rfl (hA.at' (nth_vI (by omega)))) Held.c ?_
   refine GT 7 255 rfl (by kernel_rfl) rfl rfl Gd.no (Qt.conv Try.underlying5 Try.underlying36 rfl (by first | exact u16_id (by omega) (by omega) | exact rfl)) Held.c ?_
   refine GT 8 511 rfl (by kernel_rfl) rfl rfl Gd.no (Qt.shl rfl rfl (by omega) (shlv_lit (k := .u16) 8 (m := 256) (by decide) (by decide) (u16_id (by omega) (by omega)))) Held.c ?_
   refine GT 9 1023 rfl (by kernel_rfl) rfl rfl Gd.no (Qt.or rfl rfl) Held.c ?_
   rw [or_lit (k := .u16) (m := 256) rfl 8 (by decide) (by omega) (by omega) (by omega) (by simp only [IntKind.bits]; omega)]
   refine GT 10 2047 rfl (by kernel_rfl) rfl rfl Gd.no (Qt.mv rfl) Held.c ?_
   refine GT 11 4095 rfl (by kernel_rfl) rfl rfl Gd.no (by first | exact Qt.iab01 Try.underlying53 z5 rfl rfl (by omega) (by omega) (show (3 : Int).toNat = 3 from rfl) | exact Qt.ia1 Try.underlying53 z5 rfl rfl (by omega) (by omega) (show (3 : Int).toNat = 3 from rfl)) Held.c ?_
   refine GT 12 8191 rfl (by kernel_rfl) rfl rfl Gd.no (by first | exact Qt.ldc a5 rfl (by first | exact Rdc.o rfl | exact Rdc.o (nth_vIs (by omega)) | exact Rdc.o (nth_vI (by omega))) | exact Qt.ldF a5 rfl (hA.at' (nth_vI (by omega)))) Held.c ?_
   refine GT 13 16383 rfl (by kernel_rfl) rfl rfl Gd.no (Qt.conv Try.underlying5 Try.underlying37 rfl (by first | exact u32_id (by omega) (by omega) | exact rfl)) Held.c ?_
   refine GT 14 32767 rfl (by kernel_rfl) rfl rfl Gd.no (Qt.mv rfl) Held.c ?_
   refine GT 15 65535 rfl (by kernel_rfl) rfl rfl Gd.no (by first | exact Qt.iab01 Try.underlying53 z5 rfl rfl (by omega) (by omega) (show (4 : Int).toNat = 4 from rfl) | exact Qt.ia1 Try.underlying53 z5 rfl rfl (by omega) (by omega) (show (4 : Int).toNat = 4 from rfl)) Held.c ?_
   refine GT 16 131071 rfl (by kernel_rfl) rfl rfl Gd.no (by first | exact Qt.ldc a5 rfl (by first | exact Rdc.o rfl | exact Rdc.o (nth_vIs (by omega)) | exact Rdc.o (nth_vI (by omega))) | exact Qt.ldF a5 rfl (hA.at' (nth_vI (by omega)))) Held.c ?_
   refine GT 17 262143 rfl (by kernel_rfl) rfl rfl Gd.no (Qt.conv Try.underlying5 Try.underlying37 rfl (by first | exact u32_id (by omega) (by omega) | exact rfl)) Held.c ?_
   refine GT 18 524287 rfl (by kernel_rfl) rfl rfl Gd.no (Qt.shl rfl rfl (by omega) (shlv_lit (k := .u32) 8 (m := 256) (by decide) (by decide) (u32_id (by omega) (by omega)))) Held.c ?_
   refine GT 19 1048575 rfl (by kernel_rfl) rfl rfl Gd.no (Qt.or rfl rfl) Held.c ?_
   rw [or_lit (k := .u32) (m := 256) rfl 8 (by decide) (by omega) (by omega) (by omega) (by simp only [IntKind.bits]; omega)]
   refine GT 20 2097151 rfl (by kernel_rfl) rfl rfl Gd.no (Qt.mv rfl) Held.c ?_
   refine GT 21 4194303 rfl (by kernel_rfl) rfl rfl Gd.no (by first | exact Qt.iab01 Try.underlying53 z5 rfl rfl (by omega) (by omega) (show (5 : Int).toNat = 5 from rfl) | exact Qt.ia1 Try.underlying53 z5 rfl rfl (by omega) (by omega) (show (5 : Int).toNat = 5 from rfl)) Held.c ?_
   refine GT 22 8388607 rfl (by kernel_rfl) rfl rfl Gd.no (by first | exact Qt.ldc a5 rfl (by first | exact Rdc.o rfl | exact Rdc.o (nth_vIs (by omega)) | exact Rdc.o (nth_vI (by omega))) | exact Qt.ldF a5 rfl (hA.at' (nth_vI (by omega)))) Held.c ?_
   refine GT 23 16777215 rfl (by kernel_rfl) rfl rfl Gd.no (Qt.conv Try.underlying5 Try.underlying37 rfl (by first | exact u32_id (by omega) (by omega) | exact rfl)) Held.c ?_
   refine GT 24 33554431 rfl (by kernel_rfl) rfl rfl Gd.no (Qt.shl rfl rfl (by omega) (shlv_lit (k := .u32) 16 (m := 65536) (by decide) (by decide) (u32_id (by omega) (by omega)))) Held.c ?_
   refine GT 25 67108863 rfl (by kernel_rfl) rfl rfl Gd.no (Qt.or rfl rfl) Held.c ?_
   rw [or_lit (k := .u32) (m := 65536) rfl 16 (by decide) (by omega) (by omega) (by omega) (by simp only [IntKind.bits]; omega)]
   refine GT 26 134217727 rfl (by kernel_rfl) rfl rfl Gd.no (Qt.mv rfl) Held.c ?_
   refine GT 27 268435455 rfl (by kernel_rfl) rfl rfl Gd.no (by first | exact Qt.iab01 Try.underlying53 z5 rfl rfl (by omega) (by omega) (show (6 : Int).toNat = 6 from rfl) | exact Qt.ia1 Try.underlying53 z5 rfl rfl (by omega) (by omega) (show (6 : Int).toNat = 6 from rfl)) Held.c ?_
   refine GT 28 536870911 rfl (by kernel_rfl) rfl rfl Gd.no (by first | exact Qt.ldc a5 rfl (by first | exact Rdc.o rfl | exact Rdc.o (nth_vIs (by omega)) | exact Rdc.o (nth_vI (by omega))) | exact Qt.ldF a5 rfl (hA.at' (nth_vI (by omega)))) Held.c ?_
   refine GT 29 1073741823 rfl (by kernel_rfl) rfl rfl Gd.no (Qt.conv Try.underlying5 Try.underlying37 rfl (by first | exact u32_id (by omega) (by omega) | exact rfl)) Held.c ?_
   refine GT 30 2147483647 rfl (by kernel_rfl) rfl rfl Gd.no (Qt.shl rfl rfl (by omega) (shlv_lit (k := .u32) 24 (m := 16777216) (by decide) (by decide) (u32_id (by omega) (by omega)))) Held.c ?_
   refine GT 31 4294967295 rfl (by kernel_rfl) rfl rfl Gd.no (Qt.or rfl rfl) Held.c ?_
   rw [or_lit (k := .u32) (m := 16777216) rfl 24 (by decide) (by omega) (by omega) (by omega) (by simp only [IntKind.bits]; omega)]
   refine GT 32 8589934591 rfl (by kernel_rfl) rfl rfl Gd.no (Qt.mv rfl) Held.c ?_
   refine GT 33 17179869183 rfl (by kernel_rfl) rfl rfl Gd.no (by first | exact Qt.iab01 Try.underlying53 z5 rfl rfl (by omega) (by omega) (show (7 : Int).toNat = 7 from rfl) | exact Qt.ia1 Try.underlying53 z5 rfl rfl (by omega) (by omega) (show (7 : Int).toNat = 7 from rfl)) Held.c ?_
   refine GT 34 34359738367 rfl (by kernel_rfl) rfl rfl Gd.no (by first | exact Qt.ldc a5 rfl (by first | exact Rdc.o rfl | exact Rdc.o (nth_vIs (by omega)) | exact Rdc.o (nth_vI (by omega))) | exact Qt.ldF a5 rfl (hA.at' (nth_vI (by omega)))) Held.c ?_
   refine GT 35 68719476735 rfl (by kernel_rfl) rfl rfl Gd.no (Qt.conv Try.underlying5 Try.underlying36 rfl (by first | exact u16_id (by omega) (by omega) | exact rfl)) Held.c ?_
   refine GT 36 137438953471 rfl (by kernel_rfl) rfl rfl Gd.no (Qt.mv rfl) Held.c ?_
   refine GT 37 274877906943 rfl (by kernel_rfl) rfl rfl Gd.no (by first | exact Qt.iab01 Try.underlying53 z5 rfl rfl (by omega) (by omega) (show (8 : Int).toNat = 8 from rfl) | exact Qt.ia1 Try.underlying53 z5 rfl rfl (by omega) (by omega) (show (8 : Int).toNat = 8 from rfl)) Held.c ?_
   refine GT 38 549755813887 rfl (by kernel_rfl) rfl rfl Gd.no (by first | exact Qt.ldc a5 rfl (by first | exact Rdc.o rfl | exact Rdc.o (nth_vIs (by omega)) | exact Rdc.o (nth_vI (by omega))) | exact Qt.ldF a5 rfl (hA.at' (nth_vI (by omega)))) Held.c ?_
   refine GT 39 1099511627775 rfl (by kernel_rfl) rfl rfl Gd.no (Qt.conv Try.underlying5 Try.underlying36 rfl (by first | exact u16_id (by omega) (by omega) | exact rfl)) Held.c ?_
   refine GT 40 2199023255551 rfl (by kernel_rfl) rfl rfl Gd.no (Qt.shl rfl rfl (by omega) (shlv_lit (k := .u16) 8 (m := 256) (by decide) (by decide) (u16_id (by omega) (by omega)))) Held.c ?_
   refine GT 41 4398046511103 rfl (by kernel_rfl) rfl rfl Gd.no (Qt.or rfl rfl) Held.c ?_
   rw [or_lit (k := .u16) (m := 256) rfl 8 (by decide) (by omega) (by omega) (by omega) (by simp only [IntKind.bits]; omega)]
   refine GT 42 8796093022207 rfl (by kernel_rfl) rfl rfl Gd.no (Qt.mv rfl) Held.c ?_
   refine GT 43 17592186044415 rfl (by kernel_rfl) rfl rfl Gd.no (by first | exact Qt.iab01 Try.underlying53 z5 rfl rfl (by omega) (by omega) (show (10 : Int).toNat = 10 from rfl) | exact Qt.ia1 Try.underlying53 z5 rfl rfl (by omega) (by omega) (show (10 : Int).toNat = 10 from rfl)) Held.c ?_
   refine GT 44 35184372088831 rfl (by kernel_rfl) rfl rfl Gd.no (by first | exact Qt.ldc a5 rfl (by first | exact Rdc.o rfl | exact Rdc.o (nth_vIs (by omega)) | exact Rdc.o (nth_vI (by omega))) | exact Qt.ldF a5 rfl (hA.at' (nth_vI (by omega)))) Held.c ?_
   refine GT 45 70368744177663 rfl (by kernel_rfl) rfl rfl Gd.no (Qt.mv rfl) Held.c ?_
   refine GT 46 140737488355327 rfl (by kernel_rfl) rfl rfl Gd.no (by first | exact Qt.iab01 Try.underlying53 z5 rfl rfl (by omega) (by omega) (show (11 : Int).toNat = 11 from rfl) | exact Qt.ia1 Try.underlying53 z5 rfl rfl (by omega) (by omega) (show (11 : Int).toNat = 11 from rfl)) Held.c ?_
   refine GT 47 281474976710655 rfl (by kernel_rfl) rfl rfl Gd.no (by first | exact Qt.ldc a5 rfl (by first | exact Rdc.o rfl | exact Rdc.o (nth_vIs (by omega)) | exact Rdc.o (nth_vI (by omega))) | exact Qt.ldF a5 rfl (hA.at' (nth_vI (by omega)))) Held.c ?_
   refine GT 48 562949953421311 rfl (by kernel_rfl) rfl rfl Gd.no (Qt.mv rfl) Held.c ?_
   refine GT 49 1125899906842623 rfl (by kernel_rfl) rfl rfl Gd.no (by first | exact Qt.iab01 Try.underlying53 z5 rfl rfl (by omega) (by omega) (show (12 : Int).toNat = 12 from rfl) | exact Qt.ia1 Try.underlying53 z5 rfl rfl (by omega) (by omega) (show (12 : Int).toNat = 12 from rfl)) Held.c ?_
   refine GT 50 2251799813685247 rfl (by kernel_rfl) rfl rfl Gd.no (by first | exact Qt.ldc a5 rfl (by first | exact Rdc.o rfl | exact Rdc.o (nth_vIs (by omega)) | exact Rdc.o (nth_vI (by omega))) | exact Qt.ldF a5 rfl (hA.at' (nth_vI (by omega)))) Held.c ?_
   refine GT 51 4503599627370495 rfl (by kernel_rfl) rfl rfl Gd.no (Qt.andn rfl rfl) Held.c ?_
   rw [u8_bandn r12]
   refine GT 52 9007199254740991 rfl (by kernel_rfl) rfl rfl Gd.no (Qt.mv rfl) Held.c ?_
   refine GT 53 18014398509481983 rfl (by kernel_rfl) rfl rfl Gd.no (by first | exact Qt.iab01 Try.underlying53 z5 rfl rfl (by omega) (by omega) (show (12 : Int).toNat = 12 from rfl) | exact Qt.ia1 Try.underlying53 z5 rfl rfl (by omega) (by omega) (show (12 : Int).toNat = 12 from rfl)) Held.c ?_
   refine GT 54 36028797018963967 rfl (by kernel_rfl) rfl rfl Gd.no (by first | exact Qt.ldc a5 rfl (by first | exact Rdc.o rfl | exact Rdc.o (nth_vIs (by omega)) | exact Rdc.o (nth_vI (by omega))) | exact Qt.ldF a5 rfl (hA.at' (nth_vI (by omega)))) Held.c ?_
   refine GT 55 72057594037927935 rfl (by kernel_rfl) rfl rfl Gd.no (Qt.and rfl rfl) Held.c ?_
   refine GT 56 144115188075855871 rfl (by kernel_rfl) rfl rfl Gd.no (Qt.neI rfl rfl) Held.c ?_
   rw [show decide (¬ band .u8 (ix xs 12) 128 = 0) = decide (128 ≤ ix xs 12) from by rw [decide_eq_decide, u8_band r12, Decidable.not_not]]
   refine GT 57 288230376151711743 rfl (by kernel_rfl) rfl rfl Gd.no (Qt.mv rfl) Held.c ?_
   refine GT 58 576460752303423487 rfl (by kernel_rfl) rfl rfl Gd.no (Qt.slL Try.underlying53 z5 rfl rfl (by omega) (by omega) (show (13 : Int).toNat = 13 from rfl)) Held.c ?_
   rw [slAt_any (by omega), show 13 * 1 = 13 from rfl]
   refine GT 59 1152921504606846975 rfl (by kernel_rfl) rfl rfl Gd.no (Qt.s2a Try.underlying38 rfl (by omega)) Held.c ?_
   refine GT 60 2305843009213693951 rfl (by kernel_rfl) rfl rfl Gd.no (Qt.ldV a38 rfl z38 (vs := [.int .u8 (ix xs 13), .int .u8 (ix xs 14), .int .u8 (ix xs 15)]) (dec_tail hA hl)) Held.c ?_
   refine GT 61 4611686018427387903 rfl (by kernel_rfl) rfl rfl Gd.no (Qt.buildS Try.underlying40 pl40 ze40 (.cons rfl rfl (by first | exact Cl.one rfl | exact Cl.agg) rfl (SetM.cons SetAt.k0 (.nil _ _)) (.cons rfl rfl (by first | exact Cl.one rfl | exact Cl.agg) rfl (SetM.cons SetAt.k1 (.nil _ _)) (.cons rfl rfl (by first | exact Cl.one rfl | exact Cl.agg) rfl (SetM.cons SetAt.k2 (.nil _ _)) (.cons rfl rfl (by first | exact Cl.one rfl | exact Cl.agg) rfl (SetM.cons SetAt.k3 (.nil _ _)) (.cons rfl rfl (by first | exact Cl.one rfl | exact Cl.agg) rfl (SetM.cons SetAt.k4 (.nil _ _)) (.cons rfl rfl (by first | exact Cl.one rfl | exact Cl.agg) rfl (SetM.cons SetAt.k5 (.nil _ _)) (.cons rfl rfl (by first | exact Cl.one rfl | exact Cl.agg) rfl (SetM.cons SetAt.k6 (.nil _ _)) (.cons rfl rfl (by first | exact Cl.one rfl | exact Cl.agg) rfl (by repeat constructor) (.nil _)))))))))) Held.c ?_
   refine GO 62 9223372036854775807 (by kernel_rfl) rfl rfl Gd.no (Ld.alloc rfl ze40 (by first | exact Cl.one rfl | exact Cl.agg) (fun b4 => ?_))
   refine ⟨Held.c, ?_⟩
   refine GO 63 18446744073709551615 (by kernel_rfl) rfl rfl Gd.no (Ld.stW (by exact z40) rfl rfl (by simp [Value.oneCell']) (E := 40) (by rfl) UpdC.u ?_)
   refine ⟨Held.c, ?_⟩
   refine GH.done (by kernel_rfl) ?_
   refine GK.then (GC.seq (GC.seq (GC.region ?_)))
   refine G.q Gd.no (Qt.ldW a40 rfl Rd.o z40) rfl ?_
   refine G.ld Gd.no (Ld.call cal43 rfl rfl (.nil _) (fun F' hF => valid_ct F' (evRaw xs)) (fun _ _ => ?_))
   dsimp only [lCa, lNa]
   refine G.q Gd.no (Qt.not rfl) rfl ?_
   refine G.nil (GK.then ?_)
   refine GC.condb rfl (fun c2 => ?_) (fun c2 => ?_)
   ·try simp only [sB0, sB1, sB2, sB3, sB4, sB5, sB6, sB7, sB8] at c2
    refine GC.seq (GC.region ?_)
    refine G.q Gd.no (Qt.buildS Try.underlying40 pl40 ze40 (.nil _)) rfl ?_
    refine G.ld Gd.no (Ld.stW (by exact z40) rfl rfl (by simp [Value.oneCell']) (E := 40) (by rfl) UpdC.u ?_)
    refine G.q Gd.no (Qt.asg rfl) rfl ?_
    refine G.nil (GK.then (GC.ret (GK.thenr ?_)))
    refine GK.ret (rs := [.cell 2 40, .tmp 3]) rfl (.cellW rfl a40 (by exact z40) Rd.o (.tmp rfl .nil)) () ?_ ?_ (.nil _)
    ·trivial
    ·(rw [show evDec xs = (Ev.zero, 1) from by unfold evDec; rw [if_neg c1, if_neg (by simp [c2])]]; rfl)
   ·try simp only [sB0, sB1, sB2, sB3, sB4, sB5, sB6, sB7, sB8] at c2
    refine GC.skip (GK.then (GC.seq (GC.region ?_)))
    refine G.q Gd.no (Qt.ldW a40 rfl Rd.o z40) rfl ?_
    refine G.ld Gd.no (Ld.stW (by exact z40) rfl rfl (by simp [Value.oneCell']) (E := 40) (by rfl) UpdC.u ?_)
    refine G.q Gd.no (Qt.asg rfl) rfl ?_
    refine G.nil (GK.then (GC.ret ?_))
    refine GK.ret (rs := [.cell 2 40, .tmp 3]) rfl (.cellW rfl a40 (by exact z40) Rd.o (.tmp rfl .nil)) () ?_ ?_ (.nil _)
    ·trivial
    ·(rw [show evDec xs = (evRaw xs, 0) from by unfold evDec; rw [if_neg c1, if_pos (by simpa using c2)]]; rfl)
end Go.Proofs.Ytbeiciinppmekaa
