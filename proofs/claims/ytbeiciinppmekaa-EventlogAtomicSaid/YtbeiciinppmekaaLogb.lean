/-
  eventlog's Log: header, load, down, and the library's IndexFunc and DeleteFunc on records do what the models say; each contract's conditions are its premises.
-/
import Derived.Test.YtbeiciinppmekaaTb
import Derived.Test.YtbeiciinppmekaaLoga
import Derived.Test.YtbeiciinppmekaaProg
namespace Go.Proofs.Ytbeiciinppmekaa
open Go Go.Sx Go.Proofs
set_option maxRecDepth 100000
set_option linter.unusedSimpArgs false
set_option linter.unusedVariables false
def recC (r : Int × Ev) : List Value := .int .i64 r.1 :: evC r.2
theorem recC_len (r : Int × Ev) : (recC r).length = 11 := rfl
theorem recC_one (r : Int × Ev) : ∀ v ∈ recC r, v.oneCell' = true := by
  intro v hv
  rcases List.mem_cons.1 hv with rfl | hv
  · rfl
  · exact evC_one _ v hv
structure Hd where
  q : Int
  t : Int
  id : Int
  deriving DecidableEq
def hdC (h : Hd) : List Value := [.int .i64 h.q, .int .i64 h.t, .int .u16 h.id]
theorem hdC_len (h : Hd) : (hdC h).length = 3 := rfl
theorem hdC_one (h : Hd) : ∀ v ∈ hdC h, v.oneCell' = true := by intro v hv; simp [hdC] at hv; rcases hv with rfl | rfl | rfl <;> rfl
def Hd.of (xs : List Int) : Hd := ⟨le4 xs 0, le4 xs 4, le2 xs 8⟩
/-- Is the header of sector j of S valid? -/
def Hd.ok (xs : List Int) (S j : Int) : Bool := decide (ix xs 10 = 0 ∧ 1 ≤ le4 xs 0 ∧ le4 xs 0 ≤ 2147483648 ∧ (le4 xs 0 - 1) % S = j ∧ 1 ≤ le4 xs 4 ∧ le4 xs 4 ≤ le4 xs 0 ∧ le4 xs 0 - le4 xs 4 ≤ S - 2 ∧ 1 ≤ le2 xs 8 ∧ le2 xs 8 ≤ 65534)
theorem Hd.ok_eq {b : Bool} {xs : List Int} {S j : Int} (h : b = true ↔ (ix xs 10 = 0 ∧ 1 ≤ le4 xs 0 ∧ le4 xs 0 ≤ 2147483648 ∧ (le4 xs 0 - 1) % S = j ∧ 1 ≤ le4 xs 4 ∧ le4 xs 4 ≤ le4 xs 0 ∧ le4 xs 0 - le4 xs 4 ≤ S - 2 ∧ 1 ≤ le2 xs 8 ∧ le2 xs 8 ≤ 65534)) : b = Hd.ok xs S j := by
  rw [Bool.eq_iff_iff, h]
  simp only [Hd.ok, decide_eq_true_eq]
/-- A log of package eventlog. -/
structure Lg where
  first : Int
  S : Int
  over : Bool
  newest : Int
  tail : Int
  used : Int
  next : Int
  recs : List (Int × Ev)
  full : Bool
  num : Int
  held : Bool
  ended : Bool
/-- Its variable: d is the address of the device, rb the block of the records, rc their capacity. -/
def lgC (G : Lg) (d : Option Addr) (rb : Option Nat) (rc : Nat) : List Value :=
  [.pointer d, .int .i64 G.first, .int .i64 G.S, .bool G.over, .int .i64 G.newest, .int .i64 G.tail, .int .i64 G.used, .int .u16 G.next, .slice (oA rb) G.recs.length rc, .bool G.full, .int .u16 G.num, .bool G.held, .bool G.ended]
def Lg.gone : Lg := ⟨0, 0, false, 0, 0, 0, 0, [], false, 0, false, true⟩
def slotL (xs : List Int) (i : Nat) : List Int := (xs.drop (11 + i * 17)).take 17
def evOf (sl : List Int) : Option Ev := if ix sl 16 = 0 ∧ (evDec (sl.take 16)).2 = 0 ∧ (evDec (sl.take 16)).1.id ≠ 0 then some (evDec (sl.take 16)).1 else none
def Lg.load1 (last : Bool) (q : Int) (xs : List Int) (G : Lg) (i : Nat) : Lg :=
  let G1 : Lg := if last && !blankL (slotL xs i) then { G with used := (i : Int) + 1 } else G
  match evOf (slotL xs i) with
  | none => G1
  | some e => { G1 with recs := G1.recs ++ [(q, e)], next := if last then behind e.id else G1.next }
def slotsN (n : Nat) : Nat := (n - 11) / 17
def Lg.load (G : Lg) (xs : List Int) (h : Hd) : Lg :=
  (List.range (slotsN xs.length)).foldl (Lg.load1 (decide (h.q = G.newest)) h.q xs) (if h.q = G.newest then { G with next := h.id } else G)
theorem someR {F : Fr} {A : Option Addr} {xs : List (Int × Ev)} (h : VwF F A (xs.flatMap recC)) (hl : 0 < xs.length) : ∃ ad, A = some ad := by
  cases xs with
  | nil => simp at hl
  | cons x xs => exact h.some' (by simp [recC_len]; omega)
theorem Bytes.take {xs : List Int} (h : Bytes xs) (n : Nat) : Bytes (xs.take n) := fun x hx => h x (List.mem_of_mem_take hx)
theorem slotL_len {xs : List Int} {i : Nat} (h : 11 + i * 17 + 17 ≤ xs.length) : (slotL xs i).length = 17 := by simp [slotL]; omega
theorem slotL_bytes {xs : List Int} (h : Bytes xs) (i : Nat) : Bytes (slotL xs i) := (h.drop _).take _
theorem evRaw_wf {xs : List Int} (hb : Bytes xs) : (evRaw xs).Wf := by
  have h0 := hb.ix 0
  have h1 := hb.ix 1
  have h3 := hb.ix 3
  have h4 := hb.ix 4
  have h5 := hb.ix 5
  have h6 := hb.ix 6
  have h7 := hb.ix 7
  have h8 := hb.ix 8
  have h12 := hb.ix 12
  exact ⟨by simp only [evRaw]; omega, by simp only [evRaw]; omega, by simp only [evRaw]; omega, hb.ix 10, hb.ix 11, by simp only [evRaw]; omega, hb.ix 13, hb.ix 14, hb.ix 15⟩
theorem evZero_wf : Ev.zero.Wf := ⟨by decide, by decide, by decide, by decide, by decide, by decide, by decide, by decide, by decide⟩
theorem evDec_wf {xs : List Int} (hb : Bytes xs) : (evDec xs).1.Wf := by
  unfold evDec
  split
  · exact evZero_wf
  · split
    · exact evRaw_wf hb
    · exact evZero_wf
theorem evDec_valid {xs : List Int} (h : (evDec xs).2 = 0) : (evDec xs).1.valid = true := by
  unfold evDec at h ⊢
  split at h
  · simp at h
  · rename_i h1
    split at h
    · rename_i h2
      rw [if_neg h1, if_pos h2]; exact h2
    · simp at h
theorem setM_rec (q : Int) (e : Ev) : SetM (.int .i64 q :: evC Ev.zero) 1 (evC e) (recC (q, e)) :=
  .cons SetAt.k1 (.cons SetAt.k2 (.cons SetAt.k3 (.cons SetAt.k4 (.cons SetAt.k5 (.cons SetAt.k6 (.cons SetAt.k7 (.cons SetAt.k8 (.cons SetAt.k9 (.cons SetAt.k10 (.nil _ _))))))))))
theorem header_ct (F : Fr) (b : Nat) (d : Option Addr) (rb : Option Nat) (rc : Nat) (Y : Lg) (hb : F.h b = some (Blk.cells (lgC Y d rb rc) 85).toObj) (A : Addr) (n c : Nat) (xs : List Int) (hA : VwF F (some A) (vI .u8 xs)) (hl : xs.length = n) (hn : 11 ≤ n) (hc : n ≤ c) (hb2 : Bytes xs) (j : Int) (hS : 2 ≤ Y.S) (hS2 : Y.S ≤ 1048576) :
    Ct Try.prog F 50 [.pointer (some ⟨b, 0, none⟩), .slice (some A) n c, .int .i64 j] [] (S := Unit) (fun _ => True) (fun _ => .tuple #[.agg (hdC (Hd.of xs)).toArray, .bool (Hd.ok xs Y.S j)]) (fun _ => []) := by
 obtain ⟨r8, q8⟩ := hb2.ix 8
 obtain ⟨r9, q9⟩ := hb2.ix 9
 obtain ⟨r4, q4⟩ := hb2.le4 4
 obtain ⟨r0, q0⟩ := hb2.le4 0
 have hd9 := hb2.drop 4
 refine Ct.of 90 [(0, _), (1, _), (2, _)] Try.func50 rfl rfl rfl rfl ?_
 refine GC.seq (GC.region ?_)
 refine G.ld Gd.no (Ld.alloc rfl ze96 (by first | exact Cl.one rfl | exact Cl.agg) (fun b6 => ?_))
 refine G.q Gd.no (Qt.asg rfl) rfl ?_
 refine G.nil (GK.then (GC.seq ?_))
 refine GC.draw mixed _ Held.all ?_
 refine GT 0 1 rfl (by kernel_rfl) rfl rfl Gd.no (Qt.mv rfl) Held.c ?_
 refine GT 2 5 rfl (by kernel_rfl) rfl rfl Gd.no (Qt.mv rfl) Held.c ?_
 refine GT 3 13 rfl (by kernel_rfl) rfl rfl Gd.no (Qt.slL Try.underlying53 z5 rfl rfl (by omega) (by omega) (show (4 : Int).toNat = 4 from rfl)) Held.c ?_
 rw [slAt_any (by omega), show 4 * 1 = 4 from rfl]
 refine GT 5 45 rfl (by kernel_rfl) rfl rfl Gd.no (Qt.mv rfl) Held.c ?_
 refine GT 6 109 rfl (by kernel_rfl) rfl rfl Gd.no (by first | exact Qt.iab01 Try.underlying53 z5 rfl rfl (by omega) (by omega) (show (8 : Int).toNat = 8 from rfl) | exact Qt.ia1 Try.underlying53 z5 rfl rfl (by omega) (by omega) (show (8 : Int).toNat = 8 from rfl)) Held.c ?_
 refine GT 7 237 rfl (by kernel_rfl) rfl rfl Gd.no (by first | exact Qt.ldc a5 rfl (by first | exact Rdc.o rfl | exact Rdc.o (nth_vIs (by omega)) | exact Rdc.o (nth_vI (by omega)) | exact Rdc.f hb rfl) | exact Qt.ldF a5 rfl (hA.at' (nth_vI (by omega)))) Held.c ?_
 refine GT 8 493 rfl (by kernel_rfl) rfl rfl Gd.no (Qt.conv Try.underlying5 Try.underlying36 rfl (by first | exact u16_id (by omega) (by omega) | exact rfl)) Held.c ?_
 refine GT 9 1005 rfl (by kernel_rfl) rfl rfl Gd.no (Qt.mv rfl) Held.c ?_
 refine GT 10 2029 rfl (by kernel_rfl) rfl rfl Gd.no (by first | exact Qt.iab01 Try.underlying53 z5 rfl rfl (by omega) (by omega) (show (9 : Int).toNat = 9 from rfl) | exact Qt.ia1 Try.underlying53 z5 rfl rfl (by omega) (by omega) (show (9 : Int).toNat = 9 from rfl)) Held.c ?_
 refine GT 11 4077 rfl (by kernel_rfl) rfl rfl Gd.no (by first | exact Qt.ldc a5 rfl (by first | exact Rdc.o rfl | exact Rdc.o (nth_vIs (by omega)) | exact Rdc.o (nth_vI (by omega)) | exact Rdc.f hb rfl) | exact Qt.ldF a5 rfl (hA.at' (nth_vI (by omega)))) Held.c ?_
 refine GT 12 8173 rfl (by kernel_rfl) rfl rfl Gd.no (Qt.conv Try.underlying5 Try.underlying36 rfl (by first | exact u16_id (by omega) (by omega) | exact rfl)) Held.c ?_
 refine GT 13 16365 rfl (by kernel_rfl) rfl rfl Gd.no (Qt.shl rfl rfl (by omega) (shlv_lit (k := .u16) 8 (m := 256) (by decide) (by decide) (u16_id (by omega) (by omega)))) Held.c ?_
 refine GT 14 32749 rfl (by kernel_rfl) rfl rfl Gd.no (Qt.or rfl rfl) Held.c ?_
 rw [or_lit (k := .u16) (m := 256) rfl 8 (by decide) (by omega) (by omega) (by omega) (by simp only [IntKind.bits]; omega)]
 refine GH.two (i := 1) (j := 16) (by kernel_rfl) rfl rfl  (rfl : _ = 32751) (rfl : _ = 98285) Gd.no Gd.no (Ld.call cal74 rfl rfl (.nil _) (fun F' hF => read4_ct F' A n c xs (hA.mono hF) hl (by omega) hb2) (fun _ _ => ?_)) (Ld.alloc rfl ze96 (by first | exact Cl.one rfl | exact Cl.agg) (fun b8 => ?_))
 ·skip
  dsimp only [lCa, lNa]
  refine ⟨Held.c, ?_⟩
  refine GH.two (i := 4) (j := 16) (by kernel_rfl) rfl rfl  (rfl : _ = 32767) (rfl : _ = 98287) Gd.no Gd.no (Ld.call cal74 rfl rfl (.nil _) (fun F' hF => read4_ct F' (A.add 4) (n - 4) _ (xs.drop 4) ((dropI hA).mono hF) (by rw [List.length_drop, hl]) (by omega) (hb2.drop 4)) (fun _ _ => ?_)) (Ld.alloc rfl ze96 (by first | exact Cl.one rfl | exact Cl.agg) (fun b8 => ?_))
  ·skip
   dsimp only [lCa, lNa]
   rw [le4_drop]
   refine ⟨Held.c, ?_⟩
   refine GT 15 65535 rfl (by kernel_rfl) rfl rfl Gd.no (Qt.buildS Try.underlying96 pl96 ze96 (.cons rfl rfl (by first | exact Cl.one rfl | exact Cl.agg) rfl (SetM.cons SetAt.k0 (.nil _ _)) (.cons rfl rfl (by first | exact Cl.one rfl | exact Cl.agg) rfl (SetM.cons SetAt.k1 (.nil _ _)) (.cons rfl rfl (by first | exact Cl.one rfl | exact Cl.agg) rfl (SetM.cons SetAt.k2 (.nil _ _)) (.nil _))))) Held.c ?_
   refine GO 16 131071 (by kernel_rfl) rfl rfl Gd.no (Ld.alloc rfl ze96 (by first | exact Cl.one rfl | exact Cl.agg) (fun b8 => ?_))
   refine ⟨Held.c, ?_⟩
   refine GO 17 262143 (by kernel_rfl) rfl rfl Gd.no (Ld.stW (by exact z96) rfl rfl (by simp [Value.oneCell']) (E := 96) (by rfl) UpdC.u ?_)
   refine ⟨Held.c, ?_⟩
   refine GH.done (by kernel_rfl) ?_
   refine GK.then (GC.seq ?_)
   refine GC.draw mixed _ Held.all ?_
   refine GT 0 1 rfl (by kernel_rfl) rfl rfl Gd.no (Qt.mv rfl) Held.c ?_
   refine GT 1 3 rfl (by kernel_rfl) rfl rfl Gd.no (by first | exact Qt.iab01 Try.underlying53 z5 rfl rfl (by omega) (by omega) (show (10 : Int).toNat = 10 from rfl) | exact Qt.ia1 Try.underlying53 z5 rfl rfl (by omega) (by omega) (show (10 : Int).toNat = 10 from rfl)) Held.c ?_
   refine GT 2 7 rfl (by kernel_rfl) rfl rfl Gd.no (by first | exact Qt.ldc a5 rfl (by first | exact Rdc.o rfl | exact Rdc.o (nth_vIs (by omega)) | exact Rdc.o (nth_vI (by omega)) | exact Rdc.f hb rfl) | exact Qt.ldF a5 rfl (hA.at' (nth_vI (by omega)))) Held.c ?_
   refine GT 3 15 rfl (by kernel_rfl) rfl rfl Gd.no (Qt.eqI rfl rfl) Held.c ?_
   refine GT 4 31 rfl (by kernel_rfl) rfl rfl Gd.no (Qt.mv rfl) Held.c ?_
   refine GH.split (tg := 30) rfl (fun g4 => ?_) (fun g4 => ?_)
   ·try simp only [sB0, sB1, sB2, sB3, sB4, sB5, sB6, sB7, sB8] at g4
    refine GT 5 63 rfl (by kernel_rfl) rfl rfl (Gd.yes rfl rfl) (Qt.fa0 fl96_0 rfl) Held.c ?_
    refine GT 6 127 rfl (by kernel_rfl) rfl rfl (Gd.yes rfl rfl) (by first | exact Qt.ldc a3 rfl (by first | exact Rdc.o rfl | exact Rdc.o (nth_vIs (by omega)) | exact Rdc.o (nth_vI (by omega)) | exact Rdc.f hb rfl) | exact Qt.ldF a3 rfl (hA.at' (nth_vI (by omega)))) Held.c ?_
    refine GT 7 255 rfl (by kernel_rfl) rfl rfl (Gd.yes rfl rfl) (Qt.geq rfl rfl) Held.c ?_
    refine GT 8 511 rfl (by kernel_rfl) rfl rfl Gd.no (Qt.pickt rfl rfl) Held.c ?_
    refine GT 9 1023 rfl (by kernel_rfl) rfl rfl Gd.no (Qt.mv rfl) Held.c ?_
    refine GH.split (tg := 35) rfl (fun g9 => ?_) (fun g9 => ?_)
    ·try simp only [sB0, sB1, sB2, sB3, sB4, sB5, sB6, sB7, sB8] at g9
     refine GT 10 2047 rfl (by kernel_rfl) rfl rfl (Gd.yes rfl rfl) (Qt.fa0 fl96_0 rfl) Held.c ?_
     refine GT 11 4095 rfl (by kernel_rfl) rfl rfl (Gd.yes rfl rfl) (by first | exact Qt.ldc a3 rfl (by first | exact Rdc.o rfl | exact Rdc.o (nth_vIs (by omega)) | exact Rdc.o (nth_vI (by omega)) | exact Rdc.f hb rfl) | exact Qt.ldF a3 rfl (hA.at' (nth_vI (by omega)))) Held.c ?_
     refine GT 12 8191 rfl (by kernel_rfl) rfl rfl (Gd.yes rfl rfl) (Qt.leq rfl rfl) Held.c ?_
     refine GT 13 16383 rfl (by kernel_rfl) rfl rfl Gd.no (Qt.pickt rfl rfl) Held.c ?_
     refine GT 14 32767 rfl (by kernel_rfl) rfl rfl Gd.no (Qt.mv rfl) Held.c ?_
     refine GH.split (tg := 40) rfl (fun g14 => ?_) (fun g14 => ?_)
     ·try simp only [sB0, sB1, sB2, sB3, sB4, sB5, sB6, sB7, sB8] at g14
      refine GT 15 65535 rfl (by kernel_rfl) rfl rfl (Gd.yes rfl rfl) (Qt.fa0 fl96_0 rfl) Held.c ?_
      refine GT 16 131071 rfl (by kernel_rfl) rfl rfl (Gd.yes rfl rfl) (by first | exact Qt.ldc a3 rfl (by first | exact Rdc.o rfl | exact Rdc.o (nth_vIs (by omega)) | exact Rdc.o (nth_vI (by omega)) | exact Rdc.f hb rfl) | exact Qt.ldF a3 rfl (hA.at' (nth_vI (by omega)))) Held.c ?_
      refine GT 17 262143 rfl (by kernel_rfl) rfl rfl (Gd.yes rfl rfl) (Qt.sub rfl rfl (by first | exact i64_id (by omega) (by omega) | exact rfl)) Held.c ?_
      refine GT 18 524287 rfl (by kernel_rfl) rfl rfl (Gd.yes rfl rfl) (Qt.mv rfl) Held.c ?_
      refine GT 19 1048575 rfl (by kernel_rfl) rfl rfl (Gd.yes rfl rfl) (Qt.nilc rfl) Held.c ?_
      refine GT 20 2097151 rfl (by kernel_rfl) rfl rfl (Gd.yes rfl rfl) (Qt.fa0 fl85_2 rfl) Held.c ?_
      refine GT 21 4194303 rfl (by kernel_rfl) rfl rfl (Gd.yes rfl rfl) (by first | exact Qt.ldc a3 rfl (by first | exact Rdc.o rfl | exact Rdc.o (nth_vIs (by omega)) | exact Rdc.o (nth_vI (by omega)) | exact Rdc.f hb rfl) | exact Qt.ldF a3 rfl (hA.at' (nth_vI (by omega)))) Held.c ?_
      refine GT 22 8388607 rfl (by kernel_rfl) rfl rfl (Gd.yes rfl rfl) (Qt.rem rfl rfl (by omega) (by first | exact rem_nn (by omega) | exact rfl)) Held.c ?_
      refine GT 23 16777215 rfl (by kernel_rfl) rfl rfl (Gd.yes rfl rfl) (Qt.mv rfl) Held.c ?_
      refine GT 24 33554431 rfl (by kernel_rfl) rfl rfl (Gd.yes rfl rfl) (Qt.eqI rfl rfl) Held.c ?_
      refine GT 25 67108863 rfl (by kernel_rfl) rfl rfl Gd.no (Qt.pickt rfl rfl) Held.c ?_
      refine GT 26 134217727 rfl (by kernel_rfl) rfl rfl Gd.no (Qt.asg rfl) Held.c ?_
      refine GH.done (by kernel_rfl) ?_
      refine GK.then (GC.seq ?_)
      refine GC.draw mixed _ Held.all ?_
      refine GT 0 1 rfl (by kernel_rfl) rfl rfl Gd.no (Qt.mv rfl) Held.c ?_
      refine GT 1 3 rfl (by kernel_rfl) rfl rfl Gd.no (Qt.mv rfl) Held.c ?_
      refine GH.split (tg := 53) rfl (fun g1 => ?_) (fun g1 => ?_)
      ·try simp only [sB0, sB1, sB2, sB3, sB4, sB5, sB6, sB7, sB8] at g1
       refine GT 2 7 rfl (by kernel_rfl) rfl rfl (Gd.yes rfl rfl) (Qt.fa0 fl96_1 rfl) Held.c ?_
       refine GT 3 15 rfl (by kernel_rfl) rfl rfl (Gd.yes rfl rfl) (by first | exact Qt.ldc a3 rfl (by first | exact Rdc.o rfl | exact Rdc.o (nth_vIs (by omega)) | exact Rdc.o (nth_vI (by omega)) | exact Rdc.f hb rfl) | exact Qt.ldF a3 rfl (hA.at' (nth_vI (by omega)))) Held.c ?_
       refine GT 4 31 rfl (by kernel_rfl) rfl rfl (Gd.yes rfl rfl) (Qt.geq rfl rfl) Held.c ?_
       refine GT 5 63 rfl (by kernel_rfl) rfl rfl Gd.no (Qt.pickt rfl rfl) Held.c ?_
       refine GT 6 127 rfl (by kernel_rfl) rfl rfl Gd.no (Qt.mv rfl) Held.c ?_
       refine GH.split (tg := 58) rfl (fun g6 => ?_) (fun g6 => ?_)
       ·try simp only [sB0, sB1, sB2, sB3, sB4, sB5, sB6, sB7, sB8] at g6
        refine GT 7 255 rfl (by kernel_rfl) rfl rfl (Gd.yes rfl rfl) (Qt.fa0 fl96_1 rfl) Held.c ?_
        refine GT 8 511 rfl (by kernel_rfl) rfl rfl (Gd.yes rfl rfl) (by first | exact Qt.ldc a3 rfl (by first | exact Rdc.o rfl | exact Rdc.o (nth_vIs (by omega)) | exact Rdc.o (nth_vI (by omega)) | exact Rdc.f hb rfl) | exact Qt.ldF a3 rfl (hA.at' (nth_vI (by omega)))) Held.c ?_
        refine GT 9 1023 rfl (by kernel_rfl) rfl rfl (Gd.yes rfl rfl) (Qt.fa0 fl96_0 rfl) Held.c ?_
        refine GT 10 2047 rfl (by kernel_rfl) rfl rfl (Gd.yes rfl rfl) (by first | exact Qt.ldc a3 rfl (by first | exact Rdc.o rfl | exact Rdc.o (nth_vIs (by omega)) | exact Rdc.o (nth_vI (by omega)) | exact Rdc.f hb rfl) | exact Qt.ldF a3 rfl (hA.at' (nth_vI (by omega)))) Held.c ?_
        refine GT 11 4095 rfl (by kernel_rfl) rfl rfl (Gd.yes rfl rfl) (Qt.leq rfl rfl) Held.c ?_
        refine GT 12 8191 rfl (by kernel_rfl) rfl rfl Gd.no (Qt.pickt rfl rfl) Held.c ?_
        refine GT 13 16383 rfl (by kernel_rfl) rfl rfl Gd.no (Qt.mv rfl) Held.c ?_
        refine GH.split (tg := 65) rfl (fun g13 => ?_) (fun g13 => ?_)
        ·try simp only [sB0, sB1, sB2, sB3, sB4, sB5, sB6, sB7, sB8] at g13
         refine GT 14 32767 rfl (by kernel_rfl) rfl rfl (Gd.yes rfl rfl) (Qt.fa0 fl96_0 rfl) Held.c ?_
         refine GT 15 65535 rfl (by kernel_rfl) rfl rfl (Gd.yes rfl rfl) (by first | exact Qt.ldc a3 rfl (by first | exact Rdc.o rfl | exact Rdc.o (nth_vIs (by omega)) | exact Rdc.o (nth_vI (by omega)) | exact Rdc.f hb rfl) | exact Qt.ldF a3 rfl (hA.at' (nth_vI (by omega)))) Held.c ?_
         refine GT 16 131071 rfl (by kernel_rfl) rfl rfl (Gd.yes rfl rfl) (Qt.fa0 fl96_1 rfl) Held.c ?_
         refine GT 17 262143 rfl (by kernel_rfl) rfl rfl (Gd.yes rfl rfl) (by first | exact Qt.ldc a3 rfl (by first | exact Rdc.o rfl | exact Rdc.o (nth_vIs (by omega)) | exact Rdc.o (nth_vI (by omega)) | exact Rdc.f hb rfl) | exact Qt.ldF a3 rfl (hA.at' (nth_vI (by omega)))) Held.c ?_
         refine GT 18 524287 rfl (by kernel_rfl) rfl rfl (Gd.yes rfl rfl) (Qt.sub rfl rfl (by first | exact i64_id (by omega) (by omega) | exact rfl)) Held.c ?_
         refine GT 19 1048575 rfl (by kernel_rfl) rfl rfl (Gd.yes rfl rfl) (Qt.mv rfl) Held.c ?_
         refine GT 20 2097151 rfl (by kernel_rfl) rfl rfl (Gd.yes rfl rfl) (Qt.nilc rfl) Held.c ?_
         refine GT 21 4194303 rfl (by kernel_rfl) rfl rfl (Gd.yes rfl rfl) (Qt.fa0 fl85_2 rfl) Held.c ?_
         refine GT 22 8388607 rfl (by kernel_rfl) rfl rfl (Gd.yes rfl rfl) (by first | exact Qt.ldc a3 rfl (by first | exact Rdc.o rfl | exact Rdc.o (nth_vIs (by omega)) | exact Rdc.o (nth_vI (by omega)) | exact Rdc.f hb rfl) | exact Qt.ldF a3 rfl (hA.at' (nth_vI (by omega)))) Held.c ?_
         refine GT 23 16777215 rfl (by kernel_rfl) rfl rfl (Gd.yes rfl rfl) (Qt.sub rfl rfl (by first | exact i64_id (by omega) (by omega) | exact rfl)) Held.c ?_
         refine GT 24 33554431 rfl (by kernel_rfl) rfl rfl (Gd.yes rfl rfl) (Qt.leq rfl rfl) Held.c ?_
         refine GT 25 67108863 rfl (by kernel_rfl) rfl rfl Gd.no (Qt.pickt rfl rfl) Held.c ?_
         refine GT 26 134217727 rfl (by kernel_rfl) rfl rfl Gd.no (Qt.asg rfl) Held.c ?_
         refine GH.done (by kernel_rfl) ?_
         refine GK.then (GC.seq ?_)
         refine GC.draw mixed _ (Held.k (Held.d Held.nil)) ?_
         refine GT 0 1 rfl (by kernel_rfl) rfl rfl Gd.no (Qt.ldW a96 rfl Rd.o z96) Held.c ?_
         refine GT 1 3 rfl (by kernel_rfl) rfl rfl Gd.no (Qt.mv rfl) Held.c ?_
         refine GT 2 7 rfl (by kernel_rfl) rfl rfl Gd.no (Qt.mv rfl) Held.c ?_
         refine GH.split (tg := 80) rfl (fun g2 => ?_) (fun g2 => ?_)
         ·try simp only [sB0, sB1, sB2, sB3, sB4, sB5, sB6, sB7, sB8] at g2
          refine GT 3 15 rfl (by kernel_rfl) rfl rfl (Gd.yes rfl rfl) (Qt.fa0 fl96_2 rfl) Held.c ?_
          refine GT 4 31 rfl (by kernel_rfl) rfl rfl (Gd.yes rfl rfl) (by first | exact Qt.ldc a36 rfl (by first | exact Rdc.o rfl | exact Rdc.o (nth_vIs (by omega)) | exact Rdc.o (nth_vI (by omega)) | exact Rdc.f hb rfl) | exact Qt.ldF a36 rfl (hA.at' (nth_vI (by omega)))) Held.c ?_
          refine GT 5 63 rfl (by kernel_rfl) rfl rfl (Gd.yes rfl rfl) (Qt.geq rfl rfl) Held.c ?_
          refine GT 6 127 rfl (by kernel_rfl) rfl rfl Gd.no (Qt.pickt rfl rfl) Held.c ?_
          refine GT 7 255 rfl (by kernel_rfl) rfl rfl Gd.no (Qt.mv rfl) Held.c ?_
          refine GH.split (tg := 85) rfl (fun g7 => ?_) (fun g7 => ?_)
          ·try simp only [sB0, sB1, sB2, sB3, sB4, sB5, sB6, sB7, sB8] at g7
           refine GT 8 511 rfl (by kernel_rfl) rfl rfl (Gd.yes rfl rfl) (Qt.fa0 fl96_2 rfl) Held.c ?_
           refine GT 9 1023 rfl (by kernel_rfl) rfl rfl (Gd.yes rfl rfl) (by first | exact Qt.ldc a36 rfl (by first | exact Rdc.o rfl | exact Rdc.o (nth_vIs (by omega)) | exact Rdc.o (nth_vI (by omega)) | exact Rdc.f hb rfl) | exact Qt.ldF a36 rfl (hA.at' (nth_vI (by omega)))) Held.c ?_
           refine GT 10 2047 rfl (by kernel_rfl) rfl rfl (Gd.yes rfl rfl) (Qt.leq rfl rfl) Held.c ?_
           refine GT 11 4095 rfl (by kernel_rfl) rfl rfl Gd.no (Qt.pickt rfl rfl) Held.c ?_
           refine GO 12 8191 (by kernel_rfl) rfl rfl Gd.no (Ld.stW (by exact z96) rfl rfl (by simp [Value.oneCell']) (E := 96) (by rfl) UpdC.u ?_)
           refine ⟨Held.c, ?_⟩
           refine GT 13 16383 rfl (by kernel_rfl) rfl rfl Gd.no (Qt.asg rfl) Held.c ?_
           refine GH.done (by kernel_rfl) ?_
           refine GK.then (GC.ret ?_)
           refine GK.ret (rs := [.cell 6 96, .tmp 7]) rfl (.cellW rfl a96 (by exact z96) Rd.o (.tmp rfl .nil)) () ?_ ?_ (.nil _)
           ·trivial
           ·exact congrArg (fun t => Value.tuple #[.agg (hdC (Hd.of xs)).toArray, .bool t]) (Hd.ok_eq (by have e : le2 xs 8 = ix xs 8 + ix xs 9 * 256 := rfl; simp only [decide_eq_true_eq, Bool.false_eq_true, false_iff, true_iff]; omega))
          ·try simp only [sB0, sB1, sB2, sB3, sB4, sB5, sB6, sB7, sB8] at g7
           refine GP 8 511 rfl (by kernel_rfl) rfl rfl rfl rfl rfl Held.c ?_
           refine GP 9 1023 rfl (by kernel_rfl) rfl rfl rfl rfl rfl Held.c ?_
           refine GP 10 2047 rfl (by kernel_rfl) rfl rfl rfl rfl rfl Held.c ?_
           refine GT 11 4095 rfl (by kernel_rfl) rfl rfl Gd.no (Qt.pickf rfl rfl) Held.c ?_
           refine GO 12 8191 (by kernel_rfl) rfl rfl Gd.no (Ld.stW (by exact z96) rfl rfl (by simp [Value.oneCell']) (E := 96) (by rfl) UpdC.u ?_)
           refine ⟨Held.c, ?_⟩
           refine GT 13 16383 rfl (by kernel_rfl) rfl rfl Gd.no (Qt.asg rfl) Held.c ?_
           refine GH.done (by kernel_rfl) ?_
           refine GK.then (GC.ret ?_)
           refine GK.ret (rs := [.cell 6 96, .tmp 7]) rfl (.cellW rfl a96 (by exact z96) Rd.o (.tmp rfl .nil)) () ?_ ?_ (.nil _)
           ·trivial
           ·exact congrArg (fun t => Value.tuple #[.agg (hdC (Hd.of xs)).toArray, .bool t]) (Hd.ok_eq (by have e : le2 xs 8 = ix xs 8 + ix xs 9 * 256 := rfl; simp only [decide_eq_true_eq, Bool.false_eq_true, false_iff, true_iff]; omega))
         ·try simp only [sB0, sB1, sB2, sB3, sB4, sB5, sB6, sB7, sB8] at g2
          refine GP 3 15 rfl (by kernel_rfl) rfl rfl rfl rfl rfl Held.c ?_
          refine GP 4 31 rfl (by kernel_rfl) rfl rfl rfl rfl rfl Held.c ?_
          refine GP 5 63 rfl (by kernel_rfl) rfl rfl rfl rfl rfl Held.c ?_
          refine GT 6 127 rfl (by kernel_rfl) rfl rfl Gd.no (Qt.pickf rfl rfl) Held.c ?_
          refine GT 7 255 rfl (by kernel_rfl) rfl rfl Gd.no (Qt.mv rfl) Held.c ?_
          refine GP 8 511 rfl (by kernel_rfl) rfl rfl rfl rfl rfl Held.c ?_
          refine GP 9 1023 rfl (by kernel_rfl) rfl rfl rfl rfl rfl Held.c ?_
          refine GP 10 2047 rfl (by kernel_rfl) rfl rfl rfl rfl rfl Held.c ?_
          refine GT 11 4095 rfl (by kernel_rfl) rfl rfl Gd.no (Qt.pickf rfl rfl) Held.c ?_
          refine GO 12 8191 (by kernel_rfl) rfl rfl Gd.no (Ld.stW (by exact z96) rfl rfl (by simp [Value.oneCell']) (E := 96) (by rfl) UpdC.u ?_)
          refine ⟨Held.c, ?_⟩
          refine GT 13 16383 rfl (by kernel_rfl) rfl rfl Gd.no (Qt.asg rfl) Held.c ?_
          refine GH.done (by kernel_rfl) ?_
          refine GK.then (GC.ret ?_)
          refine GK.ret (rs := [.cell 6 96, .tmp 7]) rfl (.cellW rfl a96 (by exact z96) Rd.o (.tmp rfl .nil)) () ?_ ?_ (.nil _)
          ·trivial
          ·exact congrArg (fun t => Value.tuple #[.agg (hdC (Hd.of xs)).toArray, .bool t]) (Hd.ok_eq (by have e : le2 xs 8 = ix xs 8 + ix xs 9 * 256 := rfl; simp only [decide_eq_true_eq, Bool.false_eq_true, false_iff, true_iff]; omega))
        ·try simp only [sB0, sB1, sB2, sB3, sB4, sB5, sB6, sB7, sB8] at g13
         refine GP 14 32767 rfl (by kernel_rfl) rfl rfl rfl rfl rfl Held.c ?_
         refine GP 15 65535 rfl (by kernel_rfl) rfl rfl rfl rfl rfl Held.c ?_
         refine GP 16 131071 rfl (by kernel_rfl) rfl rfl rfl rfl rfl Held.c ?_
         refine GP 17 262143 rfl (by kernel_rfl) rfl rfl rfl rfl rfl Held.c ?_
         refine GP 18 524287 rfl (by kernel_rfl) rfl rfl rfl rfl rfl Held.c ?_
         refine GP 19 1048575 rfl (by kernel_rfl) rfl rfl rfl rfl rfl Held.c ?_
         refine GP 20 2097151 rfl (by kernel_rfl) rfl rfl rfl rfl rfl Held.c ?_
         refine GP 21 4194303 rfl (by kernel_rfl) rfl rfl rfl rfl rfl Held.c ?_
         refine GP 22 8388607 rfl (by kernel_rfl) rfl rfl rfl rfl rfl Held.c ?_
         refine GP 23 16777215 rfl (by kernel_rfl) rfl rfl rfl rfl rfl Held.c ?_
         refine GP 24 33554431 rfl (by kernel_rfl) rfl rfl rfl rfl rfl Held.c ?_
         refine GT 25 67108863 rfl (by kernel_rfl) rfl rfl Gd.no (Qt.pickf rfl rfl) Held.c ?_
         refine GT 26 134217727 rfl (by kernel_rfl) rfl rfl Gd.no (Qt.asg rfl) Held.c ?_
         refine GH.done (by kernel_rfl) ?_
         refine GK.then (GC.seq ?_)
         refine GC.draw mixed _ (Held.k (Held.d Held.nil)) ?_
         refine GT 0 1 rfl (by kernel_rfl) rfl rfl Gd.no (Qt.ldW a96 rfl Rd.o z96) Held.c ?_
         refine GT 1 3 rfl (by kernel_rfl) rfl rfl Gd.no (Qt.mv rfl) Held.c ?_
         refine GT 2 7 rfl (by kernel_rfl) rfl rfl Gd.no (Qt.mv rfl) Held.c ?_
         refine GP 3 15 rfl (by kernel_rfl) rfl rfl rfl rfl rfl Held.c ?_
         refine GP 4 31 rfl (by kernel_rfl) rfl rfl rfl rfl rfl Held.c ?_
         refine GP 5 63 rfl (by kernel_rfl) rfl rfl rfl rfl rfl Held.c ?_
         refine GT 6 127 rfl (by kernel_rfl) rfl rfl Gd.no (Qt.pickf rfl rfl) Held.c ?_
         refine GT 7 255 rfl (by kernel_rfl) rfl rfl Gd.no (Qt.mv rfl) Held.c ?_
         refine GP 8 511 rfl (by kernel_rfl) rfl rfl rfl rfl rfl Held.c ?_
         refine GP 9 1023 rfl (by kernel_rfl) rfl rfl rfl rfl rfl Held.c ?_
         refine GP 10 2047 rfl (by kernel_rfl) rfl rfl rfl rfl rfl Held.c ?_
         refine GT 11 4095 rfl (by kernel_rfl) rfl rfl Gd.no (Qt.pickf rfl rfl) Held.c ?_
         refine GO 12 8191 (by kernel_rfl) rfl rfl Gd.no (Ld.stW (by exact z96) rfl rfl (by simp [Value.oneCell']) (E := 96) (by rfl) UpdC.u ?_)
         refine ⟨Held.c, ?_⟩
         refine GT 13 16383 rfl (by kernel_rfl) rfl rfl Gd.no (Qt.asg rfl) Held.c ?_
         refine GH.done (by kernel_rfl) ?_
         refine GK.then (GC.ret ?_)
         refine GK.ret (rs := [.cell 6 96, .tmp 7]) rfl (.cellW rfl a96 (by exact z96) Rd.o (.tmp rfl .nil)) () ?_ ?_ (.nil _)
         ·trivial
         ·exact congrArg (fun t => Value.tuple #[.agg (hdC (Hd.of xs)).toArray, .bool t]) (Hd.ok_eq (by have e : le2 xs 8 = ix xs 8 + ix xs 9 * 256 := rfl; simp only [decide_eq_true_eq, Bool.false_eq_true, false_iff, true_iff]; omega))
       ·try simp only [sB0, sB1, sB2, sB3, sB4, sB5, sB6, sB7, sB8] at g6
        refine GP 7 255 rfl (by kernel_rfl) rfl rfl rfl rfl rfl Held.c ?_
        refine GP 8 511 rfl (by kernel_rfl) rfl rfl rfl rfl rfl Held.c ?_
        refine GP 9 1023 rfl (by kernel_rfl) rfl rfl rfl rfl rfl Held.c ?_
        refine GP 10 2047 rfl (by kernel_rfl) rfl rfl rfl rfl rfl Held.c ?_
        refine GP 11 4095 rfl (by kernel_rfl) rfl rfl rfl rfl rfl Held.c ?_
        refine GT 12 8191 rfl (by kernel_rfl) rfl rfl Gd.no (Qt.pickf rfl rfl) Held.c ?_
        refine GT 13 16383 rfl (by kernel_rfl) rfl rfl Gd.no (Qt.mv rfl) Held.c ?_
        refine GP 14 32767 rfl (by kernel_rfl) rfl rfl rfl rfl rfl Held.c ?_
        refine GP 15 65535 rfl (by kernel_rfl) rfl rfl rfl rfl rfl Held.c ?_
        refine GP 16 131071 rfl (by kernel_rfl) rfl rfl rfl rfl rfl Held.c ?_
        refine GP 17 262143 rfl (by kernel_rfl) rfl rfl rfl rfl rfl Held.c ?_
        refine GP 18 524287 rfl (by kernel_rfl) rfl rfl rfl rfl rfl Held.c ?_
        refine GP 19 1048575 rfl (by kernel_rfl) rfl rfl rfl rfl rfl Held.c ?_
        refine GP 20 2097151 rfl (by kernel_rfl) rfl rfl rfl rfl rfl Held.c ?_
        refine GP 21 4194303 rfl (by kernel_rfl) rfl rfl rfl rfl rfl Held.c ?_
        refine GP 22 8388607 rfl (by kernel_rfl) rfl rfl rfl rfl rfl Held.c ?_
        refine GP 23 16777215 rfl (by kernel_rfl) rfl rfl rfl rfl rfl Held.c ?_
        refine GP 24 33554431 rfl (by kernel_rfl) rfl rfl rfl rfl rfl Held.c ?_
        refine GT 25 67108863 rfl (by kernel_rfl) rfl rfl Gd.no (Qt.pickf rfl rfl) Held.c ?_
        refine GT 26 134217727 rfl (by kernel_rfl) rfl rfl Gd.no (Qt.asg rfl) Held.c ?_
        refine GH.done (by kernel_rfl) ?_
        refine GK.then (GC.seq ?_)
        refine GC.draw mixed _ (Held.k (Held.d Held.nil)) ?_
        refine GT 0 1 rfl (by kernel_rfl) rfl rfl Gd.no (Qt.ldW a96 rfl Rd.o z96) Held.c ?_
        refine GT 1 3 rfl (by kernel_rfl) rfl rfl Gd.no (Qt.mv rfl) Held.c ?_
        refine GT 2 7 rfl (by kernel_rfl) rfl rfl Gd.no (Qt.mv rfl) Held.c ?_
        refine GP 3 15 rfl (by kernel_rfl) rfl rfl rfl rfl rfl Held.c ?_
        refine GP 4 31 rfl (by kernel_rfl) rfl rfl rfl rfl rfl Held.c ?_
        refine GP 5 63 rfl (by kernel_rfl) rfl rfl rfl rfl rfl Held.c ?_
        refine GT 6 127 rfl (by kernel_rfl) rfl rfl Gd.no (Qt.pickf rfl rfl) Held.c ?_
        refine GT 7 255 rfl (by kernel_rfl) rfl rfl Gd.no (Qt.mv rfl) Held.c ?_
        refine GP 8 511 rfl (by kernel_rfl) rfl rfl rfl rfl rfl Held.c ?_
        refine GP 9 1023 rfl (by kernel_rfl) rfl rfl rfl rfl rfl Held.c ?_
        refine GP 10 2047 rfl (by kernel_rfl) rfl rfl rfl rfl rfl Held.c ?_
        refine GT 11 4095 rfl (by kernel_rfl) rfl rfl Gd.no (Qt.pickf rfl rfl) Held.c ?_
        refine GO 12 8191 (by kernel_rfl) rfl rfl Gd.no (Ld.stW (by exact z96) rfl rfl (by simp [Value.oneCell']) (E := 96) (by rfl) UpdC.u ?_)
        refine ⟨Held.c, ?_⟩
        refine GT 13 16383 rfl (by kernel_rfl) rfl rfl Gd.no (Qt.asg rfl) Held.c ?_
        refine GH.done (by kernel_rfl) ?_
        refine GK.then (GC.ret ?_)
        refine GK.ret (rs := [.cell 6 96, .tmp 7]) rfl (.cellW rfl a96 (by exact z96) Rd.o (.tmp rfl .nil)) () ?_ ?_ (.nil _)
        ·trivial
        ·exact congrArg (fun t => Value.tuple #[.agg (hdC (Hd.of xs)).toArray, .bool t]) (Hd.ok_eq (by have e : le2 xs 8 = ix xs 8 + ix xs 9 * 256 := rfl; simp only [decide_eq_true_eq, Bool.false_eq_true, false_iff, true_iff]; omega))
      ·try simp only [sB0, sB1, sB2, sB3, sB4, sB5, sB6, sB7, sB8] at g1
       refine GP 2 7 rfl (by kernel_rfl) rfl rfl rfl rfl rfl Held.c ?_
       refine GP 3 15 rfl (by kernel_rfl) rfl rfl rfl rfl rfl Held.c ?_
       refine GP 4 31 rfl (by kernel_rfl) rfl rfl rfl rfl rfl Held.c ?_
       refine GT 5 63 rfl (by kernel_rfl) rfl rfl Gd.no (Qt.pickf rfl rfl) Held.c ?_
       refine GT 6 127 rfl (by kernel_rfl) rfl rfl Gd.no (Qt.mv rfl) Held.c ?_
       refine GP 7 255 rfl (by kernel_rfl) rfl rfl rfl rfl rfl Held.c ?_
       refine GP 8 511 rfl (by kernel_rfl) rfl rfl rfl rfl rfl Held.c ?_
       refine GP 9 1023 rfl (by kernel_rfl) rfl rfl rfl rfl rfl Held.c ?_
       refine GP 10 2047 rfl (by kernel_rfl) rfl rfl rfl rfl rfl Held.c ?_
       refine GP 11 4095 rfl (by kernel_rfl) rfl rfl rfl rfl rfl Held.c ?_
       refine GT 12 8191 rfl (by kernel_rfl) rfl rfl Gd.no (Qt.pickf rfl rfl) Held.c ?_
       refine GT 13 16383 rfl (by kernel_rfl) rfl rfl Gd.no (Qt.mv rfl) Held.c ?_
       refine GP 14 32767 rfl (by kernel_rfl) rfl rfl rfl rfl rfl Held.c ?_
       refine GP 15 65535 rfl (by kernel_rfl) rfl rfl rfl rfl rfl Held.c ?_
       refine GP 16 131071 rfl (by kernel_rfl) rfl rfl rfl rfl rfl Held.c ?_
       refine GP 17 262143 rfl (by kernel_rfl) rfl rfl rfl rfl rfl Held.c ?_
       refine GP 18 524287 rfl (by kernel_rfl) rfl rfl rfl rfl rfl Held.c ?_
       refine GP 19 1048575 rfl (by kernel_rfl) rfl rfl rfl rfl rfl Held.c ?_
       refine GP 20 2097151 rfl (by kernel_rfl) rfl rfl rfl rfl rfl Held.c ?_
       refine GP 21 4194303 rfl (by kernel_rfl) rfl rfl rfl rfl rfl Held.c ?_
       refine GP 22 8388607 rfl (by kernel_rfl) rfl rfl rfl rfl rfl Held.c ?_
       refine GP 23 16777215 rfl (by kernel_rfl) rfl rfl rfl rfl rfl Held.c ?_
       refine GP 24 33554431 rfl (by kernel_rfl) rfl rfl rfl rfl rfl Held.c ?_
       refine GT 25 67108863 rfl (by kernel_rfl) rfl rfl Gd.no (Qt.pickf rfl rfl) Held.c ?_
       refine GT 26 134217727 rfl (by kernel_rfl) rfl rfl Gd.no (Qt.asg rfl) Held.c ?_
       refine GH.done (by kernel_rfl) ?_
       refine GK.then (GC.seq ?_)
       refine GC.draw mixed _ (Held.k (Held.d Held.nil)) ?_
       refine GT 0 1 rfl (by kernel_rfl) rfl rfl Gd.no (Qt.ldW a96 rfl Rd.o z96) Held.c ?_
       refine GT 1 3 rfl (by kernel_rfl) rfl rfl Gd.no (Qt.mv rfl) Held.c ?_
       refine GT 2 7 rfl (by kernel_rfl) rfl rfl Gd.no (Qt.mv rfl) Held.c ?_
       refine GP 3 15 rfl (by kernel_rfl) rfl rfl rfl rfl rfl Held.c ?_
       refine GP 4 31 rfl (by kernel_rfl) rfl rfl rfl rfl rfl Held.c ?_
       refine GP 5 63 rfl (by kernel_rfl) rfl rfl rfl rfl rfl Held.c ?_
       refine GT 6 127 rfl (by kernel_rfl) rfl rfl Gd.no (Qt.pickf rfl rfl) Held.c ?_
       refine GT 7 255 rfl (by kernel_rfl) rfl rfl Gd.no (Qt.mv rfl) Held.c ?_
       refine GP 8 511 rfl (by kernel_rfl) rfl rfl rfl rfl rfl Held.c ?_
       refine GP 9 1023 rfl (by kernel_rfl) rfl rfl rfl rfl rfl Held.c ?_
       refine GP 10 2047 rfl (by kernel_rfl) rfl rfl rfl rfl rfl Held.c ?_
       refine GT 11 4095 rfl (by kernel_rfl) rfl rfl Gd.no (Qt.pickf rfl rfl) Held.c ?_
       refine GO 12 8191 (by kernel_rfl) rfl rfl Gd.no (Ld.stW (by exact z96) rfl rfl (by simp [Value.oneCell']) (E := 96) (by rfl) UpdC.u ?_)
       refine ⟨Held.c, ?_⟩
       refine GT 13 16383 rfl (by kernel_rfl) rfl rfl Gd.no (Qt.asg rfl) Held.c ?_
       refine GH.done (by kernel_rfl) ?_
       refine GK.then (GC.ret ?_)
       refine GK.ret (rs := [.cell 6 96, .tmp 7]) rfl (.cellW rfl a96 (by exact z96) Rd.o (.tmp rfl .nil)) () ?_ ?_ (.nil _)
       ·trivial
       ·exact congrArg (fun t => Value.tuple #[.agg (hdC (Hd.of xs)).toArray, .bool t]) (Hd.ok_eq (by have e : le2 xs 8 = ix xs 8 + ix xs 9 * 256 := rfl; simp only [decide_eq_true_eq, Bool.false_eq_true, false_iff, true_iff]; omega))
     ·try simp only [sB0, sB1, sB2, sB3, sB4, sB5, sB6, sB7, sB8] at g14
      refine GP 15 65535 rfl (by kernel_rfl) rfl rfl rfl rfl rfl Held.c ?_
      refine GP 16 131071 rfl (by kernel_rfl) rfl rfl rfl rfl rfl Held.c ?_
      refine GP 17 262143 rfl (by kernel_rfl) rfl rfl rfl rfl rfl Held.c ?_
      refine GP 18 524287 rfl (by kernel_rfl) rfl rfl rfl rfl rfl Held.c ?_
      refine GP 19 1048575 rfl (by kernel_rfl) rfl rfl rfl rfl rfl Held.c ?_
      refine GP 20 2097151 rfl (by kernel_rfl) rfl rfl rfl rfl rfl Held.c ?_
      refine GP 21 4194303 rfl (by kernel_rfl) rfl rfl rfl rfl rfl Held.c ?_
      refine GP 22 8388607 rfl (by kernel_rfl) rfl rfl rfl rfl rfl Held.c ?_
      refine GP 23 16777215 rfl (by kernel_rfl) rfl rfl rfl rfl rfl Held.c ?_
      refine GP 24 33554431 rfl (by kernel_rfl) rfl rfl rfl rfl rfl Held.c ?_
      refine GT 25 67108863 rfl (by kernel_rfl) rfl rfl Gd.no (Qt.pickf rfl rfl) Held.c ?_
      refine GT 26 134217727 rfl (by kernel_rfl) rfl rfl Gd.no (Qt.asg rfl) Held.c ?_
      refine GH.done (by kernel_rfl) ?_
      refine GK.then (GC.seq ?_)
      refine GC.draw mixed _ Held.all ?_
      refine GT 0 1 rfl (by kernel_rfl) rfl rfl Gd.no (Qt.mv rfl) Held.c ?_
      refine GT 1 3 rfl (by kernel_rfl) rfl rfl Gd.no (Qt.mv rfl) Held.c ?_
      refine GP 2 7 rfl (by kernel_rfl) rfl rfl rfl rfl rfl Held.c ?_
      refine GP 3 15 rfl (by kernel_rfl) rfl rfl rfl rfl rfl Held.c ?_
      refine GP 4 31 rfl (by kernel_rfl) rfl rfl rfl rfl rfl Held.c ?_
      refine GT 5 63 rfl (by kernel_rfl) rfl rfl Gd.no (Qt.pickf rfl rfl) Held.c ?_
      refine GT 6 127 rfl (by kernel_rfl) rfl rfl Gd.no (Qt.mv rfl) Held.c ?_
      refine GP 7 255 rfl (by kernel_rfl) rfl rfl rfl rfl rfl Held.c ?_
      refine GP 8 511 rfl (by kernel_rfl) rfl rfl rfl rfl rfl Held.c ?_
      refine GP 9 1023 rfl (by kernel_rfl) rfl rfl rfl rfl rfl Held.c ?_
      refine GP 10 2047 rfl (by kernel_rfl) rfl rfl rfl rfl rfl Held.c ?_
      refine GP 11 4095 rfl (by kernel_rfl) rfl rfl rfl rfl rfl Held.c ?_
      refine GT 12 8191 rfl (by kernel_rfl) rfl rfl Gd.no (Qt.pickf rfl rfl) Held.c ?_
      refine GT 13 16383 rfl (by kernel_rfl) rfl rfl Gd.no (Qt.mv rfl) Held.c ?_
      refine GP 14 32767 rfl (by kernel_rfl) rfl rfl rfl rfl rfl Held.c ?_
      refine GP 15 65535 rfl (by kernel_rfl) rfl rfl rfl rfl rfl Held.c ?_
      refine GP 16 131071 rfl (by kernel_rfl) rfl rfl rfl rfl rfl Held.c ?_
      refine GP 17 262143 rfl (by kernel_rfl) rfl rfl rfl rfl rfl Held.c ?_
      refine GP 18 524287 rfl (by kernel_rfl) rfl rfl rfl rfl rfl Held.c ?_
      refine GP 19 1048575 rfl (by kernel_rfl) rfl rfl rfl rfl rfl Held.c ?_
      refine GP 20 2097151 rfl (by kernel_rfl) rfl rfl rfl rfl rfl Held.c ?_
      refine GP 21 4194303 rfl (by kernel_rfl) rfl rfl rfl rfl rfl Held.c ?_
      refine GP 22 8388607 rfl (by kernel_rfl) rfl rfl rfl rfl rfl Held.c ?_
      refine GP 23 16777215 rfl (by kernel_rfl) rfl rfl rfl rfl rfl Held.c ?_
      refine GP 24 33554431 rfl (by kernel_rfl) rfl rfl rfl rfl rfl Held.c ?_
      refine GT 25 67108863 rfl (by kernel_rfl) rfl rfl Gd.no (Qt.pickf rfl rfl) Held.c ?_
      refine GT 26 134217727 rfl (by kernel_rfl) rfl rfl Gd.no (Qt.asg rfl) Held.c ?_
      refine GH.done (by kernel_rfl) ?_
      refine GK.then (GC.seq ?_)
      refine GC.draw mixed _ (Held.k (Held.d Held.nil)) ?_
      refine GT 0 1 rfl (by kernel_rfl) rfl rfl Gd.no (Qt.ldW a96 rfl Rd.o z96) Held.c ?_
      refine GT 1 3 rfl (by kernel_rfl) rfl rfl Gd.no (Qt.mv rfl) Held.c ?_
      refine GT 2 7 rfl (by kernel_rfl) rfl rfl Gd.no (Qt.mv rfl) Held.c ?_
      refine GP 3 15 rfl (by kernel_rfl) rfl rfl rfl rfl rfl Held.c ?_
      refine GP 4 31 rfl (by kernel_rfl) rfl rfl rfl rfl rfl Held.c ?_
      refine GP 5 63 rfl (by kernel_rfl) rfl rfl rfl rfl rfl Held.c ?_
      refine GT 6 127 rfl (by kernel_rfl) rfl rfl Gd.no (Qt.pickf rfl rfl) Held.c ?_
      refine GT 7 255 rfl (by kernel_rfl) rfl rfl Gd.no (Qt.mv rfl) Held.c ?_
      refine GP 8 511 rfl (by kernel_rfl) rfl rfl rfl rfl rfl Held.c ?_
      refine GP 9 1023 rfl (by kernel_rfl) rfl rfl rfl rfl rfl Held.c ?_
      refine GP 10 2047 rfl (by kernel_rfl) rfl rfl rfl rfl rfl Held.c ?_
      refine GT 11 4095 rfl (by kernel_rfl) rfl rfl Gd.no (Qt.pickf rfl rfl) Held.c ?_
      refine GO 12 8191 (by kernel_rfl) rfl rfl Gd.no (Ld.stW (by exact z96) rfl rfl (by simp [Value.oneCell']) (E := 96) (by rfl) UpdC.u ?_)
      refine ⟨Held.c, ?_⟩
      refine GT 13 16383 rfl (by kernel_rfl) rfl rfl Gd.no (Qt.asg rfl) Held.c ?_
      refine GH.done (by kernel_rfl) ?_
      refine GK.then (GC.ret ?_)
      refine GK.ret (rs := [.cell 6 96, .tmp 7]) rfl (.cellW rfl a96 (by exact z96) Rd.o (.tmp rfl .nil)) () ?_ ?_ (.nil _)
      ·trivial
      ·exact congrArg (fun t => Value.tuple #[.agg (hdC (Hd.of xs)).toArray, .bool t]) (Hd.ok_eq (by have e : le2 xs 8 = ix xs 8 + ix xs 9 * 256 := rfl; simp only [decide_eq_true_eq, Bool.false_eq_true, false_iff, true_iff]; omega))
    ·try simp only [sB0, sB1, sB2, sB3, sB4, sB5, sB6, sB7, sB8] at g9
     refine GP 10 2047 rfl (by kernel_rfl) rfl rfl rfl rfl rfl Held.c ?_
     refine GP 11 4095 rfl (by kernel_rfl) rfl rfl rfl rfl rfl Held.c ?_
     refine GP 12 8191 rfl (by kernel_rfl) rfl rfl rfl rfl rfl Held.c ?_
     refine GT 13 16383 rfl (by kernel_rfl) rfl rfl Gd.no (Qt.pickf rfl rfl) Held.c ?_
     refine GT 14 32767 rfl (by kernel_rfl) rfl rfl Gd.no (Qt.mv rfl) Held.c ?_
     refine GP 15 65535 rfl (by kernel_rfl) rfl rfl rfl rfl rfl Held.c ?_
     refine GP 16 131071 rfl (by kernel_rfl) rfl rfl rfl rfl rfl Held.c ?_
     refine GP 17 262143 rfl (by kernel_rfl) rfl rfl rfl rfl rfl Held.c ?_
     refine GP 18 524287 rfl (by kernel_rfl) rfl rfl rfl rfl rfl Held.c ?_
     refine GP 19 1048575 rfl (by kernel_rfl) rfl rfl rfl rfl rfl Held.c ?_
     refine GP 20 2097151 rfl (by kernel_rfl) rfl rfl rfl rfl rfl Held.c ?_
     refine GP 21 4194303 rfl (by kernel_rfl) rfl rfl rfl rfl rfl Held.c ?_
     refine GP 22 8388607 rfl (by kernel_rfl) rfl rfl rfl rfl rfl Held.c ?_
     refine GP 23 16777215 rfl (by kernel_rfl) rfl rfl rfl rfl rfl Held.c ?_
     refine GP 24 33554431 rfl (by kernel_rfl) rfl rfl rfl rfl rfl Held.c ?_
     refine GT 25 67108863 rfl (by kernel_rfl) rfl rfl Gd.no (Qt.pickf rfl rfl) Held.c ?_
     refine GT 26 134217727 rfl (by kernel_rfl) rfl rfl Gd.no (Qt.asg rfl) Held.c ?_
     refine GH.done (by kernel_rfl) ?_
     refine GK.then (GC.seq ?_)
     refine GC.draw mixed _ Held.all ?_
     refine GT 0 1 rfl (by kernel_rfl) rfl rfl Gd.no (Qt.mv rfl) Held.c ?_
     refine GT 1 3 rfl (by kernel_rfl) rfl rfl Gd.no (Qt.mv rfl) Held.c ?_
     refine GP 2 7 rfl (by kernel_rfl) rfl rfl rfl rfl rfl Held.c ?_
     refine GP 3 15 rfl (by kernel_rfl) rfl rfl rfl rfl rfl Held.c ?_
     refine GP 4 31 rfl (by kernel_rfl) rfl rfl rfl rfl rfl Held.c ?_
     refine GT 5 63 rfl (by kernel_rfl) rfl rfl Gd.no (Qt.pickf rfl rfl) Held.c ?_
     refine GT 6 127 rfl (by kernel_rfl) rfl rfl Gd.no (Qt.mv rfl) Held.c ?_
     refine GP 7 255 rfl (by kernel_rfl) rfl rfl rfl rfl rfl Held.c ?_
     refine GP 8 511 rfl (by kernel_rfl) rfl rfl rfl rfl rfl Held.c ?_
     refine GP 9 1023 rfl (by kernel_rfl) rfl rfl rfl rfl rfl Held.c ?_
     refine GP 10 2047 rfl (by kernel_rfl) rfl rfl rfl rfl rfl Held.c ?_
     refine GP 11 4095 rfl (by kernel_rfl) rfl rfl rfl rfl rfl Held.c ?_
     refine GT 12 8191 rfl (by kernel_rfl) rfl rfl Gd.no (Qt.pickf rfl rfl) Held.c ?_
     refine GT 13 16383 rfl (by kernel_rfl) rfl rfl Gd.no (Qt.mv rfl) Held.c ?_
     refine GP 14 32767 rfl (by kernel_rfl) rfl rfl rfl rfl rfl Held.c ?_
     refine GP 15 65535 rfl (by kernel_rfl) rfl rfl rfl rfl rfl Held.c ?_
     refine GP 16 131071 rfl (by kernel_rfl) rfl rfl rfl rfl rfl Held.c ?_
     refine GP 17 262143 rfl (by kernel_rfl) rfl rfl rfl rfl rfl Held.c ?_
     refine GP 18 524287 rfl (by kernel_rfl) rfl rfl rfl rfl rfl Held.c ?_
     refine GP 19 1048575 rfl (by kernel_rfl) rfl rfl rfl rfl rfl Held.c ?_
     refine GP 20 2097151 rfl (by kernel_rfl) rfl rfl rfl rfl rfl Held.c ?_
     refine GP 21 4194303 rfl (by kernel_rfl) rfl rfl rfl rfl rfl Held.c ?_
     refine GP 22 8388607 rfl (by kernel_rfl) rfl rfl rfl rfl rfl Held.c ?_
     refine GP 23 16777215 rfl (by kernel_rfl) rfl rfl rfl rfl rfl Held.c ?_
     refine GP 24 33554431 rfl (by kernel_rfl) rfl rfl rfl rfl rfl Held.c ?_
     refine GT 25 67108863 rfl (by kernel_rfl) rfl rfl Gd.no (Qt.pickf rfl rfl) Held.c ?_
     refine GT 26 134217727 rfl (by kernel_rfl) rfl rfl Gd.no (Qt.asg rfl) Held.c ?_
     refine GH.done (by kernel_rfl) ?_
     refine GK.then (GC.seq ?_)
     refine GC.draw mixed _ (Held.k (Held.d Held.nil)) ?_
     refine GT 0 1 rfl (by kernel_rfl) rfl rfl Gd.no (Qt.ldW a96 rfl Rd.o z96) Held.c ?_
     refine GT 1 3 rfl (by kernel_rfl) rfl rfl Gd.no (Qt.mv rfl) Held.c ?_
     refine GT 2 7 rfl (by kernel_rfl) rfl rfl Gd.no (Qt.mv rfl) Held.c ?_
     refine GP 3 15 rfl (by kernel_rfl) rfl rfl rfl rfl rfl Held.c ?_
     refine GP 4 31 rfl (by kernel_rfl) rfl rfl rfl rfl rfl Held.c ?_
     refine GP 5 63 rfl (by kernel_rfl) rfl rfl rfl rfl rfl Held.c ?_
     refine GT 6 127 rfl (by kernel_rfl) rfl rfl Gd.no (Qt.pickf rfl rfl) Held.c ?_
     refine GT 7 255 rfl (by kernel_rfl) rfl rfl Gd.no (Qt.mv rfl) Held.c ?_
     refine GP 8 511 rfl (by kernel_rfl) rfl rfl rfl rfl rfl Held.c ?_
     refine GP 9 1023 rfl (by kernel_rfl) rfl rfl rfl rfl rfl Held.c ?_
     refine GP 10 2047 rfl (by kernel_rfl) rfl rfl rfl rfl rfl Held.c ?_
     refine GT 11 4095 rfl (by kernel_rfl) rfl rfl Gd.no (Qt.pickf rfl rfl) Held.c ?_
     refine GO 12 8191 (by kernel_rfl) rfl rfl Gd.no (Ld.stW (by exact z96) rfl rfl (by simp [Value.oneCell']) (E := 96) (by rfl) UpdC.u ?_)
     refine ⟨Held.c, ?_⟩
     refine GT 13 16383 rfl (by kernel_rfl) rfl rfl Gd.no (Qt.asg rfl) Held.c ?_
     refine GH.done (by kernel_rfl) ?_
     refine GK.then (GC.ret ?_)
     refine GK.ret (rs := [.cell 6 96, .tmp 7]) rfl (.cellW rfl a96 (by exact z96) Rd.o (.tmp rfl .nil)) () ?_ ?_ (.nil _)
     ·trivial
     ·exact congrArg (fun t => Value.tuple #[.agg (hdC (Hd.of xs)).toArray, .bool t]) (Hd.ok_eq (by have e : le2 xs 8 = ix xs 8 + ix xs 9 * 256 := rfl; simp only [decide_eq_true_eq, Bool.false_eq_true, false_iff, true_iff]; omega))
   ·try simp only [sB0, sB1, sB2, sB3, sB4, sB5, sB6, sB7, sB8] at g4
    refine GP 5 63 rfl (by kernel_rfl) rfl rfl rfl rfl rfl Held.c ?_
    refine GP 6 127 rfl (by kernel_rfl) rfl rfl rfl rfl rfl Held.c ?_
    refine GP 7 255 rfl (by kernel_rfl) rfl rfl rfl rfl rfl Held.c ?_
    refine GT 8 511 rfl (by kernel_rfl) rfl rfl Gd.no (Qt.pickf rfl rfl) Held.c ?_
    refine GT 9 1023 rfl (by kernel_rfl) rfl rfl Gd.no (Qt.mv rfl) Held.c ?_
    refine GP 10 2047 rfl (by kernel_rfl) rfl rfl rfl rfl rfl Held.c ?_
    refine GP 11 4095 rfl (by kernel_rfl) rfl rfl rfl rfl rfl Held.c ?_
    refine GP 12 8191 rfl (by kernel_rfl) rfl rfl rfl rfl rfl Held.c ?_
    refine GT 13 16383 rfl (by kernel_rfl) rfl rfl Gd.no (Qt.pickf rfl rfl) Held.c ?_
    refine GT 14 32767 rfl (by kernel_rfl) rfl rfl Gd.no (Qt.mv rfl) Held.c ?_
    refine GP 15 65535 rfl (by kernel_rfl) rfl rfl rfl rfl rfl Held.c ?_
    refine GP 16 131071 rfl (by kernel_rfl) rfl rfl rfl rfl rfl Held.c ?_
    refine GP 17 262143 rfl (by kernel_rfl) rfl rfl rfl rfl rfl Held.c ?_
    refine GP 18 524287 rfl (by kernel_rfl) rfl rfl rfl rfl rfl Held.c ?_
    refine GP 19 1048575 rfl (by kernel_rfl) rfl rfl rfl rfl rfl Held.c ?_
    refine GP 20 2097151 rfl (by kernel_rfl) rfl rfl rfl rfl rfl Held.c ?_
    refine GP 21 4194303 rfl (by kernel_rfl) rfl rfl rfl rfl rfl Held.c ?_
    refine GP 22 8388607 rfl (by kernel_rfl) rfl rfl rfl rfl rfl Held.c ?_
    refine GP 23 16777215 rfl (by kernel_rfl) rfl rfl rfl rfl rfl Held.c ?_
    refine GP 24 33554431 rfl (by kernel_rfl) rfl rfl rfl rfl rfl Held.c ?_
    refine GT 25 67108863 rfl (by kernel_rfl) rfl rfl Gd.no (Qt.pickf rfl rfl) Held.c ?_
    refine GT 26 134217727 rfl (by kernel_rfl) rfl rfl Gd.no (Qt.asg rfl) Held.c ?_
    refine GH.done (by kernel_rfl) ?_
    refine GK.then (GC.seq ?_)
    refine GC.draw mixed _ Held.all ?_
    refine GT 0 1 rfl (by kernel_rfl) rfl rfl Gd.no (Qt.mv rfl) Held.c ?_
    refine GT 1 3 rfl (by kernel_rfl) rfl rfl Gd.no (Qt.mv rfl) Held.c ?_
    refine GP 2 7 rfl (by kernel_rfl) rfl rfl rfl rfl rfl Held.c ?_
    refine GP 3 15 rfl (by kernel_rfl) rfl rfl rfl rfl rfl Held.c ?_
    refine GP 4 31 rfl (by kernel_rfl) rfl rfl rfl rfl rfl Held.c ?_
    refine GT 5 63 rfl (by kernel_rfl) rfl rfl Gd.no (Qt.pickf rfl rfl) Held.c ?_
    refine GT 6 127 rfl (by kernel_rfl) rfl rfl Gd.no (Qt.mv rfl) Held.c ?_
    refine GP 7 255 rfl (by kernel_rfl) rfl rfl rfl rfl rfl Held.c ?_
    refine GP 8 511 rfl (by kernel_rfl) rfl rfl rfl rfl rfl Held.c ?_
    refine GP 9 1023 rfl (by kernel_rfl) rfl rfl rfl rfl rfl Held.c ?_
    refine GP 10 2047 rfl (by kernel_rfl) rfl rfl rfl rfl rfl Held.c ?_
    refine GP 11 4095 rfl (by kernel_rfl) rfl rfl rfl rfl rfl Held.c ?_
    refine GT 12 8191 rfl (by kernel_rfl) rfl rfl Gd.no (Qt.pickf rfl rfl) Held.c ?_
    refine GT 13 16383 rfl (by kernel_rfl) rfl rfl Gd.no (Qt.mv rfl) Held.c ?_
    refine GP 14 32767 rfl (by kernel_rfl) rfl rfl rfl rfl rfl Held.c ?_
    refine GP 15 65535 rfl (by kernel_rfl) rfl rfl rfl rfl rfl Held.c ?_
    refine GP 16 131071 rfl (by kernel_rfl) rfl rfl rfl rfl rfl Held.c ?_
    refine GP 17 262143 rfl (by kernel_rfl) rfl rfl rfl rfl rfl Held.c ?_
    refine GP 18 524287 rfl (by kernel_rfl) rfl rfl rfl rfl rfl Held.c ?_
    refine GP 19 1048575 rfl (by kernel_rfl) rfl rfl rfl rfl rfl Held.c ?_
    refine GP 20 2097151 rfl (by kernel_rfl) rfl rfl rfl rfl rfl Held.c ?_
    refine GP 21 4194303 rfl (by kernel_rfl) rfl rfl rfl rfl rfl Held.c ?_
    refine GP 22 8388607 rfl (by kernel_rfl) rfl rfl rfl rfl rfl Held.c ?_
    refine GP 23 16777215 rfl (by kernel_rfl) rfl rfl rfl rfl rfl Held.c ?_
    refine GP 24 33554431 rfl (by kernel_rfl) rfl rfl rfl rfl rfl Held.c ?_
    refine GT 25 67108863 rfl (by kernel_rfl) rfl rfl Gd.no (Qt.pickf rfl rfl) Held.c ?_
    refine GT 26 134217727 rfl (by kernel_rfl) rfl rfl Gd.no (Qt.asg rfl) Held.c ?_
    refine GH.done (by kernel_rfl) ?_
    refine GK.then (GC.seq ?_)
    refine GC.draw mixed _ (Held.k (Held.d Held.nil)) ?_
    refine GT 0 1 rfl (by kernel_rfl) rfl rfl Gd.no (Qt.ldW a96 rfl Rd.o z96) Held.c ?_
    refine GT 1 3 rfl (by kernel_rfl) rfl rfl Gd.no (Qt.mv rfl) Held.c ?_
    refine GT 2 7 rfl (by kernel_rfl) rfl rfl Gd.no (Qt.mv rfl) Held.c ?_
    refine GP 3 15 rfl (by kernel_rfl) rfl rfl rfl rfl rfl Held.c ?_
    refine GP 4 31 rfl (by kernel_rfl) rfl rfl rfl rfl rfl Held.c ?_
    refine GP 5 63 rfl (by kernel_rfl) rfl rfl rfl rfl rfl Held.c ?_
    refine GT 6 127 rfl (by kernel_rfl) rfl rfl Gd.no (Qt.pickf rfl rfl) Held.c ?_
    refine GT 7 255 rfl (by kernel_rfl) rfl rfl Gd.no (Qt.mv rfl) Held.c ?_
    refine GP 8 511 rfl (by kernel_rfl) rfl rfl rfl rfl rfl Held.c ?_
    refine GP 9 1023 rfl (by kernel_rfl) rfl rfl rfl rfl rfl Held.c ?_
    refine GP 10 2047 rfl (by kernel_rfl) rfl rfl rfl rfl rfl Held.c ?_
    refine GT 11 4095 rfl (by kernel_rfl) rfl rfl Gd.no (Qt.pickf rfl rfl) Held.c ?_
    refine GO 12 8191 (by kernel_rfl) rfl rfl Gd.no (Ld.stW (by exact z96) rfl rfl (by simp [Value.oneCell']) (E := 96) (by rfl) UpdC.u ?_)
    refine ⟨Held.c, ?_⟩
    refine GT 13 16383 rfl (by kernel_rfl) rfl rfl Gd.no (Qt.asg rfl) Held.c ?_
    refine GH.done (by kernel_rfl) ?_
    refine GK.then (GC.ret ?_)
    refine GK.ret (rs := [.cell 6 96, .tmp 7]) rfl (.cellW rfl a96 (by exact z96) Rd.o (.tmp rfl .nil)) () ?_ ?_ (.nil _)
    ·trivial
    ·exact congrArg (fun t => Value.tuple #[.agg (hdC (Hd.of xs)).toArray, .bool t]) (Hd.ok_eq (by have e : le2 xs 8 = ix xs 8 + ix xs 9 * 256 := rfl; simp only [decide_eq_true_eq, Bool.false_eq_true, false_iff, true_iff]; omega))
  ·skip
   refine ⟨Held.c, ?_⟩
   refine GO 4 98303 (by kernel_rfl) rfl rfl Gd.no (Ld.call cal74 rfl rfl (.nil _) (fun F' hF => read4_ct F' (A.add 4) (n - 4) _ (xs.drop 4) ((dropI hA).mono hF) (by rw [List.length_drop, hl]) (by omega) (hb2.drop 4)) (fun _ _ => ?_))
   dsimp only [lCa, lNa]
   rw [le4_drop]
   refine ⟨Held.c, ?_⟩
   refine GT 15 131071 rfl (by kernel_rfl) rfl rfl Gd.no (Qt.buildS Try.underlying96 pl96 ze96 (.cons rfl rfl (by first | exact Cl.one rfl | exact Cl.agg) rfl (SetM.cons SetAt.k0 (.nil _ _)) (.cons rfl rfl (by first | exact Cl.one rfl | exact Cl.agg) rfl (SetM.cons SetAt.k1 (.nil _ _)) (.cons rfl rfl (by first | exact Cl.one rfl | exact Cl.agg) rfl (SetM.cons SetAt.k2 (.nil _ _)) (.nil _))))) Held.c ?_
   refine GO 17 262143 (by kernel_rfl) rfl rfl Gd.no (Ld.stW (by exact z96) rfl rfl (by simp [Value.oneCell']) (E := 96) (by rfl) UpdC.u ?_)
   refine ⟨Held.c, ?_⟩
   refine GH.done (by kernel_rfl) ?_
   refine GK.then (GC.seq ?_)
   refine GC.draw mixed _ Held.all ?_
   refine GT 0 1 rfl (by kernel_rfl) rfl rfl Gd.no (Qt.mv rfl) Held.c ?_
   refine GT 1 3 rfl (by kernel_rfl) rfl rfl Gd.no (by first | exact Qt.iab01 Try.underlying53 z5 rfl rfl (by omega) (by omega) (show (10 : Int).toNat = 10 from rfl) | exact Qt.ia1 Try.underlying53 z5 rfl rfl (by omega) (by omega) (show (10 : Int).toNat = 10 from rfl)) Held.c ?_
   refine GT 2 7 rfl (by kernel_rfl) rfl rfl Gd.no (by first | exact Qt.ldc a5 rfl (by first | exact Rdc.o rfl | exact Rdc.o (nth_vIs (by omega)) | exact Rdc.o (nth_vI (by omega)) | exact Rdc.f hb rfl) | exact Qt.ldF a5 rfl (hA.at' (nth_vI (by omega)))) Held.c ?_
   refine GT 3 15 rfl (by kernel_rfl) rfl rfl Gd.no (Qt.eqI rfl rfl) Held.c ?_
   refine GT 4 31 rfl (by kernel_rfl) rfl rfl Gd.no (Qt.mv rfl) Held.c ?_
   refine GH.split (tg := 30) rfl (fun g4 => ?_) (fun g4 => ?_)
   ·try simp only [sB0, sB1, sB2, sB3, sB4, sB5, sB6, sB7, sB8] at g4
    refine GT 5 63 rfl (by kernel_rfl) rfl rfl (Gd.yes rfl rfl) (Qt.fa0 fl96_0 rfl) Held.c ?_
    refine GT 6 127 rfl (by kernel_rfl) rfl rfl (Gd.yes rfl rfl) (by first | exact Qt.ldc a3 rfl (by first | exact Rdc.o rfl | exact Rdc.o (nth_vIs (by omega)) | exact Rdc.o (nth_vI (by omega)) | exact Rdc.f hb rfl) | exact Qt.ldF a3 rfl (hA.at' (nth_vI (by omega)))) Held.c ?_
    refine GT 7 255 rfl (by kernel_rfl) rfl rfl (Gd.yes rfl rfl) (Qt.geq rfl rfl) Held.c ?_
    refine GT 8 511 rfl (by kernel_rfl) rfl rfl Gd.no (Qt.pickt rfl rfl) Held.c ?_
    refine GT 9 1023 rfl (by kernel_rfl) rfl rfl Gd.no (Qt.mv rfl) Held.c ?_
    refine GH.split (tg := 35) rfl (fun g9 => ?_) (fun g9 => ?_)
    ·try simp only [sB0, sB1, sB2, sB3, sB4, sB5, sB6, sB7, sB8] at g9
     refine GT 10 2047 rfl (by kernel_rfl) rfl rfl (Gd.yes rfl rfl) (Qt.fa0 fl96_0 rfl) Held.c ?_
     refine GT 11 4095 rfl (by kernel_rfl) rfl rfl (Gd.yes rfl rfl) (by first | exact Qt.ldc a3 rfl (by first | exact Rdc.o rfl | exact Rdc.o (nth_vIs (by omega)) | exact Rdc.o (nth_vI (by omega)) | exact Rdc.f hb rfl) | exact Qt.ldF a3 rfl (hA.at' (nth_vI (by omega)))) Held.c ?_
     refine GT 12 8191 rfl (by kernel_rfl) rfl rfl (Gd.yes rfl rfl) (Qt.leq rfl rfl) Held.c ?_
     refine GT 13 16383 rfl (by kernel_rfl) rfl rfl Gd.no (Qt.pickt rfl rfl) Held.c ?_
     refine GT 14 32767 rfl (by kernel_rfl) rfl rfl Gd.no (Qt.mv rfl) Held.c ?_
     refine GH.split (tg := 40) rfl (fun g14 => ?_) (fun g14 => ?_)
     ·try simp only [sB0, sB1, sB2, sB3, sB4, sB5, sB6, sB7, sB8] at g14
      refine GT 15 65535 rfl (by kernel_rfl) rfl rfl (Gd.yes rfl rfl) (Qt.fa0 fl96_0 rfl) Held.c ?_
      refine GT 16 131071 rfl (by kernel_rfl) rfl rfl (Gd.yes rfl rfl) (by first | exact Qt.ldc a3 rfl (by first | exact Rdc.o rfl | exact Rdc.o (nth_vIs (by omega)) | exact Rdc.o (nth_vI (by omega)) | exact Rdc.f hb rfl) | exact Qt.ldF a3 rfl (hA.at' (nth_vI (by omega)))) Held.c ?_
      refine GT 17 262143 rfl (by kernel_rfl) rfl rfl (Gd.yes rfl rfl) (Qt.sub rfl rfl (by first | exact i64_id (by omega) (by omega) | exact rfl)) Held.c ?_
      refine GT 18 524287 rfl (by kernel_rfl) rfl rfl (Gd.yes rfl rfl) (Qt.mv rfl) Held.c ?_
      refine GT 19 1048575 rfl (by kernel_rfl) rfl rfl (Gd.yes rfl rfl) (Qt.nilc rfl) Held.c ?_
      refine GT 20 2097151 rfl (by kernel_rfl) rfl rfl (Gd.yes rfl rfl) (Qt.fa0 fl85_2 rfl) Held.c ?_
      refine GT 21 4194303 rfl (by kernel_rfl) rfl rfl (Gd.yes rfl rfl) (by first | exact Qt.ldc a3 rfl (by first | exact Rdc.o rfl | exact Rdc.o (nth_vIs (by omega)) | exact Rdc.o (nth_vI (by omega)) | exact Rdc.f hb rfl) | exact Qt.ldF a3 rfl (hA.at' (nth_vI (by omega)))) Held.c ?_
      refine GT 22 8388607 rfl (by kernel_rfl) rfl rfl (Gd.yes rfl rfl) (Qt.rem rfl rfl (by omega) (by first | exact rem_nn (by omega) | exact rfl)) Held.c ?_
      refine GT 23 16777215 rfl (by kernel_rfl) rfl rfl (Gd.yes rfl rfl) (Qt.mv rfl) Held.c ?_
      refine GT 24 33554431 rfl (by kernel_rfl) rfl rfl (Gd.yes rfl rfl) (Qt.eqI rfl rfl) Held.c ?_
      refine GT 25 67108863 rfl (by kernel_rfl) rfl rfl Gd.no (Qt.pickt rfl rfl) Held.c ?_
      refine GT 26 134217727 rfl (by kernel_rfl) rfl rfl Gd.no (Qt.asg rfl) Held.c ?_
      refine GH.done (by kernel_rfl) ?_
      refine GK.then (GC.seq ?_)
      refine GC.draw mixed _ Held.all ?_
      refine GT 0 1 rfl (by kernel_rfl) rfl rfl Gd.no (Qt.mv rfl) Held.c ?_
      refine GT 1 3 rfl (by kernel_rfl) rfl rfl Gd.no (Qt.mv rfl) Held.c ?_
      refine GH.split (tg := 53) rfl (fun g1 => ?_) (fun g1 => ?_)
      ·try simp only [sB0, sB1, sB2, sB3, sB4, sB5, sB6, sB7, sB8] at g1
       refine GT 2 7 rfl (by kernel_rfl) rfl rfl (Gd.yes rfl rfl) (Qt.fa0 fl96_1 rfl) Held.c ?_
       refine GT 3 15 rfl (by kernel_rfl) rfl rfl (Gd.yes rfl rfl) (by first | exact Qt.ldc a3 rfl (by first | exact Rdc.o rfl | exact Rdc.o (nth_vIs (by omega)) | exact Rdc.o (nth_vI (by omega)) | exact Rdc.f hb rfl) | exact Qt.ldF a3 rfl (hA.at' (nth_vI (by omega)))) Held.c ?_
       refine GT 4 31 rfl (by kernel_rfl) rfl rfl (Gd.yes rfl rfl) (Qt.geq rfl rfl) Held.c ?_
       refine GT 5 63 rfl (by kernel_rfl) rfl rfl Gd.no (Qt.pickt rfl rfl) Held.c ?_
       refine GT 6 127 rfl (by kernel_rfl) rfl rfl Gd.no (Qt.mv rfl) Held.c ?_
       refine GH.split (tg := 58) rfl (fun g6 => ?_) (fun g6 => ?_)
       ·try simp only [sB0, sB1, sB2, sB3, sB4, sB5, sB6, sB7, sB8] at g6
        refine GT 7 255 rfl (by kernel_rfl) rfl rfl (Gd.yes rfl rfl) (Qt.fa0 fl96_1 rfl) Held.c ?_
        refine GT 8 511 rfl (by kernel_rfl) rfl rfl (Gd.yes rfl rfl) (by first | exact Qt.ldc a3 rfl (by first | exact Rdc.o rfl | exact Rdc.o (nth_vIs (by omega)) | exact Rdc.o (nth_vI (by omega)) | exact Rdc.f hb rfl) | exact Qt.ldF a3 rfl (hA.at' (nth_vI (by omega)))) Held.c ?_
        refine GT 9 1023 rfl (by kernel_rfl) rfl rfl (Gd.yes rfl rfl) (Qt.fa0 fl96_0 rfl) Held.c ?_
        refine GT 10 2047 rfl (by kernel_rfl) rfl rfl (Gd.yes rfl rfl) (by first | exact Qt.ldc a3 rfl (by first | exact Rdc.o rfl | exact Rdc.o (nth_vIs (by omega)) | exact Rdc.o (nth_vI (by omega)) | exact Rdc.f hb rfl) | exact Qt.ldF a3 rfl (hA.at' (nth_vI (by omega)))) Held.c ?_
        refine GT 11 4095 rfl (by kernel_rfl) rfl rfl (Gd.yes rfl rfl) (Qt.leq rfl rfl) Held.c ?_
        refine GT 12 8191 rfl (by kernel_rfl) rfl rfl Gd.no (Qt.pickt rfl rfl) Held.c ?_
        refine GT 13 16383 rfl (by kernel_rfl) rfl rfl Gd.no (Qt.mv rfl) Held.c ?_
        refine GH.split (tg := 65) rfl (fun g13 => ?_) (fun g13 => ?_)
        ·try simp only [sB0, sB1, sB2, sB3, sB4, sB5, sB6, sB7, sB8] at g13
         refine GT 14 32767 rfl (by kernel_rfl) rfl rfl (Gd.yes rfl rfl) (Qt.fa0 fl96_0 rfl) Held.c ?_
         refine GT 15 65535 rfl (by kernel_rfl) rfl rfl (Gd.yes rfl rfl) (by first | exact Qt.ldc a3 rfl (by first | exact Rdc.o rfl | exact Rdc.o (nth_vIs (by omega)) | exact Rdc.o (nth_vI (by omega)) | exact Rdc.f hb rfl) | exact Qt.ldF a3 rfl (hA.at' (nth_vI (by omega)))) Held.c ?_
         refine GT 16 131071 rfl (by kernel_rfl) rfl rfl (Gd.yes rfl rfl) (Qt.fa0 fl96_1 rfl) Held.c ?_
         refine GT 17 262143 rfl (by kernel_rfl) rfl rfl (Gd.yes rfl rfl) (by first | exact Qt.ldc a3 rfl (by first | exact Rdc.o rfl | exact Rdc.o (nth_vIs (by omega)) | exact Rdc.o (nth_vI (by omega)) | exact Rdc.f hb rfl) | exact Qt.ldF a3 rfl (hA.at' (nth_vI (by omega)))) Held.c ?_
         refine GT 18 524287 rfl (by kernel_rfl) rfl rfl (Gd.yes rfl rfl) (Qt.sub rfl rfl (by first | exact i64_id (by omega) (by omega) | exact rfl)) Held.c ?_
         refine GT 19 1048575 rfl (by kernel_rfl) rfl rfl (Gd.yes rfl rfl) (Qt.mv rfl) Held.c ?_
         refine GT 20 2097151 rfl (by kernel_rfl) rfl rfl (Gd.yes rfl rfl) (Qt.nilc rfl) Held.c ?_
         refine GT 21 4194303 rfl (by kernel_rfl) rfl rfl (Gd.yes rfl rfl) (Qt.fa0 fl85_2 rfl) Held.c ?_
         refine GT 22 8388607 rfl (by kernel_rfl) rfl rfl (Gd.yes rfl rfl) (by first | exact Qt.ldc a3 rfl (by first | exact Rdc.o rfl | exact Rdc.o (nth_vIs (by omega)) | exact Rdc.o (nth_vI (by omega)) | exact Rdc.f hb rfl) | exact Qt.ldF a3 rfl (hA.at' (nth_vI (by omega)))) Held.c ?_
         refine GT 23 16777215 rfl (by kernel_rfl) rfl rfl (Gd.yes rfl rfl) (Qt.sub rfl rfl (by first | exact i64_id (by omega) (by omega) | exact rfl)) Held.c ?_
         refine GT 24 33554431 rfl (by kernel_rfl) rfl rfl (Gd.yes rfl rfl) (Qt.leq rfl rfl) Held.c ?_
         refine GT 25 67108863 rfl (by kernel_rfl) rfl rfl Gd.no (Qt.pickt rfl rfl) Held.c ?_
         refine GT 26 134217727 rfl (by kernel_rfl) rfl rfl Gd.no (Qt.asg rfl) Held.c ?_
         refine GH.done (by kernel_rfl) ?_
         refine GK.then (GC.seq ?_)
         refine GC.draw mixed _ (Held.k (Held.d Held.nil)) ?_
         refine GT 0 1 rfl (by kernel_rfl) rfl rfl Gd.no (Qt.ldW a96 rfl Rd.o z96) Held.c ?_
         refine GT 1 3 rfl (by kernel_rfl) rfl rfl Gd.no (Qt.mv rfl) Held.c ?_
         refine GT 2 7 rfl (by kernel_rfl) rfl rfl Gd.no (Qt.mv rfl) Held.c ?_
         refine GH.split (tg := 80) rfl (fun g2 => ?_) (fun g2 => ?_)
         ·try simp only [sB0, sB1, sB2, sB3, sB4, sB5, sB6, sB7, sB8] at g2
          refine GT 3 15 rfl (by kernel_rfl) rfl rfl (Gd.yes rfl rfl) (Qt.fa0 fl96_2 rfl) Held.c ?_
          refine GT 4 31 rfl (by kernel_rfl) rfl rfl (Gd.yes rfl rfl) (by first | exact Qt.ldc a36 rfl (by first | exact Rdc.o rfl | exact Rdc.o (nth_vIs (by omega)) | exact Rdc.o (nth_vI (by omega)) | exact Rdc.f hb rfl) | exact Qt.ldF a36 rfl (hA.at' (nth_vI (by omega)))) Held.c ?_
          refine GT 5 63 rfl (by kernel_rfl) rfl rfl (Gd.yes rfl rfl) (Qt.geq rfl rfl) Held.c ?_
          refine GT 6 127 rfl (by kernel_rfl) rfl rfl Gd.no (Qt.pickt rfl rfl) Held.c ?_
          refine GT 7 255 rfl (by kernel_rfl) rfl rfl Gd.no (Qt.mv rfl) Held.c ?_
          refine GH.split (tg := 85) rfl (fun g7 => ?_) (fun g7 => ?_)
          ·try simp only [sB0, sB1, sB2, sB3, sB4, sB5, sB6, sB7, sB8] at g7
           refine GT 8 511 rfl (by kernel_rfl) rfl rfl (Gd.yes rfl rfl) (Qt.fa0 fl96_2 rfl) Held.c ?_
           refine GT 9 1023 rfl (by kernel_rfl) rfl rfl (Gd.yes rfl rfl) (by first | exact Qt.ldc a36 rfl (by first | exact Rdc.o rfl | exact Rdc.o (nth_vIs (by omega)) | exact Rdc.o (nth_vI (by omega)) | exact Rdc.f hb rfl) | exact Qt.ldF a36 rfl (hA.at' (nth_vI (by omega)))) Held.c ?_
           refine GT 10 2047 rfl (by kernel_rfl) rfl rfl (Gd.yes rfl rfl) (Qt.leq rfl rfl) Held.c ?_
           refine GT 11 4095 rfl (by kernel_rfl) rfl rfl Gd.no (Qt.pickt rfl rfl) Held.c ?_
           refine GO 12 8191 (by kernel_rfl) rfl rfl Gd.no (Ld.stW (by exact z96) rfl rfl (by simp [Value.oneCell']) (E := 96) (by rfl) UpdC.u ?_)
           refine ⟨Held.c, ?_⟩
           refine GT 13 16383 rfl (by kernel_rfl) rfl rfl Gd.no (Qt.asg rfl) Held.c ?_
           refine GH.done (by kernel_rfl) ?_
           refine GK.then (GC.ret ?_)
           refine GK.ret (rs := [.cell 6 96, .tmp 7]) rfl (.cellW rfl a96 (by exact z96) Rd.o (.tmp rfl .nil)) () ?_ ?_ (.nil _)
           ·trivial
           ·exact congrArg (fun t => Value.tuple #[.agg (hdC (Hd.of xs)).toArray, .bool t]) (Hd.ok_eq (by have e : le2 xs 8 = ix xs 8 + ix xs 9 * 256 := rfl; simp only [decide_eq_true_eq, Bool.false_eq_true, false_iff, true_iff]; omega))
          ·try simp only [sB0, sB1, sB2, sB3, sB4, sB5, sB6, sB7, sB8] at g7
           refine GP 8 511 rfl (by kernel_rfl) rfl rfl rfl rfl rfl Held.c ?_
           refine GP 9 1023 rfl (by kernel_rfl) rfl rfl rfl rfl rfl Held.c ?_
           refine GP 10 2047 rfl (by kernel_rfl) rfl rfl rfl rfl rfl Held.c ?_
           refine GT 11 4095 rfl (by kernel_rfl) rfl rfl Gd.no (Qt.pickf rfl rfl) Held.c ?_
           refine GO 12 8191 (by kernel_rfl) rfl rfl Gd.no (Ld.stW (by exact z96) rfl rfl (by simp [Value.oneCell']) (E := 96) (by rfl) UpdC.u ?_)
           refine ⟨Held.c, ?_⟩
           refine GT 13 16383 rfl (by kernel_rfl) rfl rfl Gd.no (Qt.asg rfl) Held.c ?_
           refine GH.done (by kernel_rfl) ?_
           refine GK.then (GC.ret ?_)
           refine GK.ret (rs := [.cell 6 96, .tmp 7]) rfl (.cellW rfl a96 (by exact z96) Rd.o (.tmp rfl .nil)) () ?_ ?_ (.nil _)
           ·trivial
           ·exact congrArg (fun t => Value.tuple #[.agg (hdC (Hd.of xs)).toArray, .bool t]) (Hd.ok_eq (by have e : le2 xs 8 = ix xs 8 + ix xs 9 * 256 := rfl; simp only [decide_eq_true_eq, Bool.false_eq_true, false_iff, true_iff]; omega))
         ·try simp only [sB0, sB1, sB2, sB3, sB4, sB5, sB6, sB7, sB8] at g2
          refine GP 3 15 rfl (by kernel_rfl) rfl rfl rfl rfl rfl Held.c ?_
          refine GP 4 31 rfl (by kernel_rfl) rfl rfl rfl rfl rfl Held.c ?_
          refine GP 5 63 rfl (by kernel_rfl) rfl rfl rfl rfl rfl Held.c ?_
          refine GT 6 127 rfl (by kernel_rfl) rfl rfl Gd.no (Qt.pickf rfl rfl) Held.c ?_
          refine GT 7 255 rfl (by kernel_rfl) rfl rfl Gd.no (Qt.mv rfl) Held.c ?_
          refine GP 8 511 rfl (by kernel_rfl) rfl rfl rfl rfl rfl Held.c ?_
          refine GP 9 1023 rfl (by kernel_rfl) rfl rfl rfl rfl rfl Held.c ?_
          refine GP 10 2047 rfl (by kernel_rfl) rfl rfl rfl rfl rfl Held.c ?_
          refine GT 11 4095 rfl (by kernel_rfl) rfl rfl Gd.no (Qt.pickf rfl rfl) Held.c ?_
          refine GO 12 8191 (by kernel_rfl) rfl rfl Gd.no (Ld.stW (by exact z96) rfl rfl (by simp [Value.oneCell']) (E := 96) (by rfl) UpdC.u ?_)
          refine ⟨Held.c, ?_⟩
          refine GT 13 16383 rfl (by kernel_rfl) rfl rfl Gd.no (Qt.asg rfl) Held.c ?_
          refine GH.done (by kernel_rfl) ?_
          refine GK.then (GC.ret ?_)
          refine GK.ret (rs := [.cell 6 96, .tmp 7]) rfl (.cellW rfl a96 (by exact z96) Rd.o (.tmp rfl .nil)) () ?_ ?_ (.nil _)
          ·trivial
          ·exact congrArg (fun t => Value.tuple #[.agg (hdC (Hd.of xs)).toArray, .bool t]) (Hd.ok_eq (by have e : le2 xs 8 = ix xs 8 + ix xs 9 * 256 := rfl; simp only [decide_eq_true_eq, Bool.false_eq_true, false_iff, true_iff]; omega))
        ·try simp only [sB0, sB1, sB2, sB3, sB4, sB5, sB6, sB7, sB8] at g13
         refine GP 14 32767 rfl (by kernel_rfl) rfl rfl rfl rfl rfl Held.c ?_
         refine GP 15 65535 rfl (by kernel_rfl) rfl rfl rfl rfl rfl Held.c ?_
         refine GP 16 131071 rfl (by kernel_rfl) rfl rfl rfl rfl rfl Held.c ?_
         refine GP 17 262143 rfl (by kernel_rfl) rfl rfl rfl rfl rfl Held.c ?_
         refine GP 18 524287 rfl (by kernel_rfl) rfl rfl rfl rfl rfl Held.c ?_
         refine GP 19 1048575 rfl (by kernel_rfl) rfl rfl rfl rfl rfl Held.c ?_
         refine GP 20 2097151 rfl (by kernel_rfl) rfl rfl rfl rfl rfl Held.c ?_
         refine GP 21 4194303 rfl (by kernel_rfl) rfl rfl rfl rfl rfl Held.c ?_
         refine GP 22 8388607 rfl (by kernel_rfl) rfl rfl rfl rfl rfl Held.c ?_
         refine GP 23 16777215 rfl (by kernel_rfl) rfl rfl rfl rfl rfl Held.c ?_
         refine GP 24 33554431 rfl (by kernel_rfl) rfl rfl rfl rfl rfl Held.c ?_
         refine GT 25 67108863 rfl (by kernel_rfl) rfl rfl Gd.no (Qt.pickf rfl rfl) Held.c ?_
         refine GT 26 134217727 rfl (by kernel_rfl) rfl rfl Gd.no (Qt.asg rfl) Held.c ?_
         refine GH.done (by kernel_rfl) ?_
         refine GK.then (GC.seq ?_)
         refine GC.draw mixed _ (Held.k (Held.d Held.nil)) ?_
         refine GT 0 1 rfl (by kernel_rfl) rfl rfl Gd.no (Qt.ldW a96 rfl Rd.o z96) Held.c ?_
         refine GT 1 3 rfl (by kernel_rfl) rfl rfl Gd.no (Qt.mv rfl) Held.c ?_
         refine GT 2 7 rfl (by kernel_rfl) rfl rfl Gd.no (Qt.mv rfl) Held.c ?_
         refine GP 3 15 rfl (by kernel_rfl) rfl rfl rfl rfl rfl Held.c ?_
         refine GP 4 31 rfl (by kernel_rfl) rfl rfl rfl rfl rfl Held.c ?_
         refine GP 5 63 rfl (by kernel_rfl) rfl rfl rfl rfl rfl Held.c ?_
         refine GT 6 127 rfl (by kernel_rfl) rfl rfl Gd.no (Qt.pickf rfl rfl) Held.c ?_
         refine GT 7 255 rfl (by kernel_rfl) rfl rfl Gd.no (Qt.mv rfl) Held.c ?_
         refine GP 8 511 rfl (by kernel_rfl) rfl rfl rfl rfl rfl Held.c ?_
         refine GP 9 1023 rfl (by kernel_rfl) rfl rfl rfl rfl rfl Held.c ?_
         refine GP 10 2047 rfl (by kernel_rfl) rfl rfl rfl rfl rfl Held.c ?_
         refine GT 11 4095 rfl (by kernel_rfl) rfl rfl Gd.no (Qt.pickf rfl rfl) Held.c ?_
         refine GO 12 8191 (by kernel_rfl) rfl rfl Gd.no (Ld.stW (by exact z96) rfl rfl (by simp [Value.oneCell']) (E := 96) (by rfl) UpdC.u ?_)
         refine ⟨Held.c, ?_⟩
         refine GT 13 16383 rfl (by kernel_rfl) rfl rfl Gd.no (Qt.asg rfl) Held.c ?_
         refine GH.done (by kernel_rfl) ?_
         refine GK.then (GC.ret ?_)
         refine GK.ret (rs := [.cell 6 96, .tmp 7]) rfl (.cellW rfl a96 (by exact z96) Rd.o (.tmp rfl .nil)) () ?_ ?_ (.nil _)
         ·trivial
         ·exact congrArg (fun t => Value.tuple #[.agg (hdC (Hd.of xs)).toArray, .bool t]) (Hd.ok_eq (by have e : le2 xs 8 = ix xs 8 + ix xs 9 * 256 := rfl; simp only [decide_eq_true_eq, Bool.false_eq_true, false_iff, true_iff]; omega))
       ·try simp only [sB0, sB1, sB2, sB3, sB4, sB5, sB6, sB7, sB8] at g6
        refine GP 7 255 rfl (by kernel_rfl) rfl rfl rfl rfl rfl Held.c ?_
        refine GP 8 511 rfl (by kernel_rfl) rfl rfl rfl rfl rfl Held.c ?_
        refine GP 9 1023 rfl (by kernel_rfl) rfl rfl rfl rfl rfl Held.c ?_
        refine GP 10 2047 rfl (by kernel_rfl) rfl rfl rfl rfl rfl Held.c ?_
        refine GP 11 4095 rfl (by kernel_rfl) rfl rfl rfl rfl rfl Held.c ?_
        refine GT 12 8191 rfl (by kernel_rfl) rfl rfl Gd.no (Qt.pickf rfl rfl) Held.c ?_
        refine GT 13 16383 rfl (by kernel_rfl) rfl rfl Gd.no (Qt.mv rfl) Held.c ?_
        refine GP 14 32767 rfl (by kernel_rfl) rfl rfl rfl rfl rfl Held.c ?_
        refine GP 15 65535 rfl (by kernel_rfl) rfl rfl rfl rfl rfl Held.c ?_
        refine GP 16 131071 rfl (by kernel_rfl) rfl rfl rfl rfl rfl Held.c ?_
        refine GP 17 262143 rfl (by kernel_rfl) rfl rfl rfl rfl rfl Held.c ?_
        refine GP 18 524287 rfl (by kernel_rfl) rfl rfl rfl rfl rfl Held.c ?_
        refine GP 19 1048575 rfl (by kernel_rfl) rfl rfl rfl rfl rfl Held.c ?_
        refine GP 20 2097151 rfl (by kernel_rfl) rfl rfl rfl rfl rfl Held.c ?_
        refine GP 21 4194303 rfl (by kernel_rfl) rfl rfl rfl rfl rfl Held.c ?_
        refine GP 22 8388607 rfl (by kernel_rfl) rfl rfl rfl rfl rfl Held.c ?_
        refine GP 23 16777215 rfl (by kernel_rfl) rfl rfl rfl rfl rfl Held.c ?_
        refine GP 24 33554431 rfl (by kernel_rfl) rfl rfl rfl rfl rfl Held.c ?_
        refine GT 25 67108863 rfl (by kernel_rfl) rfl rfl Gd.no (Qt.pickf rfl rfl) Held.c ?_
        refine GT 26 134217727 rfl (by kernel_rfl) rfl rfl Gd.no (Qt.asg rfl) Held.c ?_
        refine GH.done (by kernel_rfl) ?_
        refine GK.then (GC.seq ?_)
        refine GC.draw mixed _ (Held.k (Held.d Held.nil)) ?_
        refine GT 0 1 rfl (by kernel_rfl) rfl rfl Gd.no (Qt.ldW a96 rfl Rd.o z96) Held.c ?_
        refine GT 1 3 rfl (by kernel_rfl) rfl rfl Gd.no (Qt.mv rfl) Held.c ?_
        refine GT 2 7 rfl (by kernel_rfl) rfl rfl Gd.no (Qt.mv rfl) Held.c ?_
        refine GP 3 15 rfl (by kernel_rfl) rfl rfl rfl rfl rfl Held.c ?_
        refine GP 4 31 rfl (by kernel_rfl) rfl rfl rfl rfl rfl Held.c ?_
        refine GP 5 63 rfl (by kernel_rfl) rfl rfl rfl rfl rfl Held.c ?_
        refine GT 6 127 rfl (by kernel_rfl) rfl rfl Gd.no (Qt.pickf rfl rfl) Held.c ?_
        refine GT 7 255 rfl (by kernel_rfl) rfl rfl Gd.no (Qt.mv rfl) Held.c ?_
        refine GP 8 511 rfl (by kernel_rfl) rfl rfl rfl rfl rfl Held.c ?_
        refine GP 9 1023 rfl (by kernel_rfl) rfl rfl rfl rfl rfl Held.c ?_
        refine GP 10 2047 rfl (by kernel_rfl) rfl rfl rfl rfl rfl Held.c ?_
        refine GT 11 4095 rfl (by kernel_rfl) rfl rfl Gd.no (Qt.pickf rfl rfl) Held.c ?_
        refine GO 12 8191 (by kernel_rfl) rfl rfl Gd.no (Ld.stW (by exact z96) rfl rfl (by simp [Value.oneCell']) (E := 96) (by rfl) UpdC.u ?_)
        refine ⟨Held.c, ?_⟩
        refine GT 13 16383 rfl (by kernel_rfl) rfl rfl Gd.no (Qt.asg rfl) Held.c ?_
        refine GH.done (by kernel_rfl) ?_
        refine GK.then (GC.ret ?_)
        refine GK.ret (rs := [.cell 6 96, .tmp 7]) rfl (.cellW rfl a96 (by exact z96) Rd.o (.tmp rfl .nil)) () ?_ ?_ (.nil _)
        ·trivial
        ·exact congrArg (fun t => Value.tuple #[.agg (hdC (Hd.of xs)).toArray, .bool t]) (Hd.ok_eq (by have e : le2 xs 8 = ix xs 8 + ix xs 9 * 256 := rfl; simp only [decide_eq_true_eq, Bool.false_eq_true, false_iff, true_iff]; omega))
      ·try simp only [sB0, sB1, sB2, sB3, sB4, sB5, sB6, sB7, sB8] at g1
       refine GP 2 7 rfl (by kernel_rfl) rfl rfl rfl rfl rfl Held.c ?_
       refine GP 3 15 rfl (by kernel_rfl) rfl rfl rfl rfl rfl Held.c ?_
       refine GP 4 31 rfl (by kernel_rfl) rfl rfl rfl rfl rfl Held.c ?_
       refine GT 5 63 rfl (by kernel_rfl) rfl rfl Gd.no (Qt.pickf rfl rfl) Held.c ?_
       refine GT 6 127 rfl (by kernel_rfl) rfl rfl Gd.no (Qt.mv rfl) Held.c ?_
       refine GP 7 255 rfl (by kernel_rfl) rfl rfl rfl rfl rfl Held.c ?_
       refine GP 8 511 rfl (by kernel_rfl) rfl rfl rfl rfl rfl Held.c ?_
       refine GP 9 1023 rfl (by kernel_rfl) rfl rfl rfl rfl rfl Held.c ?_
       refine GP 10 2047 rfl (by kernel_rfl) rfl rfl rfl rfl rfl Held.c ?_
       refine GP 11 4095 rfl (by kernel_rfl) rfl rfl rfl rfl rfl Held.c ?_
       refine GT 12 8191 rfl (by kernel_rfl) rfl rfl Gd.no (Qt.pickf rfl rfl) Held.c ?_
       refine GT 13 16383 rfl (by kernel_rfl) rfl rfl Gd.no (Qt.mv rfl) Held.c ?_
       refine GP 14 32767 rfl (by kernel_rfl) rfl rfl rfl rfl rfl Held.c ?_
       refine GP 15 65535 rfl (by kernel_rfl) rfl rfl rfl rfl rfl Held.c ?_
       refine GP 16 131071 rfl (by kernel_rfl) rfl rfl rfl rfl rfl Held.c ?_
       refine GP 17 262143 rfl (by kernel_rfl) rfl rfl rfl rfl rfl Held.c ?_
       refine GP 18 524287 rfl (by kernel_rfl) rfl rfl rfl rfl rfl Held.c ?_
       refine GP 19 1048575 rfl (by kernel_rfl) rfl rfl rfl rfl rfl Held.c ?_
       refine GP 20 2097151 rfl (by kernel_rfl) rfl rfl rfl rfl rfl Held.c ?_
       refine GP 21 4194303 rfl (by kernel_rfl) rfl rfl rfl rfl rfl Held.c ?_
       refine GP 22 8388607 rfl (by kernel_rfl) rfl rfl rfl rfl rfl Held.c ?_
       refine GP 23 16777215 rfl (by kernel_rfl) rfl rfl rfl rfl rfl Held.c ?_
       refine GP 24 33554431 rfl (by kernel_rfl) rfl rfl rfl rfl rfl Held.c ?_
       refine GT 25 67108863 rfl (by kernel_rfl) rfl rfl Gd.no (Qt.pickf rfl rfl) Held.c ?_
       refine GT 26 134217727 rfl (by kernel_rfl) rfl rfl Gd.no (Qt.asg rfl) Held.c ?_
       refine GH.done (by kernel_rfl) ?_
       refine GK.then (GC.seq ?_)
       refine GC.draw mixed _ (Held.k (Held.d Held.nil)) ?_
       refine GT 0 1 rfl (by kernel_rfl) rfl rfl Gd.no (Qt.ldW a96 rfl Rd.o z96) Held.c ?_
       refine GT 1 3 rfl (by kernel_rfl) rfl rfl Gd.no (Qt.mv rfl) Held.c ?_
       refine GT 2 7 rfl (by kernel_rfl) rfl rfl Gd.no (Qt.mv rfl) Held.c ?_
       refine GP 3 15 rfl (by kernel_rfl) rfl rfl rfl rfl rfl Held.c ?_
       refine GP 4 31 rfl (by kernel_rfl) rfl rfl rfl rfl rfl Held.c ?_
       refine GP 5 63 rfl (by kernel_rfl) rfl rfl rfl rfl rfl Held.c ?_
       refine GT 6 127 rfl (by kernel_rfl) rfl rfl Gd.no (Qt.pickf rfl rfl) Held.c ?_
       refine GT 7 255 rfl (by kernel_rfl) rfl rfl Gd.no (Qt.mv rfl) Held.c ?_
       refine GP 8 511 rfl (by kernel_rfl) rfl rfl rfl rfl rfl Held.c ?_
       refine GP 9 1023 rfl (by kernel_rfl) rfl rfl rfl rfl rfl Held.c ?_
       refine GP 10 2047 rfl (by kernel_rfl) rfl rfl rfl rfl rfl Held.c ?_
       refine GT 11 4095 rfl (by kernel_rfl) rfl rfl Gd.no (Qt.pickf rfl rfl) Held.c ?_
       refine GO 12 8191 (by kernel_rfl) rfl rfl Gd.no (Ld.stW (by exact z96) rfl rfl (by simp [Value.oneCell']) (E := 96) (by rfl) UpdC.u ?_)
       refine ⟨Held.c, ?_⟩
       refine GT 13 16383 rfl (by kernel_rfl) rfl rfl Gd.no (Qt.asg rfl) Held.c ?_
       refine GH.done (by kernel_rfl) ?_
       refine GK.then (GC.ret ?_)
       refine GK.ret (rs := [.cell 6 96, .tmp 7]) rfl (.cellW rfl a96 (by exact z96) Rd.o (.tmp rfl .nil)) () ?_ ?_ (.nil _)
       ·trivial
       ·exact congrArg (fun t => Value.tuple #[.agg (hdC (Hd.of xs)).toArray, .bool t]) (Hd.ok_eq (by have e : le2 xs 8 = ix xs 8 + ix xs 9 * 256 := rfl; simp only [decide_eq_true_eq, Bool.false_eq_true, false_iff, true_iff]; omega))
     ·try simp only [sB0, sB1, sB2, sB3, sB4, sB5, sB6, sB7, sB8] at g14
      refine GP 15 65535 rfl (by kernel_rfl) rfl rfl rfl rfl rfl Held.c ?_
      refine GP 16 131071 rfl (by kernel_rfl) rfl rfl rfl rfl rfl Held.c ?_
      refine GP 17 262143 rfl (by kernel_rfl) rfl rfl rfl rfl rfl Held.c ?_
      refine GP 18 524287 rfl (by kernel_rfl) rfl rfl rfl rfl rfl Held.c ?_
      refine GP 19 1048575 rfl (by kernel_rfl) rfl rfl rfl rfl rfl Held.c ?_
      refine GP 20 2097151 rfl (by kernel_rfl) rfl rfl rfl rfl rfl Held.c ?_
      refine GP 21 4194303 rfl (by kernel_rfl) rfl rfl rfl rfl rfl Held.c ?_
      refine GP 22 8388607 rfl (by kernel_rfl) rfl rfl rfl rfl rfl Held.c ?_
      refine GP 23 16777215 rfl (by kernel_rfl) rfl rfl rfl rfl rfl Held.c ?_
      refine GP 24 33554431 rfl (by kernel_rfl) rfl rfl rfl rfl rfl Held.c ?_
      refine GT 25 67108863 rfl (by kernel_rfl) rfl rfl Gd.no (Qt.pickf rfl rfl) Held.c ?_
      refine GT 26 134217727 rfl (by kernel_rfl) rfl rfl Gd.no (Qt.asg rfl) Held.c ?_
      refine GH.done (by kernel_rfl) ?_
      refine GK.then (GC.seq ?_)
      refine GC.draw mixed _ Held.all ?_
      refine GT 0 1 rfl (by kernel_rfl) rfl rfl Gd.no (Qt.mv rfl) Held.c ?_
      refine GT 1 3 rfl (by kernel_rfl) rfl rfl Gd.no (Qt.mv rfl) Held.c ?_
      refine GP 2 7 rfl (by kernel_rfl) rfl rfl rfl rfl rfl Held.c ?_
      refine GP 3 15 rfl (by kernel_rfl) rfl rfl rfl rfl rfl Held.c ?_
      refine GP 4 31 rfl (by kernel_rfl) rfl rfl rfl rfl rfl Held.c ?_
      refine GT 5 63 rfl (by kernel_rfl) rfl rfl Gd.no (Qt.pickf rfl rfl) Held.c ?_
      refine GT 6 127 rfl (by kernel_rfl) rfl rfl Gd.no (Qt.mv rfl) Held.c ?_
      refine GP 7 255 rfl (by kernel_rfl) rfl rfl rfl rfl rfl Held.c ?_
      refine GP 8 511 rfl (by kernel_rfl) rfl rfl rfl rfl rfl Held.c ?_
      refine GP 9 1023 rfl (by kernel_rfl) rfl rfl rfl rfl rfl Held.c ?_
      refine GP 10 2047 rfl (by kernel_rfl) rfl rfl rfl rfl rfl Held.c ?_
      refine GP 11 4095 rfl (by kernel_rfl) rfl rfl rfl rfl rfl Held.c ?_
      refine GT 12 8191 rfl (by kernel_rfl) rfl rfl Gd.no (Qt.pickf rfl rfl) Held.c ?_
      refine GT 13 16383 rfl (by kernel_rfl) rfl rfl Gd.no (Qt.mv rfl) Held.c ?_
      refine GP 14 32767 rfl (by kernel_rfl) rfl rfl rfl rfl rfl Held.c ?_
      refine GP 15 65535 rfl (by kernel_rfl) rfl rfl rfl rfl rfl Held.c ?_
      refine GP 16 131071 rfl (by kernel_rfl) rfl rfl rfl rfl rfl Held.c ?_
      refine GP 17 262143 rfl (by kernel_rfl) rfl rfl rfl rfl rfl Held.c ?_
      refine GP 18 524287 rfl (by kernel_rfl) rfl rfl rfl rfl rfl Held.c ?_
      refine GP 19 1048575 rfl (by kernel_rfl) rfl rfl rfl rfl rfl Held.c ?_
      refine GP 20 2097151 rfl (by kernel_rfl) rfl rfl rfl rfl rfl Held.c ?_
      refine GP 21 4194303 rfl (by kernel_rfl) rfl rfl rfl rfl rfl Held.c ?_
      refine GP 22 8388607 rfl (by kernel_rfl) rfl rfl rfl rfl rfl Held.c ?_
      refine GP 23 16777215 rfl (by kernel_rfl) rfl rfl rfl rfl rfl Held.c ?_
      refine GP 24 33554431 rfl (by kernel_rfl) rfl rfl rfl rfl rfl Held.c ?_
      refine GT 25 67108863 rfl (by kernel_rfl) rfl rfl Gd.no (Qt.pickf rfl rfl) Held.c ?_
      refine GT 26 134217727 rfl (by kernel_rfl) rfl rfl Gd.no (Qt.asg rfl) Held.c ?_
      refine GH.done (by kernel_rfl) ?_
      refine GK.then (GC.seq ?_)
      refine GC.draw mixed _ (Held.k (Held.d Held.nil)) ?_
      refine GT 0 1 rfl (by kernel_rfl) rfl rfl Gd.no (Qt.ldW a96 rfl Rd.o z96) Held.c ?_
      refine GT 1 3 rfl (by kernel_rfl) rfl rfl Gd.no (Qt.mv rfl) Held.c ?_
      refine GT 2 7 rfl (by kernel_rfl) rfl rfl Gd.no (Qt.mv rfl) Held.c ?_
      refine GP 3 15 rfl (by kernel_rfl) rfl rfl rfl rfl rfl Held.c ?_
      refine GP 4 31 rfl (by kernel_rfl) rfl rfl rfl rfl rfl Held.c ?_
      refine GP 5 63 rfl (by kernel_rfl) rfl rfl rfl rfl rfl Held.c ?_
      refine GT 6 127 rfl (by kernel_rfl) rfl rfl Gd.no (Qt.pickf rfl rfl) Held.c ?_
      refine GT 7 255 rfl (by kernel_rfl) rfl rfl Gd.no (Qt.mv rfl) Held.c ?_
      refine GP 8 511 rfl (by kernel_rfl) rfl rfl rfl rfl rfl Held.c ?_
      refine GP 9 1023 rfl (by kernel_rfl) rfl rfl rfl rfl rfl Held.c ?_
      refine GP 10 2047 rfl (by kernel_rfl) rfl rfl rfl rfl rfl Held.c ?_
      refine GT 11 4095 rfl (by kernel_rfl) rfl rfl Gd.no (Qt.pickf rfl rfl) Held.c ?_
      refine GO 12 8191 (by kernel_rfl) rfl rfl Gd.no (Ld.stW (by exact z96) rfl rfl (by simp [Value.oneCell']) (E := 96) (by rfl) UpdC.u ?_)
      refine ⟨Held.c, ?_⟩
      refine GT 13 16383 rfl (by kernel_rfl) rfl rfl Gd.no (Qt.asg rfl) Held.c ?_
      refine GH.done (by kernel_rfl) ?_
      refine GK.then (GC.ret ?_)
      refine GK.ret (rs := [.cell 6 96, .tmp 7]) rfl (.cellW rfl a96 (by exact z96) Rd.o (.tmp rfl .nil)) () ?_ ?_ (.nil _)
      ·trivial
      ·exact congrArg (fun t => Value.tuple #[.agg (hdC (Hd.of xs)).toArray, .bool t]) (Hd.ok_eq (by have e : le2 xs 8 = ix xs 8 + ix xs 9 * 256 := rfl; simp only [decide_eq_true_eq, Bool.false_eq_true, false_iff, true_iff]; omega))
    ·try simp only [sB0, sB1, sB2, sB3, sB4, sB5, sB6, sB7, sB8] at g9
     refine GP 10 2047 rfl (by kernel_rfl) rfl rfl rfl rfl rfl Held.c ?_
     refine GP 11 4095 rfl (by kernel_rfl) rfl rfl rfl rfl rfl Held.c ?_
     refine GP 12 8191 rfl (by kernel_rfl) rfl rfl rfl rfl rfl Held.c ?_
     refine GT 13 16383 rfl (by kernel_rfl) rfl rfl Gd.no (Qt.pickf rfl rfl) Held.c ?_
     refine GT 14 32767 rfl (by kernel_rfl) rfl rfl Gd.no (Qt.mv rfl) Held.c ?_
     refine GP 15 65535 rfl (by kernel_rfl) rfl rfl rfl rfl rfl Held.c ?_
     refine GP 16 131071 rfl (by kernel_rfl) rfl rfl rfl rfl rfl Held.c ?_
     refine GP 17 262143 rfl (by kernel_rfl) rfl rfl rfl rfl rfl Held.c ?_
     refine GP 18 524287 rfl (by kernel_rfl) rfl rfl rfl rfl rfl Held.c ?_
     refine GP 19 1048575 rfl (by kernel_rfl) rfl rfl rfl rfl rfl Held.c ?_
     refine GP 20 2097151 rfl (by kernel_rfl) rfl rfl rfl rfl rfl Held.c ?_
     refine GP 21 4194303 rfl (by kernel_rfl) rfl rfl rfl rfl rfl Held.c ?_
     refine GP 22 8388607 rfl (by kernel_rfl) rfl rfl rfl rfl rfl Held.c ?_
     refine GP 23 16777215 rfl (by kernel_rfl) rfl rfl rfl rfl rfl Held.c ?_
     refine GP 24 33554431 rfl (by kernel_rfl) rfl rfl rfl rfl rfl Held.c ?_
     refine GT 25 67108863 rfl (by kernel_rfl) rfl rfl Gd.no (Qt.pickf rfl rfl) Held.c ?_
     refine GT 26 134217727 rfl (by kernel_rfl) rfl rfl Gd.no (Qt.asg rfl) Held.c ?_
     refine GH.done (by kernel_rfl) ?_
     refine GK.then (GC.seq ?_)
     refine GC.draw mixed _ Held.all ?_
     refine GT 0 1 rfl (by kernel_rfl) rfl rfl Gd.no (Qt.mv rfl) Held.c ?_
     refine GT 1 3 rfl (by kernel_rfl) rfl rfl Gd.no (Qt.mv rfl) Held.c ?_
     refine GP 2 7 rfl (by kernel_rfl) rfl rfl rfl rfl rfl Held.c ?_
     refine GP 3 15 rfl (by kernel_rfl) rfl rfl rfl rfl rfl Held.c ?_
     refine GP 4 31 rfl (by kernel_rfl) rfl rfl rfl rfl rfl Held.c ?_
     refine GT 5 63 rfl (by kernel_rfl) rfl rfl Gd.no (Qt.pickf rfl rfl) Held.c ?_
     refine GT 6 127 rfl (by kernel_rfl) rfl rfl Gd.no (Qt.mv rfl) Held.c ?_
     refine GP 7 255 rfl (by kernel_rfl) rfl rfl rfl rfl rfl Held.c ?_
     refine GP 8 511 rfl (by kernel_rfl) rfl rfl rfl rfl rfl Held.c ?_
     refine GP 9 1023 rfl (by kernel_rfl) rfl rfl rfl rfl rfl Held.c ?_
     refine GP 10 2047 rfl (by kernel_rfl) rfl rfl rfl rfl rfl Held.c ?_
     refine GP 11 4095 rfl (by kernel_rfl) rfl rfl rfl rfl rfl Held.c ?_
     refine GT 12 8191 rfl (by kernel_rfl) rfl rfl Gd.no (Qt.pickf rfl rfl) Held.c ?_
     refine GT 13 16383 rfl (by kernel_rfl) rfl rfl Gd.no (Qt.mv rfl) Held.c ?_
     refine GP 14 32767 rfl (by kernel_rfl) rfl rfl rfl rfl rfl Held.c ?_
     refine GP 15 65535 rfl (by kernel_rfl) rfl rfl rfl rfl rfl Held.c ?_
     refine GP 16 131071 rfl (by kernel_rfl) rfl rfl rfl rfl rfl Held.c ?_
     refine GP 17 262143 rfl (by kernel_rfl) rfl rfl rfl rfl rfl Held.c ?_
     refine GP 18 524287 rfl (by kernel_rfl) rfl rfl rfl rfl rfl Held.c ?_
     refine GP 19 1048575 rfl (by kernel_rfl) rfl rfl rfl rfl rfl Held.c ?_
     refine GP 20 2097151 rfl (by kernel_rfl) rfl rfl rfl rfl rfl Held.c ?_
     refine GP 21 4194303 rfl (by kernel_rfl) rfl rfl rfl rfl rfl Held.c ?_
     refine GP 22 8388607 rfl (by kernel_rfl) rfl rfl rfl rfl rfl Held.c ?_
     refine GP 23 16777215 rfl (by kernel_rfl) rfl rfl rfl rfl rfl Held.c ?_
     refine GP 24 33554431 rfl (by kernel_rfl) rfl rfl rfl rfl rfl Held.c ?_
     refine GT 25 67108863 rfl (by kernel_rfl) rfl rfl Gd.no (Qt.pickf rfl rfl) Held.c ?_
     refine GT 26 134217727 rfl (by kernel_rfl) rfl rfl Gd.no (Qt.asg rfl) Held.c ?_
     refine GH.done (by kernel_rfl) ?_
     refine GK.then (GC.seq ?_)
     refine GC.draw mixed _ (Held.k (Held.d Held.nil)) ?_
     refine GT 0 1 rfl (by kernel_rfl) rfl rfl Gd.no (Qt.ldW a96 rfl Rd.o z96) Held.c ?_
     refine GT 1 3 rfl (by kernel_rfl) rfl rfl Gd.no (Qt.mv rfl) Held.c ?_
     refine GT 2 7 rfl (by kernel_rfl) rfl rfl Gd.no (Qt.mv rfl) Held.c ?_
     refine GP 3 15 rfl (by kernel_rfl) rfl rfl rfl rfl rfl Held.c ?_
     refine GP 4 31 rfl (by kernel_rfl) rfl rfl rfl rfl rfl Held.c ?_
     refine GP 5 63 rfl (by kernel_rfl) rfl rfl rfl rfl rfl Held.c ?_
     refine GT 6 127 rfl (by kernel_rfl) rfl rfl Gd.no (Qt.pickf rfl rfl) Held.c ?_
     refine GT 7 255 rfl (by kernel_rfl) rfl rfl Gd.no (Qt.mv rfl) Held.c ?_
     refine GP 8 511 rfl (by kernel_rfl) rfl rfl rfl rfl rfl Held.c ?_
     refine GP 9 1023 rfl (by kernel_rfl) rfl rfl rfl rfl rfl Held.c ?_
     refine GP 10 2047 rfl (by kernel_rfl) rfl rfl rfl rfl rfl Held.c ?_
     refine GT 11 4095 rfl (by kernel_rfl) rfl rfl Gd.no (Qt.pickf rfl rfl) Held.c ?_
     refine GO 12 8191 (by kernel_rfl) rfl rfl Gd.no (Ld.stW (by exact z96) rfl rfl (by simp [Value.oneCell']) (E := 96) (by rfl) UpdC.u ?_)
     refine ⟨Held.c, ?_⟩
     refine GT 13 16383 rfl (by kernel_rfl) rfl rfl Gd.no (Qt.asg rfl) Held.c ?_
     refine GH.done (by kernel_rfl) ?_
     refine GK.then (GC.ret ?_)
     refine GK.ret (rs := [.cell 6 96, .tmp 7]) rfl (.cellW rfl a96 (by exact z96) Rd.o (.tmp rfl .nil)) () ?_ ?_ (.nil _)
     ·trivial
     ·exact congrArg (fun t => Value.tuple #[.agg (hdC (Hd.of xs)).toArray, .bool t]) (Hd.ok_eq (by have e : le2 xs 8 = ix xs 8 + ix xs 9 * 256 := rfl; simp only [decide_eq_true_eq, Bool.false_eq_true, false_iff, true_iff]; omega))
   ·try simp only [sB0, sB1, sB2, sB3, sB4, sB5, sB6, sB7, sB8] at g4
    refine GP 5 63 rfl (by kernel_rfl) rfl rfl rfl rfl rfl Held.c ?_
    refine GP 6 127 rfl (by kernel_rfl) rfl rfl rfl rfl rfl Held.c ?_
    refine GP 7 255 rfl (by kernel_rfl) rfl rfl rfl rfl rfl Held.c ?_
    refine GT 8 511 rfl (by kernel_rfl) rfl rfl Gd.no (Qt.pickf rfl rfl) Held.c ?_
    refine GT 9 1023 rfl (by kernel_rfl) rfl rfl Gd.no (Qt.mv rfl) Held.c ?_
    refine GP 10 2047 rfl (by kernel_rfl) rfl rfl rfl rfl rfl Held.c ?_
    refine GP 11 4095 rfl (by kernel_rfl) rfl rfl rfl rfl rfl Held.c ?_
    refine GP 12 8191 rfl (by kernel_rfl) rfl rfl rfl rfl rfl Held.c ?_
    refine GT 13 16383 rfl (by kernel_rfl) rfl rfl Gd.no (Qt.pickf rfl rfl) Held.c ?_
    refine GT 14 32767 rfl (by kernel_rfl) rfl rfl Gd.no (Qt.mv rfl) Held.c ?_
    refine GP 15 65535 rfl (by kernel_rfl) rfl rfl rfl rfl rfl Held.c ?_
    refine GP 16 131071 rfl (by kernel_rfl) rfl rfl rfl rfl rfl Held.c ?_
    refine GP 17 262143 rfl (by kernel_rfl) rfl rfl rfl rfl rfl Held.c ?_
    refine GP 18 524287 rfl (by kernel_rfl) rfl rfl rfl rfl rfl Held.c ?_
    refine GP 19 1048575 rfl (by kernel_rfl) rfl rfl rfl rfl rfl Held.c ?_
    refine GP 20 2097151 rfl (by kernel_rfl) rfl rfl rfl rfl rfl Held.c ?_
    refine GP 21 4194303 rfl (by kernel_rfl) rfl rfl rfl rfl rfl Held.c ?_
    refine GP 22 8388607 rfl (by kernel_rfl) rfl rfl rfl rfl rfl Held.c ?_
    refine GP 23 16777215 rfl (by kernel_rfl) rfl rfl rfl rfl rfl Held.c ?_
    refine GP 24 33554431 rfl (by kernel_rfl) rfl rfl rfl rfl rfl Held.c ?_
    refine GT 25 67108863 rfl (by kernel_rfl) rfl rfl Gd.no (Qt.pickf rfl rfl) Held.c ?_
    refine GT 26 134217727 rfl (by kernel_rfl) rfl rfl Gd.no (Qt.asg rfl) Held.c ?_
    refine GH.done (by kernel_rfl) ?_
    refine GK.then (GC.seq ?_)
    refine GC.draw mixed _ Held.all ?_
    refine GT 0 1 rfl (by kernel_rfl) rfl rfl Gd.no (Qt.mv rfl) Held.c ?_
    refine GT 1 3 rfl (by kernel_rfl) rfl rfl Gd.no (Qt.mv rfl) Held.c ?_
    refine GP 2 7 rfl (by kernel_rfl) rfl rfl rfl rfl rfl Held.c ?_
    refine GP 3 15 rfl (by kernel_rfl) rfl rfl rfl rfl rfl Held.c ?_
    refine GP 4 31 rfl (by kernel_rfl) rfl rfl rfl rfl rfl Held.c ?_
    refine GT 5 63 rfl (by kernel_rfl) rfl rfl Gd.no (Qt.pickf rfl rfl) Held.c ?_
    refine GT 6 127 rfl (by kernel_rfl) rfl rfl Gd.no (Qt.mv rfl) Held.c ?_
    refine GP 7 255 rfl (by kernel_rfl) rfl rfl rfl rfl rfl Held.c ?_
    refine GP 8 511 rfl (by kernel_rfl) rfl rfl rfl rfl rfl Held.c ?_
    refine GP 9 1023 rfl (by kernel_rfl) rfl rfl rfl rfl rfl Held.c ?_
    refine GP 10 2047 rfl (by kernel_rfl) rfl rfl rfl rfl rfl Held.c ?_
    refine GP 11 4095 rfl (by kernel_rfl) rfl rfl rfl rfl rfl Held.c ?_
    refine GT 12 8191 rfl (by kernel_rfl) rfl rfl Gd.no (Qt.pickf rfl rfl) Held.c ?_
    refine GT 13 16383 rfl (by kernel_rfl) rfl rfl Gd.no (Qt.mv rfl) Held.c ?_
    refine GP 14 32767 rfl (by kernel_rfl) rfl rfl rfl rfl rfl Held.c ?_
    refine GP 15 65535 rfl (by kernel_rfl) rfl rfl rfl rfl rfl Held.c ?_
    refine GP 16 131071 rfl (by kernel_rfl) rfl rfl rfl rfl rfl Held.c ?_
    refine GP 17 262143 rfl (by kernel_rfl) rfl rfl rfl rfl rfl Held.c ?_
    refine GP 18 524287 rfl (by kernel_rfl) rfl rfl rfl rfl rfl Held.c ?_
    refine GP 19 1048575 rfl (by kernel_rfl) rfl rfl rfl rfl rfl Held.c ?_
    refine GP 20 2097151 rfl (by kernel_rfl) rfl rfl rfl rfl rfl Held.c ?_
    refine GP 21 4194303 rfl (by kernel_rfl) rfl rfl rfl rfl rfl Held.c ?_
    refine GP 22 8388607 rfl (by kernel_rfl) rfl rfl rfl rfl rfl Held.c ?_
    refine GP 23 16777215 rfl (by kernel_rfl) rfl rfl rfl rfl rfl Held.c ?_
    refine GP 24 33554431 rfl (by kernel_rfl) rfl rfl rfl rfl rfl Held.c ?_
    refine GT 25 67108863 rfl (by kernel_rfl) rfl rfl Gd.no (Qt.pickf rfl rfl) Held.c ?_
    refine GT 26 134217727 rfl (by kernel_rfl) rfl rfl Gd.no (Qt.asg rfl) Held.c ?_
    refine GH.done (by kernel_rfl) ?_
    refine GK.then (GC.seq ?_)
    refine GC.draw mixed _ (Held.k (Held.d Held.nil)) ?_
    refine GT 0 1 rfl (by kernel_rfl) rfl rfl Gd.no (Qt.ldW a96 rfl Rd.o z96) Held.c ?_
    refine GT 1 3 rfl (by kernel_rfl) rfl rfl Gd.no (Qt.mv rfl) Held.c ?_
    refine GT 2 7 rfl (by kernel_rfl) rfl rfl Gd.no (Qt.mv rfl) Held.c ?_
    refine GP 3 15 rfl (by kernel_rfl) rfl rfl rfl rfl rfl Held.c ?_
    refine GP 4 31 rfl (by kernel_rfl) rfl rfl rfl rfl rfl Held.c ?_
    refine GP 5 63 rfl (by kernel_rfl) rfl rfl rfl rfl rfl Held.c ?_
    refine GT 6 127 rfl (by kernel_rfl) rfl rfl Gd.no (Qt.pickf rfl rfl) Held.c ?_
    refine GT 7 255 rfl (by kernel_rfl) rfl rfl Gd.no (Qt.mv rfl) Held.c ?_
    refine GP 8 511 rfl (by kernel_rfl) rfl rfl rfl rfl rfl Held.c ?_
    refine GP 9 1023 rfl (by kernel_rfl) rfl rfl rfl rfl rfl Held.c ?_
    refine GP 10 2047 rfl (by kernel_rfl) rfl rfl rfl rfl rfl Held.c ?_
    refine GT 11 4095 rfl (by kernel_rfl) rfl rfl Gd.no (Qt.pickf rfl rfl) Held.c ?_
    refine GO 12 8191 (by kernel_rfl) rfl rfl Gd.no (Ld.stW (by exact z96) rfl rfl (by simp [Value.oneCell']) (E := 96) (by rfl) UpdC.u ?_)
    refine ⟨Held.c, ?_⟩
    refine GT 13 16383 rfl (by kernel_rfl) rfl rfl Gd.no (Qt.asg rfl) Held.c ?_
    refine GH.done (by kernel_rfl) ?_
    refine GK.then (GC.ret ?_)
    refine GK.ret (rs := [.cell 6 96, .tmp 7]) rfl (.cellW rfl a96 (by exact z96) Rd.o (.tmp rfl .nil)) () ?_ ?_ (.nil _)
    ·trivial
    ·exact congrArg (fun t => Value.tuple #[.agg (hdC (Hd.of xs)).toArray, .bool t]) (Hd.ok_eq (by have e : le2 xs 8 = ix xs 8 + ix xs 9 * 256 := rfl; simp only [decide_eq_true_eq, Bool.false_eq_true, false_iff, true_iff]; omega))
 ·skip
  refine ⟨Held.c, ?_⟩
  refine GO 1 98287 (by kernel_rfl) rfl rfl Gd.no (Ld.call cal74 rfl rfl (.nil _) (fun F' hF => read4_ct F' A n c xs (hA.mono hF) hl (by omega) hb2) (fun _ _ => ?_))
  dsimp only [lCa, lNa]
  refine ⟨Held.c, ?_⟩
  refine GO 4 98303 (by kernel_rfl) rfl rfl Gd.no (Ld.call cal74 rfl rfl (.nil _) (fun F' hF => read4_ct F' (A.add 4) (n - 4) _ (xs.drop 4) ((dropI hA).mono hF) (by rw [List.length_drop, hl]) (by omega) (hb2.drop 4)) (fun _ _ => ?_))
  dsimp only [lCa, lNa]
  rw [le4_drop]
  refine ⟨Held.c, ?_⟩
  refine GT 15 131071 rfl (by kernel_rfl) rfl rfl Gd.no (Qt.buildS Try.underlying96 pl96 ze96 (.cons rfl rfl (by first | exact Cl.one rfl | exact Cl.agg) rfl (SetM.cons SetAt.k0 (.nil _ _)) (.cons rfl rfl (by first | exact Cl.one rfl | exact Cl.agg) rfl (SetM.cons SetAt.k1 (.nil _ _)) (.cons rfl rfl (by first | exact Cl.one rfl | exact Cl.agg) rfl (SetM.cons SetAt.k2 (.nil _ _)) (.nil _))))) Held.c ?_
  refine GO 17 262143 (by kernel_rfl) rfl rfl Gd.no (Ld.stW (by exact z96) rfl rfl (by simp [Value.oneCell']) (E := 96) (by rfl) UpdC.u ?_)
  refine ⟨Held.c, ?_⟩
  refine GH.done (by kernel_rfl) ?_
  refine GK.then (GC.seq ?_)
  refine GC.draw mixed _ Held.all ?_
  refine GT 0 1 rfl (by kernel_rfl) rfl rfl Gd.no (Qt.mv rfl) Held.c ?_
  refine GT 1 3 rfl (by kernel_rfl) rfl rfl Gd.no (by first | exact Qt.iab01 Try.underlying53 z5 rfl rfl (by omega) (by omega) (show (10 : Int).toNat = 10 from rfl) | exact Qt.ia1 Try.underlying53 z5 rfl rfl (by omega) (by omega) (show (10 : Int).toNat = 10 from rfl)) Held.c ?_
  refine GT 2 7 rfl (by kernel_rfl) rfl rfl Gd.no (by first | exact Qt.ldc a5 rfl (by first | exact Rdc.o rfl | exact Rdc.o (nth_vIs (by omega)) | exact Rdc.o (nth_vI (by omega)) | exact Rdc.f hb rfl) | exact Qt.ldF a5 rfl (hA.at' (nth_vI (by omega)))) Held.c ?_
  refine GT 3 15 rfl (by kernel_rfl) rfl rfl Gd.no (Qt.eqI rfl rfl) Held.c ?_
  refine GT 4 31 rfl (by kernel_rfl) rfl rfl Gd.no (Qt.mv rfl) Held.c ?_
  refine GH.split (tg := 30) rfl (fun g4 => ?_) (fun g4 => ?_)
  ·try simp only [sB0, sB1, sB2, sB3, sB4, sB5, sB6, sB7, sB8] at g4
   refine GT 5 63 rfl (by kernel_rfl) rfl rfl (Gd.yes rfl rfl) (Qt.fa0 fl96_0 rfl) Held.c ?_
   refine GT 6 127 rfl (by kernel_rfl) rfl rfl (Gd.yes rfl rfl) (by first | exact Qt.ldc a3 rfl (by first | exact Rdc.o rfl | exact Rdc.o (nth_vIs (by omega)) | exact Rdc.o (nth_vI (by omega)) | exact Rdc.f hb rfl) | exact Qt.ldF a3 rfl (hA.at' (nth_vI (by omega)))) Held.c ?_
   refine GT 7 255 rfl (by kernel_rfl) rfl rfl (Gd.yes rfl rfl) (Qt.geq rfl rfl) Held.c ?_
   refine GT 8 511 rfl (by kernel_rfl) rfl rfl Gd.no (Qt.pickt rfl rfl) Held.c ?_
   refine GT 9 1023 rfl (by kernel_rfl) rfl rfl Gd.no (Qt.mv rfl) Held.c ?_
   refine GH.split (tg := 35) rfl (fun g9 => ?_) (fun g9 => ?_)
   ·try simp only [sB0, sB1, sB2, sB3, sB4, sB5, sB6, sB7, sB8] at g9
    refine GT 10 2047 rfl (by kernel_rfl) rfl rfl (Gd.yes rfl rfl) (Qt.fa0 fl96_0 rfl) Held.c ?_
    refine GT 11 4095 rfl (by kernel_rfl) rfl rfl (Gd.yes rfl rfl) (by first | exact Qt.ldc a3 rfl (by first | exact Rdc.o rfl | exact Rdc.o (nth_vIs (by omega)) | exact Rdc.o (nth_vI (by omega)) | exact Rdc.f hb rfl) | exact Qt.ldF a3 rfl (hA.at' (nth_vI (by omega)))) Held.c ?_
    refine GT 12 8191 rfl (by kernel_rfl) rfl rfl (Gd.yes rfl rfl) (Qt.leq rfl rfl) Held.c ?_
    refine GT 13 16383 rfl (by kernel_rfl) rfl rfl Gd.no (Qt.pickt rfl rfl) Held.c ?_
    refine GT 14 32767 rfl (by kernel_rfl) rfl rfl Gd.no (Qt.mv rfl) Held.c ?_
    refine GH.split (tg := 40) rfl (fun g14 => ?_) (fun g14 => ?_)
    ·try simp only [sB0, sB1, sB2, sB3, sB4, sB5, sB6, sB7, sB8] at g14
     refine GT 15 65535 rfl (by kernel_rfl) rfl rfl (Gd.yes rfl rfl) (Qt.fa0 fl96_0 rfl) Held.c ?_
     refine GT 16 131071 rfl (by kernel_rfl) rfl rfl (Gd.yes rfl rfl) (by first | exact Qt.ldc a3 rfl (by first | exact Rdc.o rfl | exact Rdc.o (nth_vIs (by omega)) | exact Rdc.o (nth_vI (by omega)) | exact Rdc.f hb rfl) | exact Qt.ldF a3 rfl (hA.at' (nth_vI (by omega)))) Held.c ?_
     refine GT 17 262143 rfl (by kernel_rfl) rfl rfl (Gd.yes rfl rfl) (Qt.sub rfl rfl (by first | exact i64_id (by omega) (by omega) | exact rfl)) Held.c ?_
     refine GT 18 524287 rfl (by kernel_rfl) rfl rfl (Gd.yes rfl rfl) (Qt.mv rfl) Held.c ?_
     refine GT 19 1048575 rfl (by kernel_rfl) rfl rfl (Gd.yes rfl rfl) (Qt.nilc rfl) Held.c ?_
     refine GT 20 2097151 rfl (by kernel_rfl) rfl rfl (Gd.yes rfl rfl) (Qt.fa0 fl85_2 rfl) Held.c ?_
     refine GT 21 4194303 rfl (by kernel_rfl) rfl rfl (Gd.yes rfl rfl) (by first | exact Qt.ldc a3 rfl (by first | exact Rdc.o rfl | exact Rdc.o (nth_vIs (by omega)) | exact Rdc.o (nth_vI (by omega)) | exact Rdc.f hb rfl) | exact Qt.ldF a3 rfl (hA.at' (nth_vI (by omega)))) Held.c ?_
     refine GT 22 8388607 rfl (by kernel_rfl) rfl rfl (Gd.yes rfl rfl) (Qt.rem rfl rfl (by omega) (by first | exact rem_nn (by omega) | exact rfl)) Held.c ?_
     refine GT 23 16777215 rfl (by kernel_rfl) rfl rfl (Gd.yes rfl rfl) (Qt.mv rfl) Held.c ?_
     refine GT 24 33554431 rfl (by kernel_rfl) rfl rfl (Gd.yes rfl rfl) (Qt.eqI rfl rfl) Held.c ?_
     refine GT 25 67108863 rfl (by kernel_rfl) rfl rfl Gd.no (Qt.pickt rfl rfl) Held.c ?_
     refine GT 26 134217727 rfl (by kernel_rfl) rfl rfl Gd.no (Qt.asg rfl) Held.c ?_
     refine GH.done (by kernel_rfl) ?_
     refine GK.then (GC.seq ?_)
     refine GC.draw mixed _ Held.all ?_
     refine GT 0 1 rfl (by kernel_rfl) rfl rfl Gd.no (Qt.mv rfl) Held.c ?_
     refine GT 1 3 rfl (by kernel_rfl) rfl rfl Gd.no (Qt.mv rfl) Held.c ?_
     refine GH.split (tg := 53) rfl (fun g1 => ?_) (fun g1 => ?_)
     ·try simp only [sB0, sB1, sB2, sB3, sB4, sB5, sB6, sB7, sB8] at g1
      refine GT 2 7 rfl (by kernel_rfl) rfl rfl (Gd.yes rfl rfl) (Qt.fa0 fl96_1 rfl) Held.c ?_
      refine GT 3 15 rfl (by kernel_rfl) rfl rfl (Gd.yes rfl rfl) (by first | exact Qt.ldc a3 rfl (by first | exact Rdc.o rfl | exact Rdc.o (nth_vIs (by omega)) | exact Rdc.o (nth_vI (by omega)) | exact Rdc.f hb rfl) | exact Qt.ldF a3 rfl (hA.at' (nth_vI (by omega)))) Held.c ?_
      refine GT 4 31 rfl (by kernel_rfl) rfl rfl (Gd.yes rfl rfl) (Qt.geq rfl rfl) Held.c ?_
      refine GT 5 63 rfl (by kernel_rfl) rfl rfl Gd.no (Qt.pickt rfl rfl) Held.c ?_
      refine GT 6 127 rfl (by kernel_rfl) rfl rfl Gd.no (Qt.mv rfl) Held.c ?_
      refine GH.split (tg := 58) rfl (fun g6 => ?_) (fun g6 => ?_)
      ·try simp only [sB0, sB1, sB2, sB3, sB4, sB5, sB6, sB7, sB8] at g6
       refine GT 7 255 rfl (by kernel_rfl) rfl rfl (Gd.yes rfl rfl) (Qt.fa0 fl96_1 rfl) Held.c ?_
       refine GT 8 511 rfl (by kernel_rfl) rfl rfl (Gd.yes rfl rfl) (by first | exact Qt.ldc a3 rfl (by first | exact Rdc.o rfl | exact Rdc.o (nth_vIs (by omega)) | exact Rdc.o (nth_vI (by omega)) | exact Rdc.f hb rfl) | exact Qt.ldF a3 rfl (hA.at' (nth_vI (by omega)))) Held.c ?_
       refine GT 9 1023 rfl (by kernel_rfl) rfl rfl (Gd.yes rfl rfl) (Qt.fa0 fl96_0 rfl) Held.c ?_
       refine GT 10 2047 rfl (by kernel_rfl) rfl rfl (Gd.yes rfl rfl) (by first | exact Qt.ldc a3 rfl (by first | exact Rdc.o rfl | exact Rdc.o (nth_vIs (by omega)) | exact Rdc.o (nth_vI (by omega)) | exact Rdc.f hb rfl) | exact Qt.ldF a3 rfl (hA.at' (nth_vI (by omega)))) Held.c ?_
       refine GT 11 4095 rfl (by kernel_rfl) rfl rfl (Gd.yes rfl rfl) (Qt.leq rfl rfl) Held.c ?_
       refine GT 12 8191 rfl (by kernel_rfl) rfl rfl Gd.no (Qt.pickt rfl rfl) Held.c ?_
       refine GT 13 16383 rfl (by kernel_rfl) rfl rfl Gd.no (Qt.mv rfl) Held.c ?_
       refine GH.split (tg := 65) rfl (fun g13 => ?_) (fun g13 => ?_)
       ·try simp only [sB0, sB1, sB2, sB3, sB4, sB5, sB6, sB7, sB8] at g13
        refine GT 14 32767 rfl (by kernel_rfl) rfl rfl (Gd.yes rfl rfl) (Qt.fa0 fl96_0 rfl) Held.c ?_
        refine GT 15 65535 rfl (by kernel_rfl) rfl rfl (Gd.yes rfl rfl) (by first | exact Qt.ldc a3 rfl (by first | exact Rdc.o rfl | exact Rdc.o (nth_vIs (by omega)) | exact Rdc.o (nth_vI (by omega)) | exact Rdc.f hb rfl) | exact Qt.ldF a3 rfl (hA.at' (nth_vI (by omega)))) Held.c ?_
        refine GT 16 131071 rfl (by kernel_rfl) rfl rfl (Gd.yes rfl rfl) (Qt.fa0 fl96_1 rfl) Held.c ?_
        refine GT 17 262143 rfl (by kernel_rfl) rfl rfl (Gd.yes rfl rfl) (by first | exact Qt.ldc a3 rfl (by first | exact Rdc.o rfl | exact Rdc.o (nth_vIs (by omega)) | exact Rdc.o (nth_vI (by omega)) | exact Rdc.f hb rfl) | exact Qt.ldF a3 rfl (hA.at' (nth_vI (by omega)))) Held.c ?_
        refine GT 18 524287 rfl (by kernel_rfl) rfl rfl (Gd.yes rfl rfl) (Qt.sub rfl rfl (by first | exact i64_id (by omega) (by omega) | exact rfl)) Held.c ?_
        refine GT 19 1048575 rfl (by kernel_rfl) rfl rfl (Gd.yes rfl rfl) (Qt.mv rfl) Held.c ?_
        refine GT 20 2097151 rfl (by kernel_rfl) rfl rfl (Gd.yes rfl rfl) (Qt.nilc rfl) Held.c ?_
        refine GT 21 4194303 rfl (by kernel_rfl) rfl rfl (Gd.yes rfl rfl) (Qt.fa0 fl85_2 rfl) Held.c ?_
        refine GT 22 8388607 rfl (by kernel_rfl) rfl rfl (Gd.yes rfl rfl) (by first | exact Qt.ldc a3 rfl (by first | exact Rdc.o rfl | exact Rdc.o (nth_vIs (by omega)) | exact Rdc.o (nth_vI (by omega)) | exact Rdc.f hb rfl) | exact Qt.ldF a3 rfl (hA.at' (nth_vI (by omega)))) Held.c ?_
        refine GT 23 16777215 rfl (by kernel_rfl) rfl rfl (Gd.yes rfl rfl) (Qt.sub rfl rfl (by first | exact i64_id (by omega) (by omega) | exact rfl)) Held.c ?_
        refine GT 24 33554431 rfl (by kernel_rfl) rfl rfl (Gd.yes rfl rfl) (Qt.leq rfl rfl) Held.c ?_
        refine GT 25 67108863 rfl (by kernel_rfl) rfl rfl Gd.no (Qt.pickt rfl rfl) Held.c ?_
        refine GT 26 134217727 rfl (by kernel_rfl) rfl rfl Gd.no (Qt.asg rfl) Held.c ?_
        refine GH.done (by kernel_rfl) ?_
        refine GK.then (GC.seq ?_)
        refine GC.draw mixed _ (Held.k (Held.d Held.nil)) ?_
        refine GT 0 1 rfl (by kernel_rfl) rfl rfl Gd.no (Qt.ldW a96 rfl Rd.o z96) Held.c ?_
        refine GT 1 3 rfl (by kernel_rfl) rfl rfl Gd.no (Qt.mv rfl) Held.c ?_
        refine GT 2 7 rfl (by kernel_rfl) rfl rfl Gd.no (Qt.mv rfl) Held.c ?_
        refine GH.split (tg := 80) rfl (fun g2 => ?_) (fun g2 => ?_)
        ·try simp only [sB0, sB1, sB2, sB3, sB4, sB5, sB6, sB7, sB8] at g2
         refine GT 3 15 rfl (by kernel_rfl) rfl rfl (Gd.yes rfl rfl) (Qt.fa0 fl96_2 rfl) Held.c ?_
         refine GT 4 31 rfl (by kernel_rfl) rfl rfl (Gd.yes rfl rfl) (by first | exact Qt.ldc a36 rfl (by first | exact Rdc.o rfl | exact Rdc.o (nth_vIs (by omega)) | exact Rdc.o (nth_vI (by omega)) | exact Rdc.f hb rfl) | exact Qt.ldF a36 rfl (hA.at' (nth_vI (by omega)))) Held.c ?_
         refine GT 5 63 rfl (by kernel_rfl) rfl rfl (Gd.yes rfl rfl) (Qt.geq rfl rfl) Held.c ?_
         refine GT 6 127 rfl (by kernel_rfl) rfl rfl Gd.no (Qt.pickt rfl rfl) Held.c ?_
         refine GT 7 255 rfl (by kernel_rfl) rfl rfl Gd.no (Qt.mv rfl) Held.c ?_
         refine GH.split (tg := 85) rfl (fun g7 => ?_) (fun g7 => ?_)
         ·try simp only [sB0, sB1, sB2, sB3, sB4, sB5, sB6, sB7, sB8] at g7
          refine GT 8 511 rfl (by kernel_rfl) rfl rfl (Gd.yes rfl rfl) (Qt.fa0 fl96_2 rfl) Held.c ?_
          refine GT 9 1023 rfl (by kernel_rfl) rfl rfl (Gd.yes rfl rfl) (by first | exact Qt.ldc a36 rfl (by first | exact Rdc.o rfl | exact Rdc.o (nth_vIs (by omega)) | exact Rdc.o (nth_vI (by omega)) | exact Rdc.f hb rfl) | exact Qt.ldF a36 rfl (hA.at' (nth_vI (by omega)))) Held.c ?_
          refine GT 10 2047 rfl (by kernel_rfl) rfl rfl (Gd.yes rfl rfl) (Qt.leq rfl rfl) Held.c ?_
          refine GT 11 4095 rfl (by kernel_rfl) rfl rfl Gd.no (Qt.pickt rfl rfl) Held.c ?_
          refine GO 12 8191 (by kernel_rfl) rfl rfl Gd.no (Ld.stW (by exact z96) rfl rfl (by simp [Value.oneCell']) (E := 96) (by rfl) UpdC.u ?_)
          refine ⟨Held.c, ?_⟩
          refine GT 13 16383 rfl (by kernel_rfl) rfl rfl Gd.no (Qt.asg rfl) Held.c ?_
          refine GH.done (by kernel_rfl) ?_
          refine GK.then (GC.ret ?_)
          refine GK.ret (rs := [.cell 6 96, .tmp 7]) rfl (.cellW rfl a96 (by exact z96) Rd.o (.tmp rfl .nil)) () ?_ ?_ (.nil _)
          ·trivial
          ·exact congrArg (fun t => Value.tuple #[.agg (hdC (Hd.of xs)).toArray, .bool t]) (Hd.ok_eq (by have e : le2 xs 8 = ix xs 8 + ix xs 9 * 256 := rfl; simp only [decide_eq_true_eq, Bool.false_eq_true, false_iff, true_iff]; omega))
         ·try simp only [sB0, sB1, sB2, sB3, sB4, sB5, sB6, sB7, sB8] at g7
          refine GP 8 511 rfl (by kernel_rfl) rfl rfl rfl rfl rfl Held.c ?_
          refine GP 9 1023 rfl (by kernel_rfl) rfl rfl rfl rfl rfl Held.c ?_
          refine GP 10 2047 rfl (by kernel_rfl) rfl rfl rfl rfl rfl Held.c ?_
          refine GT 11 4095 rfl (by kernel_rfl) rfl rfl Gd.no (Qt.pickf rfl rfl) Held.c ?_
          refine GO 12 8191 (by kernel_rfl) rfl rfl Gd.no (Ld.stW (by exact z96) rfl rfl (by simp [Value.oneCell']) (E := 96) (by rfl) UpdC.u ?_)
          refine ⟨Held.c, ?_⟩
          refine GT 13 16383 rfl (by kernel_rfl) rfl rfl Gd.no (Qt.asg rfl) Held.c ?_
          refine GH.done (by kernel_rfl) ?_
          refine GK.then (GC.ret ?_)
          refine GK.ret (rs := [.cell 6 96, .tmp 7]) rfl (.cellW rfl a96 (by exact z96) Rd.o (.tmp rfl .nil)) () ?_ ?_ (.nil _)
          ·trivial
          ·exact congrArg (fun t => Value.tuple #[.agg (hdC (Hd.of xs)).toArray, .bool t]) (Hd.ok_eq (by have e : le2 xs 8 = ix xs 8 + ix xs 9 * 256 := rfl; simp only [decide_eq_true_eq, Bool.false_eq_true, false_iff, true_iff]; omega))
        ·try simp only [sB0, sB1, sB2, sB3, sB4, sB5, sB6, sB7, sB8] at g2
         refine GP 3 15 rfl (by kernel_rfl) rfl rfl rfl rfl rfl Held.c ?_
         refine GP 4 31 rfl (by kernel_rfl) rfl rfl rfl rfl rfl Held.c ?_
         refine GP 5 63 rfl (by kernel_rfl) rfl rfl rfl rfl rfl Held.c ?_
         refine GT 6 127 rfl (by kernel_rfl) rfl rfl Gd.no (Qt.pickf rfl rfl) Held.c ?_
         refine GT 7 255 rfl (by kernel_rfl) rfl rfl Gd.no (Qt.mv rfl) Held.c ?_
         refine GP 8 511 rfl (by kernel_rfl) rfl rfl rfl rfl rfl Held.c ?_
         refine GP 9 1023 rfl (by kernel_rfl) rfl rfl rfl rfl rfl Held.c ?_
         refine GP 10 2047 rfl (by kernel_rfl) rfl rfl rfl rfl rfl Held.c ?_
         refine GT 11 4095 rfl (by kernel_rfl) rfl rfl Gd.no (Qt.pickf rfl rfl) Held.c ?_
         refine GO 12 8191 (by kernel_rfl) rfl rfl Gd.no (Ld.stW (by exact z96) rfl rfl (by simp [Value.oneCell']) (E := 96) (by rfl) UpdC.u ?_)
         refine ⟨Held.c, ?_⟩
         refine GT 13 16383 rfl (by kernel_rfl) rfl rfl Gd.no (Qt.asg rfl) Held.c ?_
         refine GH.done (by kernel_rfl) ?_
         refine GK.then (GC.ret ?_)
         refine GK.ret (rs := [.cell 6 96, .tmp 7]) rfl (.cellW rfl a96 (by exact z96) Rd.o (.tmp rfl .nil)) () ?_ ?_ (.nil _)
         ·trivial
         ·exact congrArg (fun t => Value.tuple #[.agg (hdC (Hd.of xs)).toArray, .bool t]) (Hd.ok_eq (by have e : le2 xs 8 = ix xs 8 + ix xs 9 * 256 := rfl; simp only [decide_eq_true_eq, Bool.false_eq_true, false_iff, true_iff]; omega))
       ·try simp only [sB0, sB1, sB2, sB3, sB4, sB5, sB6, sB7, sB8] at g13
        refine GP 14 32767 rfl (by kernel_rfl) rfl rfl rfl rfl rfl Held.c ?_
        refine GP 15 65535 rfl (by kernel_rfl) rfl rfl rfl rfl rfl Held.c ?_
        refine GP 16 131071 rfl (by kernel_rfl) rfl rfl rfl rfl rfl Held.c ?_
        refine GP 17 262143 rfl (by kernel_rfl) rfl rfl rfl rfl rfl Held.c ?_
        refine GP 18 524287 rfl (by kernel_rfl) rfl rfl rfl rfl rfl Held.c ?_
        refine GP 19 1048575 rfl (by kernel_rfl) rfl rfl rfl rfl rfl Held.c ?_
        refine GP 20 2097151 rfl (by kernel_rfl) rfl rfl rfl rfl rfl Held.c ?_
        refine GP 21 4194303 rfl (by kernel_rfl) rfl rfl rfl rfl rfl Held.c ?_
        refine GP 22 8388607 rfl (by kernel_rfl) rfl rfl rfl rfl rfl Held.c ?_
        refine GP 23 16777215 rfl (by kernel_rfl) rfl rfl rfl rfl rfl Held.c ?_
        refine GP 24 33554431 rfl (by kernel_rfl) rfl rfl rfl rfl rfl Held.c ?_
        refine GT 25 67108863 rfl (by kernel_rfl) rfl rfl Gd.no (Qt.pickf rfl rfl) Held.c ?_
        refine GT 26 134217727 rfl (by kernel_rfl) rfl rfl Gd.no (Qt.asg rfl) Held.c ?_
        refine GH.done (by kernel_rfl) ?_
        refine GK.then (GC.seq ?_)
        refine GC.draw mixed _ (Held.k (Held.d Held.nil)) ?_
        refine GT 0 1 rfl (by kernel_rfl) rfl rfl Gd.no (Qt.ldW a96 rfl Rd.o z96) Held.c ?_
        refine GT 1 3 rfl (by kernel_rfl) rfl rfl Gd.no (Qt.mv rfl) Held.c ?_
        refine GT 2 7 rfl (by kernel_rfl) rfl rfl Gd.no (Qt.mv rfl) Held.c ?_
        refine GP 3 15 rfl (by kernel_rfl) rfl rfl rfl rfl rfl Held.c ?_
        refine GP 4 31 rfl (by kernel_rfl) rfl rfl rfl rfl rfl Held.c ?_
        refine GP 5 63 rfl (by kernel_rfl) rfl rfl rfl rfl rfl Held.c ?_
        refine GT 6 127 rfl (by kernel_rfl) rfl rfl Gd.no (Qt.pickf rfl rfl) Held.c ?_
        refine GT 7 255 rfl (by kernel_rfl) rfl rfl Gd.no (Qt.mv rfl) Held.c ?_
        refine GP 8 511 rfl (by kernel_rfl) rfl rfl rfl rfl rfl Held.c ?_
        refine GP 9 1023 rfl (by kernel_rfl) rfl rfl rfl rfl rfl Held.c ?_
        refine GP 10 2047 rfl (by kernel_rfl) rfl rfl rfl rfl rfl Held.c ?_
        refine GT 11 4095 rfl (by kernel_rfl) rfl rfl Gd.no (Qt.pickf rfl rfl) Held.c ?_
        refine GO 12 8191 (by kernel_rfl) rfl rfl Gd.no (Ld.stW (by exact z96) rfl rfl (by simp [Value.oneCell']) (E := 96) (by rfl) UpdC.u ?_)
        refine ⟨Held.c, ?_⟩
        refine GT 13 16383 rfl (by kernel_rfl) rfl rfl Gd.no (Qt.asg rfl) Held.c ?_
        refine GH.done (by kernel_rfl) ?_
        refine GK.then (GC.ret ?_)
        refine GK.ret (rs := [.cell 6 96, .tmp 7]) rfl (.cellW rfl a96 (by exact z96) Rd.o (.tmp rfl .nil)) () ?_ ?_ (.nil _)
        ·trivial
        ·exact congrArg (fun t => Value.tuple #[.agg (hdC (Hd.of xs)).toArray, .bool t]) (Hd.ok_eq (by have e : le2 xs 8 = ix xs 8 + ix xs 9 * 256 := rfl; simp only [decide_eq_true_eq, Bool.false_eq_true, false_iff, true_iff]; omega))
      ·try simp only [sB0, sB1, sB2, sB3, sB4, sB5, sB6, sB7, sB8] at g6
       refine GP 7 255 rfl (by kernel_rfl) rfl rfl rfl rfl rfl Held.c ?_
       refine GP 8 511 rfl (by kernel_rfl) rfl rfl rfl rfl rfl Held.c ?_
       refine GP 9 1023 rfl (by kernel_rfl) rfl rfl rfl rfl rfl Held.c ?_
       refine GP 10 2047 rfl (by kernel_rfl) rfl rfl rfl rfl rfl Held.c ?_
       refine GP 11 4095 rfl (by kernel_rfl) rfl rfl rfl rfl rfl Held.c ?_
       refine GT 12 8191 rfl (by kernel_rfl) rfl rfl Gd.no (Qt.pickf rfl rfl) Held.c ?_
       refine GT 13 16383 rfl (by kernel_rfl) rfl rfl Gd.no (Qt.mv rfl) Held.c ?_
       refine GP 14 32767 rfl (by kernel_rfl) rfl rfl rfl rfl rfl Held.c ?_
       refine GP 15 65535 rfl (by kernel_rfl) rfl rfl rfl rfl rfl Held.c ?_
       refine GP 16 131071 rfl (by kernel_rfl) rfl rfl rfl rfl rfl Held.c ?_
       refine GP 17 262143 rfl (by kernel_rfl) rfl rfl rfl rfl rfl Held.c ?_
       refine GP 18 524287 rfl (by kernel_rfl) rfl rfl rfl rfl rfl Held.c ?_
       refine GP 19 1048575 rfl (by kernel_rfl) rfl rfl rfl rfl rfl Held.c ?_
       refine GP 20 2097151 rfl (by kernel_rfl) rfl rfl rfl rfl rfl Held.c ?_
       refine GP 21 4194303 rfl (by kernel_rfl) rfl rfl rfl rfl rfl Held.c ?_
       refine GP 22 8388607 rfl (by kernel_rfl) rfl rfl rfl rfl rfl Held.c ?_
       refine GP 23 16777215 rfl (by kernel_rfl) rfl rfl rfl rfl rfl Held.c ?_
       refine GP 24 33554431 rfl (by kernel_rfl) rfl rfl rfl rfl rfl Held.c ?_
       refine GT 25 67108863 rfl (by kernel_rfl) rfl rfl Gd.no (Qt.pickf rfl rfl) Held.c ?_
       refine GT 26 134217727 rfl (by kernel_rfl) rfl rfl Gd.no (Qt.asg rfl) Held.c ?_
       refine GH.done (by kernel_rfl) ?_
       refine GK.then (GC.seq ?_)
       refine GC.draw mixed _ (Held.k (Held.d Held.nil)) ?_
       refine GT 0 1 rfl (by kernel_rfl) rfl rfl Gd.no (Qt.ldW a96 rfl Rd.o z96) Held.c ?_
       refine GT 1 3 rfl (by kernel_rfl) rfl rfl Gd.no (Qt.mv rfl) Held.c ?_
       refine GT 2 7 rfl (by kernel_rfl) rfl rfl Gd.no (Qt.mv rfl) Held.c ?_
       refine GP 3 15 rfl (by kernel_rfl) rfl rfl rfl rfl rfl Held.c ?_
       refine GP 4 31 rfl (by kernel_rfl) rfl rfl rfl rfl rfl Held.c ?_
       refine GP 5 63 rfl (by kernel_rfl) rfl rfl rfl rfl rfl Held.c ?_
       refine GT 6 127 rfl (by kernel_rfl) rfl rfl Gd.no (Qt.pickf rfl rfl) Held.c ?_
       refine GT 7 255 rfl (by kernel_rfl) rfl rfl Gd.no (Qt.mv rfl) Held.c ?_
       refine GP 8 511 rfl (by kernel_rfl) rfl rfl rfl rfl rfl Held.c ?_
       refine GP 9 1023 rfl (by kernel_rfl) rfl rfl rfl rfl rfl Held.c ?_
       refine GP 10 2047 rfl (by kernel_rfl) rfl rfl rfl rfl rfl Held.c ?_
       refine GT 11 4095 rfl (by kernel_rfl) rfl rfl Gd.no (Qt.pickf rfl rfl) Held.c ?_
       refine GO 12 8191 (by kernel_rfl) rfl rfl Gd.no (Ld.stW (by exact z96) rfl rfl (by simp [Value.oneCell']) (E := 96) (by rfl) UpdC.u ?_)
       refine ⟨Held.c, ?_⟩
       refine GT 13 16383 rfl (by kernel_rfl) rfl rfl Gd.no (Qt.asg rfl) Held.c ?_
       refine GH.done (by kernel_rfl) ?_
       refine GK.then (GC.ret ?_)
       refine GK.ret (rs := [.cell 6 96, .tmp 7]) rfl (.cellW rfl a96 (by exact z96) Rd.o (.tmp rfl .nil)) () ?_ ?_ (.nil _)
       ·trivial
       ·exact congrArg (fun t => Value.tuple #[.agg (hdC (Hd.of xs)).toArray, .bool t]) (Hd.ok_eq (by have e : le2 xs 8 = ix xs 8 + ix xs 9 * 256 := rfl; simp only [decide_eq_true_eq, Bool.false_eq_true, false_iff, true_iff]; omega))
     ·try simp only [sB0, sB1, sB2, sB3, sB4, sB5, sB6, sB7, sB8] at g1
      refine GP 2 7 rfl (by kernel_rfl) rfl rfl rfl rfl rfl Held.c ?_
      refine GP 3 15 rfl (by kernel_rfl) rfl rfl rfl rfl rfl Held.c ?_
      refine GP 4 31 rfl (by kernel_rfl) rfl rfl rfl rfl rfl Held.c ?_
      refine GT 5 63 rfl (by kernel_rfl) rfl rfl Gd.no (Qt.pickf rfl rfl) Held.c ?_
      refine GT 6 127 rfl (by kernel_rfl) rfl rfl Gd.no (Qt.mv rfl) Held.c ?_
      refine GP 7 255 rfl (by kernel_rfl) rfl rfl rfl rfl rfl Held.c ?_
      refine GP 8 511 rfl (by kernel_rfl) rfl rfl rfl rfl rfl Held.c ?_
      refine GP 9 1023 rfl (by kernel_rfl) rfl rfl rfl rfl rfl Held.c ?_
      refine GP 10 2047 rfl (by kernel_rfl) rfl rfl rfl rfl rfl Held.c ?_
      refine GP 11 4095 rfl (by kernel_rfl) rfl rfl rfl rfl rfl Held.c ?_
      refine GT 12 8191 rfl (by kernel_rfl) rfl rfl Gd.no (Qt.pickf rfl rfl) Held.c ?_
      refine GT 13 16383 rfl (by kernel_rfl) rfl rfl Gd.no (Qt.mv rfl) Held.c ?_
      refine GP 14 32767 rfl (by kernel_rfl) rfl rfl rfl rfl rfl Held.c ?_
      refine GP 15 65535 rfl (by kernel_rfl) rfl rfl rfl rfl rfl Held.c ?_
      refine GP 16 131071 rfl (by kernel_rfl) rfl rfl rfl rfl rfl Held.c ?_
      refine GP 17 262143 rfl (by kernel_rfl) rfl rfl rfl rfl rfl Held.c ?_
      refine GP 18 524287 rfl (by kernel_rfl) rfl rfl rfl rfl rfl Held.c ?_
      refine GP 19 1048575 rfl (by kernel_rfl) rfl rfl rfl rfl rfl Held.c ?_
      refine GP 20 2097151 rfl (by kernel_rfl) rfl rfl rfl rfl rfl Held.c ?_
      refine GP 21 4194303 rfl (by kernel_rfl) rfl rfl rfl rfl rfl Held.c ?_
      refine GP 22 8388607 rfl (by kernel_rfl) rfl rfl rfl rfl rfl Held.c ?_
      refine GP 23 16777215 rfl (by kernel_rfl) rfl rfl rfl rfl rfl Held.c ?_
      refine GP 24 33554431 rfl (by kernel_rfl) rfl rfl rfl rfl rfl Held.c ?_
      refine GT 25 67108863 rfl (by kernel_rfl) rfl rfl Gd.no (Qt.pickf rfl rfl) Held.c ?_
      refine GT 26 134217727 rfl (by kernel_rfl) rfl rfl Gd.no (Qt.asg rfl) Held.c ?_
      refine GH.done (by kernel_rfl) ?_
      refine GK.then (GC.seq ?_)
      refine GC.draw mixed _ (Held.k (Held.d Held.nil)) ?_
      refine GT 0 1 rfl (by kernel_rfl) rfl rfl Gd.no (Qt.ldW a96 rfl Rd.o z96) Held.c ?_
      refine GT 1 3 rfl (by kernel_rfl) rfl rfl Gd.no (Qt.mv rfl) Held.c ?_
      refine GT 2 7 rfl (by kernel_rfl) rfl rfl Gd.no (Qt.mv rfl) Held.c ?_
      refine GP 3 15 rfl (by kernel_rfl) rfl rfl rfl rfl rfl Held.c ?_
      refine GP 4 31 rfl (by kernel_rfl) rfl rfl rfl rfl rfl Held.c ?_
      refine GP 5 63 rfl (by kernel_rfl) rfl rfl rfl rfl rfl Held.c ?_
      refine GT 6 127 rfl (by kernel_rfl) rfl rfl Gd.no (Qt.pickf rfl rfl) Held.c ?_
      refine GT 7 255 rfl (by kernel_rfl) rfl rfl Gd.no (Qt.mv rfl) Held.c ?_
      refine GP 8 511 rfl (by kernel_rfl) rfl rfl rfl rfl rfl Held.c ?_
      refine GP 9 1023 rfl (by kernel_rfl) rfl rfl rfl rfl rfl Held.c ?_
      refine GP 10 2047 rfl (by kernel_rfl) rfl rfl rfl rfl rfl Held.c ?_
      refine GT 11 4095 rfl (by kernel_rfl) rfl rfl Gd.no (Qt.pickf rfl rfl) Held.c ?_
      refine GO 12 8191 (by kernel_rfl) rfl rfl Gd.no (Ld.stW (by exact z96) rfl rfl (by simp [Value.oneCell']) (E := 96) (by rfl) UpdC.u ?_)
      refine ⟨Held.c, ?_⟩
      refine GT 13 16383 rfl (by kernel_rfl) rfl rfl Gd.no (Qt.asg rfl) Held.c ?_
      refine GH.done (by kernel_rfl) ?_
      refine GK.then (GC.ret ?_)
      refine GK.ret (rs := [.cell 6 96, .tmp 7]) rfl (.cellW rfl a96 (by exact z96) Rd.o (.tmp rfl .nil)) () ?_ ?_ (.nil _)
      ·trivial
      ·exact congrArg (fun t => Value.tuple #[.agg (hdC (Hd.of xs)).toArray, .bool t]) (Hd.ok_eq (by have e : le2 xs 8 = ix xs 8 + ix xs 9 * 256 := rfl; simp only [decide_eq_true_eq, Bool.false_eq_true, false_iff, true_iff]; omega))
    ·try simp only [sB0, sB1, sB2, sB3, sB4, sB5, sB6, sB7, sB8] at g14
     refine GP 15 65535 rfl (by kernel_rfl) rfl rfl rfl rfl rfl Held.c ?_
     refine GP 16 131071 rfl (by kernel_rfl) rfl rfl rfl rfl rfl Held.c ?_
     refine GP 17 262143 rfl (by kernel_rfl) rfl rfl rfl rfl rfl Held.c ?_
     refine GP 18 524287 rfl (by kernel_rfl) rfl rfl rfl rfl rfl Held.c ?_
     refine GP 19 1048575 rfl (by kernel_rfl) rfl rfl rfl rfl rfl Held.c ?_
     refine GP 20 2097151 rfl (by kernel_rfl) rfl rfl rfl rfl rfl Held.c ?_
     refine GP 21 4194303 rfl (by kernel_rfl) rfl rfl rfl rfl rfl Held.c ?_
     refine GP 22 8388607 rfl (by kernel_rfl) rfl rfl rfl rfl rfl Held.c ?_
     refine GP 23 16777215 rfl (by kernel_rfl) rfl rfl rfl rfl rfl Held.c ?_
     refine GP 24 33554431 rfl (by kernel_rfl) rfl rfl rfl rfl rfl Held.c ?_
     refine GT 25 67108863 rfl (by kernel_rfl) rfl rfl Gd.no (Qt.pickf rfl rfl) Held.c ?_
     refine GT 26 134217727 rfl (by kernel_rfl) rfl rfl Gd.no (Qt.asg rfl) Held.c ?_
     refine GH.done (by kernel_rfl) ?_
     refine GK.then (GC.seq ?_)
     refine GC.draw mixed _ Held.all ?_
     refine GT 0 1 rfl (by kernel_rfl) rfl rfl Gd.no (Qt.mv rfl) Held.c ?_
     refine GT 1 3 rfl (by kernel_rfl) rfl rfl Gd.no (Qt.mv rfl) Held.c ?_
     refine GP 2 7 rfl (by kernel_rfl) rfl rfl rfl rfl rfl Held.c ?_
     refine GP 3 15 rfl (by kernel_rfl) rfl rfl rfl rfl rfl Held.c ?_
     refine GP 4 31 rfl (by kernel_rfl) rfl rfl rfl rfl rfl Held.c ?_
     refine GT 5 63 rfl (by kernel_rfl) rfl rfl Gd.no (Qt.pickf rfl rfl) Held.c ?_
     refine GT 6 127 rfl (by kernel_rfl) rfl rfl Gd.no (Qt.mv rfl) Held.c ?_
     refine GP 7 255 rfl (by kernel_rfl) rfl rfl rfl rfl rfl Held.c ?_
     refine GP 8 511 rfl (by kernel_rfl) rfl rfl rfl rfl rfl Held.c ?_
     refine GP 9 1023 rfl (by kernel_rfl) rfl rfl rfl rfl rfl Held.c ?_
     refine GP 10 2047 rfl (by kernel_rfl) rfl rfl rfl rfl rfl Held.c ?_
     refine GP 11 4095 rfl (by kernel_rfl) rfl rfl rfl rfl rfl Held.c ?_
     refine GT 12 8191 rfl (by kernel_rfl) rfl rfl Gd.no (Qt.pickf rfl rfl) Held.c ?_
     refine GT 13 16383 rfl (by kernel_rfl) rfl rfl Gd.no (Qt.mv rfl) Held.c ?_
     refine GP 14 32767 rfl (by kernel_rfl) rfl rfl rfl rfl rfl Held.c ?_
     refine GP 15 65535 rfl (by kernel_rfl) rfl rfl rfl rfl rfl Held.c ?_
     refine GP 16 131071 rfl (by kernel_rfl) rfl rfl rfl rfl rfl Held.c ?_
     refine GP 17 262143 rfl (by kernel_rfl) rfl rfl rfl rfl rfl Held.c ?_
     refine GP 18 524287 rfl (by kernel_rfl) rfl rfl rfl rfl rfl Held.c ?_
     refine GP 19 1048575 rfl (by kernel_rfl) rfl rfl rfl rfl rfl Held.c ?_
     refine GP 20 2097151 rfl (by kernel_rfl) rfl rfl rfl rfl rfl Held.c ?_
     refine GP 21 4194303 rfl (by kernel_rfl) rfl rfl rfl rfl rfl Held.c ?_
     refine GP 22 8388607 rfl (by kernel_rfl) rfl rfl rfl rfl rfl Held.c ?_
     refine GP 23 16777215 rfl (by kernel_rfl) rfl rfl rfl rfl rfl Held.c ?_
     refine GP 24 33554431 rfl (by kernel_rfl) rfl rfl rfl rfl rfl Held.c ?_
     refine GT 25 67108863 rfl (by kernel_rfl) rfl rfl Gd.no (Qt.pickf rfl rfl) Held.c ?_
     refine GT 26 134217727 rfl (by kernel_rfl) rfl rfl Gd.no (Qt.asg rfl) Held.c ?_
     refine GH.done (by kernel_rfl) ?_
     refine GK.then (GC.seq ?_)
     refine GC.draw mixed _ (Held.k (Held.d Held.nil)) ?_
     refine GT 0 1 rfl (by kernel_rfl) rfl rfl Gd.no (Qt.ldW a96 rfl Rd.o z96) Held.c ?_
     refine GT 1 3 rfl (by kernel_rfl) rfl rfl Gd.no (Qt.mv rfl) Held.c ?_
     refine GT 2 7 rfl (by kernel_rfl) rfl rfl Gd.no (Qt.mv rfl) Held.c ?_
     refine GP 3 15 rfl (by kernel_rfl) rfl rfl rfl rfl rfl Held.c ?_
     refine GP 4 31 rfl (by kernel_rfl) rfl rfl rfl rfl rfl Held.c ?_
     refine GP 5 63 rfl (by kernel_rfl) rfl rfl rfl rfl rfl Held.c ?_
     refine GT 6 127 rfl (by kernel_rfl) rfl rfl Gd.no (Qt.pickf rfl rfl) Held.c ?_
     refine GT 7 255 rfl (by kernel_rfl) rfl rfl Gd.no (Qt.mv rfl) Held.c ?_
     refine GP 8 511 rfl (by kernel_rfl) rfl rfl rfl rfl rfl Held.c ?_
     refine GP 9 1023 rfl (by kernel_rfl) rfl rfl rfl rfl rfl Held.c ?_
     refine GP 10 2047 rfl (by kernel_rfl) rfl rfl rfl rfl rfl Held.c ?_
     refine GT 11 4095 rfl (by kernel_rfl) rfl rfl Gd.no (Qt.pickf rfl rfl) Held.c ?_
     refine GO 12 8191 (by kernel_rfl) rfl rfl Gd.no (Ld.stW (by exact z96) rfl rfl (by simp [Value.oneCell']) (E := 96) (by rfl) UpdC.u ?_)
     refine ⟨Held.c, ?_⟩
     refine GT 13 16383 rfl (by kernel_rfl) rfl rfl Gd.no (Qt.asg rfl) Held.c ?_
     refine GH.done (by kernel_rfl) ?_
     refine GK.then (GC.ret ?_)
     refine GK.ret (rs := [.cell 6 96, .tmp 7]) rfl (.cellW rfl a96 (by exact z96) Rd.o (.tmp rfl .nil)) () ?_ ?_ (.nil _)
     ·trivial
     ·exact congrArg (fun t => Value.tuple #[.agg (hdC (Hd.of xs)).toArray, .bool t]) (Hd.ok_eq (by have e : le2 xs 8 = ix xs 8 + ix xs 9 * 256 := rfl; simp only [decide_eq_true_eq, Bool.false_eq_true, false_iff, true_iff]; omega))
   ·try simp only [sB0, sB1, sB2, sB3, sB4, sB5, sB6, sB7, sB8] at g9
    refine GP 10 2047 rfl (by kernel_rfl) rfl rfl rfl rfl rfl Held.c ?_
    refine GP 11 4095 rfl (by kernel_rfl) rfl rfl rfl rfl rfl Held.c ?_
    refine GP 12 8191 rfl (by kernel_rfl) rfl rfl rfl rfl rfl Held.c ?_
    refine GT 13 16383 rfl (by kernel_rfl) rfl rfl Gd.no (Qt.pickf rfl rfl) Held.c ?_
    refine GT 14 32767 rfl (by kernel_rfl) rfl rfl Gd.no (Qt.mv rfl) Held.c ?_
    refine GP 15 65535 rfl (by kernel_rfl) rfl rfl rfl rfl rfl Held.c ?_
    refine GP 16 131071 rfl (by kernel_rfl) rfl rfl rfl rfl rfl Held.c ?_
    refine GP 17 262143 rfl (by kernel_rfl) rfl rfl rfl rfl rfl Held.c ?_
    refine GP 18 524287 rfl (by kernel_rfl) rfl rfl rfl rfl rfl Held.c ?_
    refine GP 19 1048575 rfl (by kernel_rfl) rfl rfl rfl rfl rfl Held.c ?_
    refine GP 20 2097151 rfl (by kernel_rfl) rfl rfl rfl rfl rfl Held.c ?_
    refine GP 21 4194303 rfl (by kernel_rfl) rfl rfl rfl rfl rfl Held.c ?_
    refine GP 22 8388607 rfl (by kernel_rfl) rfl rfl rfl rfl rfl Held.c ?_
    refine GP 23 16777215 rfl (by kernel_rfl) rfl rfl rfl rfl rfl Held.c ?_
    refine GP 24 33554431 rfl (by kernel_rfl) rfl rfl rfl rfl rfl Held.c ?_
    refine GT 25 67108863 rfl (by kernel_rfl) rfl rfl Gd.no (Qt.pickf rfl rfl) Held.c ?_
    refine GT 26 134217727 rfl (by kernel_rfl) rfl rfl Gd.no (Qt.asg rfl) Held.c ?_
    refine GH.done (by kernel_rfl) ?_
    refine GK.then (GC.seq ?_)
    refine GC.draw mixed _ Held.all ?_
    refine GT 0 1 rfl (by kernel_rfl) rfl rfl Gd.no (Qt.mv rfl) Held.c ?_
    refine GT 1 3 rfl (by kernel_rfl) rfl rfl Gd.no (Qt.mv rfl) Held.c ?_
    refine GP 2 7 rfl (by kernel_rfl) rfl rfl rfl rfl rfl Held.c ?_
    refine GP 3 15 rfl (by kernel_rfl) rfl rfl rfl rfl rfl Held.c ?_
    refine GP 4 31 rfl (by kernel_rfl) rfl rfl rfl rfl rfl Held.c ?_
    refine GT 5 63 rfl (by kernel_rfl) rfl rfl Gd.no (Qt.pickf rfl rfl) Held.c ?_
    refine GT 6 127 rfl (by kernel_rfl) rfl rfl Gd.no (Qt.mv rfl) Held.c ?_
    refine GP 7 255 rfl (by kernel_rfl) rfl rfl rfl rfl rfl Held.c ?_
    refine GP 8 511 rfl (by kernel_rfl) rfl rfl rfl rfl rfl Held.c ?_
    refine GP 9 1023 rfl (by kernel_rfl) rfl rfl rfl rfl rfl Held.c ?_
    refine GP 10 2047 rfl (by kernel_rfl) rfl rfl rfl rfl rfl Held.c ?_
    refine GP 11 4095 rfl (by kernel_rfl) rfl rfl rfl rfl rfl Held.c ?_
    refine GT 12 8191 rfl (by kernel_rfl) rfl rfl Gd.no (Qt.pickf rfl rfl) Held.c ?_
    refine GT 13 16383 rfl (by kernel_rfl) rfl rfl Gd.no (Qt.mv rfl) Held.c ?_
    refine GP 14 32767 rfl (by kernel_rfl) rfl rfl rfl rfl rfl Held.c ?_
    refine GP 15 65535 rfl (by kernel_rfl) rfl rfl rfl rfl rfl Held.c ?_
    refine GP 16 131071 rfl (by kernel_rfl) rfl rfl rfl rfl rfl Held.c ?_
    refine GP 17 262143 rfl (by kernel_rfl) rfl rfl rfl rfl rfl Held.c ?_
    refine GP 18 524287 rfl (by kernel_rfl) rfl rfl rfl rfl rfl Held.c ?_
    refine GP 19 1048575 rfl (by kernel_rfl) rfl rfl rfl rfl rfl Held.c ?_
    refine GP 20 2097151 rfl (by kernel_rfl) rfl rfl rfl rfl rfl Held.c ?_
    refine GP 21 4194303 rfl (by kernel_rfl) rfl rfl rfl rfl rfl Held.c ?_
    refine GP 22 8388607 rfl (by kernel_rfl) rfl rfl rfl rfl rfl Held.c ?_
    refine GP 23 16777215 rfl (by kernel_rfl) rfl rfl rfl rfl rfl Held.c ?_
    refine GP 24 33554431 rfl (by kernel_rfl) rfl rfl rfl rfl rfl Held.c ?_
    refine GT 25 67108863 rfl (by kernel_rfl) rfl rfl Gd.no (Qt.pickf rfl rfl) Held.c ?_
    refine GT 26 134217727 rfl (by kernel_rfl) rfl rfl Gd.no (Qt.asg rfl) Held.c ?_
    refine GH.done (by kernel_rfl) ?_
    refine GK.then (GC.seq ?_)
    refine GC.draw mixed _ (Held.k (Held.d Held.nil)) ?_
    refine GT 0 1 rfl (by kernel_rfl) rfl rfl Gd.no (Qt.ldW a96 rfl Rd.o z96) Held.c ?_
    refine GT 1 3 rfl (by kernel_rfl) rfl rfl Gd.no (Qt.mv rfl) Held.c ?_
    refine GT 2 7 rfl (by kernel_rfl) rfl rfl Gd.no (Qt.mv rfl) Held.c ?_
    refine GP 3 15 rfl (by kernel_rfl) rfl rfl rfl rfl rfl Held.c ?_
    refine GP 4 31 rfl (by kernel_rfl) rfl rfl rfl rfl rfl Held.c ?_
    refine GP 5 63 rfl (by kernel_rfl) rfl rfl rfl rfl rfl Held.c ?_
    refine GT 6 127 rfl (by kernel_rfl) rfl rfl Gd.no (Qt.pickf rfl rfl) Held.c ?_
    refine GT 7 255 rfl (by kernel_rfl) rfl rfl Gd.no (Qt.mv rfl) Held.c ?_
    refine GP 8 511 rfl (by kernel_rfl) rfl rfl rfl rfl rfl Held.c ?_
    refine GP 9 1023 rfl (by kernel_rfl) rfl rfl rfl rfl rfl Held.c ?_
    refine GP 10 2047 rfl (by kernel_rfl) rfl rfl rfl rfl rfl Held.c ?_
    refine GT 11 4095 rfl (by kernel_rfl) rfl rfl Gd.no (Qt.pickf rfl rfl) Held.c ?_
    refine GO 12 8191 (by kernel_rfl) rfl rfl Gd.no (Ld.stW (by exact z96) rfl rfl (by simp [Value.oneCell']) (E := 96) (by rfl) UpdC.u ?_)
    refine ⟨Held.c, ?_⟩
    refine GT 13 16383 rfl (by kernel_rfl) rfl rfl Gd.no (Qt.asg rfl) Held.c ?_
    refine GH.done (by kernel_rfl) ?_
    refine GK.then (GC.ret ?_)
    refine GK.ret (rs := [.cell 6 96, .tmp 7]) rfl (.cellW rfl a96 (by exact z96) Rd.o (.tmp rfl .nil)) () ?_ ?_ (.nil _)
    ·trivial
    ·exact congrArg (fun t => Value.tuple #[.agg (hdC (Hd.of xs)).toArray, .bool t]) (Hd.ok_eq (by have e : le2 xs 8 = ix xs 8 + ix xs 9 * 256 := rfl; simp only [decide_eq_true_eq, Bool.false_eq_true, false_iff, true_iff]; omega))
  ·try simp only [sB0, sB1, sB2, sB3, sB4, sB5, sB6, sB7, sB8] at g4
   refine GP 5 63 rfl (by kernel_rfl) rfl rfl rfl rfl rfl Held.c ?_
   refine GP 6 127 rfl (by kernel_rfl) rfl rfl rfl rfl rfl Held.c ?_
   refine GP 7 255 rfl (by kernel_rfl) rfl rfl rfl rfl rfl Held.c ?_
   refine GT 8 511 rfl (by kernel_rfl) rfl rfl Gd.no (Qt.pickf rfl rfl) Held.c ?_
   refine GT 9 1023 rfl (by kernel_rfl) rfl rfl Gd.no (Qt.mv rfl) Held.c ?_
   refine GP 10 2047 rfl (by kernel_rfl) rfl rfl rfl rfl rfl Held.c ?_
   refine GP 11 4095 rfl (by kernel_rfl) rfl rfl rfl rfl rfl Held.c ?_
   refine GP 12 8191 rfl (by kernel_rfl) rfl rfl rfl rfl rfl Held.c ?_
   refine GT 13 16383 rfl (by kernel_rfl) rfl rfl Gd.no (Qt.pickf rfl rfl) Held.c ?_
   refine GT 14 32767 rfl (by kernel_rfl) rfl rfl Gd.no (Qt.mv rfl) Held.c ?_
   refine GP 15 65535 rfl (by kernel_rfl) rfl rfl rfl rfl rfl Held.c ?_
   refine GP 16 131071 rfl (by kernel_rfl) rfl rfl rfl rfl rfl Held.c ?_
   refine GP 17 262143 rfl (by kernel_rfl) rfl rfl rfl rfl rfl Held.c ?_
   refine GP 18 524287 rfl (by kernel_rfl) rfl rfl rfl rfl rfl Held.c ?_
   refine GP 19 1048575 rfl (by kernel_rfl) rfl rfl rfl rfl rfl Held.c ?_
   refine GP 20 2097151 rfl (by kernel_rfl) rfl rfl rfl rfl rfl Held.c ?_
   refine GP 21 4194303 rfl (by kernel_rfl) rfl rfl rfl rfl rfl Held.c ?_
   refine GP 22 8388607 rfl (by kernel_rfl) rfl rfl rfl rfl rfl Held.c ?_
   refine GP 23 16777215 rfl (by kernel_rfl) rfl rfl rfl rfl rfl Held.c ?_
   refine GP 24 33554431 rfl (by kernel_rfl) rfl rfl rfl rfl rfl Held.c ?_
   refine GT 25 67108863 rfl (by kernel_rfl) rfl rfl Gd.no (Qt.pickf rfl rfl) Held.c ?_
   refine GT 26 134217727 rfl (by kernel_rfl) rfl rfl Gd.no (Qt.asg rfl) Held.c ?_
   refine GH.done (by kernel_rfl) ?_
   refine GK.then (GC.seq ?_)
   refine GC.draw mixed _ Held.all ?_
   refine GT 0 1 rfl (by kernel_rfl) rfl rfl Gd.no (Qt.mv rfl) Held.c ?_
   refine GT 1 3 rfl (by kernel_rfl) rfl rfl Gd.no (Qt.mv rfl) Held.c ?_
   refine GP 2 7 rfl (by kernel_rfl) rfl rfl rfl rfl rfl Held.c ?_
   refine GP 3 15 rfl (by kernel_rfl) rfl rfl rfl rfl rfl Held.c ?_
   refine GP 4 31 rfl (by kernel_rfl) rfl rfl rfl rfl rfl Held.c ?_
   refine GT 5 63 rfl (by kernel_rfl) rfl rfl Gd.no (Qt.pickf rfl rfl) Held.c ?_
   refine GT 6 127 rfl (by kernel_rfl) rfl rfl Gd.no (Qt.mv rfl) Held.c ?_
   refine GP 7 255 rfl (by kernel_rfl) rfl rfl rfl rfl rfl Held.c ?_
   refine GP 8 511 rfl (by kernel_rfl) rfl rfl rfl rfl rfl Held.c ?_
   refine GP 9 1023 rfl (by kernel_rfl) rfl rfl rfl rfl rfl Held.c ?_
   refine GP 10 2047 rfl (by kernel_rfl) rfl rfl rfl rfl rfl Held.c ?_
   refine GP 11 4095 rfl (by kernel_rfl) rfl rfl rfl rfl rfl Held.c ?_
   refine GT 12 8191 rfl (by kernel_rfl) rfl rfl Gd.no (Qt.pickf rfl rfl) Held.c ?_
   refine GT 13 16383 rfl (by kernel_rfl) rfl rfl Gd.no (Qt.mv rfl) Held.c ?_
   refine GP 14 32767 rfl (by kernel_rfl) rfl rfl rfl rfl rfl Held.c ?_
   refine GP 15 65535 rfl (by kernel_rfl) rfl rfl rfl rfl rfl Held.c ?_
   refine GP 16 131071 rfl (by kernel_rfl) rfl rfl rfl rfl rfl Held.c ?_
   refine GP 17 262143 rfl (by kernel_rfl) rfl rfl rfl rfl rfl Held.c ?_
   refine GP 18 524287 rfl (by kernel_rfl) rfl rfl rfl rfl rfl Held.c ?_
   refine GP 19 1048575 rfl (by kernel_rfl) rfl rfl rfl rfl rfl Held.c ?_
   refine GP 20 2097151 rfl (by kernel_rfl) rfl rfl rfl rfl rfl Held.c ?_
   refine GP 21 4194303 rfl (by kernel_rfl) rfl rfl rfl rfl rfl Held.c ?_
   refine GP 22 8388607 rfl (by kernel_rfl) rfl rfl rfl rfl rfl Held.c ?_
   refine GP 23 16777215 rfl (by kernel_rfl) rfl rfl rfl rfl rfl Held.c ?_
   refine GP 24 33554431 rfl (by kernel_rfl) rfl rfl rfl rfl rfl Held.c ?_
   refine GT 25 67108863 rfl (by kernel_rfl) rfl rfl Gd.no (Qt.pickf rfl rfl) Held.c ?_
   refine GT 26 134217727 rfl (by kernel_rfl) rfl rfl Gd.no (Qt.asg rfl) Held.c ?_
   refine GH.done (by kernel_rfl) ?_
   refine GK.then (GC.seq ?_)
   refine GC.draw mixed _ (Held.k (Held.d Held.nil)) ?_
   refine GT 0 1 rfl (by kernel_rfl) rfl rfl Gd.no (Qt.ldW a96 rfl Rd.o z96) Held.c ?_
   refine GT 1 3 rfl (by kernel_rfl) rfl rfl Gd.no (Qt.mv rfl) Held.c ?_
   refine GT 2 7 rfl (by kernel_rfl) rfl rfl Gd.no (Qt.mv rfl) Held.c ?_
   refine GP 3 15 rfl (by kernel_rfl) rfl rfl rfl rfl rfl Held.c ?_
   refine GP 4 31 rfl (by kernel_rfl) rfl rfl rfl rfl rfl Held.c ?_
   refine GP 5 63 rfl (by kernel_rfl) rfl rfl rfl rfl rfl Held.c ?_
   refine GT 6 127 rfl (by kernel_rfl) rfl rfl Gd.no (Qt.pickf rfl rfl) Held.c ?_
   refine GT 7 255 rfl (by kernel_rfl) rfl rfl Gd.no (Qt.mv rfl) Held.c ?_
   refine GP 8 511 rfl (by kernel_rfl) rfl rfl rfl rfl rfl Held.c ?_
   refine GP 9 1023 rfl (by kernel_rfl) rfl rfl rfl rfl rfl Held.c ?_
   refine GP 10 2047 rfl (by kernel_rfl) rfl rfl rfl rfl rfl Held.c ?_
   refine GT 11 4095 rfl (by kernel_rfl) rfl rfl Gd.no (Qt.pickf rfl rfl) Held.c ?_
   refine GO 12 8191 (by kernel_rfl) rfl rfl Gd.no (Ld.stW (by exact z96) rfl rfl (by simp [Value.oneCell']) (E := 96) (by rfl) UpdC.u ?_)
   refine ⟨Held.c, ?_⟩
   refine GT 13 16383 rfl (by kernel_rfl) rfl rfl Gd.no (Qt.asg rfl) Held.c ?_
   refine GH.done (by kernel_rfl) ?_
   refine GK.then (GC.ret ?_)
   refine GK.ret (rs := [.cell 6 96, .tmp 7]) rfl (.cellW rfl a96 (by exact z96) Rd.o (.tmp rfl .nil)) () ?_ ?_ (.nil _)
   ·trivial
   ·exact congrArg (fun t => Value.tuple #[.agg (hdC (Hd.of xs)).toArray, .bool t]) (Hd.ok_eq (by have e : le2 xs 8 = ix xs 8 + ix xs 9 * 256 := rfl; simp only [decide_eq_true_eq, Bool.false_eq_true, false_iff, true_iff]; omega))
theorem load_ct (F : Fr) (b : Nat) (d : Option Addr) (rb : Option Nat) (rc : Nat) (sp : List Value) (Y : Lg) (A : Addr) (c : Nat) (xs : List Int) (h : Hd) (hA : VwF F (some A) (vI .u8 xs)) (hn : 64 ≤ xs.length) (hc : xs.length ≤ c) (hx : xs.length ≤ 1048576) (hb2 : Bytes xs) (hinv : Y.recs.length * 11 + sp.length = rc * 11) (hnil : rb = none → Y.recs = [] ∧ sp = []) (hlen : Y.recs.length ≤ 16777216) :
    Ct Try.prog F 51 [.pointer (some ⟨b, 0, none⟩), .slice (some A) xs.length c, .agg (hdC h).toArray] [(some b, .cells (lgC Y d rb rc) 85), (rb, .cells (Y.recs.flatMap recC ++ sp) 90)] (S := Option Nat × Nat × List Value) (fun x => (Y.load xs h).recs.length * 11 + x.2.2.length = x.2.1 * 11 ∧ (x.1 = none → (Y.load xs h).recs = [] ∧ x.2.2 = []) ∧ (Y.load xs h).recs.length ≤ Y.recs.length + slotsN xs.length) (fun _ => .tuple #[]) (fun x => [(some b, .cells (lgC (Y.load xs h) d x.1 x.2.1) 85), (x.1, .cells ((Y.load xs h).recs.flatMap recC ++ x.2.2) 90)]) := by
 have hsl : (slotsN xs.length : Int) = ((xs.length : Int) - 11) / 17 := by unfold slotsN; omega
 have hsl2 : slotsN xs.length ≤ 65536 := by unfold slotsN; omega
 refine Ct.of 84 [(0, _), (1, _), (2, _)] Try.func51 rfl rfl rfl rfl ?_
 refine GC.seq (GC.region ?_)
 refine G.ld Gd.no (Ld.box rfl rfl (by first | exact Cl.one rfl | exact Cl.agg) (fun b5 => ?_))
 refine G.nil (GK.then (GC.seq ?_))
 refine GC.draw mixed _ Held.all ?_
 refine GT 0 1 rfl (by kernel_rfl) rfl rfl Gd.no (Qt.fa0 fl96_0 rfl) Held.c ?_
 refine GT 1 3 rfl (by kernel_rfl) rfl rfl Gd.no (by first | exact Qt.ldc a3 rfl (by first | exact Rdc.o rfl | exact Rdc.o (nth_vIs (by omega)) | exact Rdc.o (nth_vI (by omega))) | exact Qt.ldF a3 rfl (hA.at' (nth_vI (by omega))) | exact Qt.ldF a3 rfl (hS.at' (nth_vI (by omega)))) Held.c ?_
 refine GT 2 7 rfl (by kernel_rfl) rfl rfl Gd.no (Qt.mv rfl) Held.c ?_
 refine GT 3 15 rfl (by kernel_rfl) rfl rfl Gd.no (Qt.nilc rfl) Held.c ?_
 refine GT 4 31 rfl (by kernel_rfl) rfl rfl Gd.no (Qt.fa0 fl85_4 rfl) Held.c ?_
 refine GT 5 63 rfl (by kernel_rfl) rfl rfl Gd.no (by first | exact Qt.ldc a3 rfl (by first | exact Rdc.o rfl | exact Rdc.o (nth_vIs (by omega)) | exact Rdc.o (nth_vI (by omega))) | exact Qt.ldF a3 rfl (hA.at' (nth_vI (by omega))) | exact Qt.ldF a3 rfl (hS.at' (nth_vI (by omega)))) Held.c ?_
 refine GT 6 127 rfl (by kernel_rfl) rfl rfl Gd.no (Qt.eqI rfl rfl) Held.c ?_
 refine GT 7 255 rfl (by kernel_rfl) rfl rfl Gd.no (Qt.asg rfl) Held.c ?_
 refine GH.done (by kernel_rfl) ?_
 refine GK.then (GC.seq (GC.seq (GC.region ?_)))
 refine G.q Gd.no (Qt.mv rfl) rfl ?_
 refine G.nil (GK.then ?_)
 refine GC.condb rfl (fun c0 => ?_) (fun c0 => ?_)
 ·try simp only [sB0, sB1, sB2, sB3, sB4, sB5, sB6, sB7, sB8] at c0
  rw [decide_eq_true c0]
  refine GC.region ?_
  refine G.q Gd.no (Qt.mv rfl) rfl ?_
  refine G.q Gd.no (Qt.fa0 fl96_2 rfl) rfl ?_
  refine G.q Gd.no (by first | exact Qt.ldc a36 rfl (by first | exact Rdc.o rfl | exact Rdc.o (nth_vIs (by omega)) | exact Rdc.o (nth_vI (by omega))) | exact Qt.ldF a36 rfl (hA.at' (nth_vI (by omega))) | exact Qt.ldF a36 rfl (hS.at' (nth_vI (by omega)))) rfl ?_
  refine G.q Gd.no (Qt.nilc rfl) rfl ?_
  refine G.q Gd.no (Qt.fa0 fl85_7 rfl) rfl ?_
  refine G.ld Gd.no (Ld.stc z36 rfl rfl rfl (Stc.o SetAt.k7) ?_)
  refine G.nil (GK.then (GC.seq (GC.region ?_)))
  refine G.q Gd.no (Qt.mv rfl) rfl ?_
  refine G.q Gd.no (Qt.lenS (rt := 0) Try.underlying53 rfl) rfl ?_
  refine G.ld Gd.no (Ld.call cal38 rfl rfl (.nil _) (fun F' hF => slots_ct F' _ (by omega) (by omega)) (fun _ _ => ?_))
  dsimp only [lCa, lNa]
  refine G.q Gd.no (Qt.mv rfl) rfl ?_
  refine G.nil (GK.then (GC.block ?_))
  refine GC.loop (S := Nat × Lg × Option Nat × Nat × List Value) (fun x => x.1 ≤ slotsN xs.length ∧ x.2.1 = (List.range x.1).foldl (Lg.load1 (decide (h.q = Y.newest)) h.q xs) { Y with next := h.id } ∧ x.2.1.recs.length * 11 + x.2.2.2.2.length = x.2.2.2.1 * 11 ∧ (x.2.2.1 = none → x.2.1.recs = [] ∧ x.2.2.2.2 = []) ∧ x.2.1.recs.length ≤ Y.recs.length + x.1) (fun x => slotsN xs.length - x.1)
   (fun x => [(0, .pointer (some ⟨b, 0, none⟩)), (1, .slice (some A) xs.length c), (5, .pointer (some ⟨b5, 0, none⟩)), (6, .bool true), (26, .int .i64 (((xs.length : Int) - 11) / 17)), (27, .int .i64 (x.1 : Int))]) (fun x => [(some b, .cells (lgC x.2.1 d x.2.2.1 x.2.2.2.1) 85), (x.2.2.1, .cells (x.2.1.recs.flatMap recC ++ x.2.2.2.2) 90), (some b5, .cells (hdC h) 96)]) (0, { Y with next := h.id }, rb, rc, sp) ?_ ?_ ?_ ?_
  ·exact ⟨by simp, rfl, hinv, hnil, by simp⟩
  ·exact ⟨rfl, rfl, rfl, rfl, rfl, rfl, trivial⟩
  ·exact ⟨_, (Tks.c (Tks.c (Tks.c (.nil _))))⟩
  intro ⟨i, Z, ob, rc2, sp2⟩ ⟨h1, hZ, hinv2, hnil2, hlen2⟩
  simp only at h1 hZ hinv2 hnil2 hlen2
  refine GC.seq (GC.region ?_)
  refine G.q Gd.no (Qt.lss rfl rfl) rfl ?_
  refine G.nil (GK.then (GC.seq ?_))
  refine GC.condb rfl (fun c1 => ?_) (fun c1 => ?_)
  ·try simp only [sB0, sB1, sB2, sB3, sB4, sB5, sB6, sB7, sB8] at c1
   have hin : i < slotsN xs.length := by omega
   have hS : VwF F (some (A.add (11 + i * 17))) (vI .u8 (slotL xs i)) := takeI (dropI hA)
   have hSl : (slotL xs i).length = 17 := slotL_len (by unfold slotsN at hin; omega)
   have hSb := slotL_bytes hb2 i
   have hi17 : 11 + i * 17 + 17 ≤ xs.length := by unfold slotsN at hin; omega
   refine GC.skip (GK.then (GC.seq (GC.block (GC.seq (GC.region ?_)))))
   refine G.q Gd.no (Qt.mv rfl) rfl ?_
   refine G.q Gd.no (Qt.asg rfl) rfl ?_
   refine G.nil (GK.then (GC.seq (GC.region ?_)))
   refine G.q Gd.no (Qt.mv rfl) rfl ?_
   refine G.q Gd.no (Qt.mv rfl) rfl ?_
   refine G.ld Gd.no (Ld.call cal75 rfl rfl (.nil _) (fun F' hF => slot_ct F' A xs.length c (i : Int) (by omega) (by omega) hc hx) (fun _ _ => ?_))
   dsimp only [lCa, lNa]
   rw [show (11 + (i : Int) * 17).toNat = 11 + i * 17 by omega]
   refine G.q Gd.no (Qt.asg rfl) rfl ?_
   refine G.nil (GK.then (GC.seq (GC.seq (GC.region ?_))))
   refine G.q Gd.no (Qt.mv rfl) rfl ?_
   refine G.q Gd.no (Qt.mv rfl) rfl ?_
   apply G.andb (seg := [_, _, _])
   exact rfl
   exact rfl
   exact rfl
   exact Gd.no
   exact rfl
   exact rfl
   ·intro g2; try simp only [sB0, sB1, sB2, sB3, sB4, sB5, sB6, sB7, sB8] at g2
    refine G.q (Gd.yes rfl rfl) (Qt.mv rfl) rfl ?_
    refine G.ld (Gd.yes rfl rfl) (Ld.call cal76 rfl rfl (.nil _) (fun F' hF => blank_ct F' (some (A.add (11 + i * 17))) 17 _ (slotL xs i) (hS.mono hF) hSl (by omega)) (fun _ _ => ?_))
    dsimp only [lCa, lNa]
    refine G.q (Gd.yes rfl rfl) (Qt.not rfl) rfl ?_
    refine G.nil (GK.seg (n := [_, _, _]) rfl rfl rfl (by first | exact Tks.all _ | exact Tks.skip (Tks.all _) | exact Tks.skip (Tks.skip (Tks.all _)) | exact Tks.skip (Tks.skip (Tks.skip (Tks.all _)))))
   refine G.nil (GK.then ?_)
   refine GC.condb rfl (fun c2 => ?_) (fun c2 => ?_)
   ·try simp only [sB0, sB1, sB2, sB3, sB4, sB5, sB6, sB7, sB8] at c2
    have hbl : blankL (slotL xs i) = false := by simpa using c2
    refine GC.region ?_
    refine G.q Gd.no (Qt.mv rfl) rfl ?_
    refine G.q Gd.no (Qt.mv rfl) rfl ?_
    refine G.q Gd.no (Qt.add rfl rfl (by first | exact i64_id (by omega) (by omega) | exact rfl)) rfl ?_
    refine G.q Gd.no (Qt.nilc rfl) rfl ?_
    refine G.q Gd.no (Qt.fa0 fl85_6 rfl) rfl ?_
    refine G.ld Gd.no (Ld.stc z3 rfl rfl rfl (Stc.o SetAt.k6) ?_)
    refine G.nil (GK.then (GC.seq (GC.region ?_)))
    refine G.q Gd.no (Qt.mv rfl) rfl ?_
    refine G.q Gd.no (Qt.slH Try.underlying53 z5 rfl rfl (by omega) (by omega) (show (16 : Int).toNat = 16 from rfl)) rfl ?_
    refine G.ld Gd.no (Ld.call cal77 rfl rfl (.nil _) (fun F' hF => dec_ct F' (A.add (11 + i * 17)) _ ((slotL xs i).take 16) ((takeI hS).mono hF) (by rw [List.length_take, hSl]; rfl) (by omega) (hSb.take 16)) (fun _ _ => ?_))
    dsimp only [lCa, lNa]
    obtain ⟨ee, hee⟩ : ∃ ee, evDec ((slotL xs i).take 16) = ee := ⟨_, rfl⟩
    rw [hee]
    have heo : evOf (slotL xs i) = if ix (slotL xs i) 16 = 0 ∧ ee.2 = 0 ∧ ee.1.id ≠ 0 then some ee.1 else none := by unfold evOf; rw [hee]
    have hwf : ee.1.Wf := by rw [← hee]; exact evDec_wf (hSb.take 16)
    have hva : ee.2 = 0 → ee.1.valid = true := by rw [← hee]; exact evDec_valid
    refine G.q Gd.no (Qt.mv rfl) rfl ?_
    refine G.q Gd.no (Qt.ext rfl rfl) rfl ?_
    refine G.q Gd.no (Qt.ext rfl rfl) rfl ?_
    refine G.ld Gd.no (Ld.alloc rfl ze40 (by first | exact Cl.one rfl | exact Cl.agg) (fun b9 => ?_))
    refine G.ld Gd.no (Ld.stW (by exact z40) rfl rfl (evC_one _) (E := 40) (by rfl) UpdC.u ?_)
    refine G.q Gd.no (Qt.asg rfl) rfl ?_
    refine G.nil (GK.then (GC.seq (GC.seq (GC.region ?_))))
    refine G.q Gd.no (Qt.mv rfl) rfl ?_
    refine G.q Gd.no (Qt.ia1 Try.underlying53 z5 rfl rfl (by omega) (by omega) (show (16 : Int).toNat = 16 from rfl)) rfl ?_
    refine G.q Gd.no (Qt.ldF a5 rfl (hS.at' (nth_vI (by omega)))) rfl ?_
    refine G.q Gd.no (Qt.neI rfl rfl) rfl ?_
    refine G.q Gd.no (Qt.mv rfl) rfl ?_
    apply G.orb (seg := [_, _])
    exact rfl
    exact rfl
    exact rfl
    exact Gd.no
    exact rfl
    exact rfl
    ·intro g5; try simp only [sB0, sB1, sB2, sB3, sB4, sB5, sB6, sB7, sB8] at g5
     refine G.q (Gd.yes rfl rfl) (Qt.mv rfl) rfl ?_
     refine G.q (Gd.yes rfl rfl) (Qt.neI rfl rfl) rfl ?_
     refine G.nil (GK.seg (n := [_, _]) rfl rfl rfl (by first | exact Tks.all _ | exact Tks.skip (Tks.all _) | exact Tks.skip (Tks.skip (Tks.all _)) | exact Tks.skip (Tks.skip (Tks.skip (Tks.all _)))))
    refine G.q Gd.no (Qt.mv rfl) rfl ?_
    apply G.orb (seg := [_, _, _])
    exact rfl
    exact rfl
    exact rfl
    exact Gd.no
    exact rfl
    exact rfl
    ·intro g9; try simp only [sB0, sB1, sB2, sB3, sB4, sB5, sB6, sB7, sB8] at g9
     refine G.q (Gd.yes rfl rfl) (Qt.fa0 fl40_0 rfl) rfl ?_
     refine G.q (Gd.yes rfl rfl) (by first | exact Qt.ldc a36 rfl (by first | exact Rdc.o rfl | exact Rdc.o (nth_vIs (by omega)) | exact Rdc.o (nth_vI (by omega))) | exact Qt.ldF a36 rfl (hA.at' (nth_vI (by omega))) | exact Qt.ldF a36 rfl (hS.at' (nth_vI (by omega)))) rfl ?_
     refine G.q (Gd.yes rfl rfl) (Qt.eqI rfl rfl) rfl ?_
     refine G.nil (GK.seg (n := [_, _, _]) rfl rfl rfl (by first | exact Tks.all _ | exact Tks.skip (Tks.all _) | exact Tks.skip (Tks.skip (Tks.all _)) | exact Tks.skip (Tks.skip (Tks.skip (Tks.all _)))))
    refine G.nil (GK.then ?_)
    refine GC.condb rfl (fun c3 => ?_) (fun c3 => ?_)
    ·try simp only [sB0, sB1, sB2, sB3, sB4, sB5, sB6, sB7, sB8] at c3
     have hev : evOf (slotL xs i) = none := by rw [heo, if_neg (by omega)]
     refine GC.exit (GK.thene (GK.blocke (GK.then (GC.region ?_))))
     refine G.q Gd.no (Qt.add rfl rfl (by first | exact i64_id (by omega) (by omega) | exact rfl)) rfl ?_
     refine G.q Gd.no (Qt.mv rfl) rfl ?_
     refine G.nil ?_
     refine GK.head (i + 1, { Z with used := (i : Int) + 1 }, ob, rc2, sp2) ?_ ?_ ?_ ?_
     ·simp only; omega
     ·exact ⟨by simp only; omega, by rw [List.range_succ, List.foldl_append, ← hZ]; simp [Lg.load1, c0, hev, hbl], by simp only; exact hinv2, hnil2, by simp only; omega⟩
     ·exact ⟨rfl, rfl, rfl, rfl, rfl, rfl, trivial⟩
     ·exact ⟨_, (Tks.c (Tks.c (Tks.c (.nil _))))⟩
    ·try simp only [sB0, sB1, sB2, sB3, sB4, sB5, sB6, sB7, sB8] at c3
     have hev : evOf (slotL xs i) = some ee.1 := by rw [heo, if_pos (by omega)]
     have hid : 0 ≤ ee.1.id ∧ ee.1.id ≤ 65534 := by have h3 := hva (by omega); simp only [Ev.valid, Bool.and_eq_true, decide_eq_true_eq] at h3; exact ⟨hwf.id.1, by omega⟩
     refine GC.skip (GK.then (GC.seq ?_))
     refine GC.draw mixed _ (Held.k (Held.d (Held.d (Held.k Held.nil)))) ?_
     refine GT 0 1 rfl (by kernel_rfl) rfl rfl Gd.no (Qt.mv rfl) Held.c ?_
     refine GT 1 3 rfl (by kernel_rfl) rfl rfl Gd.no (Qt.mv rfl) Held.c ?_
     refine GT 2 7 rfl (by kernel_rfl) rfl rfl Gd.no (Qt.nilc rfl) Held.c ?_
     refine GT 3 15 rfl (by kernel_rfl) rfl rfl Gd.no (Qt.fa0 fl85_8 rfl) Held.c ?_
     refine GT 5 47 rfl (by kernel_rfl) rfl rfl Gd.no (Qt.fa0 fl96_0 rfl) Held.c ?_
     refine GT 6 111 rfl (by kernel_rfl) rfl rfl Gd.no (by first | exact Qt.ldc a3 rfl (by first | exact Rdc.o rfl | exact Rdc.o (nth_vIs (by omega)) | exact Rdc.o (nth_vI (by omega))) | exact Qt.ldF a3 rfl (hA.at' (nth_vI (by omega))) | exact Qt.ldF a3 rfl (hS.at' (nth_vI (by omega)))) Held.c ?_
     refine GT 7 239 rfl (by kernel_rfl) rfl rfl Gd.no (Qt.ldW a40 rfl Rd.o z40) Held.c ?_
     refine GT 8 495 rfl (by kernel_rfl) rfl rfl Gd.no (Qt.buildS Try.underlying90 pl90 ze90 (.cons rfl rfl (Cl.one rfl) rfl (SetM.cons SetAt.k0 (.nil _ _)) (.cons rfl rfl Cl.agg rfl (setM_rec _ _) (.nil _)))) Held.c ?_
     refine GH.two (i := 4) (j := 9) (by kernel_rfl) rfl rfl  (rfl : _ = 511) (rfl : _ = 1007) Gd.no Gd.no (Qt.ld (by first | exact Qt.ldc a83 rfl (by first | exact Rdc.o rfl | exact Rdc.o (nth_vIs (by omega)) | exact Rdc.o (nth_vI (by omega))) | exact Qt.ldF a83 rfl (hA.at' (nth_vI (by omega))) | exact Qt.ldF a83 rfl (hS.at' (nth_vI (by omega)))) rfl ?_) (Ld.bsl1 rfl Try.underlying83 z90 ze90 (by first | exact Cl.one rfl | exact Cl.agg) (by rfl) (by decide) (by decide) rfl (by first | exact Cl.one rfl | exact Cl.agg) (by rfl) (fun b72 => ?_))
     ·skip
      refine ⟨Held.c, ?_⟩
      refine GO 9 1023 (by kernel_rfl) rfl rfl Gd.no (Ld.bsl1 rfl Try.underlying83 z90 ze90 (by first | exact Cl.one rfl | exact Cl.agg) (by rfl) (by decide) (by decide) rfl (by first | exact Cl.one rfl | exact Cl.agg) (by rfl) (fun b72 => ?_))
      refine ⟨Held.c, ?_⟩
      refine GO 10 2047 (by kernel_rfl) rfl rfl Gd.no (Ld.appS (f := recC) (ys := [(h.q, ee.1)]) Try.underlying83 z90 by90 ze90 (by first | exact Cl.one rfl | exact Cl.agg) rfl rfl recC_len recC_one rfl rfl (Vw.all Rd.o) hinv2 (fun e => by obtain ⟨h1, h2⟩ := hnil2 e; exact ⟨h1, h2, by simp⟩) (by simp only [List.length_cons, List.length_nil]; omega) (by decide) (by simp only [List.length_cons, List.length_nil]; omega) (fun b' c' sp' hcap => ?_))
      refine ⟨Held.c, ?_⟩
      refine GT 11 4095 rfl (by kernel_rfl) rfl rfl Gd.no (Qt.nilc rfl) Held.c ?_
      refine GT 12 8191 rfl (by kernel_rfl) rfl rfl Gd.no (Qt.fa0 fl85_8 rfl) Held.c ?_
      refine GO 13 16383 (by kernel_rfl) rfl rfl Gd.no (Ld.stc z83 rfl rfl rfl (Stc.o SetAt.k8) ?_)
      refine ⟨Held.c, ?_⟩
      refine GH.done (by kernel_rfl) ?_
      refine GK.then (GC.seq (GC.region ?_))
      refine G.q Gd.no (Qt.mv rfl) rfl ?_
      refine G.nil (GK.then ?_)
      refine GC.condt rfl ?_
      refine GC.region ?_
      refine G.q Gd.no (Qt.mv rfl) rfl ?_
      refine G.q Gd.no (Qt.fa0 fl40_0 rfl) rfl ?_
      refine G.q Gd.no (by first | exact Qt.ldc a36 rfl (by first | exact Rdc.o rfl | exact Rdc.o (nth_vIs (by omega)) | exact Rdc.o (nth_vI (by omega))) | exact Qt.ldF a36 rfl (hA.at' (nth_vI (by omega))) | exact Qt.ldF a36 rfl (hS.at' (nth_vI (by omega)))) rfl ?_
      refine G.ld Gd.no (Ld.call cal47 rfl rfl (.nil _) (fun F' hF => behind_ct F' _ (by omega) (by omega)) (fun _ _ => ?_))
      dsimp only [lCa, lNa]
      refine G.q Gd.no (Qt.nilc rfl) rfl ?_
      refine G.q Gd.no (Qt.fa0 fl85_7 rfl) rfl ?_
      refine G.ld Gd.no (Ld.stc z36 rfl rfl rfl (Stc.o SetAt.k7) ?_)
      refine G.nil (GK.blockn (GK.then (GC.region ?_)))
      refine G.q Gd.no (Qt.add rfl rfl (by first | exact i64_id (by omega) (by omega) | exact rfl)) rfl ?_
      refine G.q Gd.no (Qt.mv rfl) rfl ?_
      refine G.nil ?_
      refine GK.head (i + 1, { Z with used := (i : Int) + 1, recs := Z.recs ++ [(h.q, ee.1)], next := behind ee.1.id }, some b', c', sp') ?_ ?_ ?_ ?_
      ·simp only; omega
      ·exact ⟨by simp only; omega, by rw [List.range_succ, List.foldl_append, ← hZ]; simp [Lg.load1, c0, hev, hbl], by simp only; exact hcap, (fun e => by cases e), by simp only [List.length_append, List.length_cons, List.length_nil]; omega⟩
      ·exact ⟨rfl, rfl, rfl, rfl, rfl, rfl, trivial⟩
      ·exact ⟨_, (Tks.c (Tks.c (Tks.c (.nil _))))⟩
     ·skip
      refine ⟨Held.c, ?_⟩
      refine GO 4 1023 (by kernel_rfl) rfl rfl Gd.no (Qt.ld (by first | exact Qt.ldc a83 rfl (by first | exact Rdc.o rfl | exact Rdc.o (nth_vIs (by omega)) | exact Rdc.o (nth_vI (by omega))) | exact Qt.ldF a83 rfl (hA.at' (nth_vI (by omega))) | exact Qt.ldF a83 rfl (hS.at' (nth_vI (by omega)))) rfl ?_)
      refine ⟨Held.c, ?_⟩
      refine GO 10 2047 (by kernel_rfl) rfl rfl Gd.no (Ld.appS (f := recC) (ys := [(h.q, ee.1)]) Try.underlying83 z90 by90 ze90 (by first | exact Cl.one rfl | exact Cl.agg) rfl rfl recC_len recC_one rfl rfl (Vw.all Rd.o) hinv2 (fun e => by obtain ⟨h1, h2⟩ := hnil2 e; exact ⟨h1, h2, by simp⟩) (by simp only [List.length_cons, List.length_nil]; omega) (by decide) (by simp only [List.length_cons, List.length_nil]; omega) (fun b' c' sp' hcap => ?_))
      refine ⟨Held.c, ?_⟩
      refine GT 11 4095 rfl (by kernel_rfl) rfl rfl Gd.no (Qt.nilc rfl) Held.c ?_
      refine GT 12 8191 rfl (by kernel_rfl) rfl rfl Gd.no (Qt.fa0 fl85_8 rfl) Held.c ?_
      refine GO 13 16383 (by kernel_rfl) rfl rfl Gd.no (Ld.stc z83 rfl rfl rfl (Stc.o SetAt.k8) ?_)
      refine ⟨Held.c, ?_⟩
      refine GH.done (by kernel_rfl) ?_
      refine GK.then (GC.seq (GC.region ?_))
      refine G.q Gd.no (Qt.mv rfl) rfl ?_
      refine G.nil (GK.then ?_)
      refine GC.condt rfl ?_
      refine GC.region ?_
      refine G.q Gd.no (Qt.mv rfl) rfl ?_
      refine G.q Gd.no (Qt.fa0 fl40_0 rfl) rfl ?_
      refine G.q Gd.no (by first | exact Qt.ldc a36 rfl (by first | exact Rdc.o rfl | exact Rdc.o (nth_vIs (by omega)) | exact Rdc.o (nth_vI (by omega))) | exact Qt.ldF a36 rfl (hA.at' (nth_vI (by omega))) | exact Qt.ldF a36 rfl (hS.at' (nth_vI (by omega)))) rfl ?_
      refine G.ld Gd.no (Ld.call cal47 rfl rfl (.nil _) (fun F' hF => behind_ct F' _ (by omega) (by omega)) (fun _ _ => ?_))
      dsimp only [lCa, lNa]
      refine G.q Gd.no (Qt.nilc rfl) rfl ?_
      refine G.q Gd.no (Qt.fa0 fl85_7 rfl) rfl ?_
      refine G.ld Gd.no (Ld.stc z36 rfl rfl rfl (Stc.o SetAt.k7) ?_)
      refine G.nil (GK.blockn (GK.then (GC.region ?_)))
      refine G.q Gd.no (Qt.add rfl rfl (by first | exact i64_id (by omega) (by omega) | exact rfl)) rfl ?_
      refine G.q Gd.no (Qt.mv rfl) rfl ?_
      refine G.nil ?_
      refine GK.head (i + 1, { Z with used := (i : Int) + 1, recs := Z.recs ++ [(h.q, ee.1)], next := behind ee.1.id }, some b', c', sp') ?_ ?_ ?_ ?_
      ·simp only; omega
      ·exact ⟨by simp only; omega, by rw [List.range_succ, List.foldl_append, ← hZ]; simp [Lg.load1, c0, hev, hbl], by simp only; exact hcap, (fun e => by cases e), by simp only [List.length_append, List.length_cons, List.length_nil]; omega⟩
      ·exact ⟨rfl, rfl, rfl, rfl, rfl, rfl, trivial⟩
      ·exact ⟨_, (Tks.c (Tks.c (Tks.c (.nil _))))⟩
   ·try simp only [sB0, sB1, sB2, sB3, sB4, sB5, sB6, sB7, sB8] at c2
    have hbl : blankL (slotL xs i) = true := by simpa using c2
    refine GC.skip (GK.then (GC.seq (GC.region ?_)))
    refine G.q Gd.no (Qt.mv rfl) rfl ?_
    refine G.q Gd.no (Qt.slH Try.underlying53 z5 rfl rfl (by omega) (by omega) (show (16 : Int).toNat = 16 from rfl)) rfl ?_
    refine G.ld Gd.no (Ld.call cal77 rfl rfl (.nil _) (fun F' hF => dec_ct F' (A.add (11 + i * 17)) _ ((slotL xs i).take 16) ((takeI hS).mono hF) (by rw [List.length_take, hSl]; rfl) (by omega) (hSb.take 16)) (fun _ _ => ?_))
    dsimp only [lCa, lNa]
    obtain ⟨ee, hee⟩ : ∃ ee, evDec ((slotL xs i).take 16) = ee := ⟨_, rfl⟩
    rw [hee]
    have heo : evOf (slotL xs i) = if ix (slotL xs i) 16 = 0 ∧ ee.2 = 0 ∧ ee.1.id ≠ 0 then some ee.1 else none := by unfold evOf; rw [hee]
    have hwf : ee.1.Wf := by rw [← hee]; exact evDec_wf (hSb.take 16)
    have hva : ee.2 = 0 → ee.1.valid = true := by rw [← hee]; exact evDec_valid
    refine G.q Gd.no (Qt.mv rfl) rfl ?_
    refine G.q Gd.no (Qt.ext rfl rfl) rfl ?_
    refine G.q Gd.no (Qt.ext rfl rfl) rfl ?_
    refine G.ld Gd.no (Ld.alloc rfl ze40 (by first | exact Cl.one rfl | exact Cl.agg) (fun b9 => ?_))
    refine G.ld Gd.no (Ld.stW (by exact z40) rfl rfl (evC_one _) (E := 40) (by rfl) UpdC.u ?_)
    refine G.q Gd.no (Qt.asg rfl) rfl ?_
    refine G.nil (GK.then (GC.seq (GC.seq (GC.region ?_))))
    refine G.q Gd.no (Qt.mv rfl) rfl ?_
    refine G.q Gd.no (Qt.ia1 Try.underlying53 z5 rfl rfl (by omega) (by omega) (show (16 : Int).toNat = 16 from rfl)) rfl ?_
    refine G.q Gd.no (Qt.ldF a5 rfl (hS.at' (nth_vI (by omega)))) rfl ?_
    refine G.q Gd.no (Qt.neI rfl rfl) rfl ?_
    refine G.q Gd.no (Qt.mv rfl) rfl ?_
    apply G.orb (seg := [_, _])
    exact rfl
    exact rfl
    exact rfl
    exact Gd.no
    exact rfl
    exact rfl
    ·intro g5; try simp only [sB0, sB1, sB2, sB3, sB4, sB5, sB6, sB7, sB8] at g5
     refine G.q (Gd.yes rfl rfl) (Qt.mv rfl) rfl ?_
     refine G.q (Gd.yes rfl rfl) (Qt.neI rfl rfl) rfl ?_
     refine G.nil (GK.seg (n := [_, _]) rfl rfl rfl (by first | exact Tks.all _ | exact Tks.skip (Tks.all _) | exact Tks.skip (Tks.skip (Tks.all _)) | exact Tks.skip (Tks.skip (Tks.skip (Tks.all _)))))
    refine G.q Gd.no (Qt.mv rfl) rfl ?_
    apply G.orb (seg := [_, _, _])
    exact rfl
    exact rfl
    exact rfl
    exact Gd.no
    exact rfl
    exact rfl
    ·intro g9; try simp only [sB0, sB1, sB2, sB3, sB4, sB5, sB6, sB7, sB8] at g9
     refine G.q (Gd.yes rfl rfl) (Qt.fa0 fl40_0 rfl) rfl ?_
     refine G.q (Gd.yes rfl rfl) (by first | exact Qt.ldc a36 rfl (by first | exact Rdc.o rfl | exact Rdc.o (nth_vIs (by omega)) | exact Rdc.o (nth_vI (by omega))) | exact Qt.ldF a36 rfl (hA.at' (nth_vI (by omega))) | exact Qt.ldF a36 rfl (hS.at' (nth_vI (by omega)))) rfl ?_
     refine G.q (Gd.yes rfl rfl) (Qt.eqI rfl rfl) rfl ?_
     refine G.nil (GK.seg (n := [_, _, _]) rfl rfl rfl (by first | exact Tks.all _ | exact Tks.skip (Tks.all _) | exact Tks.skip (Tks.skip (Tks.all _)) | exact Tks.skip (Tks.skip (Tks.skip (Tks.all _)))))
    refine G.nil (GK.then ?_)
    refine GC.condb rfl (fun c6 => ?_) (fun c6 => ?_)
    ·try simp only [sB0, sB1, sB2, sB3, sB4, sB5, sB6, sB7, sB8] at c6
     have hev : evOf (slotL xs i) = none := by rw [heo, if_neg (by omega)]
     refine GC.exit (GK.thene (GK.blocke (GK.then (GC.region ?_))))
     refine G.q Gd.no (Qt.add rfl rfl (by first | exact i64_id (by omega) (by omega) | exact rfl)) rfl ?_
     refine G.q Gd.no (Qt.mv rfl) rfl ?_
     refine G.nil ?_
     refine GK.head (i + 1, Z, ob, rc2, sp2) ?_ ?_ ?_ ?_
     ·simp only; omega
     ·exact ⟨by simp only; omega, by rw [List.range_succ, List.foldl_append, ← hZ]; simp [Lg.load1, c0, hev, hbl], by simp only; exact hinv2, hnil2, by simp only; omega⟩
     ·exact ⟨rfl, rfl, rfl, rfl, rfl, rfl, trivial⟩
     ·exact ⟨_, (Tks.c (Tks.c (Tks.c (.nil _))))⟩
    ·try simp only [sB0, sB1, sB2, sB3, sB4, sB5, sB6, sB7, sB8] at c6
     have hev : evOf (slotL xs i) = some ee.1 := by rw [heo, if_pos (by omega)]
     have hid : 0 ≤ ee.1.id ∧ ee.1.id ≤ 65534 := by have h3 := hva (by omega); simp only [Ev.valid, Bool.and_eq_true, decide_eq_true_eq] at h3; exact ⟨hwf.id.1, by omega⟩
     refine GC.skip (GK.then (GC.seq ?_))
     refine GC.draw mixed _ (Held.k (Held.d (Held.d (Held.k Held.nil)))) ?_
     refine GT 0 1 rfl (by kernel_rfl) rfl rfl Gd.no (Qt.mv rfl) Held.c ?_
     refine GT 1 3 rfl (by kernel_rfl) rfl rfl Gd.no (Qt.mv rfl) Held.c ?_
     refine GT 2 7 rfl (by kernel_rfl) rfl rfl Gd.no (Qt.nilc rfl) Held.c ?_
     refine GT 3 15 rfl (by kernel_rfl) rfl rfl Gd.no (Qt.fa0 fl85_8 rfl) Held.c ?_
     refine GT 5 47 rfl (by kernel_rfl) rfl rfl Gd.no (Qt.fa0 fl96_0 rfl) Held.c ?_
     refine GT 6 111 rfl (by kernel_rfl) rfl rfl Gd.no (by first | exact Qt.ldc a3 rfl (by first | exact Rdc.o rfl | exact Rdc.o (nth_vIs (by omega)) | exact Rdc.o (nth_vI (by omega))) | exact Qt.ldF a3 rfl (hA.at' (nth_vI (by omega))) | exact Qt.ldF a3 rfl (hS.at' (nth_vI (by omega)))) Held.c ?_
     refine GT 7 239 rfl (by kernel_rfl) rfl rfl Gd.no (Qt.ldW a40 rfl Rd.o z40) Held.c ?_
     refine GT 8 495 rfl (by kernel_rfl) rfl rfl Gd.no (Qt.buildS Try.underlying90 pl90 ze90 (.cons rfl rfl (Cl.one rfl) rfl (SetM.cons SetAt.k0 (.nil _ _)) (.cons rfl rfl Cl.agg rfl (setM_rec _ _) (.nil _)))) Held.c ?_
     refine GH.two (i := 4) (j := 9) (by kernel_rfl) rfl rfl  (rfl : _ = 511) (rfl : _ = 1007) Gd.no Gd.no (Qt.ld (by first | exact Qt.ldc a83 rfl (by first | exact Rdc.o rfl | exact Rdc.o (nth_vIs (by omega)) | exact Rdc.o (nth_vI (by omega))) | exact Qt.ldF a83 rfl (hA.at' (nth_vI (by omega))) | exact Qt.ldF a83 rfl (hS.at' (nth_vI (by omega)))) rfl ?_) (Ld.bsl1 rfl Try.underlying83 z90 ze90 (by first | exact Cl.one rfl | exact Cl.agg) (by rfl) (by decide) (by decide) rfl (by first | exact Cl.one rfl | exact Cl.agg) (by rfl) (fun b72 => ?_))
     ·skip
      refine ⟨Held.c, ?_⟩
      refine GO 9 1023 (by kernel_rfl) rfl rfl Gd.no (Ld.bsl1 rfl Try.underlying83 z90 ze90 (by first | exact Cl.one rfl | exact Cl.agg) (by rfl) (by decide) (by decide) rfl (by first | exact Cl.one rfl | exact Cl.agg) (by rfl) (fun b72 => ?_))
      refine ⟨Held.c, ?_⟩
      refine GO 10 2047 (by kernel_rfl) rfl rfl Gd.no (Ld.appS (f := recC) (ys := [(h.q, ee.1)]) Try.underlying83 z90 by90 ze90 (by first | exact Cl.one rfl | exact Cl.agg) rfl rfl recC_len recC_one rfl rfl (Vw.all Rd.o) hinv2 (fun e => by obtain ⟨h1, h2⟩ := hnil2 e; exact ⟨h1, h2, by simp⟩) (by simp only [List.length_cons, List.length_nil]; omega) (by decide) (by simp only [List.length_cons, List.length_nil]; omega) (fun b' c' sp' hcap => ?_))
      refine ⟨Held.c, ?_⟩
      refine GT 11 4095 rfl (by kernel_rfl) rfl rfl Gd.no (Qt.nilc rfl) Held.c ?_
      refine GT 12 8191 rfl (by kernel_rfl) rfl rfl Gd.no (Qt.fa0 fl85_8 rfl) Held.c ?_
      refine GO 13 16383 (by kernel_rfl) rfl rfl Gd.no (Ld.stc z83 rfl rfl rfl (Stc.o SetAt.k8) ?_)
      refine ⟨Held.c, ?_⟩
      refine GH.done (by kernel_rfl) ?_
      refine GK.then (GC.seq (GC.region ?_))
      refine G.q Gd.no (Qt.mv rfl) rfl ?_
      refine G.nil (GK.then ?_)
      refine GC.condt rfl ?_
      refine GC.region ?_
      refine G.q Gd.no (Qt.mv rfl) rfl ?_
      refine G.q Gd.no (Qt.fa0 fl40_0 rfl) rfl ?_
      refine G.q Gd.no (by first | exact Qt.ldc a36 rfl (by first | exact Rdc.o rfl | exact Rdc.o (nth_vIs (by omega)) | exact Rdc.o (nth_vI (by omega))) | exact Qt.ldF a36 rfl (hA.at' (nth_vI (by omega))) | exact Qt.ldF a36 rfl (hS.at' (nth_vI (by omega)))) rfl ?_
      refine G.ld Gd.no (Ld.call cal47 rfl rfl (.nil _) (fun F' hF => behind_ct F' _ (by omega) (by omega)) (fun _ _ => ?_))
      dsimp only [lCa, lNa]
      refine G.q Gd.no (Qt.nilc rfl) rfl ?_
      refine G.q Gd.no (Qt.fa0 fl85_7 rfl) rfl ?_
      refine G.ld Gd.no (Ld.stc z36 rfl rfl rfl (Stc.o SetAt.k7) ?_)
      refine G.nil (GK.blockn (GK.then (GC.region ?_)))
      refine G.q Gd.no (Qt.add rfl rfl (by first | exact i64_id (by omega) (by omega) | exact rfl)) rfl ?_
      refine G.q Gd.no (Qt.mv rfl) rfl ?_
      refine G.nil ?_
      refine GK.head (i + 1, { Z with recs := Z.recs ++ [(h.q, ee.1)], next := behind ee.1.id }, some b', c', sp') ?_ ?_ ?_ ?_
      ·simp only; omega
      ·exact ⟨by simp only; omega, by rw [List.range_succ, List.foldl_append, ← hZ]; simp [Lg.load1, c0, hev, hbl], by simp only; exact hcap, (fun e => by cases e), by simp only [List.length_append, List.length_cons, List.length_nil]; omega⟩
      ·exact ⟨rfl, rfl, rfl, rfl, rfl, rfl, trivial⟩
      ·exact ⟨_, (Tks.c (Tks.c (Tks.c (.nil _))))⟩
     ·skip
      refine ⟨Held.c, ?_⟩
      refine GO 4 1023 (by kernel_rfl) rfl rfl Gd.no (Qt.ld (by first | exact Qt.ldc a83 rfl (by first | exact Rdc.o rfl | exact Rdc.o (nth_vIs (by omega)) | exact Rdc.o (nth_vI (by omega))) | exact Qt.ldF a83 rfl (hA.at' (nth_vI (by omega))) | exact Qt.ldF a83 rfl (hS.at' (nth_vI (by omega)))) rfl ?_)
      refine ⟨Held.c, ?_⟩
      refine GO 10 2047 (by kernel_rfl) rfl rfl Gd.no (Ld.appS (f := recC) (ys := [(h.q, ee.1)]) Try.underlying83 z90 by90 ze90 (by first | exact Cl.one rfl | exact Cl.agg) rfl rfl recC_len recC_one rfl rfl (Vw.all Rd.o) hinv2 (fun e => by obtain ⟨h1, h2⟩ := hnil2 e; exact ⟨h1, h2, by simp⟩) (by simp only [List.length_cons, List.length_nil]; omega) (by decide) (by simp only [List.length_cons, List.length_nil]; omega) (fun b' c' sp' hcap => ?_))
      refine ⟨Held.c, ?_⟩
      refine GT 11 4095 rfl (by kernel_rfl) rfl rfl Gd.no (Qt.nilc rfl) Held.c ?_
      refine GT 12 8191 rfl (by kernel_rfl) rfl rfl Gd.no (Qt.fa0 fl85_8 rfl) Held.c ?_
      refine GO 13 16383 (by kernel_rfl) rfl rfl Gd.no (Ld.stc z83 rfl rfl rfl (Stc.o SetAt.k8) ?_)
      refine ⟨Held.c, ?_⟩
      refine GH.done (by kernel_rfl) ?_
      refine GK.then (GC.seq (GC.region ?_))
      refine G.q Gd.no (Qt.mv rfl) rfl ?_
      refine G.nil (GK.then ?_)
      refine GC.condt rfl ?_
      refine GC.region ?_
      refine G.q Gd.no (Qt.mv rfl) rfl ?_
      refine G.q Gd.no (Qt.fa0 fl40_0 rfl) rfl ?_
      refine G.q Gd.no (by first | exact Qt.ldc a36 rfl (by first | exact Rdc.o rfl | exact Rdc.o (nth_vIs (by omega)) | exact Rdc.o (nth_vI (by omega))) | exact Qt.ldF a36 rfl (hA.at' (nth_vI (by omega))) | exact Qt.ldF a36 rfl (hS.at' (nth_vI (by omega)))) rfl ?_
      refine G.ld Gd.no (Ld.call cal47 rfl rfl (.nil _) (fun F' hF => behind_ct F' _ (by omega) (by omega)) (fun _ _ => ?_))
      dsimp only [lCa, lNa]
      refine G.q Gd.no (Qt.nilc rfl) rfl ?_
      refine G.q Gd.no (Qt.fa0 fl85_7 rfl) rfl ?_
      refine G.ld Gd.no (Ld.stc z36 rfl rfl rfl (Stc.o SetAt.k7) ?_)
      refine G.nil (GK.blockn (GK.then (GC.region ?_)))
      refine G.q Gd.no (Qt.add rfl rfl (by first | exact i64_id (by omega) (by omega) | exact rfl)) rfl ?_
      refine G.q Gd.no (Qt.mv rfl) rfl ?_
      refine G.nil ?_
      refine GK.head (i + 1, { Z with recs := Z.recs ++ [(h.q, ee.1)], next := behind ee.1.id }, some b', c', sp') ?_ ?_ ?_ ?_
      ·simp only; omega
      ·exact ⟨by simp only; omega, by rw [List.range_succ, List.foldl_append, ← hZ]; simp [Lg.load1, c0, hev, hbl], by simp only; exact hcap, (fun e => by cases e), by simp only [List.length_append, List.length_cons, List.length_nil]; omega⟩
      ·exact ⟨rfl, rfl, rfl, rfl, rfl, rfl, trivial⟩
      ·exact ⟨_, (Tks.c (Tks.c (Tks.c (.nil _))))⟩
  ·try simp only [sB0, sB1, sB2, sB3, sB4, sB5, sB6, sB7, sB8] at c1
   refine GC.exit (GK.thene (GK.thene (GK.blocke ?_)))
   obtain rfl : i = slotsN xs.length := by omega
   have hZ2 : Z = Y.load xs h := by rw [hZ]; simp [Lg.load, c0]
   subst hZ2
   refine GK.retn rfl (ob, rc2, sp2) ?_ ?_ (Tks.c (Tks.c (.nil _)))
   ·exact ⟨hinv2, hnil2, hlen2⟩
   ·rfl
 ·try simp only [sB0, sB1, sB2, sB3, sB4, sB5, sB6, sB7, sB8] at c0
  rw [decide_eq_false c0]
  refine GC.skip (GK.then (GC.seq (GC.region ?_)))
  refine G.q Gd.no (Qt.mv rfl) rfl ?_
  refine G.q Gd.no (Qt.lenS (rt := 0) Try.underlying53 rfl) rfl ?_
  refine G.ld Gd.no (Ld.call cal38 rfl rfl (.nil _) (fun F' hF => slots_ct F' _ (by omega) (by omega)) (fun _ _ => ?_))
  dsimp only [lCa, lNa]
  refine G.q Gd.no (Qt.mv rfl) rfl ?_
  refine G.nil (GK.then (GC.block ?_))
  refine GC.loop (S := Nat × Lg × Option Nat × Nat × List Value) (fun x => x.1 ≤ slotsN xs.length ∧ x.2.1 = (List.range x.1).foldl (Lg.load1 (decide (h.q = Y.newest)) h.q xs) Y ∧ x.2.1.recs.length * 11 + x.2.2.2.2.length = x.2.2.2.1 * 11 ∧ (x.2.2.1 = none → x.2.1.recs = [] ∧ x.2.2.2.2 = []) ∧ x.2.1.recs.length ≤ Y.recs.length + x.1) (fun x => slotsN xs.length - x.1)
   (fun x => [(0, .pointer (some ⟨b, 0, none⟩)), (1, .slice (some A) xs.length c), (5, .pointer (some ⟨b5, 0, none⟩)), (6, .bool false), (26, .int .i64 (((xs.length : Int) - 11) / 17)), (27, .int .i64 (x.1 : Int))]) (fun x => [(some b, .cells (lgC x.2.1 d x.2.2.1 x.2.2.2.1) 85), (x.2.2.1, .cells (x.2.1.recs.flatMap recC ++ x.2.2.2.2) 90), (some b5, .cells (hdC h) 96)]) (0, Y, rb, rc, sp) ?_ ?_ ?_ ?_
  ·exact ⟨by simp, rfl, hinv, hnil, by simp⟩
  ·exact ⟨rfl, rfl, rfl, rfl, rfl, rfl, trivial⟩
  ·exact ⟨_, (Tks.c (Tks.c (Tks.c (.nil _))))⟩
  intro ⟨i, Z, ob, rc2, sp2⟩ ⟨h1, hZ, hinv2, hnil2, hlen2⟩
  simp only at h1 hZ hinv2 hnil2 hlen2
  refine GC.seq (GC.region ?_)
  refine G.q Gd.no (Qt.lss rfl rfl) rfl ?_
  refine G.nil (GK.then (GC.seq ?_))
  refine GC.condb rfl (fun c9 => ?_) (fun c9 => ?_)
  ·try simp only [sB0, sB1, sB2, sB3, sB4, sB5, sB6, sB7, sB8] at c9
   have hin : i < slotsN xs.length := by omega
   have hS : VwF F (some (A.add (11 + i * 17))) (vI .u8 (slotL xs i)) := takeI (dropI hA)
   have hSl : (slotL xs i).length = 17 := slotL_len (by unfold slotsN at hin; omega)
   have hSb := slotL_bytes hb2 i
   have hi17 : 11 + i * 17 + 17 ≤ xs.length := by unfold slotsN at hin; omega
   refine GC.skip (GK.then (GC.seq (GC.block (GC.seq (GC.region ?_)))))
   refine G.q Gd.no (Qt.mv rfl) rfl ?_
   refine G.q Gd.no (Qt.asg rfl) rfl ?_
   refine G.nil (GK.then (GC.seq (GC.region ?_)))
   refine G.q Gd.no (Qt.mv rfl) rfl ?_
   refine G.q Gd.no (Qt.mv rfl) rfl ?_
   refine G.ld Gd.no (Ld.call cal75 rfl rfl (.nil _) (fun F' hF => slot_ct F' A xs.length c (i : Int) (by omega) (by omega) hc hx) (fun _ _ => ?_))
   dsimp only [lCa, lNa]
   rw [show (11 + (i : Int) * 17).toNat = 11 + i * 17 by omega]
   refine G.q Gd.no (Qt.asg rfl) rfl ?_
   refine G.nil (GK.then (GC.seq (GC.seq (GC.region ?_))))
   refine G.q Gd.no (Qt.mv rfl) rfl ?_
   refine G.q Gd.no (Qt.mv rfl) rfl ?_
   apply G.andb (seg := [_, _, _])
   exact rfl
   exact rfl
   exact rfl
   exact Gd.no
   exact rfl
   exact rfl
   ·intro g2; try simp only [sB0, sB1, sB2, sB3, sB4, sB5, sB6, sB7, sB8] at g2
    refine G.q (Gd.yes rfl rfl) (Qt.mv rfl) rfl ?_
    refine G.ld (Gd.yes rfl rfl) (Ld.call cal76 rfl rfl (.nil _) (fun F' hF => blank_ct F' (some (A.add (11 + i * 17))) 17 _ (slotL xs i) (hS.mono hF) hSl (by omega)) (fun _ _ => ?_))
    dsimp only [lCa, lNa]
    refine G.q (Gd.yes rfl rfl) (Qt.not rfl) rfl ?_
    refine G.nil (GK.seg (n := [_, _, _]) rfl rfl rfl (by first | exact Tks.all _ | exact Tks.skip (Tks.all _) | exact Tks.skip (Tks.skip (Tks.all _)) | exact Tks.skip (Tks.skip (Tks.skip (Tks.all _)))))
   refine G.nil (GK.then ?_)
   refine GC.condb rfl (fun c10 => ?_) (fun c10 => ?_)
   ·try simp only [sB0, sB1, sB2, sB3, sB4, sB5, sB6, sB7, sB8] at c10
    exact absurd c10 (by simp)
   ·try simp only [sB0, sB1, sB2, sB3, sB4, sB5, sB6, sB7, sB8] at c10
    refine GC.skip (GK.then (GC.seq (GC.region ?_)))
    refine G.q Gd.no (Qt.mv rfl) rfl ?_
    refine G.q Gd.no (Qt.slH Try.underlying53 z5 rfl rfl (by omega) (by omega) (show (16 : Int).toNat = 16 from rfl)) rfl ?_
    refine G.ld Gd.no (Ld.call cal77 rfl rfl (.nil _) (fun F' hF => dec_ct F' (A.add (11 + i * 17)) _ ((slotL xs i).take 16) ((takeI hS).mono hF) (by rw [List.length_take, hSl]; rfl) (by omega) (hSb.take 16)) (fun _ _ => ?_))
    dsimp only [lCa, lNa]
    obtain ⟨ee, hee⟩ : ∃ ee, evDec ((slotL xs i).take 16) = ee := ⟨_, rfl⟩
    rw [hee]
    have heo : evOf (slotL xs i) = if ix (slotL xs i) 16 = 0 ∧ ee.2 = 0 ∧ ee.1.id ≠ 0 then some ee.1 else none := by unfold evOf; rw [hee]
    have hwf : ee.1.Wf := by rw [← hee]; exact evDec_wf (hSb.take 16)
    have hva : ee.2 = 0 → ee.1.valid = true := by rw [← hee]; exact evDec_valid
    refine G.q Gd.no (Qt.mv rfl) rfl ?_
    refine G.q Gd.no (Qt.ext rfl rfl) rfl ?_
    refine G.q Gd.no (Qt.ext rfl rfl) rfl ?_
    refine G.ld Gd.no (Ld.alloc rfl ze40 (by first | exact Cl.one rfl | exact Cl.agg) (fun b9 => ?_))
    refine G.ld Gd.no (Ld.stW (by exact z40) rfl rfl (evC_one _) (E := 40) (by rfl) UpdC.u ?_)
    refine G.q Gd.no (Qt.asg rfl) rfl ?_
    refine G.nil (GK.then (GC.seq (GC.seq (GC.region ?_))))
    refine G.q Gd.no (Qt.mv rfl) rfl ?_
    refine G.q Gd.no (Qt.ia1 Try.underlying53 z5 rfl rfl (by omega) (by omega) (show (16 : Int).toNat = 16 from rfl)) rfl ?_
    refine G.q Gd.no (Qt.ldF a5 rfl (hS.at' (nth_vI (by omega)))) rfl ?_
    refine G.q Gd.no (Qt.neI rfl rfl) rfl ?_
    refine G.q Gd.no (Qt.mv rfl) rfl ?_
    apply G.orb (seg := [_, _])
    exact rfl
    exact rfl
    exact rfl
    exact Gd.no
    exact rfl
    exact rfl
    ·intro g5; try simp only [sB0, sB1, sB2, sB3, sB4, sB5, sB6, sB7, sB8] at g5
     refine G.q (Gd.yes rfl rfl) (Qt.mv rfl) rfl ?_
     refine G.q (Gd.yes rfl rfl) (Qt.neI rfl rfl) rfl ?_
     refine G.nil (GK.seg (n := [_, _]) rfl rfl rfl (by first | exact Tks.all _ | exact Tks.skip (Tks.all _) | exact Tks.skip (Tks.skip (Tks.all _)) | exact Tks.skip (Tks.skip (Tks.skip (Tks.all _)))))
    refine G.q Gd.no (Qt.mv rfl) rfl ?_
    apply G.orb (seg := [_, _, _])
    exact rfl
    exact rfl
    exact rfl
    exact Gd.no
    exact rfl
    exact rfl
    ·intro g9; try simp only [sB0, sB1, sB2, sB3, sB4, sB5, sB6, sB7, sB8] at g9
     refine G.q (Gd.yes rfl rfl) (Qt.fa0 fl40_0 rfl) rfl ?_
     refine G.q (Gd.yes rfl rfl) (by first | exact Qt.ldc a36 rfl (by first | exact Rdc.o rfl | exact Rdc.o (nth_vIs (by omega)) | exact Rdc.o (nth_vI (by omega))) | exact Qt.ldF a36 rfl (hA.at' (nth_vI (by omega))) | exact Qt.ldF a36 rfl (hS.at' (nth_vI (by omega)))) rfl ?_
     refine G.q (Gd.yes rfl rfl) (Qt.eqI rfl rfl) rfl ?_
     refine G.nil (GK.seg (n := [_, _, _]) rfl rfl rfl (by first | exact Tks.all _ | exact Tks.skip (Tks.all _) | exact Tks.skip (Tks.skip (Tks.all _)) | exact Tks.skip (Tks.skip (Tks.skip (Tks.all _)))))
    refine G.nil (GK.then ?_)
    refine GC.condb rfl (fun c11 => ?_) (fun c11 => ?_)
    ·try simp only [sB0, sB1, sB2, sB3, sB4, sB5, sB6, sB7, sB8] at c11
     have hev : evOf (slotL xs i) = none := by rw [heo, if_neg (by omega)]
     refine GC.exit (GK.thene (GK.blocke (GK.then (GC.region ?_))))
     refine G.q Gd.no (Qt.add rfl rfl (by first | exact i64_id (by omega) (by omega) | exact rfl)) rfl ?_
     refine G.q Gd.no (Qt.mv rfl) rfl ?_
     refine G.nil ?_
     refine GK.head (i + 1, Z, ob, rc2, sp2) ?_ ?_ ?_ ?_
     ·simp only; omega
     ·exact ⟨by simp only; omega, by rw [List.range_succ, List.foldl_append, ← hZ]; simp [Lg.load1, c0, hev], by simp only; exact hinv2, hnil2, by simp only; omega⟩
     ·exact ⟨rfl, rfl, rfl, rfl, rfl, rfl, trivial⟩
     ·exact ⟨_, (Tks.c (Tks.c (Tks.c (.nil _))))⟩
    ·try simp only [sB0, sB1, sB2, sB3, sB4, sB5, sB6, sB7, sB8] at c11
     have hev : evOf (slotL xs i) = some ee.1 := by rw [heo, if_pos (by omega)]
     have hid : 0 ≤ ee.1.id ∧ ee.1.id ≤ 65534 := by have h3 := hva (by omega); simp only [Ev.valid, Bool.and_eq_true, decide_eq_true_eq] at h3; exact ⟨hwf.id.1, by omega⟩
     refine GC.skip (GK.then (GC.seq ?_))
     refine GC.draw mixed _ (Held.k (Held.d (Held.d (Held.k Held.nil)))) ?_
     refine GT 0 1 rfl (by kernel_rfl) rfl rfl Gd.no (Qt.mv rfl) Held.c ?_
     refine GT 1 3 rfl (by kernel_rfl) rfl rfl Gd.no (Qt.mv rfl) Held.c ?_
     refine GT 2 7 rfl (by kernel_rfl) rfl rfl Gd.no (Qt.nilc rfl) Held.c ?_
     refine GT 3 15 rfl (by kernel_rfl) rfl rfl Gd.no (Qt.fa0 fl85_8 rfl) Held.c ?_
     refine GT 5 47 rfl (by kernel_rfl) rfl rfl Gd.no (Qt.fa0 fl96_0 rfl) Held.c ?_
     refine GT 6 111 rfl (by kernel_rfl) rfl rfl Gd.no (by first | exact Qt.ldc a3 rfl (by first | exact Rdc.o rfl | exact Rdc.o (nth_vIs (by omega)) | exact Rdc.o (nth_vI (by omega))) | exact Qt.ldF a3 rfl (hA.at' (nth_vI (by omega))) | exact Qt.ldF a3 rfl (hS.at' (nth_vI (by omega)))) Held.c ?_
     refine GT 7 239 rfl (by kernel_rfl) rfl rfl Gd.no (Qt.ldW a40 rfl Rd.o z40) Held.c ?_
     refine GT 8 495 rfl (by kernel_rfl) rfl rfl Gd.no (Qt.buildS Try.underlying90 pl90 ze90 (.cons rfl rfl (Cl.one rfl) rfl (SetM.cons SetAt.k0 (.nil _ _)) (.cons rfl rfl Cl.agg rfl (setM_rec _ _) (.nil _)))) Held.c ?_
     refine GH.two (i := 4) (j := 9) (by kernel_rfl) rfl rfl  (rfl : _ = 511) (rfl : _ = 1007) Gd.no Gd.no (Qt.ld (by first | exact Qt.ldc a83 rfl (by first | exact Rdc.o rfl | exact Rdc.o (nth_vIs (by omega)) | exact Rdc.o (nth_vI (by omega))) | exact Qt.ldF a83 rfl (hA.at' (nth_vI (by omega))) | exact Qt.ldF a83 rfl (hS.at' (nth_vI (by omega)))) rfl ?_) (Ld.bsl1 rfl Try.underlying83 z90 ze90 (by first | exact Cl.one rfl | exact Cl.agg) (by rfl) (by decide) (by decide) rfl (by first | exact Cl.one rfl | exact Cl.agg) (by rfl) (fun b72 => ?_))
     ·skip
      refine ⟨Held.c, ?_⟩
      refine GO 9 1023 (by kernel_rfl) rfl rfl Gd.no (Ld.bsl1 rfl Try.underlying83 z90 ze90 (by first | exact Cl.one rfl | exact Cl.agg) (by rfl) (by decide) (by decide) rfl (by first | exact Cl.one rfl | exact Cl.agg) (by rfl) (fun b72 => ?_))
      refine ⟨Held.c, ?_⟩
      refine GO 10 2047 (by kernel_rfl) rfl rfl Gd.no (Ld.appS (f := recC) (ys := [(h.q, ee.1)]) Try.underlying83 z90 by90 ze90 (by first | exact Cl.one rfl | exact Cl.agg) rfl rfl recC_len recC_one rfl rfl (Vw.all Rd.o) hinv2 (fun e => by obtain ⟨h1, h2⟩ := hnil2 e; exact ⟨h1, h2, by simp⟩) (by simp only [List.length_cons, List.length_nil]; omega) (by decide) (by simp only [List.length_cons, List.length_nil]; omega) (fun b' c' sp' hcap => ?_))
      refine ⟨Held.c, ?_⟩
      refine GT 11 4095 rfl (by kernel_rfl) rfl rfl Gd.no (Qt.nilc rfl) Held.c ?_
      refine GT 12 8191 rfl (by kernel_rfl) rfl rfl Gd.no (Qt.fa0 fl85_8 rfl) Held.c ?_
      refine GO 13 16383 (by kernel_rfl) rfl rfl Gd.no (Ld.stc z83 rfl rfl rfl (Stc.o SetAt.k8) ?_)
      refine ⟨Held.c, ?_⟩
      refine GH.done (by kernel_rfl) ?_
      refine GK.then (GC.seq (GC.region ?_))
      refine G.q Gd.no (Qt.mv rfl) rfl ?_
      refine G.nil (GK.then ?_)
      refine GC.condf rfl ?_
      refine GC.skip (GK.blockn (GK.then (GC.region ?_)))
      refine G.q Gd.no (Qt.add rfl rfl (by first | exact i64_id (by omega) (by omega) | exact rfl)) rfl ?_
      refine G.q Gd.no (Qt.mv rfl) rfl ?_
      refine G.nil ?_
      refine GK.head (i + 1, { Z with recs := Z.recs ++ [(h.q, ee.1)] }, some b', c', sp') ?_ ?_ ?_ ?_
      ·simp only; omega
      ·exact ⟨by simp only; omega, by rw [List.range_succ, List.foldl_append, ← hZ]; simp [Lg.load1, c0, hev], by simp only; exact hcap, (fun e => by cases e), by simp only [List.length_append, List.length_cons, List.length_nil]; omega⟩
      ·exact ⟨rfl, rfl, rfl, rfl, rfl, rfl, trivial⟩
      ·exact ⟨_, (Tks.c (Tks.c (Tks.c (.nil _))))⟩
     ·skip
      refine ⟨Held.c, ?_⟩
      refine GO 4 1023 (by kernel_rfl) rfl rfl Gd.no (Qt.ld (by first | exact Qt.ldc a83 rfl (by first | exact Rdc.o rfl | exact Rdc.o (nth_vIs (by omega)) | exact Rdc.o (nth_vI (by omega))) | exact Qt.ldF a83 rfl (hA.at' (nth_vI (by omega))) | exact Qt.ldF a83 rfl (hS.at' (nth_vI (by omega)))) rfl ?_)
      refine ⟨Held.c, ?_⟩
      refine GO 10 2047 (by kernel_rfl) rfl rfl Gd.no (Ld.appS (f := recC) (ys := [(h.q, ee.1)]) Try.underlying83 z90 by90 ze90 (by first | exact Cl.one rfl | exact Cl.agg) rfl rfl recC_len recC_one rfl rfl (Vw.all Rd.o) hinv2 (fun e => by obtain ⟨h1, h2⟩ := hnil2 e; exact ⟨h1, h2, by simp⟩) (by simp only [List.length_cons, List.length_nil]; omega) (by decide) (by simp only [List.length_cons, List.length_nil]; omega) (fun b' c' sp' hcap => ?_))
      refine ⟨Held.c, ?_⟩
      refine GT 11 4095 rfl (by kernel_rfl) rfl rfl Gd.no (Qt.nilc rfl) Held.c ?_
      refine GT 12 8191 rfl (by kernel_rfl) rfl rfl Gd.no (Qt.fa0 fl85_8 rfl) Held.c ?_
      refine GO 13 16383 (by kernel_rfl) rfl rfl Gd.no (Ld.stc z83 rfl rfl rfl (Stc.o SetAt.k8) ?_)
      refine ⟨Held.c, ?_⟩
      refine GH.done (by kernel_rfl) ?_
      refine GK.then (GC.seq (GC.region ?_))
      refine G.q Gd.no (Qt.mv rfl) rfl ?_
      refine G.nil (GK.then ?_)
      refine GC.condf rfl ?_
      refine GC.skip (GK.blockn (GK.then (GC.region ?_)))
      refine G.q Gd.no (Qt.add rfl rfl (by first | exact i64_id (by omega) (by omega) | exact rfl)) rfl ?_
      refine G.q Gd.no (Qt.mv rfl) rfl ?_
      refine G.nil ?_
      refine GK.head (i + 1, { Z with recs := Z.recs ++ [(h.q, ee.1)] }, some b', c', sp') ?_ ?_ ?_ ?_
      ·simp only; omega
      ·exact ⟨by simp only; omega, by rw [List.range_succ, List.foldl_append, ← hZ]; simp [Lg.load1, c0, hev], by simp only; exact hcap, (fun e => by cases e), by simp only [List.length_append, List.length_cons, List.length_nil]; omega⟩
      ·exact ⟨rfl, rfl, rfl, rfl, rfl, rfl, trivial⟩
      ·exact ⟨_, (Tks.c (Tks.c (Tks.c (.nil _))))⟩
  ·try simp only [sB0, sB1, sB2, sB3, sB4, sB5, sB6, sB7, sB8] at c9
   refine GC.exit (GK.thene (GK.thene (GK.blocke ?_)))
   obtain rfl : i = slotsN xs.length := by omega
   have hZ2 : Z = Y.load xs h := by rw [hZ]; simp [Lg.load, c0]
   subst hZ2
   refine GK.retn rfl (ob, rc2, sp2) ?_ ?_ (Tks.c (Tks.c (.nil _)))
   ·exact ⟨hinv2, hnil2, hlen2⟩
   ·rfl
end Go.Proofs.Ytbeiciinppmekaa
