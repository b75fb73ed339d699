/-
  Number, Little and Same of baseboardref01, Encode, Decode and SameList of baseboardref07 do what the models say; each contract's conditions are its premises.
-/
import Derived.Test.YtbeiciinppmekaaTb
import Derived.Test.YtbeiciinppmekaaEvent
import Derived.Test.YtbeiciinppmekaaProg
namespace Go.Proofs.Ytbeiciinppmekaa
open Go Go.Sx Go.Proofs
set_option maxRecDepth 100000
set_option linter.unusedSimpArgs false
set_option linter.unusedVariables false
def numL : List Int → Int
  | [] => 0
  | x :: xs => 256 * numL xs + x
theorem numL_drop {xs : List Int} {i : Nat} (h : i < xs.length) : numL (xs.drop i) = 256 * numL (xs.drop (i + 1)) + ix xs i := by
  rw [List.drop_eq_getElem_cons h, numL]
  simp [ix, h]
theorem numL_bound {xs : List Int} (hb : Bytes xs) : 0 ≤ numL xs ∧ numL xs < 256 ^ xs.length := by
  induction xs with
  | nil => simp [numL]
  | cons x xs ih =>
    have h1 := hb x (by simp)
    have h2 := ih (fun y hy => hb y (List.mem_cons_of_mem _ hy))
    simp only [numL, List.length_cons]
    rw [show (256 : Int) ^ (xs.length + 1) = 256 ^ xs.length * 256 from Int.pow_succ _ _]
    omega
theorem pow_le {n m : Nat} (h : n ≤ m) : (256 : Int) ^ n ≤ 256 ^ m := by exact_mod_cast Nat.pow_le_pow_right (by omega) h
def litL (n : Nat) (v : Int) : List Int := (List.range n).map fun j => v / 256 ^ j % 256
theorem litL_length (n : Nat) (v : Int) : (litL n v).length = n := by simp [litL]
theorem litL_succ (n : Nat) (v : Int) : litL (n + 1) v = litL n v ++ [v / 256 ^ n % 256] := by simp [litL, List.range_succ]
theorem div_pow (v : Int) (i : Nat) : v / 256 ^ i / 256 = v / 256 ^ (i + 1) := by rw [Int.pow_succ, Int.ediv_ediv_of_nonneg (Int.pow_nonneg (by decide))]
theorem Bytes.drop {xs : List Int} (h : Bytes xs) (n : Nat) : Bytes (xs.drop n) := fun x hx => h x (List.mem_of_mem_drop hx)
theorem same_no {α : Type} [DecidableEq α] {xs ys : List α} {k : Nat} (h : xs[k]? ≠ ys[k]?) : decide (xs = ys) = false := by
  rw [decide_eq_false_iff_not]
  rintro rfl
  exact h rfl
theorem same_yes {α : Type} [DecidableEq α] {xs ys : List α} (hl : xs.length = ys.length) (h : ∀ k, k < xs.length → xs[k]? = ys[k]?) : decide (xs = ys) = true := by
  rw [decide_eq_true_eq]
  apply List.ext_getElem? 
  intro k
  by_cases hk : k < xs.length
  · exact h k hk
  · rw [List.getElem?_eq_none (by omega), List.getElem?_eq_none (by omega)]
theorem ix_eq {xs : List Int} {k : Nat} (h : k < xs.length) : xs[k]? = some (ix xs k) := by simp [ix, h]
theorem num_ct (F : Fr) (A : Option Addr) (c : Nat) (xs : List Int) (hA : VwF F A (vI .u8 xs)) (hl : xs.length ≤ 4) (hb : Bytes xs) :
    Ct Try.prog F 80 [.slice A xs.length c] [] (S := Unit) (fun _ => True) (fun _ => .int .u64 (numL xs)) (fun _ => []) := by
 refine Ct.of 21 [(0, _)] Try.func80 rfl rfl rfl rfl ?_
 refine GC.seq (GC.region ?_)
 refine G.q Gd.no (Qt.asg rfl) rfl ?_
 refine G.nil (GK.then (GC.seq (GC.region ?_)))
 refine G.q Gd.no (Qt.asg rfl) rfl ?_
 refine G.nil (GK.then (GC.seq (GC.seq (GC.region ?_))))
 refine G.q Gd.no (Qt.mv rfl) rfl ?_
 refine G.q Gd.no (Qt.lenS (rt := 0) Try.underlying53 rfl) rfl ?_
 refine G.q Gd.no (Qt.sub rfl rfl (by first | exact i64_id (by omega) (by omega) | exact rfl)) rfl ?_
 refine G.q Gd.no (Qt.asg rfl) rfl ?_
 refine G.nil (GK.then (GC.block ?_))
 refine GC.loop (S := Int) (fun x => -1 ≤ x ∧ x < xs.length) (fun x => (x + 1).toNat)
  (fun x => [(0, .slice A xs.length c), (3, .int .u64 (numL (xs.drop (x + 1).toNat))), (4, .int .i64 x)]) (fun x => []) ((xs.length : Int) - 1) ?_ ?_ ?_ ?_
 ·exact ⟨by omega, by omega⟩
 ·exact ⟨rfl, by rw [List.drop_of_length_le (by omega)]; rfl, rfl, trivial⟩
 ·exact ⟨_, (.nil _)⟩
 intro x ⟨h0, h1⟩
 refine GC.seq (GC.seq (GC.region ?_))
 refine G.q Gd.no (Qt.mv rfl) rfl ?_
 refine G.q Gd.no (Qt.geq rfl rfl) rfl ?_
 refine G.nil (GK.then ?_)
 refine GC.condb rfl (fun c0 => ?_) (fun c0 => ?_)
 ·try simp only [sB0, sB1, sB2, sB3, sB4, sB5, sB6, sB7, sB8] at c0
  have hlt : x.toNat < xs.length := by omega
  obtain ⟨ad, hAd⟩ := hA.some' (by rw [vI_length]; omega)
  subst hAd
  obtain ⟨nb0, nb1⟩ := numL_bound (hb.drop (x + 1).toNat)
  have nb2 : (256 : Int) ^ (xs.drop (x + 1).toNat).length ≤ 256 ^ 3 := pow_le (by rw [List.length_drop]; omega)
  have nb3 : numL (xs.drop (x + 1).toNat) < 16777216 := Int.lt_of_lt_of_le nb1 nb2
  obtain ⟨y0, y1⟩ := hb.ix x.toNat
  refine GC.skip (GK.then (GC.seq (GC.block (GC.region ?_))))
  refine G.q Gd.no (Qt.mv rfl) rfl ?_
  refine G.q Gd.no (Qt.mul rfl rfl (by first | exact u64_id (by omega) (by omega) | exact rfl)) rfl ?_
  refine G.q Gd.no (Qt.mv rfl) rfl ?_
  refine G.q Gd.no (Qt.mv rfl) rfl ?_
  refine G.q Gd.no (Qt.ia1 Try.underlying53 z5 rfl rfl (by omega) (by omega) rfl) rfl ?_
  refine G.q Gd.no (Qt.ldF a5 rfl (hA.at' (nth_vI hlt))) rfl ?_
  refine G.q Gd.no (Qt.conv Try.underlying5 Try.underlying122 rfl (by first | exact u64_id (by omega) (by omega) | exact rfl)) rfl ?_
  refine G.q Gd.no (Qt.add rfl rfl (by first | exact u64_id (by omega) (by omega) | exact rfl)) rfl ?_
  refine G.q Gd.no (Qt.asg rfl) rfl ?_
  refine G.nil (GK.blockn (GK.then (GC.region ?_)))
  refine G.q Gd.no (Qt.mv rfl) rfl ?_
  refine G.q Gd.no (Qt.sub rfl rfl (by first | exact i64_id (by omega) (by omega) | exact rfl)) rfl ?_
  refine G.q Gd.no (Qt.asg rfl) rfl ?_
  refine G.nil ?_
  refine GK.head (x - 1) ?_ ?_ ?_ ?_
  ·omega
  ·exact ⟨by omega, by omega⟩
  ·exact ⟨rfl, by rw [show (x - 1 + 1).toNat = x.toNat by omega, numL_drop hlt, show x.toNat + 1 = (x + 1).toNat by omega]; rfl, rfl, trivial⟩
  ·exact ⟨_, (.nil _)⟩
 ·try simp only [sB0, sB1, sB2, sB3, sB4, sB5, sB6, sB7, sB8] at c0
  refine GC.exit (GK.thene (GK.thene (GK.blocke (GK.then (GC.seq (GC.region ?_))))))
  refine G.q Gd.no (Qt.mv rfl) rfl ?_
  refine G.q Gd.no (Qt.asg rfl) rfl ?_
  refine G.nil (GK.then (GC.ret ?_))
  refine GK.ret (rs := [.tmp 2]) rfl (.tmp rfl .nil) () ?_ ?_ (.nil _)
  ·trivial
  ·(rw [show (x + 1).toNat = 0 by omega]; rfl)
theorem little_ct (F : Fr) (v : Int) (n : Nat) (hv : 0 ≤ v) (hv2 : v < 18446744073709551616) (hn : 0 < n) (hn2 : n ≤ 8) :
    Ct Try.prog F 86 [.int .u64 v, .int .i64 n] [] (S := Nat × List Value) (fun _ => True) (fun x => .slice (some ⟨x.1, 0, none⟩) n (n + x.2.length)) (fun x => [(some x.1, .cells (vI .u8 (litL n v) ++ x.2) 5)]) := by
 refine Ct.of 21 [(0, _), (1, _)] Try.func86 rfl rfl rfl rfl ?_
 refine GC.seq (GC.region ?_)
 refine G.q Gd.no (Qt.asg rfl) rfl ?_
 refine G.nil (GK.then (GC.seq (GC.region ?_)))
 refine G.q Gd.no (Qt.asg rfl) rfl ?_
 refine G.nil (GK.then (GC.seq (GC.seq (GC.region ?_))))
 refine G.q Gd.no (Qt.asg rfl) rfl ?_
 refine G.nil (GK.then (GC.block ?_))
 refine GC.addNil (.cells (vI .u8 (litL 0 v) ++ []) 5) ?_
 refine GC.loop (S := Nat × Option Nat × List Value) (fun x => x.1 ≤ n ∧ (x.2.1 = none → x.1 = 0 ∧ x.2.2 = [])) (fun x => n - x.1)
  (fun x => [(0, .int .u64 (v / 256 ^ x.1)), (1, .int .i64 n), (5, .slice (oA x.2.1) (litL x.1 v).length ((litL x.1 v).length + x.2.2.length)), (6, .int .i64 x.1)]) (fun x => [(x.2.1, .cells (vI .u8 (litL x.1 v) ++ x.2.2) 5)]) (0, none, []) ?_ ?_ ?_ ?_
 ·exact ⟨by omega, fun _ => ⟨rfl, rfl⟩⟩
 ·exact ⟨(by show some (Value.int .u64 v) = some (.int .u64 (v / 256 ^ 0)); simp), rfl, rfl, rfl, trivial⟩
 ·exact ⟨_, (Tks.c (.nil _))⟩
 intro ⟨i, ob, sp⟩ ⟨h1, h2⟩
 simp only at h1 h2
 refine GC.seq (GC.seq (GC.region ?_))
 refine G.q Gd.no (Qt.mv rfl) rfl ?_
 refine G.q Gd.no (Qt.mv rfl) rfl ?_
 refine G.q Gd.no (Qt.lss rfl rfl) rfl ?_
 refine G.nil (GK.then ?_)
 refine GC.condb rfl (fun c0 => ?_) (fun c0 => ?_)
 ·try simp only [sB0, sB1, sB2, sB3, sB4, sB5, sB6, sB7, sB8] at c0
  have p0 : 0 ≤ v / 256 ^ i := Int.ediv_nonneg hv (Int.pow_nonneg (by decide))
  have p1 : v / 256 ^ i ≤ v := Int.ediv_le_self _ hv
  have hli := litL_length i v
  have hdp := div_pow v i
  have hls := litL_succ i v
  generalize hq : v / 256 ^ i = q at p0 p1 hdp hls ⊢
  refine GC.skip (GK.then (GC.seq (GC.block (GC.seq (GC.region ?_)))))
  refine G.q Gd.no (Qt.mv rfl) rfl ?_
  refine G.q Gd.no (Qt.mv rfl) rfl ?_
  refine G.q Gd.no (Qt.rem rfl rfl (by omega) (by first | exact rem_nn (by omega) | exact rfl)) rfl ?_
  refine G.q Gd.no (Qt.conv Try.underlying122 Try.underlying5 rfl (by exact u8_id (by omega) (by omega))) rfl ?_
  refine G.ld Gd.no (Ld.bsl (xs := [.tmp 15]) rfl Try.underlying53 z5 ze5 rfl rfl rfl rfl rfl (by simp [Value.oneCell']) (fun b16 => ?_))
  refine G.ld Gd.no (Ld.appI (k := .u8) (ys := [q % 256]) (xs := litL i v) (sp := sp) Try.underlying53 z5 by5 ze5 rfl rfl rfl rfl (by exact Vw.all Rd.o) rfl (fun e => by obtain ⟨rfl, rfl⟩ := h2 e; exact ⟨rfl, rfl, by simp⟩) (by simp only [List.length_append, List.length_cons, List.length_nil]; omega) (by simp only [List.length_append, List.length_cons, List.length_nil]; omega) (fun b' sp' => ?_))
  refine G.q Gd.no (Qt.asg rfl) rfl ?_
  refine G.nil (GK.then (GC.region ?_))
  refine G.q Gd.no (Qt.mv rfl) rfl ?_
  refine G.q Gd.no (Qt.quo rfl rfl (by omega) (by first | exact quo_nn (by omega) (u64_id (by omega) (by omega)) | exact rfl)) rfl ?_
  refine G.q Gd.no (Qt.asg rfl) rfl ?_
  refine G.nil (GK.blockn (GK.then (GC.region ?_)))
  refine G.q Gd.no (Qt.mv rfl) rfl ?_
  refine G.q Gd.no (Qt.add rfl rfl (by first | exact i64_id (by omega) (by omega) | exact rfl)) rfl ?_
  refine G.q Gd.no (Qt.asg rfl) rfl ?_
  refine G.nil ?_
  refine GK.head (i + 1, some b', sp') ?_ ?_ ?_ ?_
  ·simp only; omega
  ·exact ⟨by simp only; omega, by simp⟩
  ·exact ⟨by rw [← hdp]; rfl, rfl, by rw [hls]; rfl, rfl, trivial⟩
  ·exact ⟨_, by rw [hls]; exact (Tks.c (.nil _))⟩
 ·try simp only [sB0, sB1, sB2, sB3, sB4, sB5, sB6, sB7, sB8] at c0
  refine GC.exit (GK.thene (GK.thene (GK.blocke (GK.then (GC.seq (GC.region ?_))))))
  refine G.q Gd.no (Qt.mv rfl) rfl ?_
  refine G.q Gd.no (Qt.asg rfl) rfl ?_
  refine G.nil (GK.then (GC.ret ?_))
  obtain rfl : i = n := by omega
  cases ob with
  | none => exact absurd (h2 rfl).1 (by omega)
  | some b =>
   refine GK.ret (rs := [.tmp 4]) rfl (.tmp rfl .nil) (b, sp) ?_ ?_ (Tks.c (.nil _))
   ·trivial
   ·rw [litL_length]; rfl
theorem rsame_ct (F : Fr) (A B : Option Addr) (c d : Nat) (xs ys : List Int) (hA : VwF F A (vI .u8 xs)) (hB : VwF F B (vI .u8 ys)) (hx : xs.length ≤ 1099511627776) (hy : ys.length ≤ 1099511627776) :
    Ct Try.prog F 71 [.slice A xs.length c, .slice B ys.length d] [] (S := Unit) (fun _ => True) (fun _ => .bool (decide (xs = ys))) (fun _ => []) := by
 refine Ct.of 26 [(0, _), (1, _)] Try.func71 rfl rfl rfl rfl ?_
 refine GC.seq (GC.region ?_)
 refine G.q Gd.no (Qt.asg rfl) rfl ?_
 refine G.nil (GK.then (GC.seq (GC.seq (GC.region ?_))))
 refine G.q Gd.no (Qt.mv rfl) rfl ?_
 refine G.q Gd.no (Qt.lenS (rt := 0) Try.underlying53 rfl) rfl ?_
 refine G.q Gd.no (Qt.mv rfl) rfl ?_
 refine G.q Gd.no (Qt.lenS (rt := 0) Try.underlying53 rfl) rfl ?_
 refine G.q Gd.no (Qt.neI rfl rfl) rfl ?_
 refine G.nil (GK.then ?_)
 refine GC.condb rfl (fun c0 => ?_) (fun c0 => ?_)
 ·try simp only [sB0, sB1, sB2, sB3, sB4, sB5, sB6, sB7, sB8] at c0
  refine GC.seq (GC.region ?_)
  refine G.q Gd.no (Qt.asg rfl) rfl ?_
  refine G.nil (GK.then (GC.ret (GK.thenr ?_)))
  refine GK.ret (rs := [.tmp 4]) rfl (.tmp rfl .nil) () ?_ ?_ (.nil _)
  ·trivial
  ·exact congrArg Value.bool (decide_eq_false (fun e => c0 (by rw [e]))).symm
 ·try simp only [sB0, sB1, sB2, sB3, sB4, sB5, sB6, sB7, sB8] at c0
  have hl : xs.length = ys.length := by omega
  refine GC.skip (GK.then (GC.seq (GC.seq (GC.region ?_))))
  refine G.q Gd.no (Qt.asg rfl) rfl ?_
  refine G.nil (GK.then (GC.block ?_))
  refine GC.loop (S := Nat) (fun x => x ≤ xs.length ∧ ∀ j, j < x → ix xs j = ix ys j) (fun x => xs.length - x)
   (fun x => [(0, .slice A xs.length c), (1, .slice B ys.length d), (5, .int .i64 (x : Int))]) (fun x => []) 0 ?_ ?_ ?_ ?_
  ·exact ⟨by omega, fun j h => by omega⟩
  ·exact ⟨rfl, rfl, rfl, trivial⟩
  ·exact ⟨_, (.nil _)⟩
  intro x ⟨hx1, hx2⟩
  refine GC.seq (GC.seq (GC.region ?_))
  refine G.q Gd.no (Qt.mv rfl) rfl ?_
  refine G.q Gd.no (Qt.mv rfl) rfl ?_
  refine G.q Gd.no (Qt.lenS (rt := 0) Try.underlying53 rfl) rfl ?_
  refine G.q Gd.no (Qt.lss rfl rfl) rfl ?_
  refine G.nil (GK.then ?_)
  refine GC.condb rfl (fun c1 => ?_) (fun c1 => ?_)
  ·try simp only [sB0, sB1, sB2, sB3, sB4, sB5, sB6, sB7, sB8] at c1
   have hlt : x < xs.length := by omega
   have hlt2 : x < ys.length := by omega
   obtain ⟨ad, hAd⟩ := hA.some' (by rw [vI_length]; omega)
   subst hAd
   obtain ⟨bd, hBd⟩ := hB.some' (by rw [vI_length]; omega)
   subst hBd
   refine GC.skip (GK.then (GC.seq (GC.block (GC.seq ?_))))
   refine GC.draw mixed _ Held.all ?_
   refine GT 0 1 rfl (by kernel_rfl) rfl rfl Gd.no (Qt.mv rfl) Held.c ?_
   refine GT 1 3 rfl (by kernel_rfl) rfl rfl Gd.no (Qt.mv rfl) Held.c ?_
   refine GT 2 7 rfl (by kernel_rfl) rfl rfl Gd.no (Qt.ia1 Try.underlying53 z5 rfl rfl (by omega) (by omega) (show ((x : Nat) : Int).toNat = x from rfl)) Held.c ?_
   refine GT 3 15 rfl (by kernel_rfl) rfl rfl Gd.no (Qt.ldF a5 rfl (hA.at' (nth_vI hlt))) Held.c ?_
   refine GT 4 31 rfl (by kernel_rfl) rfl rfl Gd.no (Qt.mv rfl) Held.c ?_
   refine GT 5 63 rfl (by kernel_rfl) rfl rfl Gd.no (Qt.mv rfl) Held.c ?_
   refine GT 6 127 rfl (by kernel_rfl) rfl rfl Gd.no (Qt.ia1 Try.underlying53 z5 rfl rfl (by omega) (by omega) (show ((x : Nat) : Int).toNat = x from rfl)) Held.c ?_
   refine GT 7 255 rfl (by kernel_rfl) rfl rfl Gd.no (Qt.ldF a5 rfl (hB.at' (nth_vI hlt2))) Held.c ?_
   refine GT 8 511 rfl (by kernel_rfl) rfl rfl Gd.no (Qt.neI rfl rfl) Held.c ?_
   refine GH.done (by kernel_rfl) ?_
   refine GK.then ?_
   refine GC.condb rfl (fun c2 => ?_) (fun c2 => ?_)
   ·try simp only [sB0, sB1, sB2, sB3, sB4, sB5, sB6, sB7, sB8] at c2
    refine GC.seq (GC.region ?_)
    refine G.q Gd.no (Qt.asg rfl) rfl ?_
    refine G.nil (GK.then (GC.ret (GK.blockr (GK.thenr (GK.thenr (GK.blockr (GK.thenr ?_)))))))
    refine GK.ret (rs := [.tmp 4]) rfl (.tmp rfl .nil) () ?_ ?_ (.nil _)
    ·trivial
    ·exact congrArg Value.bool (same_no (k := x) (by rw [ix_eq hlt, ix_eq hlt2]; intro e; exact c2 (Option.some.inj e))).symm
   ·try simp only [sB0, sB1, sB2, sB3, sB4, sB5, sB6, sB7, sB8] at c2
    refine GC.skip (GK.blockn (GK.then (GC.region ?_)))
    refine G.q Gd.no (Qt.mv rfl) rfl ?_
    refine G.q Gd.no (Qt.add rfl rfl (by first | exact i64_id (by omega) (by omega) | exact rfl)) rfl ?_
    refine G.q Gd.no (Qt.asg rfl) rfl ?_
    refine G.nil ?_
    refine GK.head (x + 1) ?_ ?_ ?_ ?_
    ·omega
    ·exact ⟨by omega, fun j h => by by_cases e : j < x; exact hx2 j e; rw [show j = x by omega]; exact c2⟩
    ·exact ⟨rfl, rfl, rfl, trivial⟩
    ·exact ⟨_, (.nil _)⟩
  ·try simp only [sB0, sB1, sB2, sB3, sB4, sB5, sB6, sB7, sB8] at c1
   refine GC.exit (GK.thene (GK.thene (GK.blocke (GK.then (GC.seq (GC.region ?_))))))
   refine G.q Gd.no (Qt.asg rfl) rfl ?_
   refine G.nil (GK.then (GC.ret ?_))
   refine GK.ret (rs := [.tmp 4]) rfl (.tmp rfl .nil) () ?_ ?_ (.nil _)
   ·trivial
   ·exact congrArg Value.bool (same_yes hl (fun k hk => by rw [ix_eq hk, ix_eq (by omega), hx2 k (by omega)])).symm
theorem renc_eq {e : Ev} (wf : e.Wf) {k : Int} (hk : (if e.de then e.ty + 128 else e.ty) = k) : litL 2 e.id ++ [2] ++ litL 4 e.time ++ litL 2 e.gen ++ [4, e.st, e.sn, k, e.d0, e.d1, e.d2] = evEnc e := by
  have h1 := wf.id
  have h2 := wf.time
  have h3 := wf.gen
  rw [show litL 2 e.id = [e.id / 1 % 256, e.id / 256 % 256] from rfl, show litL 2 e.gen = [e.gen / 1 % 256, e.gen / 256 % 256] from rfl, show litL 4 e.time = [e.time / 1 % 256, e.time / 256 % 256, e.time / 65536 % 256, e.time / 16777216 % 256] from rfl]
  rw [show e.id / 256 % 256 = e.id / 256 by omega, show e.gen / 256 % 256 = e.gen / 256 by omega, show e.time / 16777216 % 256 = e.time / 16777216 by omega, Int.ediv_one, Int.ediv_one, Int.ediv_one, ← hk]
  rfl
theorem renc_ct (F : Fr) (e : Ev) (wf : e.Wf) (hv : e.valid = true) :
    Ct Try.prog F 63 [.agg (evC e).toArray] [] (S := Nat × List Value) (fun _ => True) (fun x => .tuple #[.slice (some ⟨x.1, 0, none⟩) 16 (16 + x.2.length), .int .i64 0]) (fun x => [(some x.1, .cells (vI .u8 (evEnc e) ++ x.2) 5)]) := by
 obtain ⟨i1, i2⟩ := wf.id
 obtain ⟨t1, t2⟩ := wf.time
 obtain ⟨n1, n2⟩ := wf.gen
 have hty : 0 ≤ e.ty ∧ e.ty ≤ 127 := by have := wf.ty; simp only [Ev.valid, Bool.and_eq_true, decide_eq_true_eq] at hv; omega
 refine Ct.of 50 [(0, _)] Try.func63 rfl rfl rfl rfl ?_
 refine GC.seq (GC.region ?_)
 refine G.ld Gd.no (Ld.box rfl rfl (by first | exact Cl.one rfl | exact Cl.agg) (fun b1 => ?_))
 refine G.q Gd.no (Qt.asg rfl) rfl ?_
 refine G.q Gd.no (Qt.asg rfl) rfl ?_
 refine G.nil (GK.then (GC.seq (GC.seq (GC.region ?_))))
 refine G.q Gd.no (Qt.ldW a40 rfl Rd.o z40) rfl ?_
 refine G.ld Gd.no (Ld.call cal58 rfl rfl (.nil _) (fun F' hF => rvalid_ct F' _) (fun _ _ => ?_))
 dsimp only [lCa, lNa]
 refine G.q Gd.no (Qt.not rfl) rfl ?_
 refine G.nil (GK.then ?_)
 refine GC.condb rfl (fun c0 => ?_) (fun c0 => ?_)
 ·try simp only [sB0, sB1, sB2, sB3, sB4, sB5, sB6, sB7, sB8] at c0
  exact absurd hv (by simp [c0])
 ·try simp only [sB0, sB1, sB2, sB3, sB4, sB5, sB6, sB7, sB8] at c0
  refine GC.skip (GK.then (GC.seq (GC.region ?_)))
  refine G.q Gd.no (Qt.fa0 fl40_5 rfl) rfl ?_
  refine G.q Gd.no (Qt.ldc a5 rfl (by first | exact Rdc.o rfl | exact Rdc.o (nth_vIs (by omega)) | exact Rdc.o (nth_vI (by omega)))) rfl ?_
  refine G.q Gd.no (Qt.asg rfl) rfl ?_
  refine G.nil (GK.then (GC.seq (GC.seq (GC.region ?_))))
  refine G.q Gd.no (Qt.fa0 fl40_6 rfl) rfl ?_
  refine G.q Gd.no (Qt.ldc a4 rfl (by first | exact Rdc.o rfl | exact Rdc.o (nth_vIs (by omega)) | exact Rdc.o (nth_vI (by omega)))) rfl ?_
  refine G.nil (GK.then ?_)
  refine GC.condb rfl (fun c1 => ?_) (fun c1 => ?_)
  ·try simp only [sB0, sB1, sB2, sB3, sB4, sB5, sB6, sB7, sB8] at c1
   obtain ⟨k, hk⟩ : ∃ k, e.ty + 128 = k := ⟨_, rfl⟩
   refine GC.region ?_
   refine G.q Gd.no (Qt.mv rfl) rfl ?_
   refine G.q Gd.no (Qt.add rfl rfl (by first | exact u8_id (by omega) (by omega) | exact rfl)) rfl ?_
   refine G.q Gd.no (Qt.asg rfl) rfl ?_
   rw [hk]
   refine G.nil (GK.then (GC.seq (GC.region ?_)))
   refine G.q Gd.no (Qt.fa0 fl40_0 rfl) rfl ?_
   refine G.q Gd.no (Qt.ldc a36 rfl (by first | exact Rdc.o rfl | exact Rdc.o (nth_vIs (by omega)) | exact Rdc.o (nth_vI (by omega)))) rfl ?_
   refine G.q Gd.no (Qt.conv Try.underlying36 Try.underlying122 rfl (by first | exact u64_id (by omega) (by omega) | exact rfl)) rfl ?_
   refine G.ld Gd.no (Ld.call cal86 rfl rfl (.nil _) (fun F' hF => little_ct F' _ 2 (by omega) (by omega) (by omega) (by omega)) (fun ⟨q1, q2⟩ _ => ?_))
   dsimp only [lCa, lNa]
   refine G.ld Gd.no (Ld.bsl (xs := [.const (.int .u8 2)]) rfl Try.underlying53 z5 ze5 rfl rfl rfl rfl rfl (by simp [Value.oneCell']) (fun b19 => ?_))
   refine G.ld Gd.no (Ld.appI (k := .u8) (ob := some q1) (xs := litL 2 e.id) (ys := [2]) Try.underlying53 z5 by5 ze5 rfl rfl rfl rfl (Vw.all Rd.o) rfl (by intro e; cases e) (by simp only [List.length_append, List.length_cons, List.length_nil, litL_length]; omega) (by simp only [List.length_append, List.length_cons, List.length_nil, litL_length]; omega) (fun b' sp' => ?_))
   refine G.q Gd.no (Qt.asg rfl) rfl ?_
   refine G.nil (GK.then (GC.seq (GC.region ?_)))
   refine G.q Gd.no (Qt.mv rfl) rfl ?_
   refine G.q Gd.no (Qt.fa0 fl40_1 rfl) rfl ?_
   refine G.q Gd.no (Qt.ldc a37 rfl (by first | exact Rdc.o rfl | exact Rdc.o (nth_vIs (by omega)) | exact Rdc.o (nth_vI (by omega)))) rfl ?_
   refine G.q Gd.no (Qt.conv Try.underlying37 Try.underlying122 rfl (by first | exact u64_id (by omega) (by omega) | exact rfl)) rfl ?_
   refine G.ld Gd.no (Ld.call cal86 rfl rfl (.nil _) (fun F' hF => little_ct F' _ 4 (by omega) (by omega) (by omega) (by omega)) (fun ⟨q1, q2⟩ _ => ?_))
   dsimp only [lCa, lNa]
   refine G.ld Gd.no (Ld.appI (k := .u8) (ob := some b') (xs := litL 2 e.id ++ [2]) (ys := litL 4 e.time) Try.underlying53 z5 by5 ze5 rfl rfl rfl rfl (Vw.pre Rd.o) rfl (by intro e; cases e) (by simp only [List.length_append, List.length_cons, List.length_nil, litL_length]; omega) (by simp only [List.length_append, List.length_cons, List.length_nil, litL_length]; omega) (fun b' sp' => ?_))
   refine G.q Gd.no (Qt.asg rfl) rfl ?_
   refine G.nil (GK.then (GC.seq (GC.region ?_)))
   refine G.q Gd.no (Qt.mv rfl) rfl ?_
   refine G.q Gd.no (Qt.fa0 fl40_2 rfl) rfl ?_
   refine G.q Gd.no (Qt.ldc a36 rfl (by first | exact Rdc.o rfl | exact Rdc.o (nth_vIs (by omega)) | exact Rdc.o (nth_vI (by omega)))) rfl ?_
   refine G.q Gd.no (Qt.conv Try.underlying36 Try.underlying122 rfl (by first | exact u64_id (by omega) (by omega) | exact rfl)) rfl ?_
   refine G.ld Gd.no (Ld.call cal86 rfl rfl (.nil _) (fun F' hF => little_ct F' _ 2 (by omega) (by omega) (by omega) (by omega)) (fun ⟨q1, q2⟩ _ => ?_))
   dsimp only [lCa, lNa]
   refine G.ld Gd.no (Ld.appI (k := .u8) (ob := some b') (xs := litL 2 e.id ++ [2] ++ litL 4 e.time) (ys := litL 2 e.gen) Try.underlying53 z5 by5 ze5 rfl rfl rfl rfl (Vw.pre Rd.o) rfl (by intro e; cases e) (by simp only [List.length_append, List.length_cons, List.length_nil, litL_length]; omega) (by simp only [List.length_append, List.length_cons, List.length_nil, litL_length]; omega) (fun b' sp' => ?_))
   refine G.q Gd.no (Qt.asg rfl) rfl ?_
   refine G.nil (GK.then (GC.seq (GC.region ?_)))
   refine G.q Gd.no (Qt.mv rfl) rfl ?_
   refine G.q Gd.no (Qt.fa0 fl40_3 rfl) rfl ?_
   refine G.q Gd.no (Qt.ldc a5 rfl (by first | exact Rdc.o rfl | exact Rdc.o (nth_vIs (by omega)) | exact Rdc.o (nth_vI (by omega)))) rfl ?_
   refine G.q Gd.no (Qt.fa0 fl40_4 rfl) rfl ?_
   refine G.q Gd.no (Qt.ldc a5 rfl (by first | exact Rdc.o rfl | exact Rdc.o (nth_vIs (by omega)) | exact Rdc.o (nth_vI (by omega)))) rfl ?_
   refine G.q Gd.no (Qt.mv rfl) rfl ?_
   refine G.q Gd.no (Qt.fa0 fl40_7 rfl) rfl ?_
   refine G.q Gd.no (by first | exact Qt.iaa01 Try.underlying38 z5 rfl rfl (by omega) (by omega) (show (0 : Int).toNat = 0 from rfl) | exact Qt.iaa1 Try.underlying38 z5 rfl rfl (by omega) (by omega) (show (0 : Int).toNat = 0 from rfl)) rfl ?_
   refine G.q Gd.no (Qt.ldc a5 rfl (by first | exact Rdc.o rfl | exact Rdc.o (nth_vIs (by omega)) | exact Rdc.o (nth_vI (by omega)))) rfl ?_
   refine G.q Gd.no (Qt.fa0 fl40_7 rfl) rfl ?_
   refine G.q Gd.no (by first | exact Qt.iaa01 Try.underlying38 z5 rfl rfl (by omega) (by omega) (show (1 : Int).toNat = 1 from rfl) | exact Qt.iaa1 Try.underlying38 z5 rfl rfl (by omega) (by omega) (show (1 : Int).toNat = 1 from rfl)) rfl ?_
   refine G.q Gd.no (Qt.ldc a5 rfl (by first | exact Rdc.o rfl | exact Rdc.o (nth_vIs (by omega)) | exact Rdc.o (nth_vI (by omega)))) rfl ?_
   refine G.q Gd.no (Qt.fa0 fl40_7 rfl) rfl ?_
   refine G.q Gd.no (by first | exact Qt.iaa01 Try.underlying38 z5 rfl rfl (by omega) (by omega) (show (2 : Int).toNat = 2 from rfl) | exact Qt.iaa1 Try.underlying38 z5 rfl rfl (by omega) (by omega) (show (2 : Int).toNat = 2 from rfl)) rfl ?_
   refine G.q Gd.no (Qt.ldc a5 rfl (by first | exact Rdc.o rfl | exact Rdc.o (nth_vIs (by omega)) | exact Rdc.o (nth_vI (by omega)))) rfl ?_
   refine G.ld Gd.no (Ld.bsl (xs := [.const (.int .u8 4), .tmp 35, .tmp 37, .tmp 38, .tmp 41, .tmp 44, .tmp 47]) rfl Try.underlying53 z5 ze5 rfl rfl rfl rfl rfl (by simp [Value.oneCell']) (fun b48 => ?_))
   refine G.ld Gd.no (Ld.appI (k := .u8) (ob := some b') (xs := litL 2 e.id ++ [2] ++ litL 4 e.time ++ litL 2 e.gen) (ys := [4, e.st, e.sn, k, e.d0, e.d1, e.d2]) Try.underlying53 z5 by5 ze5 rfl rfl rfl rfl (Vw.all Rd.o) rfl (by intro e; cases e) (by simp only [List.length_append, List.length_cons, List.length_nil, litL_length]; omega) (by simp only [List.length_append, List.length_cons, List.length_nil, litL_length]; omega) (fun b' sp' => ?_))
   refine G.q Gd.no (Qt.asg rfl) rfl ?_
   refine G.q Gd.no (Qt.asg rfl) rfl ?_
   refine G.nil (GK.then (GC.ret ?_))
   rw [renc_eq wf (by simp [c1, hk])]
   refine GK.ret (rs := [.tmp 2, .tmp 3]) rfl (.tmp rfl (.tmp rfl .nil)) (b', sp') ?_ ?_ (Tks.c (.nil _))
   ·trivial
   ·rfl
  ·try simp only [sB0, sB1, sB2, sB3, sB4, sB5, sB6, sB7, sB8] at c1
   obtain ⟨k, hk⟩ : ∃ k, e.ty = k := ⟨_, rfl⟩
   rw [hk]
   refine GC.skip (GK.then (GC.seq (GC.region ?_)))
   refine G.q Gd.no (Qt.fa0 fl40_0 rfl) rfl ?_
   refine G.q Gd.no (Qt.ldc a36 rfl (by first | exact Rdc.o rfl | exact Rdc.o (nth_vIs (by omega)) | exact Rdc.o (nth_vI (by omega)))) rfl ?_
   refine G.q Gd.no (Qt.conv Try.underlying36 Try.underlying122 rfl (by first | exact u64_id (by omega) (by omega) | exact rfl)) rfl ?_
   refine G.ld Gd.no (Ld.call cal86 rfl rfl (.nil _) (fun F' hF => little_ct F' _ 2 (by omega) (by omega) (by omega) (by omega)) (fun ⟨q1, q2⟩ _ => ?_))
   dsimp only [lCa, lNa]
   refine G.ld Gd.no (Ld.bsl (xs := [.const (.int .u8 2)]) rfl Try.underlying53 z5 ze5 rfl rfl rfl rfl rfl (by simp [Value.oneCell']) (fun b19 => ?_))
   refine G.ld Gd.no (Ld.appI (k := .u8) (ob := some q1) (xs := litL 2 e.id) (ys := [2]) Try.underlying53 z5 by5 ze5 rfl rfl rfl rfl (Vw.all Rd.o) rfl (by intro e; cases e) (by simp only [List.length_append, List.length_cons, List.length_nil, litL_length]; omega) (by simp only [List.length_append, List.length_cons, List.length_nil, litL_length]; omega) (fun b' sp' => ?_))
   refine G.q Gd.no (Qt.asg rfl) rfl ?_
   refine G.nil (GK.then (GC.seq (GC.region ?_)))
   refine G.q Gd.no (Qt.mv rfl) rfl ?_
   refine G.q Gd.no (Qt.fa0 fl40_1 rfl) rfl ?_
   refine G.q Gd.no (Qt.ldc a37 rfl (by first | exact Rdc.o rfl | exact Rdc.o (nth_vIs (by omega)) | exact Rdc.o (nth_vI (by omega)))) rfl ?_
   refine G.q Gd.no (Qt.conv Try.underlying37 Try.underlying122 rfl (by first | exact u64_id (by omega) (by omega) | exact rfl)) rfl ?_
   refine G.ld Gd.no (Ld.call cal86 rfl rfl (.nil _) (fun F' hF => little_ct F' _ 4 (by omega) (by omega) (by omega) (by omega)) (fun ⟨q1, q2⟩ _ => ?_))
   dsimp only [lCa, lNa]
   refine G.ld Gd.no (Ld.appI (k := .u8) (ob := some b') (xs := litL 2 e.id ++ [2]) (ys := litL 4 e.time) Try.underlying53 z5 by5 ze5 rfl rfl rfl rfl (Vw.pre Rd.o) rfl (by intro e; cases e) (by simp only [List.length_append, List.length_cons, List.length_nil, litL_length]; omega) (by simp only [List.length_append, List.length_cons, List.length_nil, litL_length]; omega) (fun b' sp' => ?_))
   refine G.q Gd.no (Qt.asg rfl) rfl ?_
   refine G.nil (GK.then (GC.seq (GC.region ?_)))
   refine G.q Gd.no (Qt.mv rfl) rfl ?_
   refine G.q Gd.no (Qt.fa0 fl40_2 rfl) rfl ?_
   refine G.q Gd.no (Qt.ldc a36 rfl (by first | exact Rdc.o rfl | exact Rdc.o (nth_vIs (by omega)) | exact Rdc.o (nth_vI (by omega)))) rfl ?_
   refine G.q Gd.no (Qt.conv Try.underlying36 Try.underlying122 rfl (by first | exact u64_id (by omega) (by omega) | exact rfl)) rfl ?_
   refine G.ld Gd.no (Ld.call cal86 rfl rfl (.nil _) (fun F' hF => little_ct F' _ 2 (by omega) (by omega) (by omega) (by omega)) (fun ⟨q1, q2⟩ _ => ?_))
   dsimp only [lCa, lNa]
   refine G.ld Gd.no (Ld.appI (k := .u8) (ob := some b') (xs := litL 2 e.id ++ [2] ++ litL 4 e.time) (ys := litL 2 e.gen) Try.underlying53 z5 by5 ze5 rfl rfl rfl rfl (Vw.pre Rd.o) rfl (by intro e; cases e) (by simp only [List.length_append, List.length_cons, List.length_nil, litL_length]; omega) (by simp only [List.length_append, List.length_cons, List.length_nil, litL_length]; omega) (fun b' sp' => ?_))
   refine G.q Gd.no (Qt.asg rfl) rfl ?_
   refine G.nil (GK.then (GC.seq (GC.region ?_)))
   refine G.q Gd.no (Qt.mv rfl) rfl ?_
   refine G.q Gd.no (Qt.fa0 fl40_3 rfl) rfl ?_
   refine G.q Gd.no (Qt.ldc a5 rfl (by first | exact Rdc.o rfl | exact Rdc.o (nth_vIs (by omega)) | exact Rdc.o (nth_vI (by omega)))) rfl ?_
   refine G.q Gd.no (Qt.fa0 fl40_4 rfl) rfl ?_
   refine G.q Gd.no (Qt.ldc a5 rfl (by first | exact Rdc.o rfl | exact Rdc.o (nth_vIs (by omega)) | exact Rdc.o (nth_vI (by omega)))) rfl ?_
   refine G.q Gd.no (Qt.mv rfl) rfl ?_
   refine G.q Gd.no (Qt.fa0 fl40_7 rfl) rfl ?_
   refine G.q Gd.no (by first | exact Qt.iaa01 Try.underlying38 z5 rfl rfl (by omega) (by omega) (show (0 : Int).toNat = 0 from rfl) | exact Qt.iaa1 Try.underlying38 z5 rfl rfl (by omega) (by omega) (show (0 : Int).toNat = 0 from rfl)) rfl ?_
   refine G.q Gd.no (Qt.ldc a5 rfl (by first | exact Rdc.o rfl | exact Rdc.o (nth_vIs (by omega)) | exact Rdc.o (nth_vI (by omega)))) rfl ?_
   refine G.q Gd.no (Qt.fa0 fl40_7 rfl) rfl ?_
   refine G.q Gd.no (by first | exact Qt.iaa01 Try.underlying38 z5 rfl rfl (by omega) (by omega) (show (1 : Int).toNat = 1 from rfl) | exact Qt.iaa1 Try.underlying38 z5 rfl rfl (by omega) (by omega) (show (1 : Int).toNat = 1 from rfl)) rfl ?_
   refine G.q Gd.no (Qt.ldc a5 rfl (by first | exact Rdc.o rfl | exact Rdc.o (nth_vIs (by omega)) | exact Rdc.o (nth_vI (by omega)))) rfl ?_
   refine G.q Gd.no (Qt.fa0 fl40_7 rfl) rfl ?_
   refine G.q Gd.no (by first | exact Qt.iaa01 Try.underlying38 z5 rfl rfl (by omega) (by omega) (show (2 : Int).toNat = 2 from rfl) | exact Qt.iaa1 Try.underlying38 z5 rfl rfl (by omega) (by omega) (show (2 : Int).toNat = 2 from rfl)) rfl ?_
   refine G.q Gd.no (Qt.ldc a5 rfl (by first | exact Rdc.o rfl | exact Rdc.o (nth_vIs (by omega)) | exact Rdc.o (nth_vI (by omega)))) rfl ?_
   refine G.ld Gd.no (Ld.bsl (xs := [.const (.int .u8 4), .tmp 35, .tmp 37, .tmp 38, .tmp 41, .tmp 44, .tmp 47]) rfl Try.underlying53 z5 ze5 rfl rfl rfl rfl rfl (by simp [Value.oneCell']) (fun b48 => ?_))
   refine G.ld Gd.no (Ld.appI (k := .u8) (ob := some b') (xs := litL 2 e.id ++ [2] ++ litL 4 e.time ++ litL 2 e.gen) (ys := [4, e.st, e.sn, k, e.d0, e.d1, e.d2]) Try.underlying53 z5 by5 ze5 rfl rfl rfl rfl (Vw.all Rd.o) rfl (by intro e; cases e) (by simp only [List.length_append, List.length_cons, List.length_nil, litL_length]; omega) (by simp only [List.length_append, List.length_cons, List.length_nil, litL_length]; omega) (fun b' sp' => ?_))
   refine G.q Gd.no (Qt.asg rfl) rfl ?_
   refine G.q Gd.no (Qt.asg rfl) rfl ?_
   refine G.nil (GK.then (GC.ret ?_))
   rw [renc_eq wf (by simp [c1, hk])]
   refine GK.ret (rs := [.tmp 2, .tmp 3]) rfl (.tmp rfl (.tmp rfl .nil)) (b', sp') ?_ ?_ (Tks.c (.nil _))
   ·trivial
   ·rfl
theorem vw_cut {F : Fr} {A : Addr} {xs ys : List Int} (hA : VwF F (some A) (vI .u8 xs)) {n : Nat} (h : ∀ j, j < ys.length → n + j < xs.length ∧ ix ys j = ix xs (n + j)) : VwF F (some (A.add n)) (vI .u8 ys) := by
  intro j v hj
  have hlt : j < ys.length := by
    have := (List.getElem?_eq_some_iff.1 hj).1
    rwa [vI_length] at this
  obtain ⟨h1, h2⟩ := h j hlt
  refine ⟨_, rfl, ?_⟩
  rw [add_add]
  refine hA.at' ?_
  rw [nth_vI h1, ← h2, ← nth_vI hlt]
  exact hj
theorem vw_cut2 {F : Fr} {A : Addr} {xs : List Int} (hA : VwF F (some A) (vI .u8 xs)) (n : Nat) (hn : n + 2 ≤ xs.length) : VwF F (some (A.add n)) (vI .u8 [ix xs n, ix xs (n + 1)]) := vw_cut hA fun j hj => by
  match j, hj with
  | 0, _ => exact ⟨by omega, rfl⟩
  | 1, _ => exact ⟨by omega, rfl⟩
theorem vw_cut4 {F : Fr} {A : Addr} {xs : List Int} (hA : VwF F (some A) (vI .u8 xs)) (n : Nat) (hn : n + 4 ≤ xs.length) : VwF F (some (A.add n)) (vI .u8 [ix xs n, ix xs (n + 1), ix xs (n + 2), ix xs (n + 3)]) := vw_cut hA fun j hj => by
  match j, hj with
  | 0, _ => exact ⟨by omega, rfl⟩
  | 1, _ => exact ⟨by omega, rfl⟩
  | 2, _ => exact ⟨by omega, rfl⟩
  | 3, _ => exact ⟨by omega, rfl⟩
theorem numL2 (a b : Int) : numL [a, b] = a + b * 256 := by simp only [numL]; omega
theorem numL4 (a b c d : Int) : numL [a, b, c, d] = a + b * 256 + c * 65536 + d * 16777216 := by simp only [numL]; omega
theorem bytes2 {xs : List Int} (hb : Bytes xs) (n : Nat) : Bytes [ix xs n, ix xs (n + 1)] := by
  intro x hx
  simp only [List.mem_cons, List.not_mem_nil, or_false] at hx
  rcases hx with rfl | rfl <;> exact hb.ix _
theorem bytes4 {xs : List Int} (hb : Bytes xs) (n : Nat) : Bytes [ix xs n, ix xs (n + 1), ix xs (n + 2), ix xs (n + 3)] := by
  intro x hx
  simp only [List.mem_cons, List.not_mem_nil, or_false] at hx
  rcases hx with rfl | rfl | rfl | rfl <;> exact hb.ix _
theorem rdec_ct (F : Fr) (A : Addr) (c : Nat) (xs : List Int) (hA : VwF F (some A) (vI .u8 xs)) (hl : xs.length = 16) (hc : 16 ≤ c) (hb : Bytes xs) :
    Ct Try.prog F 98 [.slice (some A) 16 c] [] (S := Unit) (fun _ => True) (fun _ => .tuple #[.agg (evC (evDec xs).1).toArray, .int .i64 (evDec xs).2]) (fun _ => []) := by
 obtain ⟨r0, q0⟩ := hb.ix 0
 obtain ⟨r1, q1⟩ := hb.ix 1
 obtain ⟨r3, q3⟩ := hb.ix 3
 obtain ⟨r4, q4⟩ := hb.ix 4
 obtain ⟨r5, q5⟩ := hb.ix 5
 obtain ⟨r6, q6⟩ := hb.ix 6
 obtain ⟨r7, q7⟩ := hb.ix 7
 obtain ⟨r8, q8⟩ := hb.ix 8
 obtain ⟨r12, q12⟩ := hb.ix 12
 refine Ct.of 67 [(0, _)] Try.func98 rfl rfl rfl rfl ?_
 refine GC.seq (GC.region ?_)
 refine G.ld Gd.no (Ld.alloc rfl ze40 (by first | exact Cl.one rfl | exact Cl.agg) (fun b2 => ?_))
 refine G.q Gd.no (Qt.asg rfl) rfl ?_
 refine G.nil (GK.then (GC.seq (GC.seq (GC.region ?_))))
 refine G.q Gd.no (Qt.mv rfl) rfl ?_
 refine G.q Gd.no (Qt.lenS (rt := 0) Try.underlying53 rfl) rfl ?_
 refine G.q Gd.no (Qt.lss rfl rfl) rfl ?_
 refine G.nil (GK.then ?_)
 refine GC.condb rfl (fun c0 => ?_) (fun c0 => ?_)
 ·try simp only [sB0, sB1, sB2, sB3, sB4, sB5, sB6, sB7, sB8] at c0
  omega
 ·try simp only [sB0, sB1, sB2, sB3, sB4, sB5, sB6, sB7, sB8] at c0
  refine GC.skip (GK.then (GC.seq (GC.seq (GC.region ?_))))
  refine G.q Gd.no (Qt.mv rfl) rfl ?_
  refine G.q Gd.no (Qt.lenS (rt := 0) Try.underlying53 rfl) rfl ?_
  refine G.q Gd.no (Qt.gtr rfl rfl) rfl ?_
  refine G.q Gd.no (Qt.mv rfl) rfl ?_
  apply G.orb (seg := [_, _, _, _])
  exact rfl
  exact rfl
  exact rfl
  exact Gd.no
  exact rfl
  exact rfl
  ·intro g4; try simp only [sB0, sB1, sB2, sB3, sB4, sB5, sB6, sB7, sB8] at g4
   refine G.q (Gd.yes rfl rfl) (Qt.mv rfl) rfl ?_
   refine G.q (Gd.yes rfl rfl) (by first | exact Qt.iab01 Try.underlying53 z5 rfl rfl (by omega) (by omega) (show (2 : Int).toNat = 2 from rfl) | exact Qt.ia1 Try.underlying53 z5 rfl rfl (by omega) (by omega) (show (2 : Int).toNat = 2 from rfl)) rfl ?_
   refine G.q (Gd.yes rfl rfl) (by first | exact Qt.ldc a5 rfl (by first | exact Rdc.o rfl | exact Rdc.o (nth_vIs (by omega)) | exact Rdc.o (nth_vI (by omega))) | exact Qt.ldF a5 rfl (hA.at' (nth_vI (by omega)))) rfl ?_
   refine G.q (Gd.yes rfl rfl) (Qt.neI rfl rfl) rfl ?_
   refine G.nil (GK.seg (n := [_, _, _, _]) rfl rfl rfl (by first | exact Tks.all _ | exact Tks.skip (Tks.all _) | exact Tks.skip (Tks.skip (Tks.all _)) | exact Tks.skip (Tks.skip (Tks.skip (Tks.all _)))))
  refine G.q Gd.no (Qt.mv rfl) rfl ?_
  apply G.orb (seg := [_, _, _, _])
  exact rfl
  exact rfl
  exact rfl
  exact Gd.no
  exact rfl
  exact rfl
  ·intro g10; try simp only [sB0, sB1, sB2, sB3, sB4, sB5, sB6, sB7, sB8] at g10
   refine G.q (Gd.yes rfl rfl) (Qt.mv rfl) rfl ?_
   refine G.q (Gd.yes rfl rfl) (by first | exact Qt.iab01 Try.underlying53 z5 rfl rfl (by omega) (by omega) (show (9 : Int).toNat = 9 from rfl) | exact Qt.ia1 Try.underlying53 z5 rfl rfl (by omega) (by omega) (show (9 : Int).toNat = 9 from rfl)) rfl ?_
   refine G.q (Gd.yes rfl rfl) (by first | exact Qt.ldc a5 rfl (by first | exact Rdc.o rfl | exact Rdc.o (nth_vIs (by omega)) | exact Rdc.o (nth_vI (by omega))) | exact Qt.ldF a5 rfl (hA.at' (nth_vI (by omega)))) rfl ?_
   refine G.q (Gd.yes rfl rfl) (Qt.neI rfl rfl) rfl ?_
   refine G.nil (GK.seg (n := [_, _, _, _]) rfl rfl rfl (by first | exact Tks.all _ | exact Tks.skip (Tks.all _) | exact Tks.skip (Tks.skip (Tks.all _)) | exact Tks.skip (Tks.skip (Tks.skip (Tks.all _)))))
  refine G.nil (GK.then ?_)
  refine GC.condb rfl (fun c1 => ?_) (fun c1 => ?_)
  ·try simp only [sB0, sB1, sB2, sB3, sB4, sB5, sB6, sB7, sB8] at c1
   have c1 : ¬ ix xs 2 = 2 ∨ ¬ ix xs 9 = 4 := by omega
   refine GC.seq (GC.region ?_)
   refine G.q Gd.no (Qt.buildS Try.underlying40 pl40 ze40 (.nil _)) rfl ?_
   refine G.ld Gd.no (Ld.stW (by exact z40) rfl rfl (by simp [Value.oneCell']) (E := 40) (by rfl) UpdC.u ?_)
   refine G.q Gd.no (Qt.asg rfl) rfl ?_
   refine G.nil (GK.then (GC.ret (GK.thenr ?_)))
   refine GK.ret (rs := [.cell 2 40, .tmp 3]) rfl (.cellW rfl a40 (by exact z40) Rd.o (.tmp rfl .nil)) () ?_ ?_ (.nil _)
   ·trivial
   ·(rw [show evDec xs = (Ev.zero, 6) from if_pos c1]; rfl)
  ·try simp only [sB0, sB1, sB2, sB3, sB4, sB5, sB6, sB7, sB8] at c1
   have c1 : ¬ (¬ ix xs 2 = 2 ∨ ¬ ix xs 9 = 4) := by omega
   refine GC.skip (GK.then (GC.seq ?_))
   refine GC.draw mixed _ Held.all ?_
   refine GT 0 1 rfl (by kernel_rfl) rfl rfl Gd.no (Qt.mv rfl) Held.c ?_
   refine GT 1 3 rfl (by kernel_rfl) rfl rfl Gd.no (Qt.sl Try.underlying53 z5 rfl rfl rfl (by omega) (by omega) (by omega) (show (0 : Int).toNat = 0 from rfl) (show (2 : Int).toNat = 2 from rfl)) Held.c ?_
   rw [slAt_any (by omega), show 0 * 1 = 0 from rfl]
   refine GT 4 19 rfl (by kernel_rfl) rfl rfl Gd.no (Qt.mv rfl) Held.c ?_
   refine GT 5 51 rfl (by kernel_rfl) rfl rfl Gd.no (Qt.sl Try.underlying53 z5 rfl rfl rfl (by omega) (by omega) (by omega) (show (3 : Int).toNat = 3 from rfl) (show (7 : Int).toNat = 7 from rfl)) Held.c ?_
   rw [slAt_any (by omega), show 3 * 1 = 3 from rfl]
   refine GT 8 307 rfl (by kernel_rfl) rfl rfl Gd.no (Qt.mv rfl) Held.c ?_
   refine GT 9 819 rfl (by kernel_rfl) rfl rfl Gd.no (Qt.sl Try.underlying53 z5 rfl rfl rfl (by omega) (by omega) (by omega) (show (7 : Int).toNat = 7 from rfl) (show (9 : Int).toNat = 9 from rfl)) Held.c ?_
   rw [slAt_any (by omega), show 7 * 1 = 7 from rfl]
   refine GT 12 4915 rfl (by kernel_rfl) rfl rfl Gd.no (Qt.mv rfl) Held.c ?_
   refine GT 13 13107 rfl (by kernel_rfl) rfl rfl Gd.no (by first | exact Qt.iab01 Try.underlying53 z5 rfl rfl (by omega) (by omega) (show (10 : Int).toNat = 10 from rfl) | exact Qt.ia1 Try.underlying53 z5 rfl rfl (by omega) (by omega) (show (10 : Int).toNat = 10 from rfl)) Held.c ?_
   refine GT 14 29491 rfl (by kernel_rfl) rfl rfl Gd.no (by first | exact Qt.ldc a5 rfl (by first | exact Rdc.o rfl | exact Rdc.o (nth_vIs (by omega)) | exact Rdc.o (nth_vI (by omega))) | exact Qt.ldF a5 rfl (hA.at' (nth_vI (by omega)))) Held.c ?_
   refine GT 15 62259 rfl (by kernel_rfl) rfl rfl Gd.no (Qt.mv rfl) Held.c ?_
   refine GT 16 127795 rfl (by kernel_rfl) rfl rfl Gd.no (by first | exact Qt.iab01 Try.underlying53 z5 rfl rfl (by omega) (by omega) (show (11 : Int).toNat = 11 from rfl) | exact Qt.ia1 Try.underlying53 z5 rfl rfl (by omega) (by omega) (show (11 : Int).toNat = 11 from rfl)) Held.c ?_
   refine GT 17 258867 rfl (by kernel_rfl) rfl rfl Gd.no (by first | exact Qt.ldc a5 rfl (by first | exact Rdc.o rfl | exact Rdc.o (nth_vIs (by omega)) | exact Rdc.o (nth_vI (by omega))) | exact Qt.ldF a5 rfl (hA.at' (nth_vI (by omega)))) Held.c ?_
   refine GT 18 521011 rfl (by kernel_rfl) rfl rfl Gd.no (Qt.mv rfl) Held.c ?_
   refine GT 19 1045299 rfl (by kernel_rfl) rfl rfl Gd.no (by first | exact Qt.iab01 Try.underlying53 z5 rfl rfl (by omega) (by omega) (show (12 : Int).toNat = 12 from rfl) | exact Qt.ia1 Try.underlying53 z5 rfl rfl (by omega) (by omega) (show (12 : Int).toNat = 12 from rfl)) Held.c ?_
   refine GT 20 2093875 rfl (by kernel_rfl) rfl rfl Gd.no (by first | exact Qt.ldc a5 rfl (by first | exact Rdc.o rfl | exact Rdc.o (nth_vIs (by omega)) | exact Rdc.o (nth_vI (by omega))) | exact Qt.ldF a5 rfl (hA.at' (nth_vI (by omega)))) Held.c ?_
   refine GT 21 4191027 rfl (by kernel_rfl) rfl rfl Gd.no (Qt.rem rfl rfl (by omega) (by first | exact rem_nn (by omega) | exact rfl)) Held.c ?_
   refine GT 22 8385331 rfl (by kernel_rfl) rfl rfl Gd.no (Qt.mv rfl) Held.c ?_
   refine GT 23 16773939 rfl (by kernel_rfl) rfl rfl Gd.no (by first | exact Qt.iab01 Try.underlying53 z5 rfl rfl (by omega) (by omega) (show (12 : Int).toNat = 12 from rfl) | exact Qt.ia1 Try.underlying53 z5 rfl rfl (by omega) (by omega) (show (12 : Int).toNat = 12 from rfl)) Held.c ?_
   refine GT 24 33551155 rfl (by kernel_rfl) rfl rfl Gd.no (by first | exact Qt.ldc a5 rfl (by first | exact Rdc.o rfl | exact Rdc.o (nth_vIs (by omega)) | exact Rdc.o (nth_vI (by omega))) | exact Qt.ldF a5 rfl (hA.at' (nth_vI (by omega)))) Held.c ?_
   refine GT 25 67105587 rfl (by kernel_rfl) rfl rfl Gd.no (Qt.geq rfl rfl) Held.c ?_
   refine GT 26 134214451 rfl (by kernel_rfl) rfl rfl Gd.no (Qt.mv rfl) Held.c ?_
   refine GT 27 268432179 rfl (by kernel_rfl) rfl rfl Gd.no (by first | exact Qt.iab01 Try.underlying53 z5 rfl rfl (by omega) (by omega) (show (13 : Int).toNat = 13 from rfl) | exact Qt.ia1 Try.underlying53 z5 rfl rfl (by omega) (by omega) (show (13 : Int).toNat = 13 from rfl)) Held.c ?_
   refine GT 28 536867635 rfl (by kernel_rfl) rfl rfl Gd.no (by first | exact Qt.ldc a5 rfl (by first | exact Rdc.o rfl | exact Rdc.o (nth_vIs (by omega)) | exact Rdc.o (nth_vI (by omega))) | exact Qt.ldF a5 rfl (hA.at' (nth_vI (by omega)))) Held.c ?_
   refine GT 29 1073738547 rfl (by kernel_rfl) rfl rfl Gd.no (Qt.mv rfl) Held.c ?_
   refine GT 30 2147480371 rfl (by kernel_rfl) rfl rfl Gd.no (by first | exact Qt.iab01 Try.underlying53 z5 rfl rfl (by omega) (by omega) (show (14 : Int).toNat = 14 from rfl) | exact Qt.ia1 Try.underlying53 z5 rfl rfl (by omega) (by omega) (show (14 : Int).toNat = 14 from rfl)) Held.c ?_
   refine GT 31 4294964019 rfl (by kernel_rfl) rfl rfl Gd.no (by first | exact Qt.ldc a5 rfl (by first | exact Rdc.o rfl | exact Rdc.o (nth_vIs (by omega)) | exact Rdc.o (nth_vI (by omega))) | exact Qt.ldF a5 rfl (hA.at' (nth_vI (by omega)))) Held.c ?_
   refine GT 32 8589931315 rfl (by kernel_rfl) rfl rfl Gd.no (Qt.mv rfl) Held.c ?_
   refine GT 33 17179865907 rfl (by kernel_rfl) rfl rfl Gd.no (by first | exact Qt.iab01 Try.underlying53 z5 rfl rfl (by omega) (by omega) (show (15 : Int).toNat = 15 from rfl) | exact Qt.ia1 Try.underlying53 z5 rfl rfl (by omega) (by omega) (show (15 : Int).toNat = 15 from rfl)) Held.c ?_
   refine GT 34 34359735091 rfl (by kernel_rfl) rfl rfl Gd.no (by first | exact Qt.ldc a5 rfl (by first | exact Rdc.o rfl | exact Rdc.o (nth_vIs (by omega)) | exact Rdc.o (nth_vI (by omega))) | exact Qt.ldF a5 rfl (hA.at' (nth_vI (by omega)))) Held.c ?_
   refine GT 35 68719473459 rfl (by kernel_rfl) rfl rfl Gd.no (Qt.buildA Try.underlying38 z5 ze38 (.cons rfl rfl (by first | exact Cl.one rfl | exact Cl.agg) rfl (SetM.cons SetAt.k0 (.nil _ _)) (.cons rfl rfl (by first | exact Cl.one rfl | exact Cl.agg) rfl (SetM.cons SetAt.k1 (.nil _ _)) (.cons rfl rfl (by first | exact Cl.one rfl | exact Cl.agg) rfl (SetM.cons SetAt.k2 (.nil _ _)) (.nil _))))) Held.c ?_
   refine GH.two (i := 2) (j := 37) (by kernel_rfl) rfl rfl  (rfl : _ = 68719473463) (rfl : _ = 206158426931) Gd.no Gd.no (Ld.call cal80 rfl rfl (.nil _) (fun F' hF => num_ct F' (some (A.add 0)) _ [ix xs 0, ix xs 1] (vw_cut2 (hA.mono hF) 0 (by omega)) (by simp) (bytes2 hb 0)) (fun _ _ => ?_)) (Ld.alloc rfl ze40 (by first | exact Cl.one rfl | exact Cl.agg) (fun b4 => ?_))
   ·skip
    dsimp only [lCa, lNa]
    rw [numL2]
    refine ⟨Held.c, ?_⟩
    refine GT 3 68719473471 rfl (by kernel_rfl) rfl rfl Gd.no (Qt.conv Try.underlying122 Try.underlying36 rfl (by first | exact u16_id (by omega) (by omega) | exact rfl)) Held.c ?_
    refine GH.two (i := 6) (j := 37) (by kernel_rfl) rfl rfl  (rfl : _ = 68719473535) (rfl : _ = 206158426943) Gd.no Gd.no (Ld.call cal80 rfl rfl (.nil _) (fun F' hF => num_ct F' (some (A.add 3)) _ [ix xs 3, ix xs 4, ix xs 5, ix xs 6] (vw_cut4 (hA.mono hF) 3 (by omega)) (by simp) (bytes4 hb 3)) (fun _ _ => ?_)) (Ld.alloc rfl ze40 (by first | exact Cl.one rfl | exact Cl.agg) (fun b4 => ?_))
    ·skip
     dsimp only [lCa, lNa]
     rw [numL4]
     refine ⟨Held.c, ?_⟩
     refine GT 7 68719473663 rfl (by kernel_rfl) rfl rfl Gd.no (Qt.conv Try.underlying122 Try.underlying37 rfl (by first | exact u32_id (by omega) (by omega) | exact rfl)) Held.c ?_
     refine GH.two (i := 10) (j := 37) (by kernel_rfl) rfl rfl  (rfl : _ = 68719474687) (rfl : _ = 206158427135) Gd.no Gd.no (Ld.call cal80 rfl rfl (.nil _) (fun F' hF => num_ct F' (some (A.add 7)) _ [ix xs 7, ix xs 8] (vw_cut2 (hA.mono hF) 7 (by omega)) (by simp) (bytes2 hb 7)) (fun _ _ => ?_)) (Ld.alloc rfl ze40 (by first | exact Cl.one rfl | exact Cl.agg) (fun b4 => ?_))
     ·skip
      dsimp only [lCa, lNa]
      rw [numL2]
      refine ⟨Held.c, ?_⟩
      refine GT 11 68719476735 rfl (by kernel_rfl) rfl rfl Gd.no (Qt.conv Try.underlying122 Try.underlying36 rfl (by first | exact u16_id (by omega) (by omega) | exact rfl)) Held.c ?_
      refine GT 36 137438953471 rfl (by kernel_rfl) rfl rfl Gd.no (Qt.buildS Try.underlying40 pl40 ze40 (.cons rfl rfl (by first | exact Cl.one rfl | exact Cl.agg) rfl (SetM.cons SetAt.k0 (.nil _ _)) (.cons rfl rfl (by first | exact Cl.one rfl | exact Cl.agg) rfl (SetM.cons SetAt.k1 (.nil _ _)) (.cons rfl rfl (by first | exact Cl.one rfl | exact Cl.agg) rfl (SetM.cons SetAt.k2 (.nil _ _)) (.cons rfl rfl (by first | exact Cl.one rfl | exact Cl.agg) rfl (SetM.cons SetAt.k3 (.nil _ _)) (.cons rfl rfl (by first | exact Cl.one rfl | exact Cl.agg) rfl (SetM.cons SetAt.k4 (.nil _ _)) (.cons rfl rfl (by first | exact Cl.one rfl | exact Cl.agg) rfl (SetM.cons SetAt.k5 (.nil _ _)) (.cons rfl rfl (by first | exact Cl.one rfl | exact Cl.agg) rfl (SetM.cons SetAt.k6 (.nil _ _)) (.cons rfl rfl (by first | exact Cl.one rfl | exact Cl.agg) rfl (by repeat constructor) (.nil _)))))))))) Held.c ?_
      refine GO 37 274877906943 (by kernel_rfl) rfl rfl Gd.no (Ld.alloc rfl ze40 (by first | exact Cl.one rfl | exact Cl.agg) (fun b4 => ?_))
      refine ⟨Held.c, ?_⟩
      refine GO 38 549755813887 (by kernel_rfl) rfl rfl Gd.no (Ld.stW (by exact z40) rfl rfl (by simp [Value.oneCell']) (E := 40) (by rfl) UpdC.u ?_)
      refine ⟨Held.c, ?_⟩
      refine GH.done (by kernel_rfl) ?_
      refine GK.then (GC.seq (GC.seq (GC.region ?_)))
      refine G.q Gd.no (Qt.ldW a40 rfl Rd.o z40) rfl ?_
      refine G.ld Gd.no (Ld.call cal58 rfl rfl (.nil _) (fun F' hF => rvalid_ct F' (evRaw xs)) (fun _ _ => ?_))
      dsimp only [lCa, lNa]
      refine G.q Gd.no (Qt.not rfl) rfl ?_
      refine G.nil (GK.then ?_)
      refine GC.condb rfl (fun c2 => ?_) (fun c2 => ?_)
      ·try simp only [sB0, sB1, sB2, sB3, sB4, sB5, sB6, sB7, sB8] at c2
       have c2 := c2
       refine GC.seq (GC.region ?_)
       refine G.q Gd.no (Qt.buildS Try.underlying40 pl40 ze40 (.nil _)) rfl ?_
       refine G.ld Gd.no (Ld.stW (by exact z40) rfl rfl (by simp [Value.oneCell']) (E := 40) (by rfl) UpdC.u ?_)
       refine G.q Gd.no (Qt.asg rfl) rfl ?_
       refine G.nil (GK.then (GC.ret (GK.thenr ?_)))
       refine GK.ret (rs := [.cell 2 40, .tmp 3]) rfl (.cellW rfl a40 (by exact z40) Rd.o (.tmp rfl .nil)) () ?_ ?_ (.nil _)
       ·trivial
       ·(rw [show evDec xs = (Ev.zero, 1) from by unfold evDec; rw [if_neg c1, if_neg (by simp [c2])]]; rfl)
      ·try simp only [sB0, sB1, sB2, sB3, sB4, sB5, sB6, sB7, sB8] at c2
       have c2 := c2
       refine GC.skip (GK.then (GC.seq (GC.region ?_)))
       refine G.q Gd.no (Qt.ldW a40 rfl Rd.o z40) rfl ?_
       refine G.ld Gd.no (Ld.stW (by exact z40) rfl rfl (by simp [Value.oneCell']) (E := 40) (by rfl) UpdC.u ?_)
       refine G.q Gd.no (Qt.asg rfl) rfl ?_
       refine G.nil (GK.then (GC.ret ?_))
       refine GK.ret (rs := [.cell 2 40, .tmp 3]) rfl (.cellW rfl a40 (by exact z40) Rd.o (.tmp rfl .nil)) () ?_ ?_ (.nil _)
       ·trivial
       ·(rw [show evDec xs = (evRaw xs, 0) from by unfold evDec; rw [if_neg c1, if_pos (by simpa using c2)]]; rfl)
     ·skip
      refine ⟨Held.c, ?_⟩
      refine GO 10 206158428159 (by kernel_rfl) rfl rfl Gd.no (Ld.call cal80 rfl rfl (.nil _) (fun F' hF => num_ct F' (some (A.add 7)) _ [ix xs 7, ix xs 8] (vw_cut2 (hA.mono hF) 7 (by omega)) (by simp) (bytes2 hb 7)) (fun _ _ => ?_))
      dsimp only [lCa, lNa]
      rw [numL2]
      refine ⟨Held.c, ?_⟩
      refine GT 11 206158430207 rfl (by kernel_rfl) rfl rfl Gd.no (Qt.conv Try.underlying122 Try.underlying36 rfl (by first | exact u16_id (by omega) (by omega) | exact rfl)) Held.c ?_
      refine GT 36 274877906943 rfl (by kernel_rfl) rfl rfl Gd.no (Qt.buildS Try.underlying40 pl40 ze40 (.cons rfl rfl (by first | exact Cl.one rfl | exact Cl.agg) rfl (SetM.cons SetAt.k0 (.nil _ _)) (.cons rfl rfl (by first | exact Cl.one rfl | exact Cl.agg) rfl (SetM.cons SetAt.k1 (.nil _ _)) (.cons rfl rfl (by first | exact Cl.one rfl | exact Cl.agg) rfl (SetM.cons SetAt.k2 (.nil _ _)) (.cons rfl rfl (by first | exact Cl.one rfl | exact Cl.agg) rfl (SetM.cons SetAt.k3 (.nil _ _)) (.cons rfl rfl (by first | exact Cl.one rfl | exact Cl.agg) rfl (SetM.cons SetAt.k4 (.nil _ _)) (.cons rfl rfl (by first | exact Cl.one rfl | exact Cl.agg) rfl (SetM.cons SetAt.k5 (.nil _ _)) (.cons rfl rfl (by first | exact Cl.one rfl | exact Cl.agg) rfl (SetM.cons SetAt.k6 (.nil _ _)) (.cons rfl rfl (by first | exact Cl.one rfl | exact Cl.agg) rfl (by repeat constructor) (.nil _)))))))))) Held.c ?_
      refine GO 38 549755813887 (by kernel_rfl) rfl rfl Gd.no (Ld.stW (by exact z40) rfl rfl (by simp [Value.oneCell']) (E := 40) (by rfl) UpdC.u ?_)
      refine ⟨Held.c, ?_⟩
      refine GH.done (by kernel_rfl) ?_
      refine GK.then (GC.seq (GC.seq (GC.region ?_)))
      refine G.q Gd.no (Qt.ldW a40 rfl Rd.o z40) rfl ?_
      refine G.ld Gd.no (Ld.call cal58 rfl rfl (.nil _) (fun F' hF => rvalid_ct F' (evRaw xs)) (fun _ _ => ?_))
      dsimp only [lCa, lNa]
      refine G.q Gd.no (Qt.not rfl) rfl ?_
      refine G.nil (GK.then ?_)
      refine GC.condb rfl (fun c3 => ?_) (fun c3 => ?_)
      ·try simp only [sB0, sB1, sB2, sB3, sB4, sB5, sB6, sB7, sB8] at c3
       have c2 := c3
       refine GC.seq (GC.region ?_)
       refine G.q Gd.no (Qt.buildS Try.underlying40 pl40 ze40 (.nil _)) rfl ?_
       refine G.ld Gd.no (Ld.stW (by exact z40) rfl rfl (by simp [Value.oneCell']) (E := 40) (by rfl) UpdC.u ?_)
       refine G.q Gd.no (Qt.asg rfl) rfl ?_
       refine G.nil (GK.then (GC.ret (GK.thenr ?_)))
       refine GK.ret (rs := [.cell 2 40, .tmp 3]) rfl (.cellW rfl a40 (by exact z40) Rd.o (.tmp rfl .nil)) () ?_ ?_ (.nil _)
       ·trivial
       ·(rw [show evDec xs = (Ev.zero, 1) from by unfold evDec; rw [if_neg c1, if_neg (by simp [c2])]]; rfl)
      ·try simp only [sB0, sB1, sB2, sB3, sB4, sB5, sB6, sB7, sB8] at c3
       have c2 := c3
       refine GC.skip (GK.then (GC.seq (GC.region ?_)))
       refine G.q Gd.no (Qt.ldW a40 rfl Rd.o z40) rfl ?_
       refine G.ld Gd.no (Ld.stW (by exact z40) rfl rfl (by simp [Value.oneCell']) (E := 40) (by rfl) UpdC.u ?_)
       refine G.q Gd.no (Qt.asg rfl) rfl ?_
       refine G.nil (GK.then (GC.ret ?_))
       refine GK.ret (rs := [.cell 2 40, .tmp 3]) rfl (.cellW rfl a40 (by exact z40) Rd.o (.tmp rfl .nil)) () ?_ ?_ (.nil _)
       ·trivial
       ·(rw [show evDec xs = (evRaw xs, 0) from by unfold evDec; rw [if_neg c1, if_pos (by simpa using c2)]]; rfl)
    ·skip
     refine ⟨Held.c, ?_⟩
     refine GO 6 206158427007 (by kernel_rfl) rfl rfl Gd.no (Ld.call cal80 rfl rfl (.nil _) (fun F' hF => num_ct F' (some (A.add 3)) _ [ix xs 3, ix xs 4, ix xs 5, ix xs 6] (vw_cut4 (hA.mono hF) 3 (by omega)) (by simp) (bytes4 hb 3)) (fun _ _ => ?_))
     dsimp only [lCa, lNa]
     rw [numL4]
     refine ⟨Held.c, ?_⟩
     refine GT 7 206158427135 rfl (by kernel_rfl) rfl rfl Gd.no (Qt.conv Try.underlying122 Try.underlying37 rfl (by first | exact u32_id (by omega) (by omega) | exact rfl)) Held.c ?_
     refine GO 10 206158428159 (by kernel_rfl) rfl rfl Gd.no (Ld.call cal80 rfl rfl (.nil _) (fun F' hF => num_ct F' (some (A.add 7)) _ [ix xs 7, ix xs 8] (vw_cut2 (hA.mono hF) 7 (by omega)) (by simp) (bytes2 hb 7)) (fun _ _ => ?_))
     dsimp only [lCa, lNa]
     rw [numL2]
     refine ⟨Held.c, ?_⟩
     refine GT 11 206158430207 rfl (by kernel_rfl) rfl rfl Gd.no (Qt.conv Try.underlying122 Try.underlying36 rfl (by first | exact u16_id (by omega) (by omega) | exact rfl)) Held.c ?_
     refine GT 36 274877906943 rfl (by kernel_rfl) rfl rfl Gd.no (Qt.buildS Try.underlying40 pl40 ze40 (.cons rfl rfl (by first | exact Cl.one rfl | exact Cl.agg) rfl (SetM.cons SetAt.k0 (.nil _ _)) (.cons rfl rfl (by first | exact Cl.one rfl | exact Cl.agg) rfl (SetM.cons SetAt.k1 (.nil _ _)) (.cons rfl rfl (by first | exact Cl.one rfl | exact Cl.agg) rfl (SetM.cons SetAt.k2 (.nil _ _)) (.cons rfl rfl (by first | exact Cl.one rfl | exact Cl.agg) rfl (SetM.cons SetAt.k3 (.nil _ _)) (.cons rfl rfl (by first | exact Cl.one rfl | exact Cl.agg) rfl (SetM.cons SetAt.k4 (.nil _ _)) (.cons rfl rfl (by first | exact Cl.one rfl | exact Cl.agg) rfl (SetM.cons SetAt.k5 (.nil _ _)) (.cons rfl rfl (by first | exact Cl.one rfl | exact Cl.agg) rfl (SetM.cons SetAt.k6 (.nil _ _)) (.cons rfl rfl (by first | exact Cl.one rfl | exact Cl.agg) rfl (by repeat constructor) (.nil _)))))))))) Held.c ?_
     refine GO 38 549755813887 (by kernel_rfl) rfl rfl Gd.no (Ld.stW (by exact z40) rfl rfl (by simp [Value.oneCell']) (E := 40) (by rfl) UpdC.u ?_)
     refine ⟨Held.c, ?_⟩
     refine GH.done (by kernel_rfl) ?_
     refine GK.then (GC.seq (GC.seq (GC.region ?_)))
     refine G.q Gd.no (Qt.ldW a40 rfl Rd.o z40) rfl ?_
     refine G.ld Gd.no (Ld.call cal58 rfl rfl (.nil _) (fun F' hF => rvalid_ct F' (evRaw xs)) (fun _ _ => ?_))
     dsimp only [lCa, lNa]
     refine G.q Gd.no (Qt.not rfl) rfl ?_
     refine G.nil (GK.then ?_)
     refine GC.condb rfl (fun c4 => ?_) (fun c4 => ?_)
     ·try simp only [sB0, sB1, sB2, sB3, sB4, sB5, sB6, sB7, sB8] at c4
      have c2 := c4
      refine GC.seq (GC.region ?_)
      refine G.q Gd.no (Qt.buildS Try.underlying40 pl40 ze40 (.nil _)) rfl ?_
      refine G.ld Gd.no (Ld.stW (by exact z40) rfl rfl (by simp [Value.oneCell']) (E := 40) (by rfl) UpdC.u ?_)
      refine G.q Gd.no (Qt.asg rfl) rfl ?_
      refine G.nil (GK.then (GC.ret (GK.thenr ?_)))
      refine GK.ret (rs := [.cell 2 40, .tmp 3]) rfl (.cellW rfl a40 (by exact z40) Rd.o (.tmp rfl .nil)) () ?_ ?_ (.nil _)
      ·trivial
      ·(rw [show evDec xs = (Ev.zero, 1) from by unfold evDec; rw [if_neg c1, if_neg (by simp [c2])]]; rfl)
     ·try simp only [sB0, sB1, sB2, sB3, sB4, sB5, sB6, sB7, sB8] at c4
      have c2 := c4
      refine GC.skip (GK.then (GC.seq (GC.region ?_)))
      refine G.q Gd.no (Qt.ldW a40 rfl Rd.o z40) rfl ?_
      refine G.ld Gd.no (Ld.stW (by exact z40) rfl rfl (by simp [Value.oneCell']) (E := 40) (by rfl) UpdC.u ?_)
      refine G.q Gd.no (Qt.asg rfl) rfl ?_
      refine G.nil (GK.then (GC.ret ?_))
      refine GK.ret (rs := [.cell 2 40, .tmp 3]) rfl (.cellW rfl a40 (by exact z40) Rd.o (.tmp rfl .nil)) () ?_ ?_ (.nil _)
      ·trivial
      ·(rw [show evDec xs = (evRaw xs, 0) from by unfold evDec; rw [if_neg c1, if_pos (by simpa using c2)]]; rfl)
   ·skip
    refine ⟨Held.c, ?_⟩
    refine GO 2 206158426935 (by kernel_rfl) rfl rfl Gd.no (Ld.call cal80 rfl rfl (.nil _) (fun F' hF => num_ct F' (some (A.add 0)) _ [ix xs 0, ix xs 1] (vw_cut2 (hA.mono hF) 0 (by omega)) (by simp) (bytes2 hb 0)) (fun _ _ => ?_))
    dsimp only [lCa, lNa]
    rw [numL2]
    refine ⟨Held.c, ?_⟩
    refine GT 3 206158426943 rfl (by kernel_rfl) rfl rfl Gd.no (Qt.conv Try.underlying122 Try.underlying36 rfl (by first | exact u16_id (by omega) (by omega) | exact rfl)) Held.c ?_
    refine GO 6 206158427007 (by kernel_rfl) rfl rfl Gd.no (Ld.call cal80 rfl rfl (.nil _) (fun F' hF => num_ct F' (some (A.add 3)) _ [ix xs 3, ix xs 4, ix xs 5, ix xs 6] (vw_cut4 (hA.mono hF) 3 (by omega)) (by simp) (bytes4 hb 3)) (fun _ _ => ?_))
    dsimp only [lCa, lNa]
    rw [numL4]
    refine ⟨Held.c, ?_⟩
    refine GT 7 206158427135 rfl (by kernel_rfl) rfl rfl Gd.no (Qt.conv Try.underlying122 Try.underlying37 rfl (by first | exact u32_id (by omega) (by omega) | exact rfl)) Held.c ?_
    refine GO 10 206158428159 (by kernel_rfl) rfl rfl Gd.no (Ld.call cal80 rfl rfl (.nil _) (fun F' hF => num_ct F' (some (A.add 7)) _ [ix xs 7, ix xs 8] (vw_cut2 (hA.mono hF) 7 (by omega)) (by simp) (bytes2 hb 7)) (fun _ _ => ?_))
    dsimp only [lCa, lNa]
    rw [numL2]
    refine ⟨Held.c, ?_⟩
    refine GT 11 206158430207 rfl (by kernel_rfl) rfl rfl Gd.no (Qt.conv Try.underlying122 Try.underlying36 rfl (by first | exact u16_id (by omega) (by omega) | exact rfl)) Held.c ?_
    refine GT 36 274877906943 rfl (by kernel_rfl) rfl rfl Gd.no (Qt.buildS Try.underlying40 pl40 ze40 (.cons rfl rfl (by first | exact Cl.one rfl | exact Cl.agg) rfl (SetM.cons SetAt.k0 (.nil _ _)) (.cons rfl rfl (by first | exact Cl.one rfl | exact Cl.agg) rfl (SetM.cons SetAt.k1 (.nil _ _)) (.cons rfl rfl (by first | exact Cl.one rfl | exact Cl.agg) rfl (SetM.cons SetAt.k2 (.nil _ _)) (.cons rfl rfl (by first | exact Cl.one rfl | exact Cl.agg) rfl (SetM.cons SetAt.k3 (.nil _ _)) (.cons rfl rfl (by first | exact Cl.one rfl | exact Cl.agg) rfl (SetM.cons SetAt.k4 (.nil _ _)) (.cons rfl rfl (by first | exact Cl.one rfl | exact Cl.agg) rfl (SetM.cons SetAt.k5 (.nil _ _)) (.cons rfl rfl (by first | exact Cl.one rfl | exact Cl.agg) rfl (SetM.cons SetAt.k6 (.nil _ _)) (.cons rfl rfl (by first | exact Cl.one rfl | exact Cl.agg) rfl (by repeat constructor) (.nil _)))))))))) Held.c ?_
    refine GO 38 549755813887 (by kernel_rfl) rfl rfl Gd.no (Ld.stW (by exact z40) rfl rfl (by simp [Value.oneCell']) (E := 40) (by rfl) UpdC.u ?_)
    refine ⟨Held.c, ?_⟩
    refine GH.done (by kernel_rfl) ?_
    refine GK.then (GC.seq (GC.seq (GC.region ?_)))
    refine G.q Gd.no (Qt.ldW a40 rfl Rd.o z40) rfl ?_
    refine G.ld Gd.no (Ld.call cal58 rfl rfl (.nil _) (fun F' hF => rvalid_ct F' (evRaw xs)) (fun _ _ => ?_))
    dsimp only [lCa, lNa]
    refine G.q Gd.no (Qt.not rfl) rfl ?_
    refine G.nil (GK.then ?_)
    refine GC.condb rfl (fun c5 => ?_) (fun c5 => ?_)
    ·try simp only [sB0, sB1, sB2, sB3, sB4, sB5, sB6, sB7, sB8] at c5
     have c2 := c5
     refine GC.seq (GC.region ?_)
     refine G.q Gd.no (Qt.buildS Try.underlying40 pl40 ze40 (.nil _)) rfl ?_
     refine G.ld Gd.no (Ld.stW (by exact z40) rfl rfl (by simp [Value.oneCell']) (E := 40) (by rfl) UpdC.u ?_)
     refine G.q Gd.no (Qt.asg rfl) rfl ?_
     refine G.nil (GK.then (GC.ret (GK.thenr ?_)))
     refine GK.ret (rs := [.cell 2 40, .tmp 3]) rfl (.cellW rfl a40 (by exact z40) Rd.o (.tmp rfl .nil)) () ?_ ?_ (.nil _)
     ·trivial
     ·(rw [show evDec xs = (Ev.zero, 1) from by unfold evDec; rw [if_neg c1, if_neg (by simp [c2])]]; rfl)
    ·try simp only [sB0, sB1, sB2, sB3, sB4, sB5, sB6, sB7, sB8] at c5
     have c2 := c5
     refine GC.skip (GK.then (GC.seq (GC.region ?_)))
     refine G.q Gd.no (Qt.ldW a40 rfl Rd.o z40) rfl ?_
     refine G.ld Gd.no (Ld.stW (by exact z40) rfl rfl (by simp [Value.oneCell']) (E := 40) (by rfl) UpdC.u ?_)
     refine G.q Gd.no (Qt.asg rfl) rfl ?_
     refine G.nil (GK.then (GC.ret ?_))
     refine GK.ret (rs := [.cell 2 40, .tmp 3]) rfl (.cellW rfl a40 (by exact z40) Rd.o (.tmp rfl .nil)) () ?_ ?_ (.nil _)
     ·trivial
     ·(rw [show evDec xs = (evRaw xs, 0) from by unfold evDec; rw [if_neg c1, if_pos (by simpa using c2)]]; rfl)
theorem someS {F : Fr} {A : Option Addr} {xs : List Ev} (h : VwF F A (xs.flatMap evC)) (hl : 0 < xs.length) : ∃ ad, A = some ad := by
  cases xs with
  | nil => simp at hl
  | cons x xs => exact h.some' (by simp [evC_len]; omega)
theorem slist_ct (F : Fr) (A B : Option Addr) (c d : Nat) (xs ys : List Ev) (hA : VwF F A (xs.flatMap evC)) (hB : VwF F B (ys.flatMap evC)) (hx : xs.length ≤ 1099511627776) (hy : ys.length ≤ 1099511627776) :
    Ct Try.prog F 19 [.slice A xs.length c, .slice B ys.length d] [] (S := Unit) (fun _ => True) (fun _ => .bool (decide (xs = ys))) (fun _ => []) := by
 refine Ct.of 26 [(0, _), (1, _)] Try.func19 rfl rfl rfl rfl ?_
 refine GC.seq (GC.region ?_)
 refine G.q Gd.no (Qt.asg rfl) rfl ?_
 refine G.nil (GK.then (GC.seq (GC.seq (GC.region ?_))))
 refine G.q Gd.no (Qt.mv rfl) rfl ?_
 refine G.q Gd.no (Qt.lenS (rt := 0) Try.underlying29 rfl) rfl ?_
 refine G.q Gd.no (Qt.mv rfl) rfl ?_
 refine G.q Gd.no (Qt.lenS (rt := 0) Try.underlying29 rfl) rfl ?_
 refine G.q Gd.no (Qt.neI rfl rfl) rfl ?_
 refine G.nil (GK.then ?_)
 refine GC.condb rfl (fun c0 => ?_) (fun c0 => ?_)
 ·try simp only [sB0, sB1, sB2, sB3, sB4, sB5, sB6, sB7, sB8] at c0
  refine GC.seq (GC.region ?_)
  refine G.q Gd.no (Qt.asg rfl) rfl ?_
  refine G.nil (GK.then (GC.ret (GK.thenr ?_)))
  refine GK.ret (rs := [.tmp 4]) rfl (.tmp rfl .nil) () ?_ ?_ (.nil _)
  ·trivial
  ·exact congrArg Value.bool (decide_eq_false (fun e => c0 (by rw [e]))).symm
 ·try simp only [sB0, sB1, sB2, sB3, sB4, sB5, sB6, sB7, sB8] at c0
  have hl : xs.length = ys.length := by omega
  refine GC.skip (GK.then (GC.seq (GC.seq (GC.region ?_))))
  refine G.q Gd.no (Qt.asg rfl) rfl ?_
  refine G.nil (GK.then (GC.block ?_))
  refine GC.loop (S := Nat) (fun x => x ≤ xs.length ∧ ∀ j : Nat, j < x → xs[j]? = ys[j]?) (fun x => xs.length - x)
   (fun x => [(0, .slice A xs.length c), (1, .slice B ys.length d), (5, .int .i64 (x : Int))]) (fun x => []) 0 ?_ ?_ ?_ ?_
  ·exact ⟨by omega, fun j h => by omega⟩
  ·exact ⟨rfl, rfl, rfl, trivial⟩
  ·exact ⟨_, (.nil _)⟩
  intro x ⟨hx1, hx2⟩
  refine GC.seq (GC.seq (GC.region ?_))
  refine G.q Gd.no (Qt.mv rfl) rfl ?_
  refine G.q Gd.no (Qt.mv rfl) rfl ?_
  refine G.q Gd.no (Qt.lenS (rt := 0) Try.underlying29 rfl) rfl ?_
  refine G.q Gd.no (Qt.lss rfl rfl) rfl ?_
  refine G.nil (GK.then ?_)
  refine GC.condb rfl (fun c1 => ?_) (fun c1 => ?_)
  ·try simp only [sB0, sB1, sB2, sB3, sB4, sB5, sB6, sB7, sB8] at c1
   have hlt : x < xs.length := by omega
   have hlt2 : x < ys.length := by omega
   obtain ⟨ad, hAd⟩ := someS hA (by omega)
   subst hAd
   obtain ⟨bd, hBd⟩ := someS hB (by omega)
   subst hBd
   obtain ⟨u, hu⟩ : ∃ u, xs[x]? = some u := ⟨_, List.getElem?_eq_getElem hlt⟩
   obtain ⟨v, hv⟩ : ∃ v, ys[x]? = some v := ⟨_, List.getElem?_eq_getElem hlt2⟩
   refine GC.skip (GK.then (GC.seq (GC.block (GC.seq ?_))))
   refine GC.draw mixed _ Held.all ?_
   refine GT 0 1 rfl (by kernel_rfl) rfl rfl Gd.no (Qt.mv rfl) Held.c ?_
   refine GT 1 3 rfl (by kernel_rfl) rfl rfl Gd.no (Qt.mv rfl) Held.c ?_
   refine GT 2 7 rfl (by kernel_rfl) rfl rfl Gd.no (Qt.ia Try.underlying29 z40 rfl rfl (by omega) (by omega) (show ((x : Nat) : Int).toNat = x from rfl)) Held.c ?_
   refine GT 3 15 rfl (by kernel_rfl) rfl rfl Gd.no (Qt.ldV a40 rfl z40 (vs := evC u) (hA.elem evC_len hu _)) Held.c ?_
   refine GT 4 31 rfl (by kernel_rfl) rfl rfl Gd.no (Qt.mv rfl) Held.c ?_
   refine GT 5 63 rfl (by kernel_rfl) rfl rfl Gd.no (Qt.mv rfl) Held.c ?_
   refine GT 6 127 rfl (by kernel_rfl) rfl rfl Gd.no (Qt.ia Try.underlying29 z40 rfl rfl (by omega) (by omega) (show ((x : Nat) : Int).toNat = x from rfl)) Held.c ?_
   refine GT 7 255 rfl (by kernel_rfl) rfl rfl Gd.no (Qt.ldV a40 rfl z40 (vs := evC v) (hB.elem evC_len hv _)) Held.c ?_
   refine GT 8 511 rfl (by kernel_rfl) rfl rfl Gd.no (Qt.neA Try.underlying40 si40 eg40 rfl rfl (.cons (by decide) (.leaf a36 rfl rfl (.int Try.underlying36)) (.cons (by decide) (.leaf a37 rfl rfl (.int Try.underlying37)) (.cons (by decide) (.leaf a36 rfl rfl (.int Try.underlying36)) (.cons (by decide) (.leaf a5 rfl rfl (.int Try.underlying5)) (.cons (by decide) (.leaf a5 rfl rfl (.int Try.underlying5)) (.cons (by decide) (.leaf a5 rfl rfl (.int Try.underlying5)) (.cons (by decide) (.leaf a4 rfl rfl (.bool Try.underlying4)) (.cons (by decide) (.arr a38 z38 rfl rfl Try.underlying38 z5 a5 (.cons rfl rfl (.int Try.underlying5) (.cons rfl rfl (.int Try.underlying5) (.cons rfl rfl (.int Try.underlying5) .nil)))) .nil))))))))) Held.c ?_
   rw [evEq]
   refine GH.done (by kernel_rfl) ?_
   refine GK.then ?_
   refine GC.condb rfl (fun c2 => ?_) (fun c2 => ?_)
   ·try simp only [sB0, sB1, sB2, sB3, sB4, sB5, sB6, sB7, sB8] at c2
    refine GC.seq (GC.region ?_)
    refine G.q Gd.no (Qt.asg rfl) rfl ?_
    refine G.nil (GK.then (GC.ret (GK.blockr (GK.thenr (GK.thenr (GK.blockr (GK.thenr ?_)))))))
    refine GK.ret (rs := [.tmp 4]) rfl (.tmp rfl .nil) () ?_ ?_ (.nil _)
    ·trivial
    ·exact congrArg Value.bool (same_no (k := x) (by rw [hu, hv]; intro e; exact c2 (Option.some.inj e))).symm
   ·try simp only [sB0, sB1, sB2, sB3, sB4, sB5, sB6, sB7, sB8] at c2
    refine GC.skip (GK.blockn (GK.then (GC.region ?_)))
    refine G.q Gd.no (Qt.mv rfl) rfl ?_
    refine G.q Gd.no (Qt.add rfl rfl (by first | exact i64_id (by omega) (by omega) | exact rfl)) rfl ?_
    refine G.q Gd.no (Qt.asg rfl) rfl ?_
    refine G.nil ?_
    refine GK.head (x + 1) ?_ ?_ ?_ ?_
    ·omega
    ·exact ⟨by omega, fun j h => by by_cases e : j < x; exact hx2 j e; rw [show j = x by omega, hu, hv]; exact congrArg some c2⟩
    ·exact ⟨rfl, rfl, rfl, trivial⟩
    ·exact ⟨_, (.nil _)⟩
  ·try simp only [sB0, sB1, sB2, sB3, sB4, sB5, sB6, sB7, sB8] at c1
   refine GC.exit (GK.thene (GK.thene (GK.blocke (GK.then (GC.seq (GC.region ?_))))))
   refine G.q Gd.no (Qt.asg rfl) rfl ?_
   refine G.nil (GK.then (GC.ret ?_))
   refine GK.ret (rs := [.tmp 4]) rfl (.tmp rfl .nil) () ?_ ?_ (.nil _)
   ·trivial
   ·exact congrArg Value.bool (same_yes hl (fun k hk => hx2 k (by omega))).symm
end Go.Proofs.Ytbeiciinppmekaa
