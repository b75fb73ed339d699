/-
  Library functions: math/bits.Mul64 on small numbers, slices.Repeat, Clone, IndexFunc, ContainsFunc; each contract's conditions are its premises.
-/
import Derived.Test.YtbeiciinppmekaaTb
import Derived.Test.YtbeiciinppmekaaProg
namespace Go.Proofs.Ytbeiciinppmekaa
open Go Go.Sx Go.Proofs
set_option maxRecDepth 100000
set_option linter.unusedSimpArgs false
set_option linter.unusedVariables false
/-- The first place at which p holds, or -1. -/
def fidx {α : Type} (p : α → Bool) (xs : List α) : Int := if xs.any p then (xs.findIdx p : Int) else -1
theorem fidx_hit {p : Int → Bool} {xs : List Int} {k : Nat} (hk : k < xs.length) (h : p (ix xs k) = true) (hb : ∀ j, j < k → p (ix xs j) = false) : fidx p xs = k := by
  have e : ∀ j (hj : j < xs.length), ix xs j = xs[j] := fun j hj => by simp [ix, hj]
  have h1 : xs.findIdx p = k := (List.findIdx_eq hk).2 ⟨by rw [← e]; exact h, fun j hj => by rw [← e]; exact hb j hj⟩
  have h2 : xs.any p = true := List.any_eq_true.2 ⟨xs[k], List.getElem_mem hk, by rw [← e]; exact h⟩
  simp [fidx, h1, h2]
theorem fidx_miss {p : Int → Bool} {xs : List Int} (hb : ∀ j, j < xs.length → p (ix xs j) = false) : fidx p xs = -1 := by
  have h2 : xs.any p = false := by
    rw [List.any_eq_false]
    intro x hx
    obtain ⟨j, hj, rfl⟩ := List.mem_iff_getElem.1 hx
    have := hb j hj
    simp [ix, hj] at this
    simp [this]
  simp [fidx, h2]
theorem fidx_ge {α : Type} (p : α → Bool) (xs : List α) : decide (0 ≤ fidx p xs) = xs.any p := by
  unfold fidx
  cases h : xs.any p
  · simp
  · simp
theorem mul64_ct (F : Fr) (x y : Int) (hx : 0 ≤ x) (hy : 0 ≤ y) (hx2 : x < 4294967296) (hy2 : y < 4294967296) (hxy : x * y < 4294967296) :
    Ct Try.prog F 97 [.int .u64 x, .int .u64 y] [] (S := Unit) (fun _ => True) (fun _ => .tuple #[.int .u64 0, .int .u64 (x * y)]) (fun _ => []) := by
 have h0 : 0 ≤ x * y := Int.mul_nonneg hx hy
 have m1 : band .u64 x 4294967295 = x := by rw [band_mask (k := .u64) (y := 4294967295) rfl 32 hx (by simp only [IntKind.bits]; omega) (by decide) (by decide)]; omega
 have m2 : band .u64 y 4294967295 = y := by rw [band_mask (k := .u64) (y := 4294967295) rfl 32 hy (by simp only [IntKind.bits]; omega) (by decide) (by decide)]; omega
 have m3 : ∀ z : Int, 0 ≤ z → z < 4294967296 → shrv .u64 z 32 = 0 := fun z h1 h2 => by rw [show (32 : Int) = ((32 : Nat) : Int) from rfl, shrv_lit 32 z (by decide)]; omega
 have m4 : shrv .u64 x 32 = 0 := m3 x hx hx2
 have m5 : shrv .u64 y 32 = 0 := m3 y hy hy2
 have m6 : shrv .u64 (x * y) 32 = 0 := m3 _ h0 hxy
 have m7 : IntKind.u64.wrap (x * y) = x * y := u64_id h0 (by omega)
 refine Ct.of 51 [(0, _), (1, _)] Try.func97 rfl rfl rfl rfl ?_
 refine GC.seq (GC.region ?_)
 refine G.q Gd.no (Qt.asg rfl) rfl ?_
 refine G.q Gd.no (Qt.asg rfl) rfl ?_
 refine G.nil (GK.then (GC.seq (GC.region ?_)))
 refine G.q Gd.no (Qt.mv rfl) rfl ?_
 refine G.q Gd.no (Qt.and rfl rfl) rfl ?_
 rw [m1]
 refine G.q Gd.no (Qt.asg rfl) rfl ?_
 refine G.nil (GK.then (GC.seq (GC.region ?_)))
 refine G.q Gd.no (Qt.mv rfl) rfl ?_
 refine G.q Gd.no (Qt.shr rfl rfl (by omega) m4) rfl ?_
 refine G.q Gd.no (Qt.asg rfl) rfl ?_
 refine G.nil (GK.then (GC.seq (GC.region ?_)))
 refine G.q Gd.no (Qt.mv rfl) rfl ?_
 refine G.q Gd.no (Qt.and rfl rfl) rfl ?_
 rw [m2]
 refine G.q Gd.no (Qt.asg rfl) rfl ?_
 refine G.nil (GK.then (GC.seq (GC.region ?_)))
 refine G.q Gd.no (Qt.mv rfl) rfl ?_
 refine G.q Gd.no (Qt.shr rfl rfl (by omega) m5) rfl ?_
 refine G.q Gd.no (Qt.asg rfl) rfl ?_
 refine G.nil (GK.then (GC.seq (GC.region ?_)))
 refine G.q Gd.no (Qt.mv rfl) rfl ?_
 refine G.q Gd.no (Qt.mv rfl) rfl ?_
 refine G.q Gd.no (Qt.mul rfl rfl (by exact m7)) rfl ?_
 refine G.q Gd.no (Qt.asg rfl) rfl ?_
 refine G.nil (GK.then (GC.seq (GC.region ?_)))
 refine G.q Gd.no (Qt.mv rfl) rfl ?_
 refine G.q Gd.no (Qt.mv rfl) rfl ?_
 refine G.q Gd.no (Qt.mul rfl rfl (by exact (show IntKind.u64.wrap (0 * y) = 0 from by rw [Int.zero_mul]; rfl))) rfl ?_
 refine G.q Gd.no (Qt.mv rfl) rfl ?_
 refine G.q Gd.no (Qt.shr rfl rfl (by omega) m6) rfl ?_
 refine G.q Gd.no (Qt.add rfl rfl (by exact (show IntKind.u64.wrap (0 + 0) = 0 from by decide))) rfl ?_
 refine G.q Gd.no (Qt.asg rfl) rfl ?_
 refine G.nil (GK.then (GC.seq (GC.region ?_)))
 refine G.q Gd.no (Qt.mv rfl) rfl ?_
 refine G.q Gd.no (Qt.and rfl rfl) rfl ?_
 rw [show band .u64 0 4294967295 = 0 from by decide]
 refine G.q Gd.no (Qt.asg rfl) rfl ?_
 refine G.nil (GK.then (GC.seq (GC.region ?_)))
 refine G.q Gd.no (Qt.mv rfl) rfl ?_
 refine G.q Gd.no (Qt.shr rfl rfl (by omega) (m3 0 (by omega) (by omega))) rfl ?_
 refine G.q Gd.no (Qt.asg rfl) rfl ?_
 refine G.nil (GK.then (GC.seq (GC.region ?_)))
 refine G.q Gd.no (Qt.mv rfl) rfl ?_
 refine G.q Gd.no (Qt.mv rfl) rfl ?_
 refine G.q Gd.no (Qt.mv rfl) rfl ?_
 refine G.q Gd.no (Qt.mul rfl rfl (by exact (show IntKind.u64.wrap (x * 0) = 0 from by rw [Int.mul_zero]; rfl))) rfl ?_
 refine G.q Gd.no (Qt.add rfl rfl (by exact (show IntKind.u64.wrap (0 + 0) = 0 from by decide))) rfl ?_
 refine G.q Gd.no (Qt.asg rfl) rfl ?_
 refine G.nil (GK.then (GC.seq (GC.region ?_)))
 refine G.q Gd.no (Qt.mv rfl) rfl ?_
 refine G.q Gd.no (Qt.mv rfl) rfl ?_
 refine G.q Gd.no (Qt.mul rfl rfl (by exact (show IntKind.u64.wrap (0 * 0) = 0 from by decide))) rfl ?_
 refine G.q Gd.no (Qt.mv rfl) rfl ?_
 refine G.q Gd.no (Qt.add rfl rfl (by exact (show IntKind.u64.wrap (0 + 0) = 0 from by decide))) rfl ?_
 refine G.q Gd.no (Qt.mv rfl) rfl ?_
 refine G.q Gd.no (Qt.shr rfl rfl (by omega) (m3 0 (by omega) (by omega))) rfl ?_
 refine G.q Gd.no (Qt.add rfl rfl (by exact (show IntKind.u64.wrap (0 + 0) = 0 from by decide))) rfl ?_
 refine G.q Gd.no (Qt.asg rfl) rfl ?_
 refine G.nil (GK.then (GC.seq (GC.region ?_)))
 refine G.q Gd.no (Qt.mv rfl) rfl ?_
 refine G.q Gd.no (Qt.mv rfl) rfl ?_
 refine G.q Gd.no (Qt.mul rfl rfl (by exact m7)) rfl ?_
 refine G.q Gd.no (Qt.asg rfl) rfl ?_
 refine G.nil (GK.then (GC.ret ?_))
 refine GK.ret (rs := [.tmp 4, .tmp 5]) rfl (.tmp rfl (.tmp rfl .nil)) () ?_ ?_ (.nil _)
 ·trivial
 ·rfl
theorem mul_ct (F : Fr) (x y : Int) (hx : 0 ≤ x) (hy : 0 ≤ y) (hx2 : x < 4294967296) (hy2 : y < 4294967296) (hxy : x * y < 4294967296) :
    Ct Try.prog F 78 [.int .u64 x, .int .u64 y] [] (S := Unit) (fun _ => True) (fun _ => .tuple #[.int .u64 0, .int .u64 (x * y)]) (fun _ => []) := by
 refine Ct.of 30 [(0, _), (1, _)] Try.func78 rfl rfl rfl rfl ?_
 refine GC.seq (GC.region ?_)
 refine G.q Gd.no (Qt.asg rfl) rfl ?_
 refine G.q Gd.no (Qt.asg rfl) rfl ?_
 refine G.nil (GK.then (GC.seq ?_))
 refine GC.condf rfl ?_
 refine GC.skip (GK.then (GC.seq (GC.region ?_)))
 refine G.q Gd.no (Qt.mv rfl) rfl ?_
 refine G.q Gd.no (Qt.mv rfl) rfl ?_
 refine G.ld Gd.no (Ld.call cal97 rfl rfl (.nil _) (fun F' hF => mul64_ct F' _ _ hx hy hx2 hy2 hxy) (fun _ _ => ?_))
 dsimp only [lCa, lNa]
 refine G.q Gd.no (Qt.mv rfl) rfl ?_
 refine G.q Gd.no (Qt.ext rfl rfl) rfl ?_
 refine G.q Gd.no (Qt.ext rfl rfl) rfl ?_
 refine G.q Gd.no (Qt.asg rfl) rfl ?_
 refine G.q Gd.no (Qt.asg rfl) rfl ?_
 refine G.nil (GK.then (GC.seq (GC.region ?_)))
 refine G.q Gd.no (Qt.mv rfl) rfl ?_
 refine G.q Gd.no (Qt.mv rfl) rfl ?_
 refine G.q Gd.no (Qt.asg rfl) rfl ?_
 refine G.q Gd.no (Qt.asg rfl) rfl ?_
 refine G.nil (GK.then (GC.ret ?_))
 refine GK.ret (rs := [.tmp 4, .tmp 5]) rfl (.tmp rfl (.tmp rfl .nil)) () ?_ ?_ (.nil _)
 ·trivial
 ·rfl
theorem cloneB_ct (F : Fr) (A : Option Addr) (c : Nat) (xs : List Int) (hA : VwF F A (vI .u8 xs)) (hx : xs.length ≤ 1099511627776) (hn : A ≠ none) :
    Ct Try.prog F 73 [.slice A xs.length c] [] (S := Nat × List Value) (fun _ => True) (fun x => .slice (some ⟨x.1, 0, none⟩) xs.length (xs.length + x.2.length)) (fun x => [(some x.1, .cells (vI .u8 xs ++ x.2) 5)]) := by
 obtain ⟨ad, rfl⟩ : ∃ ad, A = some ad := by cases A; exact absurd rfl hn; exact ⟨_, rfl⟩
 refine Ct.of 8 [(0, _)] Try.func73 rfl rfl rfl rfl ?_
 refine GC.seq (GC.region ?_)
 refine G.q Gd.no (Qt.asg rfl) rfl ?_
 refine G.nil (GK.then (GC.seq (GC.seq (GC.region ?_))))
 refine G.q Gd.no (Qt.mv rfl) rfl ?_
 refine G.q Gd.no (Qt.eqSn Try.underlying53 rfl rfl) rfl ?_
 refine G.nil (GK.then ?_)
 refine GC.condf rfl ?_
 refine GC.skip (GK.then (GC.seq (GC.region ?_)))
 refine G.ld Gd.no (Ld.bsl (xs := []) rfl Try.underlying53 z5 ze5 rfl rfl rfl rfl rfl (by simp [Value.oneCell']) (fun b5 => ?_))
 refine G.q Gd.no (Qt.mv rfl) rfl ?_
 refine G.ld Gd.no (Ld.appI (k := .u8) (ob := some b5) (xs := []) (sp := []) (ys := xs) (c := 0) Try.underlying53 z5 by5 ze5 rfl rfl rfl rfl (by first | exact Vw.all Rd.o | exact Vw.pre Rd.o | exact (VwF.vw (by assumption))) rfl (by intro e; cases e) (by simp only [List.length_append, List.length_cons, List.length_nil]; omega) (by simp only [List.length_append, List.length_cons, List.length_nil]; omega) (fun b' sp' => ?_))
 refine G.q Gd.no (Qt.asg rfl) rfl ?_
 refine G.nil (GK.then (GC.ret ?_))
 refine GK.ret (rs := [.tmp 2]) rfl (.tmp rfl .nil) (b', sp') ?_ ?_ (Tks.c (.nil _))
 ·trivial
 ·rfl
theorem indexB_ct (F : Fr) (A : Option Addr) (c : Nat) (xs : List Int) (hA : VwF F A (vI .u8 xs)) (hx : xs.length ≤ 1099511627776) (p : Int → Bool) (f : FuncId) (cap : List Value) (hcal : calB Try.prog f = true) (hp : ∀ F' R, Ext F F' R → ∀ n, Ct Try.prog F' f ([.int .u8 n] ++ cap) [] (fun _ : Unit => True) (fun _ => .bool (p n)) (fun _ => [])) :
    Ct Try.prog F 99 [.slice A xs.length c, .func (.func f) #[] cap.toArray] [] (S := Unit) (fun _ => True) (fun _ => .int .i64 (fidx p xs)) (fun _ => []) := by
 refine Ct.of 19 [(0, _), (1, _)] Try.func99 rfl rfl rfl rfl ?_
 refine GC.seq (GC.region ?_)
 refine G.q Gd.no (Qt.asg rfl) rfl ?_
 refine G.nil (GK.then (GC.seq (GC.seq (GC.region ?_))))
 refine G.q Gd.no (Qt.mv rfl) rfl ?_
 refine G.q Gd.no (Qt.lenS (rt := 0) Try.underlying53 rfl) rfl ?_
 refine G.q Gd.no (Qt.mv rfl) rfl ?_
 refine G.nil (GK.then (GC.block ?_))
 refine GC.loop (S := Int) (fun x => 0 ≤ x ∧ x ≤ xs.length ∧ ∀ j : Nat, (j : Int) < x → p (ix xs j) = false) (fun x => ((xs.length : Int) - x).toNat)
  (fun x => [(0, .slice A xs.length c), (1, .func (.func f) #[] cap.toArray), (7, .int .i64 xs.length), (8, .int .i64 x)]) (fun x => []) 0 ?_ ?_ ?_ ?_
 ·exact ⟨by omega, by omega, fun j h => by omega⟩
 ·exact ⟨rfl, rfl, rfl, rfl, trivial⟩
 ·exact ⟨_, (.nil _)⟩
 intro x ⟨h0, h1, hb⟩
 refine GC.seq (GC.region ?_)
 refine G.q Gd.no (Qt.lss rfl rfl) rfl ?_
 refine G.nil (GK.then (GC.seq ?_))
 refine GC.condb rfl (fun c0 => ?_) (fun c0 => ?_)
 ·try simp only [sB0, sB1, sB2, sB3, sB4, sB5, sB6, sB7, sB8] at c0
  have hlt : x.toNat < xs.length := by omega
  obtain ⟨ad, hAd⟩ := hA.some' (by rw [vI_length]; omega)
  subst hAd
  refine GC.skip (GK.then (GC.seq (GC.block (GC.seq (GC.region ?_)))))
  refine G.q Gd.no (Qt.mv rfl) rfl ?_
  refine G.q Gd.no (Qt.asg rfl) rfl ?_
  refine G.nil (GK.then (GC.seq (GC.region ?_)))
  refine G.q Gd.no (Qt.mv rfl) rfl ?_
  refine G.q Gd.no (Qt.mv rfl) rfl ?_
  refine G.q Gd.no (Qt.mv rfl) rfl ?_
  refine G.q Gd.no (Qt.ia1 Try.underlying53 z5 rfl rfl (by omega) (by omega) rfl) rfl ?_
  refine G.q Gd.no (Qt.ldF a5 rfl (hA.at' (nth_vI hlt))) rfl ?_
  refine G.ld Gd.no (Ld.callv (first := []) (cap := _) hcal rfl rfl rfl (.nil _) (fun F' hF => hp F' _ hF _) (fun _ _ => ?_))
  dsimp only [lCa, lNa]
  refine G.nil (GK.then ?_)
  refine GC.condb rfl (fun c1 => ?_) (fun c1 => ?_)
  ·try simp only [sB0, sB1, sB2, sB3, sB4, sB5, sB6, sB7, sB8] at c1
   refine GC.seq (GC.region ?_)
   refine G.q Gd.no (Qt.mv rfl) rfl ?_
   refine G.q Gd.no (Qt.asg rfl) rfl ?_
   refine G.nil (GK.then (GC.ret (GK.blockr (GK.thenr (GK.thenr (GK.blockr (GK.thenr ?_)))))))
   refine GK.ret (rs := [.tmp 4]) rfl (.tmp rfl .nil) () ?_ ?_ (.nil _)
   ·trivial
   ·exact congrArg (Value.int .i64) (by rw [fidx_hit hlt c1 (fun j hj => hb j (by omega))]; omega)
  ·try simp only [sB0, sB1, sB2, sB3, sB4, sB5, sB6, sB7, sB8] at c1
   refine GC.skip (GK.blockn (GK.then (GC.region ?_)))
   refine G.q Gd.no (Qt.add rfl rfl (by first | exact i64_id (by omega) (by omega) | exact rfl)) rfl ?_
   refine G.q Gd.no (Qt.mv rfl) rfl ?_
   refine G.nil ?_
   refine GK.head (x + 1) ?_ ?_ ?_ ?_
   ·omega
   ·exact ⟨by omega, by omega, fun j h => by by_cases e : (j : Int) < x; exact hb j e; rw [show j = x.toNat by omega]; exact c1⟩
   ·exact ⟨rfl, rfl, rfl, rfl, trivial⟩
   ·exact ⟨_, (.nil _)⟩
 ·try simp only [sB0, sB1, sB2, sB3, sB4, sB5, sB6, sB7, sB8] at c0
  refine GC.exit (GK.thene (GK.thene (GK.blocke (GK.then (GC.seq (GC.region ?_))))))
  refine G.q Gd.no (Qt.asg rfl) rfl ?_
  refine G.nil (GK.then (GC.ret ?_))
  refine GK.ret (rs := [.tmp 4]) rfl (.tmp rfl .nil) () ?_ ?_ (.nil _)
  ·trivial
  ·exact congrArg (Value.int .i64) (by rw [fidx_miss (fun j hj => hb j (by omega))])
theorem containsB_ct (F : Fr) (A : Option Addr) (c : Nat) (xs : List Int) (hA : VwF F A (vI .u8 xs)) (hx : xs.length ≤ 1099511627776) (p : Int → Bool) (f : FuncId) (cap : List Value) (hcal : calB Try.prog f = true) (hp : ∀ F' R, Ext F F' R → ∀ n, Ct Try.prog F' f ([.int .u8 n] ++ cap) [] (fun _ : Unit => True) (fun _ => .bool (p n)) (fun _ => [])) :
    Ct Try.prog F 94 [.slice A xs.length c, .func (.func f) #[] cap.toArray] [] (S := Unit) (fun _ => True) (fun _ => .bool (xs.any p)) (fun _ => []) := by
 refine Ct.of 9 [(0, _), (1, _)] Try.func94 rfl rfl rfl rfl ?_
 refine GC.seq (GC.region ?_)
 refine G.q Gd.no (Qt.asg rfl) rfl ?_
 refine G.nil (GK.then (GC.seq (GC.region ?_)))
 refine G.q Gd.no (Qt.mv rfl) rfl ?_
 refine G.q Gd.no (Qt.mv rfl) rfl ?_
 refine G.ld Gd.no (Ld.call cal99 rfl rfl (.nil _) (fun F' hF => indexB_ct F' A c xs (hA.mono hF) hx p f cap hcal (fun F2 R2 h2 n => hp F2 _ (hF.trans h2) n)) (fun _ _ => ?_))
 dsimp only [lCa, lNa]
 refine G.q Gd.no (Qt.geq rfl rfl) rfl ?_
 refine G.q Gd.no (Qt.asg rfl) rfl ?_
 refine G.nil (GK.then (GC.ret ?_))
 refine GK.ret (rs := [.tmp 4]) rfl (.tmp rfl .nil) () ?_ ?_ (.nil _)
 ·trivial
 ·exact congrArg Value.bool (fidx_ge p xs)
theorem rep_src (y : Int) (k m : Nat) (r : List Int) (hm : m ≤ k) (j : Nat) (v : Value) (h : (vI .u8 (List.replicate m y))[j]? = some v) : (vI .u8 (List.replicate k y ++ r))[0 + j]? = some v := by
  simp only [vI, List.map_replicate, List.map_append] at h ⊢
  rw [List.getElem?_replicate] at h
  split at h
  · rw [Nat.zero_add, List.getElem?_append_left (by simp; omega), List.getElem?_replicate, if_pos (by omega)]
    exact h
  · cases h
/-- A round of Repeat. -/
theorem rep_step (y : Int) (n k m : Nat) (h : k + m ≤ n) : (vI .u8 (List.replicate k y ++ List.replicate (n - k) 0)).take k ++ vI .u8 (List.replicate m y) ++ (vI .u8 (List.replicate k y ++ List.replicate (n - k) 0)).drop (k + (vI .u8 (List.replicate m y)).length) = vI .u8 (List.replicate (k + m) y ++ List.replicate (n - (k + m)) 0) := by
  have e1 : n - k - m = n - (k + m) := by omega
  simp only [vI, List.map_append, List.map_replicate, List.length_replicate]
  rw [List.take_append_of_le_length (by simp), List.take_of_length_le (by simp), List.drop_append]
  simp only [List.length_replicate, List.drop_replicate]
  rw [show k + m - k = m by omega, show k - (k + m) = 0 by omega, e1]
  simp
theorem repeat_ct (F : Fr) (b0 c : Nat) (y n : Int) (hb : F.h b0 = some (Blk.cells [.int .u8 y] 5).toObj) (h1 : 1 ≤ n) (h2 : n ≤ 1048576) :
    Ct Try.prog F 52 [.slice (some ⟨b0, 0, none⟩) 1 c, .int .i64 n] [] (S := Nat) (fun _ => True) (fun x => .slice (some ⟨x, 0, none⟩) n.toNat n.toNat) (fun x => [(some x, .cells (vI .u8 (List.replicate n.toNat y)) 5)]) := by
 refine Ct.of 48 [(0, _), (1, _)] Try.func52 rfl rfl rfl rfl ?_
 refine GC.seq (GC.region ?_)
 refine G.q Gd.no (Qt.asg rfl) rfl ?_
 refine G.nil (GK.then (GC.seq (GC.seq (GC.region ?_))))
 refine G.q Gd.no (Qt.mv rfl) rfl ?_
 refine G.q Gd.no (Qt.lss rfl rfl) rfl ?_
 refine G.nil (GK.then ?_)
 refine GC.condb rfl (fun c0 => ?_) (fun c0 => ?_)
 ·try simp only [sB0, sB1, sB2, sB3, sB4, sB5, sB6, sB7, sB8] at c0
  omega
 ·try simp only [sB0, sB1, sB2, sB3, sB4, sB5, sB6, sB7, sB8] at c0
  refine GC.skip (GK.then (GC.seq (GC.region ?_)))
  refine G.q Gd.no (Qt.mv rfl) rfl ?_
  refine G.q Gd.no (Qt.lenS (rt := 0) Try.underlying53 rfl) rfl ?_
  refine G.q Gd.no (Qt.conv Try.underlying3 Try.underlying113 rfl (by first | exact u64_id (by omega) (by omega) | exact rfl)) rfl ?_
  refine G.q Gd.no (Qt.mv rfl) rfl ?_
  refine G.q Gd.no (Qt.conv Try.underlying3 Try.underlying113 rfl (by first | exact u64_id (by omega) (by omega) | exact rfl)) rfl ?_
  refine G.ld Gd.no (Ld.call cal78 rfl rfl (.nil _) (fun F' hF => mul_ct F' _ _ (by omega) (by omega) (by omega) (by omega) (by omega)) (fun _ _ => ?_))
  dsimp only [lCa, lNa]
  rw [show ((1 : Nat) : Int) * n = n from by omega]
  refine G.q Gd.no (Qt.mv rfl) rfl ?_
  refine G.q Gd.no (Qt.ext rfl rfl) rfl ?_
  refine G.q Gd.no (Qt.ext rfl rfl) rfl ?_
  refine G.q Gd.no (Qt.asg rfl) rfl ?_
  refine G.q Gd.no (Qt.asg rfl) rfl ?_
  refine G.nil (GK.then (GC.seq (GC.seq (GC.region ?_))))
  refine G.q Gd.no (Qt.mv rfl) rfl ?_
  refine G.q Gd.no (Qt.gtr rfl rfl) rfl ?_
  refine G.q Gd.no (Qt.mv rfl) rfl ?_
  apply G.orb (seg := [_, _])
  exact rfl
  exact rfl
  exact rfl
  exact Gd.no
  exact rfl
  exact rfl
  ·intro g3; try simp only [sB0, sB1, sB2, sB3, sB4, sB5, sB6, sB7, sB8] at g3
   refine G.q (Gd.yes rfl rfl) (Qt.mv rfl) rfl ?_
   refine G.q (Gd.yes rfl rfl) (Qt.gtr rfl rfl) rfl ?_
   refine G.nil (GK.seg (n := [_, _]) rfl rfl rfl (by first | exact Tks.all _ | exact Tks.skip (Tks.all _) | exact Tks.skip (Tks.skip (Tks.all _)) | exact Tks.skip (Tks.skip (Tks.skip (Tks.all _)))))
  refine G.nil (GK.then ?_)
  refine GC.condb rfl (fun c1 => ?_) (fun c1 => ?_)
  ·try simp only [sB0, sB1, sB2, sB3, sB4, sB5, sB6, sB7, sB8] at c1
   omega
  ·try simp only [sB0, sB1, sB2, sB3, sB4, sB5, sB6, sB7, sB8] at c1
   refine GC.skip (GK.then (GC.seq (GC.region ?_)))
   refine G.q Gd.no (Qt.mv rfl) rfl ?_
   refine G.q Gd.no (Qt.conv Try.underlying113 Try.underlying3 rfl (by first | exact i64_id (by omega) (by omega) | exact rfl)) rfl ?_
   refine G.ld Gd.no (Ld.mks Try.underlying53 z5 by5 ze5 rfl rfl rfl rfl (by omega) rfl (by omega) (by omega) (fun b30 => ?_))
   refine G.q Gd.no (Qt.asg rfl) rfl ?_
   refine G.nil (GK.then (GC.seq (GC.region ?_)))
   refine G.q Gd.no (Qt.mv rfl) rfl ?_
   refine G.q Gd.no (Qt.mv rfl) rfl ?_
   refine G.ld Gd.no (Ld.cpy Try.underlying53 z5 rfl rfl rfl UpdC.u (Vw.all (Rd.fr hb)) (by simp; omega) (by simp; omega) (by simp [Value.oneCell']) ?_)
   have e0 : (List.replicate n.toNat (Value.int .u8 0)).take 0 ++ [Value.int .u8 y] ++ (List.replicate n.toNat (Value.int .u8 0)).drop (0 + [Value.int .u8 y].length) = vI .u8 (List.replicate 1 y ++ List.replicate (n.toNat - 1) 0) := by simp [vI]
   rw [e0]
   refine G.q Gd.no (Qt.asg rfl) rfl ?_
   refine G.nil (GK.then (GC.seq (GC.block ?_)))
   refine GC.loop (S := Nat) (fun x => 1 ≤ x ∧ x ≤ n.toNat) (fun x => n.toNat - x)
    (fun x => [(7, .slice (some ⟨b30, 0, none⟩) n.toNat n.toNat), (8, .int .i64 x)]) (fun x => [(some b30, .cells (vI .u8 (List.replicate x y ++ List.replicate (n.toNat - x) 0)) 5)]) 1 ?_ ?_ ?_ ?_
   ·exact ⟨by omega, by omega⟩
   ·exact ⟨rfl, rfl, trivial⟩
   ·exact ⟨_, (Tks.c (.nil _))⟩
   intro x ⟨h3, h4⟩
   refine GC.seq (GC.seq (GC.region ?_))
   refine G.q Gd.no (Qt.mv rfl) rfl ?_
   refine G.q Gd.no (Qt.mv rfl) rfl ?_
   refine G.q Gd.no (Qt.lenS (rt := 0) Try.underlying53 rfl) rfl ?_
   refine G.q Gd.no (Qt.lss rfl rfl) rfl ?_
   refine G.nil (GK.then ?_)
   refine GC.condb rfl (fun c2 => ?_) (fun c2 => ?_)
   ·try simp only [sB0, sB1, sB2, sB3, sB4, sB5, sB6, sB7, sB8] at c2
    refine GC.skip (GK.then (GC.block ?_))
    refine GC.draw mixed _ Held.none ?_
    refine GT 0 1 rfl (by kernel_rfl) rfl rfl Gd.no (Qt.mv rfl) Held.none ?_
    refine GT 1 3 rfl (by kernel_rfl) rfl rfl Gd.no (Qt.mv rfl) Held.none ?_
    refine GT 2 7 rfl (by kernel_rfl) rfl rfl Gd.no (Qt.mv rfl) Held.none ?_
    refine GT 3 15 rfl (by kernel_rfl) rfl rfl Gd.no (Qt.slL Try.underlying53 z5 rfl rfl (by omega) (by omega) rfl) Held.none ?_
    rw [slAt_some (by omega), show (0 + (x : Int).toNat * 1) = x by omega]
    refine GT 4 31 rfl (by kernel_rfl) rfl rfl Gd.no (Qt.mv rfl) Held.none ?_
    refine GT 5 63 rfl (by kernel_rfl) rfl rfl Gd.no (Qt.mv rfl) Held.none ?_
    refine GT 6 127 rfl (by kernel_rfl) rfl rfl Gd.no (Qt.slH Try.underlying53 z5 rfl rfl (by omega) (by omega) rfl) Held.none ?_
    refine GO 7 255 (by kernel_rfl) rfl rfl Gd.no (Ld.cpy Try.underlying53 z5 rfl rfl rfl UpdC.u (Vw.blk (cs := vI .u8 (List.replicate (min (n.toNat - x) x) y)) Rd.o (rep_src y x _ _ (by omega))) (by simp [vI]; omega) (by simp [vI]; omega) vI_one ?_)
    rw [rep_step y n.toNat x (min (n.toNat - x) x) (by omega), show (vI .u8 (List.replicate (min (n.toNat - x) x) y)).length = min (n.toNat - x) x from by simp [vI]]
    refine ⟨Held.none, ?_⟩
    refine GT 8 511 rfl (by kernel_rfl) rfl rfl Gd.no (Qt.add rfl rfl (by first | exact i64_id (by omega) (by omega) | exact rfl)) Held.none ?_
    refine GT 9 1023 rfl (by kernel_rfl) rfl rfl Gd.no (Qt.asg rfl) Held.none ?_
    refine GH.done (by kernel_rfl) ?_
    refine GK.blockn ?_
    refine GK.head (x + min (n.toNat - x) x) ?_ ?_ ?_ ?_
    ·omega
    ·exact ⟨by omega, by omega⟩
    ·exact ⟨rfl, rfl, trivial⟩
    ·exact ⟨_, (Tks.c (.nil _))⟩
   ·try simp only [sB0, sB1, sB2, sB3, sB4, sB5, sB6, sB7, sB8] at c2
    refine GC.exit (GK.thene (GK.thene (GK.blocke (GK.then (GC.seq (GC.region ?_))))))
    refine G.q Gd.no (Qt.mv rfl) rfl ?_
    refine G.q Gd.no (Qt.asg rfl) rfl ?_
    refine G.nil (GK.then (GC.ret ?_))
    obtain rfl : x = n.toNat := by omega
    simp only [Nat.sub_self, List.replicate_zero, List.append_nil]
    refine GK.ret (rs := [.tmp 4]) rfl (.tmp rfl .nil) b30 ?_ ?_ (Tks.c (.nil _))
    ·trivial
    ·rfl
end Go.Proofs.Ytbeiciinppmekaa
