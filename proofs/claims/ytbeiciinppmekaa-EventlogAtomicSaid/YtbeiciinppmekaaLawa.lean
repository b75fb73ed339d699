/-
  The helpers of baseboardlaw09: geometry, light, endOf, same, sameDevice; each contract's conditions are its premises.
-/
import Derived.Test.YtbeiciinppmekaaTb
import Derived.Test.YtbeiciinppmekaaPlc
import Derived.Test.YtbeiciinppmekaaMade
import Derived.Test.YtbeiciinppmekaaSx13
import Derived.Test.YtbeiciinppmekaaProg
namespace Go.Proofs.Ytbeiciinppmekaa
open Go Go.Sx Go.Proofs
set_option maxRecDepth 100000
set_option linter.unusedSimpArgs false
set_option linter.unusedVariables false
theorem evEq_self (a : Ev) : (decide (a.id = a.id) && (decide (a.time = a.time) && (decide (a.gen = a.gen) && (decide (a.st = a.st) && (decide (a.sn = a.sn) && (decide (a.ty = a.ty) && ((a.de == a.de) && ((decide (a.d0 = a.d0) && (decide (a.d1 = a.d1) && (decide (a.d2 = a.d2) && true))) && true)))))))) = true := by rw [evEq]; simp
/-- A step of a script, and where its numbers lie. -/
structure Step where
  kind : Int
  n : Int
  torn : Int
  seed : List Int
  sA : Option Addr
  sc : Nat
  e : Ev
theorem geometry_ct (F : Fr) (a s : Int) :
    Ct Try.prog F 8 [.int .i64 a, .int .i64 s] [] (S := Unit) (fun _ => True) (fun _ => .tuple #[.int .i64 (2 + a % 3), .int .i64 (64 + s % 40)]) (fun _ => []) := by
 refine Ct.of 12 [(0, _), (1, _)] Try.func8 rfl rfl rfl rfl ?_
 refine GC.seq (GC.region ?_)
 refine G.q Gd.no (Qt.asg rfl) rfl ?_
 refine G.q Gd.no (Qt.asg rfl) rfl ?_
 refine G.nil (GK.then (GC.seq (GC.region ?_)))
 refine G.q Gd.no (Qt.mv rfl) rfl ?_
 refine G.ld Gd.no (Ld.call cal10 rfl rfl (.nil _) (fun F' hF => mod_ct F' a 3 (by omega) (by omega)) (fun _ _ => ?_))
 dsimp only [lCa, lNa]
 refine G.q Gd.no (Qt.add rfl rfl (by first | exact i64_id (by omega) (by omega) | exact rfl)) rfl ?_
 refine G.q Gd.no (Qt.mv rfl) rfl ?_
 refine G.ld Gd.no (Ld.call cal10 rfl rfl (.nil _) (fun F' hF => mod_ct F' s 40 (by omega) (by omega)) (fun _ _ => ?_))
 dsimp only [lCa, lNa]
 refine G.q Gd.no (Qt.add rfl rfl (by first | exact i64_id (by omega) (by omega) | exact rfl)) rfl ?_
 refine G.q Gd.no (Qt.asg rfl) rfl ?_
 refine G.q Gd.no (Qt.asg rfl) rfl ?_
 refine G.nil (GK.then (GC.ret ?_))
 refine GK.ret (rs := [.tmp 4, .tmp 5]) rfl (.tmp rfl (.tmp rfl .nil)) () ?_ ?_ (.nil _)
 ·trivial
 ·rfl
theorem endOf_ct (F : Fr) (A : Option Addr) (B : Option Addr) (c d : Nat) (xs ys : List Ev) (k : Nat) (hA : VwF F A (xs.flatMap evC)) (hB : VwF F B (ys.flatMap evC)) (hx : xs.length ≤ 1099511627776) (hy : ys.length ≤ 1099511627776) (hk : k ≤ ys.length) (hd : ys.length ≤ d) :
    Ct Try.prog F 20 [.slice A xs.length c, .slice B ys.length d, .int .i64 (k : Int)] [] (S := Unit) (fun _ => True) (fun _ => .bool (decide (xs = ys.drop k))) (fun _ => []) := by
 refine Ct.of 12 [(0, _), (1, _), (2, _)] Try.func20 rfl rfl rfl rfl ?_
 refine GC.seq (GC.region ?_)
 refine G.q Gd.no (Qt.asg rfl) rfl ?_
 refine G.nil (GK.then (GC.seq (GC.region ?_)))
 refine G.q Gd.no (Qt.mv rfl) rfl ?_
 refine G.q Gd.no (Qt.mv rfl) rfl ?_
 refine G.q Gd.no (Qt.mv rfl) rfl ?_
 refine G.q Gd.no (Qt.slL Try.underlying29 z40 rfl rfl (by omega) (by omega) rfl) rfl ?_
 rw [show ((k : Nat) : Int).toNat = k from rfl, show ys.length - k = (ys.drop k).length by rw [List.length_drop]]
 refine G.ld Gd.no (Ld.call cal19 rfl rfl (.nil _) (fun F' hF => slist_ct F' _ _ _ _ xs (ys.drop k) (hA.mono hF) ((VwF.slDrop hB (evC_len) hd).mono hF) (by omega) (by rw [List.length_drop]; omega)) (fun _ _ => ?_))
 dsimp only [lCa, lNa]
 refine G.q Gd.no (Qt.asg rfl) rfl ?_
 refine G.nil (GK.then (GC.ret ?_))
 refine GK.ret (rs := [.tmp 6]) rfl (.tmp rfl .nil) () ?_ ?_ (.nil _)
 ·trivial
 ·rfl
end Go.Proofs.Ytbeiciinppmekaa
