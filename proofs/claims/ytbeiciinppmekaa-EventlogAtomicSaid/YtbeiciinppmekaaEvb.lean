/-
  Number, Little and Same of baseboardref01, Encode, Decode and SameList of baseboardref07 do what the models say; each contract's conditions are its premises.
-/
import Derived.Test.YtbeiciinppmekaaTb
import Derived.Test.YtbeiciinppmekaaEvent
import Derived.Test.YtbeiciinppmekaaProg
namespace Go.Proofs.Ytbeiciinppmekaa
open Go Go.Sx Go.Proofs
set_option maxRecDepth 100000
set_option linter.unusedSimpArgs false
set_option linter.unusedVariables false
def litL (n : Nat) (v : Int) : List Int := (List.range n).map fun j => v / 256 ^ j % 256
theorem litL_length (n : Nat) (v : Int) : (litL n v).length = n := by simp [litL]
theorem Bytes.drop {xs : List Int} (h : Bytes xs) (n : Nat) : Bytes (xs.drop n) := fun x hx => h x (List.mem_of_mem_drop hx)
theorem same_no {α : Type} [DecidableEq α] {xs ys : List α} {k : Nat} (h : xs[k]? ≠ ys[k]?) : decide (xs = ys) = false := by
  rw [decide_eq_false_iff_not]
  rintro rfl
  exact h rfl
theorem same_yes {α : Type} [DecidableEq α] {xs ys : List α} (hl : xs.length = ys.length) (h : ∀ k, k < xs.length → xs[k]? = ys[k]?) : decide (xs = ys) = true := by
  rw [decide_eq_true_eq]
  apply List.ext_getElem? 
  intro k
  by_cases hk : k < xs.length
  · exact h k hk
  · rw [List.getElem?_eq_none (by omega), List.getElem?_eq_none (by omega)]
theorem someS {F : Fr} {A : Option Addr} {xs : List Ev} (h : VwF F A (xs.flatMap evC)) (hl : 0 < xs.length) : ∃ ad, A = some ad := by
  cases xs with
  | nil => simp at hl
  | cons x xs => exact h.some' (by simp [evC_len]; omega)
theorem slist_ct (F : Fr) (A B : Option Addr) (c d : Nat) (xs ys : List Ev) (hA : VwF F A (xs.flatMap evC)) (hB : VwF F B (ys.flatMap evC)) (hx : xs.length ≤ 1099511627776) (hy : ys.length ≤ 1099511627776) :
    Ct Try.prog F 19 [.slice A xs.length c, .slice B ys.length d] [] (S := Unit) (fun _ => True) (fun _ => .bool (decide (xs = ys))) (fun _ => []) := by
 refine Ct.of 26 [(0, _), (1, _)] Try.func19 rfl rfl rfl rfl ?_
 refine GC.seq (GC.region ?_)
 refine G.q Gd.no (Qt.asg rfl) rfl ?_
 refine G.nil (GK.then (GC.seq (GC.seq (GC.region ?_))))
 refine G.q Gd.no (Qt.mv rfl) rfl ?_
 refine G.q Gd.no (Qt.lenS (rt := 0) Try.underlying29 rfl) rfl ?_
 refine G.q Gd.no (Qt.mv rfl) rfl ?_
 refine G.q Gd.no (Qt.lenS (rt := 0) Try.underlying29 rfl) rfl ?_
 refine G.q Gd.no (Qt.neI rfl rfl) rfl ?_
 refine G.nil (GK.then ?_)
 refine GC.condb rfl (fun c0 => ?_) (fun c0 => ?_)
 ·try simp only [sB0, sB1, sB2, sB3, sB4, sB5, sB6, sB7, sB8] at c0
  refine GC.seq (GC.region ?_)
  refine G.q Gd.no (Qt.asg rfl) rfl ?_
  refine G.nil (GK.then (GC.ret (GK.thenr ?_)))
  refine GK.ret (rs := [.tmp 4]) rfl (.tmp rfl .nil) () ?_ ?_ (.nil _)
  ·trivial
  ·exact congrArg Value.bool (decide_eq_false (fun e => c0 (by rw [e]))).symm
 ·try simp only [sB0, sB1, sB2, sB3, sB4, sB5, sB6, sB7, sB8] at c0
  have hl : xs.length = ys.length := by omega
  refine GC.skip (GK.then (GC.seq (GC.seq (GC.region ?_))))
  refine G.q Gd.no (Qt.asg rfl) rfl ?_
  refine G.nil (GK.then (GC.block ?_))
  refine GC.loop (S := Nat) (fun x => x ≤ xs.length ∧ ∀ j : Nat, j < x → xs[j]? = ys[j]?) (fun x => xs.length - x)
   (fun x => [(0, .slice A xs.length c), (1, .slice B ys.length d), (5, .int .i64 (x : Int))]) (fun x => []) 0 ?_ ?_ ?_ ?_
  ·exact ⟨by omega, fun j h => by omega⟩
  ·exact ⟨rfl, rfl, rfl, trivial⟩
  ·exact ⟨_, (.nil _)⟩
  intro x ⟨hx1, hx2⟩
  refine GC.seq (GC.seq (GC.region ?_))
  refine G.q Gd.no (Qt.mv rfl) rfl ?_
  refine G.q Gd.no (Qt.mv rfl) rfl ?_
  refine G.q Gd.no (Qt.lenS (rt := 0) Try.underlying29 rfl) rfl ?_
  refine G.q Gd.no (Qt.lss rfl rfl) rfl ?_
  refine G.nil (GK.then ?_)
  refine GC.condb rfl (fun c1 => ?_) (fun c1 => ?_)
  ·try simp only [sB0, sB1, sB2, sB3, sB4, sB5, sB6, sB7, sB8] at c1
   have hlt : x < xs.length := by omega
   have hlt2 : x < ys.length := by omega
   obtain ⟨ad, hAd⟩ := someS hA (by omega)
   subst hAd
   obtain ⟨bd, hBd⟩ := someS hB (by omega)
   subst hBd
   obtain ⟨u, hu⟩ : ∃ u, xs[x]? = some u := ⟨_, List.getElem?_eq_getElem hlt⟩
   obtain ⟨v, hv⟩ : ∃ v, ys[x]? = some v := ⟨_, List.getElem?_eq_getElem hlt2⟩
   refine GC.skip (GK.then (GC.seq (GC.block (GC.seq ?_))))
   refine GC.draw mixed _ Held.all ?_
   refine GT 0 1 rfl (by kernel_rfl) rfl rfl Gd.no (Qt.mv rfl) Held.c ?_
   refine GT 1 3 rfl (by kernel_rfl) rfl rfl Gd.no (Qt.mv rfl) Held.c ?_
   refine GT 2 7 rfl (by kernel_rfl) rfl rfl Gd.no (Qt.ia Try.underlying29 z40 rfl rfl (by omega) (by omega) (show ((x : Nat) : Int).toNat = x from rfl)) Held.c ?_
   refine GT 3 15 rfl (by kernel_rfl) rfl rfl Gd.no (Qt.ldV a40 rfl z40 (vs := evC u) (hA.elem evC_len hu _)) Held.c ?_
   refine GT 4 31 rfl (by kernel_rfl) rfl rfl Gd.no (Qt.mv rfl) Held.c ?_
   refine GT 5 63 rfl (by kernel_rfl) rfl rfl Gd.no (Qt.mv rfl) Held.c ?_
   refine GT 6 127 rfl (by kernel_rfl) rfl rfl Gd.no (Qt.ia Try.underlying29 z40 rfl rfl (by omega) (by omega) (show ((x : Nat) : Int).toNat = x from rfl)) Held.c ?_
   refine GT 7 255 rfl (by kernel_rfl) rfl rfl Gd.no (Qt.ldV a40 rfl z40 (vs := evC v) (hB.elem evC_len hv _)) Held.c ?_
   refine GT 8 511 rfl (by kernel_rfl) rfl rfl Gd.no (Qt.neA Try.underlying40 si40 eg40 rfl rfl (.cons (by decide) (.leaf a36 rfl rfl (.int Try.underlying36)) (.cons (by decide) (.leaf a37 rfl rfl (.int Try.underlying37)) (.cons (by decide) (.leaf a36 rfl rfl (.int Try.underlying36)) (.cons (by decide) (.leaf a5 rfl rfl (.int Try.underlying5)) (.cons (by decide) (.leaf a5 rfl rfl (.int Try.underlying5)) (.cons (by decide) (.leaf a5 rfl rfl (.int Try.underlying5)) (.cons (by decide) (.leaf a4 rfl rfl (.bool Try.underlying4)) (.cons (by decide) (.arr a38 z38 rfl rfl Try.underlying38 z5 a5 (.cons rfl rfl (.int Try.underlying5) (.cons rfl rfl (.int Try.underlying5) (.cons rfl rfl (.int Try.underlying5) .nil)))) .nil))))))))) Held.c ?_
   rw [evEq]
   refine GH.done (by kernel_rfl) ?_
   refine GK.then ?_
   refine GC.condb rfl (fun c2 => ?_) (fun c2 => ?_)
   ·try simp only [sB0, sB1, sB2, sB3, sB4, sB5, sB6, sB7, sB8] at c2
    refine GC.seq (GC.region ?_)
    refine G.q Gd.no (Qt.asg rfl) rfl ?_
    refine G.nil (GK.then (GC.ret (GK.blockr (GK.thenr (GK.thenr (GK.blockr (GK.thenr ?_)))))))
    refine GK.ret (rs := [.tmp 4]) rfl (.tmp rfl .nil) () ?_ ?_ (.nil _)
    ·trivial
    ·exact congrArg Value.bool (same_no (k := x) (by rw [hu, hv]; intro e; exact c2 (Option.some.inj e))).symm
   ·try simp only [sB0, sB1, sB2, sB3, sB4, sB5, sB6, sB7, sB8] at c2
    refine GC.skip (GK.blockn (GK.then (GC.region ?_)))
    refine G.q Gd.no (Qt.mv rfl) rfl ?_
    refine G.q Gd.no (Qt.add rfl rfl (by first | exact i64_id (by omega) (by omega) | exact rfl)) rfl ?_
    refine G.q Gd.no (Qt.asg rfl) rfl ?_
    refine G.nil ?_
    refine GK.head (x + 1) ?_ ?_ ?_ ?_
    ·omega
    ·exact ⟨by omega, fun j h => by by_cases e : j < x; exact hx2 j e; rw [show j = x by omega, hu, hv]; exact congrArg some c2⟩
    ·exact ⟨rfl, rfl, rfl, trivial⟩
    ·exact ⟨_, (.nil _)⟩
  ·try simp only [sB0, sB1, sB2, sB3, sB4, sB5, sB6, sB7, sB8] at c1
   refine GC.exit (GK.thene (GK.thene (GK.blocke (GK.then (GC.seq (GC.region ?_))))))
   refine G.q Gd.no (Qt.asg rfl) rfl ?_
   refine G.nil (GK.then (GC.ret ?_))
   refine GK.ret (rs := [.tmp 4]) rfl (.tmp rfl .nil) () ?_ ?_ (.nil _)
   ·trivial
   ·exact congrArg Value.bool (same_yes hl (fun k hk => hx2 k (by omega))).symm
end Go.Proofs.Ytbeiciinppmekaa
