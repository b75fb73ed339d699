/-
  The helpers of baseboardlaw09: geometry, light, endOf, same, sameDevice; each contract's conditions are its premises.
-/
import Derived.Test.YtbeiciinppmekaaTb
import Derived.Test.YtbeiciinppmekaaPlc
import Derived.Test.YtbeiciinppmekaaMade
import Derived.Test.YtbeiciinppmekaaSx13
import Derived.Test.YtbeiciinppmekaaProg
namespace Go.Proofs.Ytbeiciinppmekaa
open Go Go.Sx Go.Proofs
set_option maxRecDepth 100000
set_option linter.unusedSimpArgs false
set_option linter.unusedVariables false


theorem ne_self (a : Int) : decide (¬ a = a) = false := by simp
theorem eq_self (a : Int) : decide (a = a) = true := by simp
theorem neB_self (b : Bool) : (!(b == b)) = false := by cases b <;> rfl
theorem eqB_self (b : Bool) : (b == b) = true := by cases b <;> rfl
theorem evEq_self (a : Ev) : (decide (a.id = a.id) && (decide (a.time = a.time) && (decide (a.gen = a.gen) && (decide (a.st = a.st) && (decide (a.sn = a.sn) && (decide (a.ty = a.ty) && ((a.de == a.de) && ((decide (a.d0 = a.d0) && (decide (a.d1 = a.d1) && (decide (a.d2 = a.d2) && true))) && true)))))))) = true := by rw [evEq]; simp
/-- A step of a script, and where its numbers lie. -/
structure Step where
  kind : Int
  n : Int
  torn : Int
  seed : List Int
  sA : Option Addr
  sc : Nat
  e : Ev
def doC (d : Step) : List Value := [.int .i64 d.kind, .int .i64 d.n, .int .u8 d.torn, .slice d.sA d.seed.length d.sc] ++ evC d.e
theorem doC_len (d : Step) : (doC d).length = 14 := rfl
theorem doC_one (d : Step) : ∀ v ∈ doC d, v.oneCell' = true := by
  intro v hv
  unfold doC at hv
  rcases List.mem_append.1 hv with hv | hv
  · simp at hv; rcases hv with rfl | rfl | rfl | rfl <;> rfl
  · exact evC_one _ v hv
def lightL (l : List Step) : Bool := decide (l.length ≤ 60) && l.all fun d => decide (d.seed.length ≤ 40)
theorem someDo {F : Fr} {A : Option Addr} {xs : List Step} (h : VwF F A (xs.flatMap doC)) (hl : 0 < xs.length) : ∃ ad, A = some ad := by
  cases xs with
  | nil => simp at hl
  | cons x xs => exact h.some' (by simp [doC_len]; omega)
theorem light_no {l : List Step} {k : Nat} {d : Step} (h : l[k]? = some d) (hd : 40 < d.seed.length) : lightL l = false := by
  unfold lightL
  have : l.all (fun d => decide (d.seed.length ≤ 40)) = false := by
    rw [List.all_eq_false]
    exact ⟨d, List.mem_of_getElem? h, by simp; omega⟩
  rw [this, Bool.and_false]
theorem light_yes {l : List Step} (h0 : l.length ≤ 60) (h : ∀ k d, k < l.length → l[k]? = some d → d.seed.length ≤ 40) : lightL l = true := by
  unfold lightL
  rw [Bool.and_eq_true]
  refine ⟨by simpa using h0, ?_⟩
  rw [List.all_eq_true]
  intro d hd
  obtain ⟨k, hk, rfl⟩ := List.mem_iff_getElem.1 hd
  have := h k l[k] hk (List.getElem?_eq_getElem hk)
  simpa using this
theorem light_out {l : List Step} (h : lightL l = true) : l.length ≤ 60 ∧ ∀ d ∈ l, d.seed.length ≤ 40 := by
  unfold lightL at h
  rw [Bool.and_eq_true, List.all_eq_true] at h
  exact ⟨by simpa using h.1, fun d hd => by simpa using h.2 d hd⟩
/-- A field of an element of a view. -/
theorem vw_fld {F : Fr} {A : Addr} {xs : List Step} (h : VwF F (some A) (xs.flatMap doC)) {i : Nat} {d : Step} (hi : xs[i]? = some d) {k : Nat} {v : Value} (hk : (doC d)[k]? = some v) : F.cell ((A.add (i * 14)).add k) = some v := by
  rw [add_add]
  refine h.at' ?_
  have hlt : k < 14 := (List.getElem?_eq_some_iff.1 hk).1
  have := nth_flatMap (sp := []) doC_len hi hlt
  rw [List.append_nil] at this
  rw [this]; exact hk

theorem geometry_ct (F : Fr) (a s : Int) :
    Ct Try.prog F 8 [.int .i64 a, .int .i64 s] [] (S := Unit) (fun _ => True) (fun _ => .tuple #[.int .i64 (2 + a % 3), .int .i64 (64 + s % 40)]) (fun _ => []) := by
 refine Ct.of 12 [(0, _), (1, _)] Try.func8 rfl rfl rfl rfl ?_
 refine GC.seq (GC.region ?_)
 refine G.q Gd.no (Qt.asg rfl) rfl ?_
 refine G.q Gd.no (Qt.asg rfl) rfl ?_
 refine G.nil (GK.then (GC.seq (GC.region ?_)))
 refine G.q Gd.no (Qt.mv rfl) rfl ?_
 refine G.ld Gd.no (Ld.call cal10 rfl rfl (.nil _) (fun F' hF => mod_ct F' a 3 (by omega) (by omega)) (fun _ _ => ?_))
 dsimp only [lCa, lNa]
 refine G.q Gd.no (Qt.add rfl rfl (by first | exact i64_id (by omega) (by omega) | exact rfl)) rfl ?_
 refine G.q Gd.no (Qt.mv rfl) rfl ?_
 refine G.ld Gd.no (Ld.call cal10 rfl rfl (.nil _) (fun F' hF => mod_ct F' s 40 (by omega) (by omega)) (fun _ _ => ?_))
 dsimp only [lCa, lNa]
 refine G.q Gd.no (Qt.add rfl rfl (by first | exact i64_id (by omega) (by omega) | exact rfl)) rfl ?_
 refine G.q Gd.no (Qt.asg rfl) rfl ?_
 refine G.q Gd.no (Qt.asg rfl) rfl ?_
 refine G.nil (GK.then (GC.ret ?_))
 refine GK.ret (rs := [.tmp 4, .tmp 5]) rfl (.tmp rfl (.tmp rfl .nil)) () ?_ ?_ (.nil _)
 ·trivial
 ·rfl

theorem light_ct (F : Fr) (A : Option Addr) (c : Nat) (l : List Step) (hA : VwF F A (l.flatMap doC)) :
    Ct Try.prog F 29 [.slice A l.length c] [] (S := Unit) (fun _ => True) (fun _ => .bool (lightL l)) (fun _ => []) := by
 refine Ct.of 20 [(0, _)] Try.func29 rfl rfl rfl rfl ?_
 refine GC.seq (GC.region ?_)
 refine G.q Gd.no (Qt.asg rfl) rfl ?_
 refine G.nil (GK.then (GC.seq (GC.seq (GC.region ?_))))
 refine G.q Gd.no (Qt.mv rfl) rfl ?_
 refine G.q Gd.no (Qt.lenS (rt := 0) Try.underlying66 rfl) rfl ?_
 refine G.q Gd.no (Qt.gtr rfl rfl) rfl ?_
 refine G.nil (GK.then ?_)
 refine GC.condb rfl (fun c0 => ?_) (fun c0 => ?_)
 ·try simp only [sB0, sB1, sB2, sB3, sB4, sB5, sB6, sB7, sB8] at c0
  refine GC.seq (GC.region ?_)
  refine G.q Gd.no (Qt.asg rfl) rfl ?_
  refine G.nil (GK.then (GC.ret (GK.thenr ?_)))
  rw [show lightL l = false from by unfold lightL; rw [decide_eq_false (by omega), Bool.false_and]]
  refine GK.ret (rs := [.tmp 2]) rfl (.tmp rfl .nil) () ?_ ?_ (.nil _)
  ·trivial
  ·rfl
 ·try simp only [sB0, sB1, sB2, sB3, sB4, sB5, sB6, sB7, sB8] at c0
  refine GC.skip (GK.then (GC.seq (GC.seq (GC.region ?_))))
  refine G.q Gd.no (Qt.asg rfl) rfl ?_
  refine G.nil (GK.then (GC.block ?_))
  refine GC.loop (S := Nat) (fun x => x ≤ l.length ∧ ∀ k d, k < x → l[k]? = some d → d.seed.length ≤ 40) (fun x => l.length - x)
   (fun x => [(0, .slice A l.length c), (3, .int .i64 (x : Int))]) (fun x => []) 0 ?_ ?_ ?_ ?_
  ·exact ⟨by omega, fun k d h => by omega⟩
  ·exact ⟨rfl, rfl, trivial⟩
  ·exact ⟨_, (.nil _)⟩
  intro x ⟨h1, h2⟩
  refine GC.seq (GC.seq (GC.region ?_))
  refine G.q Gd.no (Qt.mv rfl) rfl ?_
  refine G.q Gd.no (Qt.mv rfl) rfl ?_
  refine G.q Gd.no (Qt.lenS (rt := 0) Try.underlying66 rfl) rfl ?_
  refine G.q Gd.no (Qt.lss rfl rfl) rfl ?_
  refine G.nil (GK.then ?_)
  refine GC.condb rfl (fun c1 => ?_) (fun c1 => ?_)
  ·try simp only [sB0, sB1, sB2, sB3, sB4, sB5, sB6, sB7, sB8] at c1
   obtain ⟨ad, hAd⟩ := someDo hA (by omega)
   subst hAd
   obtain ⟨u, hu⟩ : ∃ u, l[x]? = some u := ⟨_, List.getElem?_eq_getElem (by omega)⟩
   refine GC.skip (GK.then (GC.seq (GC.block (GC.seq (GC.region ?_)))))
   refine G.q Gd.no (Qt.mv rfl) rfl ?_
   refine G.q Gd.no (Qt.mv rfl) rfl ?_
   refine G.q Gd.no (Qt.ia Try.underlying66 z69 rfl rfl (by omega) (by omega) (show ((x : Nat) : Int).toNat = x from rfl)) rfl ?_
   refine G.q Gd.no (Qt.faA fl69_3 rfl) rfl ?_
   refine G.q Gd.no (Qt.ldF a22 rfl (vw_fld hA hu (k := 3) rfl)) rfl ?_
   refine G.q Gd.no (Qt.lenS (rt := 0) Try.underlying22 rfl) rfl ?_
   refine G.q Gd.no (Qt.gtr rfl rfl) rfl ?_
   refine G.nil (GK.then ?_)
   refine GC.condb rfl (fun c2 => ?_) (fun c2 => ?_)
   ·try simp only [sB0, sB1, sB2, sB3, sB4, sB5, sB6, sB7, sB8] at c2
    refine GC.seq (GC.region ?_)
    refine G.q Gd.no (Qt.asg rfl) rfl ?_
    refine G.nil (GK.then (GC.ret (GK.blockr (GK.thenr (GK.thenr (GK.blockr (GK.thenr ?_)))))))
    rw [light_no hu (by omega)]
    refine GK.ret (rs := [.tmp 2]) rfl (.tmp rfl .nil) () ?_ ?_ (.nil _)
    ·trivial
    ·rfl
   ·try simp only [sB0, sB1, sB2, sB3, sB4, sB5, sB6, sB7, sB8] at c2
    refine GC.skip (GK.blockn (GK.then (GC.region ?_)))
    refine G.q Gd.no (Qt.mv rfl) rfl ?_
    refine G.q Gd.no (Qt.add rfl rfl (by first | exact i64_id (by omega) (by omega) | exact rfl)) rfl ?_
    refine G.q Gd.no (Qt.asg rfl) rfl ?_
    refine G.nil ?_
    refine GK.head (x + 1) ?_ ?_ ?_ ?_
    ·omega
    ·exact ⟨by omega, fun k d hk he => by by_cases e : k < x; exact h2 k d e he; rw [show k = x by omega, hu] at he; cases he; omega⟩
    ·exact ⟨rfl, rfl, trivial⟩
    ·exact ⟨_, (.nil _)⟩
  ·try simp only [sB0, sB1, sB2, sB3, sB4, sB5, sB6, sB7, sB8] at c1
   refine GC.exit (GK.thene (GK.thene (GK.blocke (GK.then (GC.seq (GC.region ?_))))))
   refine G.q Gd.no (Qt.asg rfl) rfl ?_
   refine G.nil (GK.then (GC.ret ?_))
   rw [light_yes (by omega) (fun k d hk he => h2 k d (by omega) he)]
   refine GK.ret (rs := [.tmp 2]) rfl (.tmp rfl .nil) () ?_ ?_ (.nil _)
   ·trivial
   ·rfl

theorem endOf_ct (F : Fr) (A : Option Addr) (B : Option Addr) (c d : Nat) (xs ys : List Ev) (k : Nat) (hA : VwF F A (xs.flatMap evC)) (hB : VwF F B (ys.flatMap evC)) (hx : xs.length ≤ 1099511627776) (hy : ys.length ≤ 1099511627776) (hk : k ≤ ys.length) (hd : ys.length ≤ d) :
    Ct Try.prog F 20 [.slice A xs.length c, .slice B ys.length d, .int .i64 (k : Int)] [] (S := Unit) (fun _ => True) (fun _ => .bool (decide (xs = ys.drop k))) (fun _ => []) := by
 refine Ct.of 12 [(0, _), (1, _), (2, _)] Try.func20 rfl rfl rfl rfl ?_
 refine GC.seq (GC.region ?_)
 refine G.q Gd.no (Qt.asg rfl) rfl ?_
 refine G.nil (GK.then (GC.seq (GC.region ?_)))
 refine G.q Gd.no (Qt.mv rfl) rfl ?_
 refine G.q Gd.no (Qt.mv rfl) rfl ?_
 refine G.q Gd.no (Qt.mv rfl) rfl ?_
 refine G.q Gd.no (Qt.slL Try.underlying29 z40 rfl rfl (by omega) (by omega) rfl) rfl ?_
 rw [show ((k : Nat) : Int).toNat = k from rfl, show ys.length - k = (ys.drop k).length by rw [List.length_drop]]
 refine G.ld Gd.no (Ld.call cal19 rfl rfl (.nil _) (fun F' hF => slist_ct F' _ _ _ _ xs (ys.drop k) (hA.mono hF) ((VwF.slDrop hB (evC_len) hd).mono hF) (by omega) (by rw [List.length_drop]; omega)) (fun _ _ => ?_))
 dsimp only [lCa, lNa]
 refine G.q Gd.no (Qt.asg rfl) rfl ?_
 refine G.nil (GK.then (GC.ret ?_))
 refine GK.ret (rs := [.tmp 6]) rfl (.tmp rfl .nil) () ?_ ?_ (.nil _)
 ·trivial
 ·rfl

end Go.Proofs.Ytbeiciinppmekaa
