/-
  slices.IndexFunc and slices.DeleteFunc on records, under any pure predicate; each contract's conditions are its premises.
-/
import Derived.Test.YtbeiciinppmekaaTb
import Derived.Test.YtbeiciinppmekaaLogb
import Derived.Test.YtbeiciinppmekaaProg
namespace Go.Proofs.Ytbeiciinppmekaa
open Go Go.Sx Go.Proofs
set_option maxRecDepth 100000
set_option linter.unusedSimpArgs false
set_option linter.unusedVariables false
theorem fidx_hitG {α : Type} {p : α → Bool} {xs : List α} {k : Nat} {x : α} (hx : xs[k]? = some x) (h : p x = true) (hb : ∀ j y, j < k → xs[j]? = some y → p y = false) : fidx p xs = k := by
  obtain ⟨hk, e⟩ := List.getElem?_eq_some_iff.1 hx
  have h1 : xs.findIdx p = k := (List.findIdx_eq hk).2 ⟨by rw [e]; exact h, fun j hj => hb j _ hj (List.getElem?_eq_getElem (by omega))⟩
  have h2 : xs.any p = true := List.any_eq_true.2 ⟨x, List.mem_of_getElem? hx, h⟩
  simp [fidx, h1, h2]
theorem fidx_missG {α : Type} {p : α → Bool} {xs : List α} (hb : ∀ j y, j < xs.length → xs[j]? = some y → p y = false) : fidx p xs = -1 := by
  have h2 : xs.any p = false := by
    rw [List.any_eq_false]
    intro x hx
    obtain ⟨j, hj, rfl⟩ := List.mem_iff_getElem.1 hx
    have := hb j _ hj (List.getElem?_eq_getElem hj)
    simp [this]
  simp [fidx, h2]
theorem fidx_no {α : Type} {p : α → Bool} {xs : List α} (h : fidx p xs = -1) : xs.any p = false := by
  unfold fidx at h
  cases e : xs.any p
  · rfl
  · rw [e] at h; simp at h
theorem fidx_yes {α : Type} {p : α → Bool} {xs : List α} (h : ¬ fidx p xs = -1) : ∃ k x, fidx p xs = (k : Nat) ∧ xs[k]? = some x ∧ p x = true ∧ (xs.take k).any p = false := by
  unfold fidx at h ⊢
  cases e : xs.any p
  · rw [e] at h; simp at h
  · have hlt : xs.findIdx p < xs.length := by
      rw [List.findIdx_lt_length]
      simpa using e
    refine ⟨xs.findIdx p, xs[xs.findIdx p], by simp, List.getElem?_eq_getElem hlt, List.findIdx_getElem (w := hlt), ?_⟩
    rw [List.any_eq_false]
    intro y hy
    obtain ⟨j, hj, rfl⟩ := List.mem_iff_getElem.1 hy
    rw [List.getElem_take]
    simp only [List.length_take] at hj
    exact Bool.not_eq_true _ ▸ List.not_of_lt_findIdx (by omega)
theorem filter_none {α : Type} {p : α → Bool} {xs : List α} (h : xs.any p = false) : xs.filter (fun x => !p x) = xs := by
  rw [List.filter_eq_self]
  intro x hx
  rw [List.any_eq_false] at h
  simpa using h x hx
theorem take_succ_some {α : Type} {xs : List α} {j : Nat} {y : α} (h : xs[j]? = some y) : xs.take (j + 1) = xs.take j ++ [y] := by rw [List.take_add_one, h]; rfl
theorem next_no {α : Type} {p : α → Bool} {xs : List α} {x : Nat} {u : α} (hu : xs[x]? = some u) (h : p u = false) (hb : ∀ j y, j < x → xs[j]? = some y → p y = false) : ∀ j y, j < x + 1 → xs[j]? = some y → p y = false := by
  intro j y hj hy
  by_cases e : j < x
  · exact hb j y e hy
  · have : j = x := by omega
    rw [this, hu] at hy
    cases hy
    exact h
theorem cells_take {xs : List (Int × Ev)} {sp : List Value} {i : Nat} (h : i ≤ xs.length) : (xs.flatMap recC ++ sp).take (i * 11) = (xs.take i).flatMap recC := by
  have e : xs.flatMap recC = (xs.take i).flatMap recC ++ (xs.drop i).flatMap recC := by rw [← List.flatMap_append, List.take_append_drop]
  rw [e, List.append_assoc, List.take_left' (by rw [flatMap_len recC_len, List.length_take]; omega)]
theorem indexR_ct (F : Fr) (A : Option Addr) (c : Nat) (xs : List (Int × Ev)) (hA : VwF F A (xs.flatMap recC)) (hx : xs.length ≤ 1099511627776) (p : Int × Ev → Bool) (f : FuncId) (cap : List Value) (hcal : calB Try.prog f = true) (hp : ∀ F' R, Ext F F' R → ∀ r, Ct Try.prog F' f ([.agg (recC r).toArray] ++ cap) [] (fun _ : Unit => True) (fun _ => .bool (p r)) (fun _ => [])) :
    Ct Try.prog F 87 [.slice A xs.length c, .func (.func f) #[] cap.toArray] [] (S := Unit) (fun _ => True) (fun _ => .int .i64 (fidx p xs)) (fun _ => []) := by
 refine Ct.of 19 [(0, _), (1, _)] Try.func87 rfl rfl rfl rfl ?_
 refine GC.seq (GC.region ?_)
 refine G.q Gd.no (Qt.asg rfl) rfl ?_
 refine G.nil (GK.then (GC.seq (GC.seq (GC.region ?_))))
 refine G.q Gd.no (Qt.mv rfl) rfl ?_
 refine G.q Gd.no (Qt.lenS (rt := 0) Try.underlying83 rfl) rfl ?_
 refine G.q Gd.no (Qt.mv rfl) rfl ?_
 refine G.nil (GK.then (GC.block ?_))
 refine GC.loop (S := Nat) (fun x => x ≤ xs.length ∧ ∀ j y, j < x → xs[j]? = some y → p y = false) (fun x => xs.length - x)
  (fun x => [(0, .slice A xs.length c), (1, .func (.func f) #[] cap.toArray), (7, .int .i64 xs.length), (8, .int .i64 (x : Int))]) (fun x => []) 0 ?_ ?_ ?_ ?_
 ·exact ⟨by omega, fun j y h => by omega⟩
 ·exact ⟨rfl, rfl, rfl, rfl, trivial⟩
 ·exact ⟨_, (.nil _)⟩
 intro x ⟨h1, hb⟩
 refine GC.seq (GC.region ?_)
 refine G.q Gd.no (Qt.lss rfl rfl) rfl ?_
 refine G.nil (GK.then (GC.seq ?_))
 refine GC.condb rfl (fun c0 => ?_) (fun c0 => ?_)
 ·try simp only [sB0, sB1, sB2, sB3, sB4, sB5, sB6, sB7, sB8] at c0
  have hlt : x < xs.length := by omega
  obtain ⟨ad, hAd⟩ := someR hA (by omega)
  subst hAd
  obtain ⟨u, hu⟩ : ∃ u, xs[x]? = some u := ⟨_, List.getElem?_eq_getElem hlt⟩
  refine GC.skip (GK.then (GC.seq (GC.block (GC.seq (GC.region ?_)))))
  refine G.q Gd.no (Qt.mv rfl) rfl ?_
  refine G.q Gd.no (Qt.asg rfl) rfl ?_
  refine G.nil (GK.then (GC.seq (GC.region ?_)))
  refine G.q Gd.no (Qt.mv rfl) rfl ?_
  refine G.q Gd.no (Qt.mv rfl) rfl ?_
  refine G.q Gd.no (Qt.mv rfl) rfl ?_
  refine G.q Gd.no (Qt.ia Try.underlying83 z90 rfl rfl (by omega) (by omega) (show ((x : Nat) : Int).toNat = x from rfl)) rfl ?_
  refine G.q Gd.no (Qt.ldV a90 rfl z90 (vs := recC u) (hA.elem recC_len hu _)) rfl ?_
  refine G.ld Gd.no (Ld.callv (first := []) (cap := _) hcal rfl rfl rfl (.nil _) (fun F' hF => hp F' _ hF _) (fun _ _ => ?_))
  dsimp only [lCa, lNa]
  refine G.nil (GK.then ?_)
  refine GC.condb rfl (fun c1 => ?_) (fun c1 => ?_)
  ·try simp only [sB0, sB1, sB2, sB3, sB4, sB5, sB6, sB7, sB8] at c1
   refine GC.seq (GC.region ?_)
   refine G.q Gd.no (Qt.mv rfl) rfl ?_
   refine G.q Gd.no (Qt.asg rfl) rfl ?_
   refine G.nil (GK.then (GC.ret (GK.blockr (GK.thenr (GK.thenr (GK.blockr (GK.thenr ?_)))))))
   refine GK.ret (rs := [.tmp 4]) rfl (.tmp rfl .nil) () ?_ ?_ (.nil _)
   ·trivial
   ·exact congrArg (Value.int .i64) (fidx_hitG hu c1 hb).symm
  ·try simp only [sB0, sB1, sB2, sB3, sB4, sB5, sB6, sB7, sB8] at c1
   refine GC.skip (GK.blockn (GK.then (GC.region ?_)))
   refine G.q Gd.no (Qt.add rfl rfl (by first | exact i64_id (by omega) (by omega) | exact rfl)) rfl ?_
   refine G.q Gd.no (Qt.mv rfl) rfl ?_
   refine G.nil ?_
   refine GK.head (x + 1) ?_ ?_ ?_ ?_
   ·omega
   ·exact ⟨by omega, next_no hu c1 hb⟩
   ·exact ⟨rfl, rfl, rfl, rfl, trivial⟩
   ·exact ⟨_, (.nil _)⟩
 ·try simp only [sB0, sB1, sB2, sB3, sB4, sB5, sB6, sB7, sB8] at c0
  refine GC.exit (GK.thene (GK.thene (GK.blocke (GK.then (GC.seq (GC.region ?_))))))
  refine G.q Gd.no (Qt.asg rfl) rfl ?_
  refine G.nil (GK.then (GC.ret ?_))
  refine GK.ret (rs := [.tmp 4]) rfl (.tmp rfl .nil) () ?_ ?_ (.nil _)
  ·trivial
  ·exact congrArg (Value.int .i64) (fidx_missG (fun j y hj hy => hb j y (by omega) hy)).symm
theorem deleteR0_ct (F : Fr) (p : Int × Ev → Bool) (f : FuncId) (cap : List Value) (hcal : calB Try.prog f = true) (hp : ∀ F' R, Ext F F' R → ∀ r, Ct Try.prog F' f ([.agg (recC r).toArray] ++ cap) [] (fun _ : Unit => True) (fun _ => .bool (p r)) (fun _ => [])) :
    Ct Try.prog F 92 [.slice none 0 0, .func (.func f) #[] cap.toArray] [(none, .cells (([] : List (Int × Ev)).flatMap recC ++ []) 90)] (S := List Value) (fun x => (([] : List (Int × Ev)).filter fun r => !p r).length * 11 + x.length = 0 * 11 ∧ (@none Nat = none → (([] : List (Int × Ev)).filter fun r => !p r) = [] ∧ x = [])) (fun _ => .slice none (([] : List (Int × Ev)).filter fun r => !p r).length 0) (fun x => [(none, .cells ((([] : List (Int × Ev)).filter fun r => !p r).flatMap recC ++ x) 90)]) := by
 refine Ct.of 42 [(0, _), (1, _)] Try.func92 rfl rfl rfl rfl ?_
 refine GC.seq (GC.region ?_)
 refine G.q Gd.no (Qt.asg rfl) rfl ?_
 refine G.nil (GK.then (GC.seq (GC.region ?_)))
 refine G.q Gd.no (Qt.mv rfl) rfl ?_
 refine G.q Gd.no (Qt.mv rfl) rfl ?_
 refine G.ld Gd.no (Ld.call cal87 rfl rfl (.nil _) (fun F' hF => indexR_ct F' none 0 [] VwF.nil (by simp) p f cap hcal (fun F2 R2 h2 n => hp F2 _ (hF.trans h2) n)) (fun _ _ => ?_))
 dsimp only [lCa, lNa]
 rw [show fidx p ([] : List (Int × Ev)) = -1 from rfl]
 refine G.q Gd.no (Qt.asg rfl) rfl ?_
 refine G.nil (GK.then (GC.seq (GC.seq (GC.region ?_))))
 refine G.q Gd.no (Qt.mv rfl) rfl ?_
 refine G.q Gd.no (Qt.eqI rfl rfl) rfl ?_
 refine G.nil (GK.then ?_)
 refine GC.condb rfl (fun c0 => ?_) (fun c0 => ?_)
 ·try simp only [sB0, sB1, sB2, sB3, sB4, sB5, sB6, sB7, sB8] at c0
  refine GC.seq (GC.region ?_)
  refine G.q Gd.no (Qt.mv rfl) rfl ?_
  refine G.q Gd.no (Qt.asg rfl) rfl ?_
  refine G.nil (GK.then (GC.ret (GK.thenr ?_)))
  refine GK.ret (rs := [.tmp 4]) rfl (.tmp rfl .nil) [] ?_ ?_ (Tks.c (.nil _))
  ·exact ⟨rfl, fun _ => ⟨rfl, rfl⟩⟩
  ·rfl
 ·try simp only [sB0, sB1, sB2, sB3, sB4, sB5, sB6, sB7, sB8] at c0
  exact absurd trivial c0
theorem deleteR1_ct (F : Fr) (b c : Nat) (sp : List Value) (rs : List (Int × Ev)) (hinv : rs.length * 11 + sp.length = c * 11) (hlen : rs.length ≤ 1099511627776) (p : Int × Ev → Bool) (f : FuncId) (cap : List Value) (hcal : calB Try.prog f = true) (hp : ∀ F' R, Ext F F' R → ∀ r, Ct Try.prog F' f ([.agg (recC r).toArray] ++ cap) [] (fun _ : Unit => True) (fun _ => .bool (p r)) (fun _ => [])) :
    Ct Try.prog F 92 [.slice (some ⟨b, 0, none⟩) rs.length c, .func (.func f) #[] cap.toArray] [(some b, .cells (rs.flatMap recC ++ sp) 90)] (S := List Value) (fun x => (rs.filter fun r => !p r).length * 11 + x.length = c * 11 ∧ (some b = none → (rs.filter fun r => !p r) = [] ∧ x = [])) (fun _ => .slice (some ⟨b, 0, none⟩) (rs.filter fun r => !p r).length c) (fun x => [(some b, .cells ((rs.filter fun r => !p r).flatMap recC ++ x) 90)]) := by
 refine Ct.of 42 [(0, _), (1, _)] Try.func92 rfl rfl rfl rfl ?_
 refine GC.seq (GC.region ?_)
 refine G.q Gd.no (Qt.asg rfl) rfl ?_
 refine G.nil (GK.then (GC.seq (GC.region ?_)))
 refine G.q Gd.no (Qt.mv rfl) rfl ?_
 refine G.q Gd.no (Qt.mv rfl) rfl ?_
 refine G.ld Gd.no (Ld.call cal87 rfl rfl (.nil _) (fun F' hF => indexR_ct F' (some ⟨b, 0, none⟩) c rs (VwF.ofPre (hF.own In.o)) hlen p f cap hcal (fun F2 R2 h2 n => hp F2 _ (hF.trans h2) n)) (fun _ _ => ?_))
 dsimp only [lCa, lNa]
 refine G.q Gd.no (Qt.asg rfl) rfl ?_
 refine G.nil (GK.then (GC.seq (GC.seq (GC.region ?_))))
 refine G.q Gd.no (Qt.mv rfl) rfl ?_
 refine G.q Gd.no (Qt.eqI rfl rfl) rfl ?_
 refine G.nil (GK.then ?_)
 refine GC.condb rfl (fun c0 => ?_) (fun c0 => ?_)
 ·try simp only [sB0, sB1, sB2, sB3, sB4, sB5, sB6, sB7, sB8] at c0
  refine GC.seq (GC.region ?_)
  refine G.q Gd.no (Qt.mv rfl) rfl ?_
  refine G.q Gd.no (Qt.asg rfl) rfl ?_
  refine G.nil (GK.then (GC.ret (GK.thenr ?_)))
  have hfl := filter_none (fidx_no c0)
  refine GK.ret (rs := [.tmp 4]) rfl (.tmp rfl .nil) sp ?_ ?_ (by rw [hfl]; exact (Tks.c (.nil _)))
  ·exact ⟨by rw [hfl]; exact hinv, fun e => by cases e⟩
  ·(rw [hfl]; rfl)
 ·try simp only [sB0, sB1, sB2, sB3, sB4, sB5, sB6, sB7, sB8] at c0
  obtain ⟨k, u, hk, hu, hpu, hpk⟩ := fidx_yes c0
  rw [hk]
  have hkl : k < rs.length := (List.getElem?_eq_some_iff.1 hu).1
  refine GC.skip (GK.then (GC.seq (GC.seq (GC.region ?_))))
  refine G.q Gd.no (Qt.mv rfl) rfl ?_
  refine G.q Gd.no (Qt.add rfl rfl (by first | exact i64_id (by omega) (by omega) | exact rfl)) rfl ?_
  refine G.q Gd.no (Qt.asg rfl) rfl ?_
  refine G.nil (GK.then (GC.block ?_))
  refine GC.loop (S := Nat × Nat × List (Int × Ev)) (fun x => x.1 < x.2.1 ∧ x.2.1 ≤ rs.length ∧ x.2.2.length = rs.length ∧ x.2.2.take x.1 = (rs.take x.2.1).filter (fun r => !p r) ∧ (∀ j, x.2.1 ≤ j → x.2.2[j]? = rs[j]?)) (fun x => rs.length - x.2.1)
   (fun x => [(0, .slice (some ⟨b, 0, none⟩) rs.length c), (1, .func (.func f) #[] cap.toArray), (5, .int .i64 (x.1 : Int)), (6, .int .i64 (x.2.1 : Int))]) (fun x => [(some b, .cells (x.2.2.flatMap recC ++ sp) 90)]) (k, k + 1, rs) ?_ ?_ ?_ ?_
  ·exact ⟨by simp, by simp only; omega, rfl, by simp only; rw [take_succ_some hu, List.filter_append, filter_none hpk]; simp [hpu], fun _ _ => rfl⟩
  ·exact ⟨rfl, rfl, rfl, rfl, trivial⟩
  ·exact ⟨_, (Tks.c (.nil _))⟩
  intro ⟨i, j, ws⟩ ⟨h1, h2, h3, h4, h5⟩
  simp only at h1 h2 h3 h4 h5
  refine GC.seq (GC.seq (GC.region ?_))
  refine G.q Gd.no (Qt.mv rfl) rfl ?_
  refine G.q Gd.no (Qt.mv rfl) rfl ?_
  refine G.q Gd.no (Qt.lenS (rt := 0) Try.underlying83 rfl) rfl ?_
  refine G.q Gd.no (Qt.lss rfl rfl) rfl ?_
  refine G.nil (GK.then ?_)
  refine GC.condb rfl (fun c1 => ?_) (fun c1 => ?_)
  ·try simp only [sB0, sB1, sB2, sB3, sB4, sB5, sB6, sB7, sB8] at c1
   have hjl : j < rs.length := by omega
   obtain ⟨y, hy⟩ : ∃ y, rs[j]? = some y := ⟨_, List.getElem?_eq_getElem hjl⟩
   have hwj : ws[j]? = some y := by rw [h5 j (by omega)]; exact hy
   have htk := take_succ_some hy
   refine GC.skip (GK.then (GC.seq (GC.block (GC.seq (GC.region ?_)))))
   refine G.q Gd.no (Qt.mv rfl) rfl ?_
   refine G.q Gd.no (Qt.mv rfl) rfl ?_
   refine G.q Gd.no (Qt.iab0 Try.underlying83 z90 rfl rfl (by omega) (by omega) (show ((j : Nat) : Int).toNat = j from rfl)) rfl ?_
   refine G.q Gd.no (Qt.ldV a90 rfl z90 (vs := recC y) (Vw.el recC_len Rd.o hwj)) rfl ?_
   refine G.ld Gd.no (Ld.alloc rfl ze90 (by first | exact Cl.one rfl | exact Cl.agg) (fun b7 => ?_))
   refine G.ld Gd.no (Ld.stW (by exact z90) rfl rfl (recC_one _) (E := 90) (by rfl) UpdC.u ?_)
   refine G.nil (GK.then (GC.seq (GC.region ?_)))
   refine G.q Gd.no (Qt.mv rfl) rfl ?_
   refine G.q Gd.no (Qt.ldW a90 rfl Rd.o z90) rfl ?_
   refine G.ld Gd.no (Ld.callv (first := []) (cap := _) hcal rfl rfl rfl (.nil _) (fun F' hF => hp F' _ hF _) (fun _ _ => ?_))
   dsimp only [lCa, lNa]
   refine G.q Gd.no (Qt.not rfl) rfl ?_
   refine G.nil (GK.then ?_)
   refine GC.condb rfl (fun c2 => ?_) (fun c2 => ?_)
   ·try simp only [sB0, sB1, sB2, sB3, sB4, sB5, sB6, sB7, sB8] at c2
    refine GC.seq (GC.region ?_)
    refine G.q Gd.no (Qt.mv rfl) rfl ?_
    refine G.q Gd.no (Qt.mv rfl) rfl ?_
    refine G.q Gd.no (Qt.ldW a90 rfl Rd.o z90) rfl ?_
    refine G.q Gd.no (Qt.iab0 Try.underlying83 z90 rfl rfl (by omega) (by omega) (show ((i : Nat) : Int).toNat = i from rfl)) rfl ?_
    refine G.ld Gd.no (Ld.stA (by exact z90) rfl rfl (recC_one y) (E := 90) (cs := ws.flatMap recC ++ sp) (by rw [List.length_append, flatMap_len recC_len, recC_len]; omega) (set_flatMap recC_len ws sp i y (by omega)) UpdC.u ?_)
    refine G.nil (GK.then (GC.region ?_))
    refine G.q Gd.no (Qt.mv rfl) rfl ?_
    refine G.q Gd.no (Qt.add rfl rfl (by first | exact i64_id (by omega) (by omega) | exact rfl)) rfl ?_
    refine G.q Gd.no (Qt.asg rfl) rfl ?_
    refine G.nil (GK.blockn (GK.then (GC.region ?_)))
    refine G.q Gd.no (Qt.mv rfl) rfl ?_
    refine G.q Gd.no (Qt.add rfl rfl (by first | exact i64_id (by omega) (by omega) | exact rfl)) rfl ?_
    refine G.q Gd.no (Qt.asg rfl) rfl ?_
    refine G.nil ?_
    refine GK.head (i + 1, j + 1, ws.set i y) ?_ ?_ ?_ ?_
    ·simp only; omega
    ·exact ⟨by simp only; omega, by simp only; omega, by simpa using h3, by simp only; rw [htk, List.filter_append, ← h4]; simp only [List.filter_cons, List.filter_nil, c2, Bool.not_false, if_true]; rw [take_succ_some (xs := ws.set i y) (y := y) (by rw [List.getElem?_set_self (by omega)]), List.take_set_of_le (by omega)], fun k hk => by simp only at hk ⊢; rw [List.getElem?_set_ne (by omega)]; exact h5 k (by omega)⟩
    ·exact ⟨rfl, rfl, rfl, rfl, trivial⟩
    ·exact ⟨_, (Tks.c (.nil _))⟩
   ·try simp only [sB0, sB1, sB2, sB3, sB4, sB5, sB6, sB7, sB8] at c2
    refine GC.skip (GK.blockn (GK.then (GC.region ?_)))
    refine G.q Gd.no (Qt.mv rfl) rfl ?_
    refine G.q Gd.no (Qt.add rfl rfl (by first | exact i64_id (by omega) (by omega) | exact rfl)) rfl ?_
    refine G.q Gd.no (Qt.asg rfl) rfl ?_
    refine G.nil ?_
    refine GK.head (i, j + 1, ws) ?_ ?_ ?_ ?_
    ·simp only; omega
    ·exact ⟨by simp only; omega, by simp only; omega, h3, by simp only; rw [htk, List.filter_append, ← h4]; simp [c2], fun k hk => h5 k (by simp only at hk; omega)⟩
    ·exact ⟨rfl, rfl, rfl, rfl, trivial⟩
    ·exact ⟨_, (Tks.c (.nil _))⟩
  ·try simp only [sB0, sB1, sB2, sB3, sB4, sB5, sB6, sB7, sB8] at c1
   obtain rfl : j = rs.length := by omega
   rw [List.take_length] at h4
   have hfl : (rs.filter fun r => !p r).length = i := by rw [← h4, List.length_take]; omega
   refine GC.exit (GK.thene (GK.thene (GK.blocke (GK.then (GC.seq (GC.region ?_))))))
   refine G.q Gd.no (Qt.mv rfl) rfl ?_
   refine G.q Gd.no (Qt.mv rfl) rfl ?_
   refine G.q Gd.no (Qt.slL Try.underlying83 z90 rfl rfl (by omega) (by omega) rfl) rfl ?_
   rw [slAt_some (by omega), Nat.zero_add, Int.toNat_natCast]
   have hcl : (ws.flatMap recC ++ sp).take (i * 11) ++ (List.replicate (rs.length - i) (recC (0, Ev.zero))).flatten ++ (ws.flatMap recC ++ sp).drop (i * 11 + (rs.length - i) * 11) = (rs.filter fun r => !p r).flatMap recC ++ ((List.replicate (rs.length - i) (recC (0, Ev.zero))).flatten ++ sp) := by
    rw [cells_take (by omega), h4, show i * 11 + (rs.length - i) * 11 = (ws.flatMap recC).length by rw [flatMap_len recC_len]; omega, List.drop_left, List.append_assoc]
   refine G.ld Gd.no (Ld.clr (zs := recC (0, Ev.zero)) Try.underlying83 z90 ze90 Cl.agg rfl rfl UpdC.u (by show i * 11 + (rs.length - i) * 11 ≤ (ws.flatMap recC ++ sp).length; rw [List.length_append, flatMap_len recC_len]; omega) (recC_one _) ?_)
   rw [hcl]
   refine G.nil (GK.then (GC.seq (GC.region ?_)))
   refine G.q Gd.no (Qt.mv rfl) rfl ?_
   refine G.q Gd.no (Qt.mv rfl) rfl ?_
   refine G.q Gd.no (Qt.slH Try.underlying83 z90 rfl rfl (by omega) (by omega) rfl) rfl ?_
   refine G.q Gd.no (Qt.asg rfl) rfl ?_
   refine G.nil (GK.then (GC.ret ?_))
   refine GK.ret (rs := [.tmp 4]) rfl (.tmp rfl .nil) ((List.replicate (rs.length - i) (recC (0, Ev.zero))).flatten ++ sp) ?_ ?_ (Tks.c (.nil _))
   ·exact ⟨by rw [hfl, List.length_append]; simp [recC_len]; omega, fun e => by cases e⟩
   ·(rw [hfl]; rfl)
theorem deleteR_ct (F : Fr) (ob : Option Nat) (c : Nat) (sp : List Value) (rs : List (Int × Ev)) (hinv : rs.length * 11 + sp.length = c * 11) (hnil : ob = none → rs = [] ∧ sp = []) (hlen : rs.length ≤ 1099511627776) (p : Int × Ev → Bool) (f : FuncId) (cap : List Value) (hcal : calB Try.prog f = true) (hp : ∀ F' R, Ext F F' R → ∀ r, Ct Try.prog F' f ([.agg (recC r).toArray] ++ cap) [] (fun _ : Unit => True) (fun _ => .bool (p r)) (fun _ => [])) :
    Ct Try.prog F 92 [.slice (oA ob) rs.length c, .func (.func f) #[] cap.toArray] [(ob, .cells (rs.flatMap recC ++ sp) 90)] (S := List Value) (fun x => (rs.filter fun r => !p r).length * 11 + x.length = c * 11 ∧ (ob = none → (rs.filter fun r => !p r) = [] ∧ x = []))
      (fun x => .slice (oA ob) (rs.filter fun r => !p r).length c) (fun x => [(ob, .cells ((rs.filter fun r => !p r).flatMap recC ++ x) 90)]) := by
  cases ob with
  | none =>
    obtain ⟨rfl, rfl⟩ := hnil rfl
    obtain rfl : c = 0 := by simp at hinv; omega
    exact deleteR0_ct F p f cap hcal hp
  | some b => exact deleteR1_ct F b c sp rs hinv hlen p f cap hcal hp
end Go.Proofs.Ytbeiciinppmekaa
