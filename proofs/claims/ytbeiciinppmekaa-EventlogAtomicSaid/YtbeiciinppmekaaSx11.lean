/-
  clear, make of rows of structs, elements of one's own rows of structs, or of signed numbers. Lemmas only; no condition.
-/
import Derived.Test.YtbeiciinppmekaaSx10
set_option linter.unusedSimpArgs false
set_option linter.unusedVariables false
namespace Go.Sx
open Go
theorem zeroCells_eq {zs : List Value} : ∀ n : Nat, (Builtin.zeroCells zs.toArray n).toList = (List.replicate n zs).flatten
  | 0 => by simp [Builtin.zeroCells]
  | n + 1 => by
    have ih := zeroCells_eq (zs := zs) n
    simp only [Builtin.zeroCells, List.size_toArray, Array.toList_map, Array.toList_range] at ih ⊢
    rw [Nat.add_mul, Nat.one_mul, List.range_add, List.map_append, ih, List.replicate_succ', List.flatten_append, List.flatten_singleton, List.map_map]
    congr 1
    apply List.ext_getElem
    · simp
    · intro i h1 h2
      simp only [List.getElem_map, List.getElem_range, Function.comp_apply]
      rw [Nat.mul_comm, Nat.add_comm, Nat.add_mul_mod_self_left, Nat.mod_eq_of_lt h2]
      simp [h2]
theorem flatten_rep {α : Type} {f : α → List Value} (x : α) (n : Nat) : (List.replicate n (f x)).flatten = (List.replicate n x).flatMap f := by simp [List.flatMap]
section
variable {X : Cx} {l : Tl} {L : Bl} {Q : Xt}
/-- make of a row of structs. -/
theorem Ld.mksS {T E U by_ d n sz : Nat} {x y : Operand} {k k2 : IntKind} {ps : String} {af : Array Edge} {g : Option (Nat × Bool)} {z : Value} {zs : List Value} {p : Int} {C : Tl → Bl → Prop} (hT : X.P.underlying T = some (.slice E)) (hsz : szB X.P E = some sz) (hby : byB X.P E = some by_) (hz : zeB X.P E = some z) (hcl : Cl z zs) (hzl : zs.length = sz) (hsz0 : 0 < sz) (hN : Nat.blt d X.N = true)
    (hx : opv l x = some (.int k p)) (hy : opv l y = some (.int k2 p)) (h0 : 0 < p) (hp : p.toNat = n) (hfit : by_ * n ≤ 281474976710656) (hlen : n ≤ 9223372036854775807)
    (h : ∀ b, C ((d, .slice (some ⟨b, 0, none⟩) n n) :: l) ((some b, .cells (List.replicate n zs).flatten E) :: L)) : Ld X Q ⟨some d, .makeSlice T x y, U, ps, af, g⟩ l L C := by
  intro a w he hs K hK
  obtain ⟨i, hi, e1, e2, e3⟩ := info_of hsz hby hz
  have hpn : p = (n : Int) := by omega
  subst hpn
  have hw : IntKind.i64.wrap (n : Int) = n := i64_id (by omega) (by omega)
  have hrun : (Instr.makeSlice T (.int k n) (.int k2 n)).run X.P w = .ok (.slice (some ⟨w.heap.size, 0, none⟩) n n) (w.alloc (Blk.cells (List.replicate n zs).flatten E).toObj) := by
    have hb1 : ¬ ((by_ : Int) * n > 2 ^ 48) := by
      have h5 : ((by_ * n : Nat) : Int) ≤ 281474976710656 := Int.ofNat_le.2 hfit
      rw [Int.natCast_mul] at h5
      have h6 : ((2 : Int) ^ 48) = 281474976710656 := by decide
      rw [h6]; omega
    have hn0 : ¬ ((n : Int) < 0) := by omega
    simp only [Instr.makeSlice, Sem.run_bind, run_und hT, Result.andThen_ok, asInt, asIntOf, Sem.run_pure, run_tyInfo hi, e2, hw]
    have hcond : ((decide ((n : Int) < 0) || decide ((by_ : Int) * n > 2 ^ 48)) || decide ((n : Int) < 0) || decide ((n : Int) > n)) = false := by rw [decide_eq_false hn0, decide_eq_false hb1, decide_eq_false (show ¬ (n : Int) > n by omega)]; rfl
    rw [if_neg (by rw [hcond]; simp)]
    simp only [Sem.run_bind, run_askRoom, Result.andThen_ok, run_sizeOf hsz, Int.toNat_natCast]
    have hz0 : n * sz ≠ 0 := Nat.mul_ne_zero (by omega) (by omega)
    have hc := zeroCells_eq (zs := zs) n
    simp only [if_neg hz0, Sem.run_bind, run_zero hz, Result.andThen_ok, Sem.run_pure, hcl.cells]
    have hc' : (Builtin.zeroCells zs.toArray n) = (List.replicate n zs).flatten.toArray := by rw [← hc]
    simp only [Builtin.zeroCells, List.size_toArray, hzl] at hc'
    simp only [List.size_toArray, hzl, hc']
    simp [newRow, Blk.toObj]
  unfold Oper.wp
  simp only [execOp, he.eval hx, he.eval hy, Sem.run_bind, hrun, Result.andThen_ok, Sem.run_pure, Oper.upon_value]
  exact hK _ _ (h w.heap.size) _ _ (he.put hN _) (hs.alloc (.cells (List.replicate n zs).flatten E))
/-- clear of a part of a row. -/
theorem Ld.clr {T E U b o n c sz : Nat} {x : Operand} {ps : String} {af : Array Edge} {g : Option (Nat × Bool)} {z : Value} {zs ds : List Value} {D : TypeId} {L' : Bl} {C : Tl → Bl → Prop} (hT : X.P.underlying T = some (.slice E)) (hsz : szB X.P E = some sz) (hz : zeB X.P E = some z) (hcl : Cl z zs) (hzl : zs.length = sz)
    (hx : opv l x = some (.slice (some ⟨b, o, none⟩) n c)) (hu : Upd (some b) (.cells ds D) (.cells (ds.take o ++ (List.replicate n zs).flatten ++ ds.drop (o + n * sz)) D) L L') (hfit : o + n * sz ≤ ds.length) (h1 : ∀ v ∈ zs, v.oneCell' = true)
    (h : C l L') : Ld X Q ⟨none, .call ⟨.builtin .clear, #[x], #[T]⟩, U, ps, af, g⟩ l L C := by
  intro a' w he hs K hK
  have hb := hs.own b _ hu.inL
  have hlen : ((List.replicate n zs).flatten).length = n * sz := by simp [hzl]
  have hrun : (Builtin.clear_ #[T] U #[.slice (some ⟨b, o, none⟩) n c]).run X.P w = .ok (.tuple #[]) (w.setRow b (ds.take o ++ (List.replicate n zs).flatten ++ ds.drop (o + n * sz)).toArray) := by
    have := run_storeCells_at X.P b o D (List.replicate n zs).flatten 0 ds.toArray w hb (by simpa [hlen] using hfit) (by
      intro v hv
      obtain ⟨y, hy, hv⟩ := List.mem_flatten.1 hv
      rw [List.eq_of_mem_replicate hy] at hv
      exact h1 v hv)
    cases n with
    | zero =>
      have e : (ds.take o ++ (List.replicate 0 zs).flatten ++ ds.drop (o + 0 * sz)) = ds := by simp
      rw [e]
      have hset : w.setRow b ds.toArray = w := by
        have h2 := this
        simp [storeCells, Blk.toObj] at h2
        exact h2.symm
      simp [Builtin.clear_, run_und hT, hset]
    | succ m =>
      simp only [Builtin.clear_, List.getElem?_toArray, List.getElem?_cons_zero, Sem.run_bind, run_und hT, Result.andThen_ok, run_zero hz, hcl.cells, zeroCells_eq]
      simp only [Nat.zero_add, Nat.add_zero, List.size_toArray, List.toList_toArray, hlen] at this
      simp [this, run_und hT, run_zero hz, hcl.cells, zeroCells_eq]
  unfold Oper.wp
  simp only [execOp, resolve, Sem.run_bind, Sem.run_pure, Result.andThen_ok, invoke, builtin, List.map_toArray, List.map_cons, List.map_nil, he.eval hx, hrun]
  exact hK _ _ h _ _ he (hs.setRow hu)
end
theorem foldl_set (vs : List Value) : ∀ (pre post : List Value), post.length = vs.length →
    (vs.zipIdx pre.length).foldl (fun (cs : Array Value) (p : Value × Nat) => cs.setIfInBounds (0 + p.2) p.1) (pre ++ post).toArray = (pre ++ vs).toArray := by
  induction vs with
  | nil => intro pre post hl; have : post = [] := List.eq_nil_of_length_eq_zero (by simpa using hl); subst this; simp
  | cons v vs ih =>
    intro pre post hl
    cases post with
    | nil => simp at hl
    | cons u post =>
      simp only [List.zipIdx_cons, List.foldl_cons]
      have e : (pre ++ u :: post).toArray.setIfInBounds (0 + pre.length) v = ((pre ++ [v]) ++ post).toArray := by simp [List.setIfInBounds_toArray]
      rw [e]
      have := ih (pre ++ [v]) post (by simpa using hl)
      simpa using this
/-- A row of one struct. -/
theorem Ld.bsl1 {X : Cx} {l : Tl} {L : Bl} {Q : Xt} {T E U d sz : Nat} {ps : String} {af : Array Edge} {g : Option (Nat × Bool)} {x : Operand} {v z : Value} {vs zs : List Value} {C : Tl → Bl → Prop} (hN : Nat.blt d X.N = true) (hu : X.P.underlying T = some (.slice E)) (hE : szB X.P E = some sz) (hz : zeB X.P E = some z) (hzl : Cl z zs) (hzs : zs.length = sz) (hsz0 : 0 < sz) (hsz1 : sz ≤ 1000)
    (hx : opv l x = some v) (hv : Cl v vs) (hl : vs.length = sz)
    (h : ∀ b, C ((d, .slice (some ⟨b, 0, none⟩) 1 1) :: l) ((some b, .cells vs E) :: L)) : Ld X Q ⟨some d, .buildSlice T 1 #[(0, x)], U, ps, af, g⟩ l L C := by
  intro a w he hs K hK
  unfold Oper.wp
  have hrun : (Instr.buildSlice T 1 #[(0, v)]).run X.P w = .ok (.slice (some ⟨w.heap.size, 0, none⟩) 1 1) (w.alloc (Blk.cells vs E).toObj) := by
    simp only [Instr.buildSlice, Sem.run_bind, run_und hu, Result.andThen_ok, run_sizeOf hE, Nat.one_mul]
    rw [if_neg (by omega)]
    have hz0 : sz ≠ 0 := by omega
    have hc := zeroCells_eq (zs := zs) 1
    simp only [Builtin.zeroCells, List.size_toArray, Nat.one_mul, List.replicate_one, List.flatten_singleton] at hc
    have hc' : ((Array.range zs.length).map fun i => zs.toArray[i % zs.length]!) = zs.toArray := by apply Array.toList_inj.1; rw [hc]
    simp only [if_neg hz0, Sem.run_bind, run_zero hz, Result.andThen_ok, Sem.run_pure, hzl.cells, List.size_toArray, hzs]
    rw [hzs] at hc'
    have hf := foldl_set vs [] zs (by rw [hzs, hl])
    simp only [List.nil_append, List.length_nil] at hf
    simp only [hc', Instr.fill, hv.cells, List.size_toArray, hl, hzs, Nat.zero_mul, Nat.zero_add, gt_iff_lt, Nat.lt_irrefl, ne_eq, not_true, decide_false, Bool.or_self, if_false, Bool.false_eq_true]
    have hf2 : Array.foldl (fun (cs : Array Value) (x : Value × Nat) => match x with | (c, j) => cs.setIfInBounds (0 + j) c) zs.toArray vs.toArray.zipIdx = vs.toArray := by
      refine Eq.trans ?_ hf
      simp
    simp [newRow, Blk.toObj] at hf2 ⊢
    simp [hf2]
  simp only [execOp, Sem.run_bind, List.map_toArray, List.map_cons, List.map_nil, he.eval hx, hrun, Result.andThen_ok, Sem.run_pure, Oper.upon_value]
  exact hK _ _ (h w.heap.size) _ _ (he.put hN _) (hs.alloc (.cells vs E))
/-- An element of a row of structs. -/
theorem Vw.el {α : Type} {F : Fr} {L : Bl} {b : Nat} {f : α → List Value} {sz : Nat} (hf : ∀ x, (f x).length = sz) {xs : List α} {sp : List Value} {E : TypeId} (hb : Rd F L b (.cells (xs.flatMap f ++ sp) E)) {i : Nat} {x : α} (hi : xs[i]? = some x) : Vw F L ⟨b, i * sz, none⟩ (f x) :=
  Vw.blk hb fun j v hj => by
    have hlt : j < sz := by
      have := (List.getElem?_eq_some_iff.1 hj).1
      rwa [hf] at this
    rw [nth_flatMap hf hi hlt, hj]
/-- The store of an element into a row of structs. -/
theorem set_flatMap {α : Type} {f : α → List Value} {sz : Nat} (hf : ∀ x, (f x).length = sz) : ∀ (xs : List α) (sp : List Value) (i : Nat) (y : α), i < xs.length →
    (xs.flatMap f ++ sp).take (i * sz) ++ f y ++ (xs.flatMap f ++ sp).drop (i * sz + (f y).length) = (xs.set i y).flatMap f ++ sp
  | x :: xs, sp, 0, y, _ => by
    have e : (f y).length = (f x).length := by rw [hf, hf]
    simp only [Nat.zero_mul, List.take_zero, List.nil_append, Nat.zero_add, List.flatMap_cons, List.append_assoc, List.set_cons_zero]
    rw [e, List.drop_left]
  | x :: xs, sp, i + 1, y, h => by
    have ih := set_flatMap hf xs sp i y (by simpa using h)
    simp only [List.flatMap_cons, List.append_assoc, List.set_cons_succ] at ih ⊢
    rw [← ih, Nat.add_mul, Nat.one_mul, show i * sz + sz = (f x).length + i * sz by rw [hf]; omega, List.take_append, List.take_of_length_le (by omega), show (f x).length + i * sz - (f x).length = i * sz by omega,
      show (f x).length + i * sz + (f y).length = (f x).length + (i * sz + (f y).length) by omega, List.drop_append]
    rw [List.drop_of_length_le (by omega), List.nil_append, show (f x).length + (i * sz + (f y).length) - (f x).length = i * sz + (f y).length by omega, List.append_assoc]
/-- Held blocks by their names. -/
theorem Held.tk {L R Lh : Bl} {b : Option Nat} {B : Blk} [h : TkC b L B R] (h2 : Held R Lh) : Held L ((b, B) :: Lh) := by
  obtain ⟨S, hs⟩ := h2
  exact ⟨S, .cons h.t hs⟩
/-- or of small signed numbers. -/
theorem bor_lo64 {x y m : Int} (n : Nat) (hm : (2 : Int) ^ n = m) (hx : 0 ≤ x) (hx2 : x < m) (hy : 0 ≤ y) (hb : x + y * m < 9223372036854775808) : bor .i64 x (y * m) = x + y * m := by
  subst hm
  obtain ⟨a, rfl⟩ := Int.eq_ofNat_of_zero_le hx
  obtain ⟨b, rfl⟩ := Int.eq_ofNat_of_zero_le hy
  have ha : a < 2 ^ n := by exact_mod_cast hx2
  have e1 : ((b : Int) * 2 ^ n) = ((2 ^ n * b : Nat) : Int) := by simp [Int.mul_comm]
  have hp : 2 ^ n * b + a < 2 ^ 63 := by
    have : ((2 ^ n * b + a : Nat) : Int) < ((2 ^ 63 : Nat) : Int) := by rw [Int.natCast_add, ← e1]; simp only [Int.add_comm]; exact hb
    exact_mod_cast this
  have h1 : a < 2 ^ 64 := by omega
  have h2 : 2 ^ n * b < 2 ^ 64 := by omega
  rw [e1]
  have e0 : bor .i64 (a : Int) ((2 ^ n * b : Nat) : Int) = IntKind.i64.wrap ((BitVec.ofInt 64 (a : Int) ||| BitVec.ofInt 64 ((2 ^ n * b : Nat) : Int)).toNat : Int) := rfl
  rw [e0]
  simp only [BitVec.ofInt_natCast, BitVec.toNat_or, BitVec.toNat_ofNat, Nat.mod_eq_of_lt h1, Nat.mod_eq_of_lt h2]
  rw [Nat.or_comm, ← Nat.two_pow_add_eq_or_of_lt ha, i64_id (by omega) (by omega)]
  omega
theorem sB0 {p : Prop} [h : Decidable p] : (decide p = true) = p := decide_eq_true_eq
theorem sB1 {p : Prop} [h : Decidable p] : decide p = false ↔ ¬ p := decide_eq_false_iff_not
theorem sB2 (a b : Bool) : ((a && b) = true) = (a = true ∧ b = true) := Bool.and_eq_true a b
theorem sB3 (a b : Bool) : ((a || b) = true) = (a = true ∨ b = true) := Bool.or_eq_true a b
theorem sB4 {x y : Bool} : (x && y) = false ↔ x = false ∨ y = false := Bool.and_eq_false_iff
theorem sB5 {x y : Bool} : (x || y) = false ↔ x = false ∧ y = false := Bool.or_eq_false_iff
theorem sB6 {b : Bool} : ((!b) = true) = (b = false) := Bool.not_eq_true' b
theorem sB7 {b : Bool} : ((!b) = false) = (b = true) := Bool.not_eq_false' b
theorem sB8 {p : Prop} [h : Decidable p] : ¬ ¬ p ↔ p := Decidable.not_not
theorem lCa {α : Type} (a : α) (as bs : List α) : (a :: as) ++ bs = a :: (as ++ bs) := rfl
theorem lNa {α : Type} (bs : List α) : ([] : List α) ++ bs = bs := rfl
section
variable {X : Cx} {ops : Array Oper} {Q : Xt} {l : Tl} {L Lh : Bl} {f m : Nat}
theorem GT (i m' : Nat) {d T : Nat} {o : Op} {p : String} {af : Array Edge} {g : Option (Nat × Bool)} {v : Value} [pq : PQ Q] (hi : ops[i]? = some ⟨some d, o, T, p, af, g⟩) (hc : (Region.noSelect ops && Region.free .any ops (lm ops.size m) i && (Region.ready .any ops (lm ops.size m)).contains i) = true)
    (hm : m ||| 2 ^ i = m') (hN : Nat.blt d X.N = true) (hg : Gd ops l g) (hq : Qt X l Lh o v) (hh : Held L Lh) (h : GH X ops Q Lh f m' ((d, v) :: l) L) : GH X ops Q Lh (f + 1) m l L := GH.take hi hc hm hN hg hq hh h
theorem GP (i m' : Nat) {d T : Nat} {o : Op} {p : String} {af : Array Edge} {j tg : Nat} {b c : Bool} [pq : PQ Q] (hi : ops[i]? = some ⟨some d, o, T, p, af, some (j, c)⟩) (hc : (Region.noSelect ops && Region.free .any ops (lm ops.size m) i && (Region.ready .any ops (lm ops.size m)).contains i) = true)
    (hm : m ||| 2 ^ i = m') (hN : Nat.blt d X.N = true) (hj : (ops[j]?).bind (·.dst) = some tg) (hg : lk l tg = some (.bool b)) (hbc : (b == c) = false) (hh : Held L Lh) (h : GH X ops Q Lh f m' ((d, undef) :: l) L) : GH X ops Q Lh (f + 1) m l L := GH.pass hi hc hm hN hj hg hbc hh h
theorem GU (i m' : Nat) {d T : Nat} {o : Op} {p : String} {af : Array Edge} {j tg : Nat} {c : Bool} [pq : PQ Q] (hi : ops[i]? = some ⟨some d, o, T, p, af, some (j, c)⟩) (hc : (Region.noSelect ops && Region.free .any ops (lm ops.size m) i && (Region.ready .any ops (lm ops.size m)).contains i) = true)
    (hm : m ||| 2 ^ i = m') (hN : Nat.blt d X.N = true) (hj : (ops[j]?).bind (·.dst) = some tg) (hg : lk l tg = some undef) (hh : Held L Lh) (h : GH X ops Q Lh f m' ((d, undef) :: l) L) : GH X ops Q Lh (f + 1) m l L := GH.passu hi hc hm hN hj hg hh h
theorem GO (i m' : Nat) {o : Oper} (hr : Region.ready .any ops (lm ops.size m) = [i]) (hi : ops[i]? = some o) (hm : m ||| 2 ^ i = m') (hg : Gd ops l o.guard) (h : Ld X Q o l L (GN X ops Q Lh f m')) : GH X ops Q Lh (f + 1) m l L := GH.one hr hi hm hg h
end
end Go.Sx
