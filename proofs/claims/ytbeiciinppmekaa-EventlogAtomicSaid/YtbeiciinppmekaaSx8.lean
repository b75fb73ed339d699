/-
  Rows that are made, grown, copied; bits of small numbers. Lemmas only; no condition.
-/
import Derived.Test.YtbeiciinppmekaaSx7
import Derived.Laws.Append
set_option linter.unusedSimpArgs false
set_option linter.unusedVariables false
namespace Go.Sx
open Go
theorem info_of {P : Program} {E sz by_ : Nat} {z : Value} (h1 : szB P E = some sz) (h2 : byB P E = some by_) (h3 : zeB P E = some z) : ∃ i, P.info? E = some i ∧ i.size = sz ∧ i.bytes = by_ ∧ i.zero = some z := by
  unfold szB at h1; unfold byB at h2; unfold zeB at h3
  cases hi : P.info? E with
  | none => simp [hi] at h1
  | some i => simp [hi] at h1 h2 h3; exact ⟨i, rfl, h1, h2, h3⟩
theorem zeroCells_size (z : Array Value) (n : Nat) : (Builtin.zeroCells z n).size = n * z.size := by simp [Builtin.zeroCells]
theorem arr3 (xs ys : List Value) (Z : Array Value) : xs.toArray ++ ys.toArray ++ Z = (xs ++ ys ++ Z.toList).toArray := by apply Array.toList_inj.1; simp
theorem arr2 (ys : List Value) (Z : Array Value) : ys.toArray ++ Z = (ys ++ Z.toList).toArray := by apply Array.toList_inj.1; simp
def oA (b : Option Nat) : Option Addr := b.map fun b => ⟨b, 0, none⟩
section
variable {X : Cx} {l : Tl} {L R : Bl} {Q : Xt}
theorem run_app {w : World} {T U E sz by_ : Nat} {z : Value} {zs : List Value} {b n c m c2 : Nat} {a : Addr} {xs sp ys : List Value} {P : Program} (hT : P.underlying T = some (.slice E)) (hsz : szB P E = some sz) (hby : byB P E = some by_) (hz : zeB P E = some z) (hcl : Cl z zs) (hzl : zs.length = sz)
    (hb : w.heap[b]? = some (Blk.cells (xs ++ sp) E).toObj) (hx : xs.length = n * sz) (hc : xs.length + sp.length = c * sz) (hy : ys.length = m * sz) (hv : ∀ j v, ys[j]? = some v → w.cell? (a.add j) = some v) (h1 : ∀ v ∈ ys, v.oneCell' = true)
    (hfit : (n + m) * by_ ≤ 140737488355328) (hsz0 : 0 < sz) (hlen : n + m ≤ 9223372036854775807) :
    (n + m ≤ c ∧ (Builtin.append_ #[T, T] U #[.slice (some ⟨b, 0, none⟩) n c, .slice (some a) m c2]).run P w = .ok (.slice (some ⟨b, 0, none⟩) (n + m) c) (w.setRow b (xs ++ ys ++ sp.drop (m * sz)).toArray)) ∨
    (∃ c' sp', (xs ++ ys ++ sp').length = c' * sz ∧ (Builtin.append_ #[T, T] U #[.slice (some ⟨b, 0, none⟩) n c, .slice (some a) m c2]).run P w = .ok (.slice (some ⟨w.heap.size, 0, none⟩) (n + m) c') (w.drew.alloc (Blk.cells (xs ++ ys ++ sp') E).toObj)) := by
  obtain ⟨i, hi, e1, e2, e3⟩ := info_of hsz hby hz
  subst e1; subst e2
  by_cases hroom : n + m ≤ c
  · left
    refine ⟨hroom, ?_⟩
    have hk : n * i.size + m * i.size ≤ c * i.size := by rw [← Nat.add_mul]; exact Nat.mul_le_mul_right _ hroom
    have := run_append_room (P := P) w T U E i hT hi b n c (xs ++ sp).toArray hb a m c2 ys hy hv h1 hroom (by simp only [List.size_toArray, List.length_append]; omega)
    rw [this]
    have e : List.take (n * i.size) (xs ++ sp) = xs := by rw [← hx]; simp
    have e' : List.drop (n * i.size + ys.length) (xs ++ sp) = sp.drop (m * i.size) := by rw [← hx, hy, List.drop_append]; simp
    simp only [e, e']
  · right
    have hcell : ∀ j v, xs[j]? = some v → w.cell? ((⟨b, 0, none⟩ : Addr).add j) = some v := fun j v hj => by
      rw [add_addr, Nat.zero_add]
      refine cell_of hb ?_
      have hlt : j < xs.length := by
        rcases Nat.lt_or_ge j xs.length with h | h
        · exact h
        · simp [List.getElem?_eq_none h] at hj
      rw [List.getElem?_append_left hlt]; exact hj
    have := run_append_grow (P := P) w T U E i z hT hi e3 ⟨b, 0, none⟩ n c xs hx hcell a m c2 ys hy hv (by omega) (by omega) (growslice_fits (by omega) hfit)
    refine ⟨grownCap w (n + m) c E, (Builtin.zeroCells z.cells (grownCap w (n + m) c E - (n + m))).toList, ?_, ?_⟩
    rotate_left
    · rw [this, arr3]
      rfl
    · have hge := grownCap_ge w (n + m) c E
      simp only [List.length_append, Array.length_toList, zeroCells_size, hcl.cells, List.size_toArray, hzl, hx, hy, ← Nat.add_mul]
      congr 1
      omega
theorem run_appn {w : World} {T U E sz by_ : Nat} {z : Value} {zs : List Value} {m c2 : Nat} {a : Addr} {ys : List Value} {P : Program} (hT : P.underlying T = some (.slice E)) (hsz : szB P E = some sz) (hby : byB P E = some by_) (hz : zeB P E = some z) (hcl : Cl z zs) (hzl : zs.length = sz)
    (hy : ys.length = m * sz) (hv : ∀ j v, ys[j]? = some v → w.cell? (a.add j) = some v) (hm : 0 < m)
    (hfit : m * by_ ≤ 140737488355328) (hlen : m ≤ 9223372036854775807) :
    ∃ c' sp', (ys ++ sp').length = c' * sz ∧ (Builtin.append_ #[T, T] U #[.slice none 0 0, .slice (some a) m c2]).run P w = .ok (.slice (some ⟨w.heap.size, 0, none⟩) m c') (w.drew.alloc (Blk.cells (ys ++ sp') E).toObj) := by
  obtain ⟨i, hi, e1, e2, e3⟩ := info_of hsz hby hz
  subst e1; subst e2
  have := run_append_nil (P := P) w T U E i z hT hi e3 a m c2 ys hy hv hm (by omega) (by omega)
  refine ⟨grownCap w m 0 E, (Builtin.zeroCells z.cells (grownCap w m 0 E - m)).toList, ?_, ?_⟩
  rotate_left
  · rw [this, arr2]
    rfl
  · have hge := grownCap_ge w m 0 E
    simp only [List.length_append, Array.length_toList, zeroCells_size, hcl.cells, List.size_toArray, hzl, hy, ← Nat.add_mul]
    congr 1
    omega
/-- append onto a row of one's own (or onto nil). -/
theorem Ld.app {T E U sz by_ d : Nat} {x y : Operand} {ps : String} {af : Array Edge} {g : Option (Nat × Bool)} {z : Value} {zs : List Value} {ob : Option Nat} {n c m c2 : Nat} {a : Addr} {xs sp ys : List Value} {C : Tl → Bl → Prop} (hT : X.P.underlying T = some (.slice E)) (hsz : szB X.P E = some sz) (hby : byB X.P E = some by_) (hz : zeB X.P E = some z) (hcl : Cl z zs) (hzl : zs.length = sz) (hN : Nat.blt d X.N = true)
    (hx : opv l x = some (.slice (oA ob) n c)) (hy : opv l y = some (.slice (some a) m c2)) (hb : Tk ob (.cells (xs ++ sp) E) L R) (hv : Vw X.F L a ys)
    (hxl : xs.length = n * sz) (hcl2 : xs.length + sp.length = c * sz) (hyl : ys.length = m * sz) (h1 : ∀ v ∈ ys, v.oneCell' = true) (hnil : ob = none → n = 0 ∧ c = 0 ∧ 0 < m) (hfit : (n + m) * by_ ≤ 140737488355328) (hsz0 : 0 < sz) (hlen : n + m ≤ 9223372036854775807)
    (h : ∀ b' c' sp', (xs ++ ys ++ sp').length = c' * sz → C ((d, .slice (some ⟨b', 0, none⟩) (n + m) c') :: l) ((some b', .cells (xs ++ ys ++ sp') E) :: R)) : Ld X Q ⟨some d, .call ⟨.builtin .append, #[x, y], #[T, T]⟩, U, ps, af, g⟩ l L C := by
  intro a' w he hs K hK
  have hs1 := hs.perm hb.perm
  have hv' := hv w hs
  unfold Oper.wp
  cases ob with
  | none =>
    obtain ⟨rfl, rfl, hm⟩ := hnil rfl
    have ex : xs = [] := List.eq_nil_of_length_eq_zero (by simpa using hxl)
    subst ex
    simp only [Nat.zero_add, List.nil_append] at h hfit hlen
    obtain ⟨c', sp', e1, e2⟩ := run_appn (U := U) (c2 := c2) hT hsz hby hz hcl hzl hyl hv' hm hfit hlen
    simp only [execOp, resolve, Sem.run_bind, Sem.run_pure, Result.andThen_ok, invoke, builtin, List.map_toArray, List.map_cons, List.map_nil, he.eval hx, he.eval hy, oA, Option.map_none, e2, Oper.upon_value]
    have hs2 : St X.F w R := ⟨fun b B hm => hs1.own b B (.tail _ hm), by simpa [List.filterMap_cons] using hs1.nodup, hs1.fr, fun b B hm => hs1.apart b B (.tail _ hm), hs1.os, hs1.tape, hs1.output, hs1.size⟩
    exact hK _ _ (h w.heap.size c' sp' e1) _ _ (he.put hN _) (hs2.drew.alloc (.cells (ys ++ sp') E))
  | some b =>
    have hbk := hs1.own b _ (.head _)
    rcases run_app (U := U) (c2 := c2) hT hsz hby hz hcl hzl hbk hxl hcl2 hyl hv' h1 hfit hsz0 hlen with ⟨hroom, e2⟩ | ⟨c', sp', e1, e2⟩
    · simp only [execOp, resolve, Sem.run_bind, Sem.run_pure, Result.andThen_ok, invoke, builtin, List.map_toArray, List.map_cons, List.map_nil, he.eval hx, he.eval hy, oA, Option.map_some, e2, Oper.upon_value]
      have hk : n * sz + m * sz ≤ c * sz := by rw [← Nat.add_mul]; exact Nat.mul_le_mul_right _ hroom
      refine hK _ _ (h b c (sp.drop (m * sz)) ?_) _ _ (he.put hN _) (hs1.setRow (.here _))
      simp only [List.length_append, List.length_drop]
      omega
    · simp only [execOp, resolve, Sem.run_bind, Sem.run_pure, Result.andThen_ok, invoke, builtin, List.map_toArray, List.map_cons, List.map_nil, he.eval hx, he.eval hy, oA, Option.map_some, e2, Oper.upon_value]
      have hs2 : St X.F w R := ⟨fun b B hm => hs1.own b B (.tail _ hm), by have := hs1.nodup; simp only [List.filterMap_cons, List.nodup_cons] at this; exact this.2, hs1.fr, fun b B hm => hs1.apart b B (.tail _ hm), hs1.os, hs1.tape, hs1.output, hs1.size⟩
      exact hK _ _ (h w.heap.size c' sp' e1) _ _ (he.put hN _) (hs2.drew.alloc (.cells (xs ++ ys ++ sp') E))
theorem Ld.mks {T E U by_ d n : Nat} {x y : Operand} {k k2 : IntKind} {ps : String} {af : Array Edge} {g : Option (Nat × Bool)} {z : Value} {p : Int} {C : Tl → Bl → Prop} (hT : X.P.underlying T = some (.slice E)) (hsz : szB X.P E = some 1) (hby : byB X.P E = some by_) (hz : zeB X.P E = some z) (hz1 : z.oneCell' = true) (hN : Nat.blt d X.N = true)
    (hx : opv l x = some (.int k p)) (hy : opv l y = some (.int k2 p)) (h0 : 0 ≤ p) (hp : p.toNat = n) (hfit : by_ * n ≤ 281474976710656) (hlen : n ≤ 9223372036854775807)
    (h : ∀ b, C ((d, .slice (some ⟨b, 0, none⟩) n n) :: l) ((some b, .cells (List.replicate n z) E) :: L)) : Ld X Q ⟨some d, .makeSlice T x y, U, ps, af, g⟩ l L C := by
  intro a w he hs K hK
  obtain ⟨i, hi, e1, e2, e3⟩ := info_of hsz hby hz
  have hzc : z.cells = #[z] := by cases z <;> first | rfl | simp [Value.oneCell'] at hz1
  have hrep : ((Array.range n).map (fun x => (#[z] : Array Value)[x % 1]!)) = (List.replicate n z).toArray := by
    apply Array.ext
    · simp
    · intro i h1 h2; simp [Nat.mod_one]
  have hpn : p = (n : Int) := by omega
  subst hpn
  have hw : IntKind.i64.wrap (n : Int) = n := i64_id (by omega) (by omega)
  have hrun : (Instr.makeSlice T (.int k n) (.int k2 n)).run X.P w = .ok (.slice (some ⟨w.heap.size, 0, none⟩) n n) (w.alloc (Blk.cells (List.replicate n z) E).toObj) := by
    have hb1 : ¬ ((by_ : Int) * n > 2 ^ 48) := by
      have h5 : ((by_ * n : Nat) : Int) ≤ 281474976710656 := Int.ofNat_le.2 hfit
      rw [Int.natCast_mul] at h5
      have h6 : ((2 : Int) ^ 48) = 281474976710656 := by decide
      rw [h6]; omega
    have hn0 : ¬ ((n : Int) < 0) := by omega
    simp only [Instr.makeSlice, Sem.run_bind, run_und hT, Result.andThen_ok, asInt, asIntOf, Sem.run_pure, run_tyInfo hi, e2, hw]
    have hcond : ((decide ((n : Int) < 0) || decide ((by_ : Int) * n > 2 ^ 48)) || decide ((n : Int) < 0) || decide ((n : Int) > n)) = false := by rw [decide_eq_false hn0, decide_eq_false hb1, decide_eq_false (show ¬ (n : Int) > n by omega)]; rfl
    rw [if_neg (by rw [hcond]; simp)]
    simp only [Sem.run_bind, run_askRoom, Result.andThen_ok, run_sizeOf hsz, Nat.mul_one, Int.toNat_natCast]
    by_cases hz0 : n = 0
    · subst hz0
      have hr0 : Array.range 0 = #[] := by simp
      simp [newRow, Blk.toObj, hr0]
    · simp only [if_neg hz0, Sem.run_bind, run_zero hz, Result.andThen_ok, Sem.run_pure, hzc]
      have hsz1 : (#[z] : Array Value).size = 1 := rfl
      simp only [hsz1, hrep]
      simp [newRow, Blk.toObj]
  unfold Oper.wp
  simp only [execOp, he.eval hx, he.eval hy, Sem.run_bind, hrun, Result.andThen_ok, Sem.run_pure, Oper.upon_value]
  exact hK _ _ (h w.heap.size) _ _ (he.put hN _) (hs.alloc (.cells (List.replicate n z) E))
/-- copy into a row of single cells. -/
theorem Ld.cpy {T S E U b o dn dc sn sc d : Nat} {x y : Operand} {ps : String} {af : Array Edge} {g : Option (Nat × Bool)} {a : Addr} {ds cs : List Value} {D : TypeId} {L' : Bl} {C : Tl → Bl → Prop} (hT : X.P.underlying T = some (.slice E)) (hsz : szB X.P E = some 1) (hN : Nat.blt d X.N = true)
    (hx : opv l x = some (.slice (some ⟨b, o, none⟩) dn dc)) (hy : opv l y = some (.slice (some a) sn sc)) (hu : Upd (some b) (.cells ds D) (.cells (ds.take o ++ cs ++ ds.drop (o + cs.length)) D) L L') (hv : Vw X.F L a cs) (hl : cs.length = min sn dn) (hfit : o + cs.length ≤ ds.length) (h1 : ∀ v ∈ cs, v.oneCell' = true)
    (h : C ((d, .int .i64 cs.length) :: l) L') : Ld X Q ⟨some d, .call ⟨.builtin .copy, #[x, y], #[T, S]⟩, U, ps, af, g⟩ l L C := by
  intro a' w he hs K hK
  have hb := hs.own b _ hu.inL
  have := run_copy_row (P := X.P) w T S U E b o dn dc a sn sc ds.toArray D cs hT hsz hb hl (hv w hs) (by simpa using hfit) h1
  unfold Oper.wp
  simp only [execOp, resolve, Sem.run_bind, Sem.run_pure, Result.andThen_ok, invoke, builtin, List.map_toArray, List.map_cons, List.map_nil, he.eval hx, he.eval hy, this, Oper.upon_value, goInt]
  exact hK _ _ h _ _ (he.put hN _) (hs.setRow hu)
end
theorem band_nat {k : IntKind} (hk : k.signed = false) {x y : Int} (hx : 0 ≤ x) (hx2 : x < 2 ^ k.bits) (hy : 0 ≤ y) (hy2 : y < 2 ^ k.bits) : band k x y = ((x.toNat &&& y.toNat : Nat) : Int) := by
  obtain ⟨a, rfl⟩ := Int.eq_ofNat_of_zero_le hx
  obtain ⟨b, rfl⟩ := Int.eq_ofNat_of_zero_le hy
  have ha : a < 2 ^ k.bits := by exact_mod_cast hx2
  have hb : b < 2 ^ k.bits := by exact_mod_cast hy2
  have hand : a &&& b < 2 ^ k.bits := Nat.lt_of_le_of_lt Nat.and_le_left ha
  simp only [band, BitVec.ofInt_natCast, BitVec.toNat_and, BitVec.toNat_ofNat, Nat.mod_eq_of_lt ha, Nat.mod_eq_of_lt hb, Int.toNat_natCast, IntKind.wrap, hk, Bool.false_and, Bool.false_eq_true, if_false]
  rw [Int.emod_eq_of_lt (by omega) (by exact_mod_cast hand)]
theorem bor_nat {k : IntKind} (hk : k.signed = false) {x y : Int} (hx : 0 ≤ x) (hx2 : x < 2 ^ k.bits) (hy : 0 ≤ y) (hy2 : y < 2 ^ k.bits) : bor k x y = ((x.toNat ||| y.toNat : Nat) : Int) := by
  obtain ⟨a, rfl⟩ := Int.eq_ofNat_of_zero_le hx
  obtain ⟨b, rfl⟩ := Int.eq_ofNat_of_zero_le hy
  have ha : a < 2 ^ k.bits := by exact_mod_cast hx2
  have hb : b < 2 ^ k.bits := by exact_mod_cast hy2
  have hor : a ||| b < 2 ^ k.bits := Nat.or_lt_two_pow ha hb
  simp only [bor, BitVec.ofInt_natCast, BitVec.toNat_or, BitVec.toNat_ofNat, Nat.mod_eq_of_lt ha, Nat.mod_eq_of_lt hb, Int.toNat_natCast, IntKind.wrap, hk, Bool.false_and, Bool.false_eq_true, if_false]
  rw [Int.emod_eq_of_lt (by omega) (by exact_mod_cast hor)]
theorem band_u8 (x y : Int) : 0 ≤ band .u8 x y ∧ band .u8 x y ≤ 255 := by unfold band; rw [u8_mod]; omega
theorem bor_u8 (x y : Int) : 0 ≤ bor .u8 x y ∧ bor .u8 x y ≤ 255 := by unfold bor; rw [u8_mod]; omega
theorem band_u8_ff {x : Int} (h0 : 0 ≤ x) (h1 : x ≤ 255) : band .u8 255 x = x := by
  rw [band_nat rfl (by omega) (by decide) h0 (by simp only [IntKind.bits]; omega)]
  have : x.toNat < 2 ^ 8 := by omega
  have e : (255 : Int).toNat = 2 ^ 8 - 1 := rfl
  rw [e, Nat.and_comm, Nat.and_two_pow_sub_one_eq_mod, Nat.mod_eq_of_lt this]
  omega
theorem band_mask {k : IntKind} (hk : k.signed = false) {x y : Int} (n : Nat) (hx : 0 ≤ x) (hx2 : x < 2 ^ k.bits) (hy : y = 2 ^ n - 1) (hy2 : y < 2 ^ k.bits) : band k x y = x % 2 ^ n := by
  have hp : (0 : Int) < 2 ^ n := by exact_mod_cast Nat.two_pow_pos n
  rw [band_nat hk hx hx2 (by omega) hy2]
  have e : y.toNat = 2 ^ n - 1 := by
    subst hy
    have : ((2 : Int) ^ n) = ((2 ^ n : Nat) : Int) := by simp
    rw [this]; omega
  rw [e, Nat.and_two_pow_sub_one_eq_mod]
  obtain ⟨a, rfl⟩ := Int.eq_ofNat_of_zero_le hx
  simp
theorem shrv_lit {k : IntKind} (n : Nat) (x : Int) (hn : n ≤ k.bits) : shrv k x n = x / 2 ^ n := by
  unfold shrv
  rw [Int.toNat_natCast, Nat.min_eq_left hn]
  have : (0 : Int) ≤ 2 ^ n := by
    have := Nat.two_pow_pos n
    exact_mod_cast Nat.le_of_lt this
  rw [Int.fdiv_eq_ediv_of_nonneg _ this]
end Go.Sx
