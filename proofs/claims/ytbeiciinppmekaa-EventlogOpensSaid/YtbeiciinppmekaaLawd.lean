/-
  baseboardlaw09.EventlogPlays returns true, whatever the script; its conditions are its premises: the script lies in memory, and its numbers are of their kinds.
-/
import Derived.Test.YtbeiciinppmekaaTb
import Derived.Test.YtbeiciinppmekaaLawc
import Derived.Test.YtbeiciinppmekaaProg
namespace Go.Proofs.Ytbeiciinppmekaa
open Go Go.Sx Go.Proofs
set_option maxRecDepth 100000
set_option linter.unusedSimpArgs false
set_option linter.unusedVariables false
theorem sd_ct (F : Fr) (db bb bw cb cw f fb fw gb gw : Nat) (sb sw tb tw : List Value) (D : Dev) (hdb : F.h db = some (Blk.cells (devC D bb bw cb cw) 81).toObj) (hbb : F.h bb = some (Blk.cells (vI .u8 D.bytes ++ sb) 5).toObj) (hbw : F.h bw = some (Blk.cells (vI .i64 D.wear ++ sw) 3).toObj)
    (hf : F.h f = some (Blk.cells (devC D fb fw gb gw) 102).toObj) (hfb : F.h fb = some (Blk.cells (vI .u8 D.bytes ++ tb) 5).toObj) (hfw : F.h fw = some (Blk.cells (vI .i64 D.wear ++ tw) 3).toObj) (fine : D.Fine) (hcb : D.n ≤ cb) (hgb : D.n ≤ gb) (hn : 0 < D.n) :
    Ct Try.prog F 28 [.pointer (some ⟨db, 0, none⟩), .pointer (some ⟨f, 0, none⟩)] [] (S := Unit) (fun _ => True) (fun _ => .bool true) (fun _ => []) := by
  cases hd : D.down with
  | true => exact sdDown_ct F db bb bw cb cw f fb fw gb gw sb sw tb tw D hdb hbb hbw hf hfb hfw fine hcb hgb hd
  | false => exact sdUp_ct F db bb bw cb cw f fb fw gb gw sb sw tb tw D hdb hbb hbw hf hfb hfw fine hcb hgb hd hn
theorem limL_bd (i : Nat) : 0 ≤ ix limL i ∧ ix limL i ≤ 255 := by
  have h : Bytes limL := by unfold limL; intro x hx; simp at hx; omega
  exact h.ix i
theorem Di.byte_bd (D : Di) : 0 ≤ D.byte.1 ∧ D.byte.1 ≤ 255 := by
  unfold Di.byte
  split
  · exact limL_bd _
  · have := (D.bool 3).2.next_lt (m := 256) (by decide)
    omega
theorem typL_bd (i : Nat) : 0 ≤ ix typL i ∧ ix typL i ≤ 127 := by
  have h : ∀ x ∈ typL, 0 ≤ x ∧ x ≤ 127 := by unfold typL; intro x hx; simp at hx; omega
  unfold ix
  rw [List.getD_eq_getElem?_getD]
  cases hi : typL[i]? with
  | none => simp
  | some x => simpa using h x (List.mem_of_getElem? hi)
theorem ev_wf_of {t g s n y u v w : Int} {de : Bool} (ht : 0 ≤ t ∧ t ≤ 4294967294) (hg : 0 ≤ g ∧ g ≤ 65535) (hs : 0 ≤ s ∧ s ≤ 255) (hn : 0 ≤ n ∧ n ≤ 255) (hy : 0 ≤ y ∧ y ≤ 127) (hu : 0 ≤ u ∧ u ≤ 255) (hv : 0 ≤ v ∧ v ≤ 255) (hw : 0 ≤ w ∧ w ≤ 255) :
    (⟨0, t, g, s, n, y, de, u, v, w⟩ : Ev).Wf ∧ (⟨0, t, g, s, n, y, de, u, v, w⟩ : Ev).valid = true ∧ (⟨0, t, g, s, n, y, de, u, v, w⟩ : Ev).id = 0 := by
  refine ⟨⟨⟨Int.le_refl 0, by show (0 : Int) ≤ 65535; omega⟩, ⟨ht.1, by simp only; omega⟩, hg, hs, hn, ⟨hy.1, by simp only; omega⟩, hu, hv, hw⟩, ?_, rfl⟩
  simp only [Ev.valid, Bool.and_eq_true, decide_eq_true_eq]
  omega
theorem Di.event_wf (D : Di) : D.event.1.Wf ∧ D.event.1.valid = true ∧ D.event.1.id = 0 := by
  have h1 := D.next_lt (m := 2000000) (by decide)
  have h2 := (D.next 2000000).2.next_lt (m := 65536) (by decide)
  unfold Di.event
  refine ev_wf_of ?_ ⟨h2.1, by omega⟩ (Di.byte_bd _) (Di.byte_bd _) (typL_bd _) (Di.byte_bd _) (Di.byte_bd _) (Di.byte_bd _)
  split <;> omega
structure Pl (n m : Int) (Y : Lg) (R : Rl) (D : Dev) : Prop where
  fine : D.Fine
  like : D.Like (Dev.new n m)
  rS : R.S = n
  rf : R.Fine D
  st : (Agree Y R D ∧ D.down = false) ∨ (Y = Lg.gone ∧ R.ended = true ∧ R.refused = false)
theorem Pl.events {n m : Int} {Y : Lg} {R : Rl} {D : Dev} (h : Pl n m Y R D) : Y.events = R.records D := by
  rcases h.st with ⟨a, _⟩ | ⟨h1, h2, _⟩
  · exact a.events
  · rw [h1]; unfold Rl.records; rw [if_pos h2]; rfl
theorem Pl.full {n m : Int} {Y : Lg} {R : Rl} {D : Dev} (h : Pl n m Y R D) : Y.full = R.refused := by
  rcases h.st with ⟨a, _⟩ | ⟨h1, _, h2⟩
  · exact a.full
  · rw [h1, h2]; rfl
theorem Pl.len {n m : Int} {Y : Lg} {R : Rl} {D : Dev} (h : Pl n m Y R D) (hn : n ≤ 255) : Y.recs.length ≤ 16777216 := by
  rcases h.st with ⟨a, _⟩ | ⟨h1, _, _⟩
  · exact recs_len_bd a (by rw [h.rS]; exact hn)
  · rw [h1]; exact Nat.zero_le _
theorem Pl.gf {n m : Int} {Y : Lg} {R : Rl} {D : Dev} (h : Pl n m Y R D) : Y.ended = false → Y.Fine D := by
  intro he
  rcases h.st with ⟨a, _⟩ | ⟨h1, _, _⟩
  · exact a.yf
  · rw [h1] at he; cases he
theorem radd_last {R : Rl} {D : Dev} {e : Ev} : (R.add D e).1.first = R.first ∧ (R.add D e).1.S = R.S ∧ (R.add D e).1.last = R.last := by
  have h : ∀ (D : Dev) (e : Ev) (i : Int), (R.put D e i).1.first = R.first ∧ (R.put D e i).1.S = R.S ∧ (R.put D e i).1.last = R.last := by
    intro D e i
    unfold Rl.put
    split <;> exact ⟨rfl, rfl, rfl⟩
  unfold Rl.add
  split
  · exact ⟨rfl, rfl, rfl⟩
  · split
    · exact ⟨rfl, rfl, rfl⟩
    · split
      · split
        · exact ⟨rfl, rfl, rfl⟩
        · split
          · exact ⟨rfl, rfl, rfl⟩
          · split
            · exact h _ _ _
            · exact ⟨rfl, rfl, rfl⟩
      · exact h _ _ _
theorem rclear_last {R : Rl} {D : Dev} {r : Int} : (R.clear D r).1.first = R.first ∧ (R.clear D r).1.S = R.S ∧ (R.clear D r).1.last = R.last := by
  unfold Rl.clear
  split
  · exact ⟨rfl, rfl, rfl⟩
  · split
    · exact ⟨rfl, rfl, rfl⟩
    · split
      · split
        · exact ⟨rfl, rfl, rfl⟩
        · split <;> exact ⟨rfl, rfl, rfl⟩
      · exact ⟨rfl, rfl, rfl⟩
theorem Pl.add {n m : Int} {Y : Lg} {R : Rl} {D : Dev} (h : Pl n m Y R D) {e : Ev} (wf : e.Wf) : (Y.add D e).2 = (R.add D e).2 ∧ Pl n m (Y.add D e).1 (R.add D e).1 (R.add D e).2.1 := by
  have hl := radd_last (R := R) (D := D) (e := e)
  have hrf : ∀ {E : Dev}, E.Like D → (R.add D e).1.Fine E := fun l => ⟨by rw [hl.1]; exact h.rf.f0, by rw [hl.2.1]; exact h.rf.S2, by rw [hl.1, hl.2.1, l.2.1]; exact h.rf.fS, by rw [l.2.2]; exact h.rf.sz, by rw [hl.2.2]; exact h.rf.l0, by rw [hl.2.2]; exact h.rf.l1⟩
  rcases h.st with ⟨a, hd⟩ | ⟨h1, h2, h3⟩
  · obtain ⟨e1, o, f, l, _⟩ := add_agree a hd wf
    have e2 : Y.add D e = Y.addUp D e := by unfold Lg.add; rw [if_neg (by simp [a.ye, hd])]
    rw [e2]
    refine ⟨e1, f, l.trans h.like, by rw [hl.2.1]; exact h.rS, hrf l, ?_⟩
    rcases o with o | ⟨o1, o2, o3, _⟩
    · exact .inl o
    · exact .inr ⟨o1, o2, o3⟩
  · have e1 : Y.add D e = (Lg.gone, D, 0, 10) := by unfold Lg.add; rw [if_pos (by rw [h1]; rfl)]
    have e2 : R.add D e = (R.endR, D, 0, 10) := by unfold Rl.add; rw [if_pos (by rw [h2]; rfl)]
    rw [e1, e2]
    exact ⟨rfl, h.fine, h.like, h.rS, ⟨h.rf.f0, h.rf.S2, h.rf.fS, h.rf.sz, h.rf.l0, h.rf.l1⟩, .inr ⟨rfl, rfl, rfl⟩⟩
theorem Pl.clear {n m : Int} {Y : Lg} {R : Rl} {D : Dev} (h : Pl n m Y R D) (r : Int) : (Y.clear D r).2 = (R.clear D r).2 ∧ Pl n m (Y.clear D r).1 (R.clear D r).1 (R.clear D r).2.1 := by
  have hl := rclear_last (R := R) (D := D) (r := r)
  have hrf : ∀ {E : Dev}, E.Like D → (R.clear D r).1.Fine E := fun l => ⟨by rw [hl.1]; exact h.rf.f0, by rw [hl.2.1]; exact h.rf.S2, by rw [hl.1, hl.2.1, l.2.1]; exact h.rf.fS, by rw [l.2.2]; exact h.rf.sz, by rw [hl.2.2]; exact h.rf.l0, by rw [hl.2.2]; exact h.rf.l1⟩
  rcases h.st with ⟨a, hd⟩ | ⟨h1, h2, h3⟩
  · obtain ⟨e1, o, f, l, _⟩ := clear_agree a hd r
    have e2 : Y.clear D r = Y.clearUp D r := by unfold Lg.clear; rw [if_neg (by simp [a.ye, hd])]
    rw [e2]
    refine ⟨e1, f, l.trans h.like, by rw [hl.2.1]; exact h.rS, hrf l, ?_⟩
    rcases o with o | ⟨o1, o2, o3, _⟩
    · exact .inl o
    · exact .inr ⟨o1, o2, o3⟩
  · have e1 : Y.clear D r = (Lg.gone, D, 10) := by unfold Lg.clear; rw [if_pos (by rw [h1]; rfl)]
    have e2 : R.clear D r = (R.endR, D, 10) := by unfold Rl.clear; rw [if_pos (by rw [h2]; rfl)]
    rw [e1, e2]
    exact ⟨rfl, h.fine, h.like, h.rS, ⟨h.rf.f0, h.rf.S2, h.rf.fS, h.rf.sz, h.rf.l0, h.rf.l1⟩, .inr ⟨rfl, rfl, rfl⟩⟩
theorem Pl.opened {n m : Int} {D : Dev} (f : D.Fine) (l : D.Like (Dev.new n m)) (hd : D.down = false) (over : Bool) (hno : noRoom D.nw 0 n = false) (hm : 64 ≤ m) : Pl n m (openL 0 n over D) (Rl.open0 0 n over) D := by
  have a := openL_agree f (over := over) hno (by rw [l.2.2]; exact hm)
  exact ⟨f, l, rfl, a.rf, .inl ⟨a, hd⟩⟩
theorem Pl.dOf {n m : Int} {D : Dev} {over : Bool} (h : Pl n m (openL 0 n over D) (Rl.open0 0 n over) D) (q : Nat) : Go.Proofs.Ytbeiciinppmekaa.dOf (openL 0 n over D) q = some ⟨q, 0, none⟩ := by
  rcases h.st with ⟨a, _⟩ | ⟨_, h2, _⟩
  · unfold Go.Proofs.Ytbeiciinppmekaa.dOf; rw [a.ye]; rfl
  · cases h2
end Go.Proofs.Ytbeiciinppmekaa
