/-
  baseboardlaw09.EventlogPlays returns true, whatever the script; its conditions are its premises: the script lies in memory, and its numbers are of their kinds.
-/
import Derived.Test.YtbeiciinppmekaaTb
import Derived.Test.YtbeiciinppmekaaLawc
import Derived.Test.YtbeiciinppmekaaProg
namespace Go.Proofs.Ytbeiciinppmekaa
open Go Go.Sx Go.Proofs
set_option maxRecDepth 100000
set_option linter.unusedSimpArgs false
set_option linter.unusedVariables false
theorem limL_bd (i : Nat) : 0 ≤ ix limL i ∧ ix limL i ≤ 255 := by
  have h : Bytes limL := by unfold limL; intro x hx; simp at hx; omega
  exact h.ix i
theorem Di.byte_bd (D : Di) : 0 ≤ D.byte.1 ∧ D.byte.1 ≤ 255 := by
  unfold Di.byte
  split
  · exact limL_bd _
  · have := (D.bool 3).2.next_lt (m := 256) (by decide)
    omega
theorem typL_bd (i : Nat) : 0 ≤ ix typL i ∧ ix typL i ≤ 127 := by
  have h : ∀ x ∈ typL, 0 ≤ x ∧ x ≤ 127 := by unfold typL; intro x hx; simp at hx; omega
  unfold ix
  rw [List.getD_eq_getElem?_getD]
  cases hi : typL[i]? with
  | none => simp
  | some x => simpa using h x (List.mem_of_getElem? hi)
theorem ev_wf_of {t g s n y u v w : Int} {de : Bool} (ht : 0 ≤ t ∧ t ≤ 4294967294) (hg : 0 ≤ g ∧ g ≤ 65535) (hs : 0 ≤ s ∧ s ≤ 255) (hn : 0 ≤ n ∧ n ≤ 255) (hy : 0 ≤ y ∧ y ≤ 127) (hu : 0 ≤ u ∧ u ≤ 255) (hv : 0 ≤ v ∧ v ≤ 255) (hw : 0 ≤ w ∧ w ≤ 255) :
    (⟨0, t, g, s, n, y, de, u, v, w⟩ : Ev).Wf ∧ (⟨0, t, g, s, n, y, de, u, v, w⟩ : Ev).valid = true ∧ (⟨0, t, g, s, n, y, de, u, v, w⟩ : Ev).id = 0 := by
  refine ⟨⟨⟨Int.le_refl 0, by show (0 : Int) ≤ 65535; omega⟩, ⟨ht.1, by simp only; omega⟩, hg, hs, hn, ⟨hy.1, by simp only; omega⟩, hu, hv, hw⟩, ?_, rfl⟩
  simp only [Ev.valid, Bool.and_eq_true, decide_eq_true_eq]
  omega
theorem Di.event_wf (D : Di) : D.event.1.Wf ∧ D.event.1.valid = true ∧ D.event.1.id = 0 := by
  have h1 := D.next_lt (m := 2000000) (by decide)
  have h2 := (D.next 2000000).2.next_lt (m := 65536) (by decide)
  unfold Di.event
  refine ev_wf_of ?_ ⟨h2.1, by omega⟩ (Di.byte_bd _) (Di.byte_bd _) (typL_bd _) (Di.byte_bd _) (Di.byte_bd _) (Di.byte_bd _)
  split <;> omega
structure Pl (n m : Int) (Y : Lg) (R : Rl) (D : Dev) : Prop where
  fine : D.Fine
  like : D.Like (Dev.new n m)
  rS : R.S = n
  rf : R.Fine D
  st : (Agree Y R D ∧ D.down = false) ∨ (Y = Lg.gone ∧ R.ended = true ∧ R.refused = false)
theorem Pl.events {n m : Int} {Y : Lg} {R : Rl} {D : Dev} (h : Pl n m Y R D) : Y.events = R.records D := by
  rcases h.st with ⟨a, _⟩ | ⟨h1, h2, _⟩
  · exact a.events
  · rw [h1]; unfold Rl.records; rw [if_pos h2]; rfl
theorem Pl.full {n m : Int} {Y : Lg} {R : Rl} {D : Dev} (h : Pl n m Y R D) : Y.full = R.refused := by
  rcases h.st with ⟨a, _⟩ | ⟨h1, _, h2⟩
  · exact a.full
  · rw [h1, h2]; rfl
theorem Pl.len {n m : Int} {Y : Lg} {R : Rl} {D : Dev} (h : Pl n m Y R D) (hn : n ≤ 255) : Y.recs.length ≤ 16777216 := by
  rcases h.st with ⟨a, _⟩ | ⟨h1, _, _⟩
  · exact recs_len_bd a (by rw [h.rS]; exact hn)
  · rw [h1]; exact Nat.zero_le _
theorem Pl.gf {n m : Int} {Y : Lg} {R : Rl} {D : Dev} (h : Pl n m Y R D) : Y.ended = false → Y.Fine D := by
  intro he
  rcases h.st with ⟨a, _⟩ | ⟨h1, _, _⟩
  · exact a.yf
  · rw [h1] at he; cases he
theorem radd_last {R : Rl} {D : Dev} {e : Ev} : (R.add D e).1.first = R.first ∧ (R.add D e).1.S = R.S ∧ (R.add D e).1.last = R.last := by
  have h : ∀ (D : Dev) (e : Ev) (i : Int), (R.put D e i).1.first = R.first ∧ (R.put D e i).1.S = R.S ∧ (R.put D e i).1.last = R.last := by
    intro D e i
    unfold Rl.put
    split <;> exact ⟨rfl, rfl, rfl⟩
  unfold Rl.add
  split
  · exact ⟨rfl, rfl, rfl⟩
  · split
    · exact ⟨rfl, rfl, rfl⟩
    · split
      · split
        · exact ⟨rfl, rfl, rfl⟩
        · split
          · exact ⟨rfl, rfl, rfl⟩
          · split
            · exact h _ _ _
            · exact ⟨rfl, rfl, rfl⟩
      · exact h _ _ _
theorem rclear_last {R : Rl} {D : Dev} {r : Int} : (R.clear D r).1.first = R.first ∧ (R.clear D r).1.S = R.S ∧ (R.clear D r).1.last = R.last := by
  unfold Rl.clear
  split
  · exact ⟨rfl, rfl, rfl⟩
  · split
    · exact ⟨rfl, rfl, rfl⟩
    · split
      · split
        · exact ⟨rfl, rfl, rfl⟩
        · split <;> exact ⟨rfl, rfl, rfl⟩
      · exact ⟨rfl, rfl, rfl⟩
theorem Pl.add {n m : Int} {Y : Lg} {R : Rl} {D : Dev} (h : Pl n m Y R D) {e : Ev} (wf : e.Wf) : (Y.add D e).2 = (R.add D e).2 ∧ Pl n m (Y.add D e).1 (R.add D e).1 (R.add D e).2.1 := by
  have hl := radd_last (R := R) (D := D) (e := e)
  have hrf : ∀ {E : Dev}, E.Like D → (R.add D e).1.Fine E := fun l => ⟨by rw [hl.1]; exact h.rf.f0, by rw [hl.2.1]; exact h.rf.S2, by rw [hl.1, hl.2.1, l.2.1]; exact h.rf.fS, by rw [l.2.2]; exact h.rf.sz, by rw [hl.2.2]; exact h.rf.l0, by rw [hl.2.2]; exact h.rf.l1⟩
  rcases h.st with ⟨a, hd⟩ | ⟨h1, h2, h3⟩
  · obtain ⟨e1, o, f, l, _⟩ := add_agree a hd wf
    have e2 : Y.add D e = Y.addUp D e := by unfold Lg.add; rw [if_neg (by simp [a.ye, hd])]
    rw [e2]
    refine ⟨e1, f, l.trans h.like, by rw [hl.2.1]; exact h.rS, hrf l, ?_⟩
    rcases o with o | ⟨o1, o2, o3, _⟩
    · exact .inl o
    · exact .inr ⟨o1, o2, o3⟩
  · have e1 : Y.add D e = (Lg.gone, D, 0, 10) := by unfold Lg.add; rw [if_pos (by rw [h1]; rfl)]
    have e2 : R.add D e = (R.endR, D, 0, 10) := by unfold Rl.add; rw [if_pos (by rw [h2]; rfl)]
    rw [e1, e2]
    exact ⟨rfl, h.fine, h.like, h.rS, ⟨h.rf.f0, h.rf.S2, h.rf.fS, h.rf.sz, h.rf.l0, h.rf.l1⟩, .inr ⟨rfl, rfl, rfl⟩⟩
theorem Pl.clear {n m : Int} {Y : Lg} {R : Rl} {D : Dev} (h : Pl n m Y R D) (r : Int) : (Y.clear D r).2 = (R.clear D r).2 ∧ Pl n m (Y.clear D r).1 (R.clear D r).1 (R.clear D r).2.1 := by
  have hl := rclear_last (R := R) (D := D) (r := r)
  have hrf : ∀ {E : Dev}, E.Like D → (R.clear D r).1.Fine E := fun l => ⟨by rw [hl.1]; exact h.rf.f0, by rw [hl.2.1]; exact h.rf.S2, by rw [hl.1, hl.2.1, l.2.1]; exact h.rf.fS, by rw [l.2.2]; exact h.rf.sz, by rw [hl.2.2]; exact h.rf.l0, by rw [hl.2.2]; exact h.rf.l1⟩
  rcases h.st with ⟨a, hd⟩ | ⟨h1, h2, h3⟩
  · obtain ⟨e1, o, f, l, _⟩ := clear_agree a hd r
    have e2 : Y.clear D r = Y.clearUp D r := by unfold Lg.clear; rw [if_neg (by simp [a.ye, hd])]
    rw [e2]
    refine ⟨e1, f, l.trans h.like, by rw [hl.2.1]; exact h.rS, hrf l, ?_⟩
    rcases o with o | ⟨o1, o2, o3, _⟩
    · exact .inl o
    · exact .inr ⟨o1, o2, o3⟩
  · have e1 : Y.clear D r = (Lg.gone, D, 10) := by unfold Lg.clear; rw [if_pos (by rw [h1]; rfl)]
    have e2 : R.clear D r = (R.endR, D, 10) := by unfold Rl.clear; rw [if_pos (by rw [h2]; rfl)]
    rw [e1, e2]
    exact ⟨rfl, h.fine, h.like, h.rS, ⟨h.rf.f0, h.rf.S2, h.rf.fS, h.rf.sz, h.rf.l0, h.rf.l1⟩, .inr ⟨rfl, rfl, rfl⟩⟩
theorem Dev.arm_like (D : Dev) (k t : Int) : (D.arm k t).Like D ∧ (D.arm k t).bytes = D.bytes ∧ (D.arm k t).down = D.down ∧ (D.arm k t).wear = D.wear := by unfold Dev.arm; split <;> exact ⟨⟨rfl, rfl, rfl⟩, rfl, rfl, rfl⟩
theorem Dev.arm_fine {D : Dev} (h : D.Fine) {k t : Int} (hk : k ≤ 80) : (D.arm k t).Fine := by
  unfold Dev.arm
  split
  · exact h
  · exact ⟨⟨h.ok.hn, h.ok.hw, h.ok.len, h.ok.wlen, by simp only; omega⟩, ⟨by simp only; omega, h.ok2.bytes⟩, ⟨h.geo.size0, h.geo.size1, h.geo.all⟩⟩
theorem Rl.same_bytes {R : Rl} {D E : Dev} (hb : E.bytes = D.bytes) (hl : E.Like D) : R.newest E = R.newest D ∧ R.recQ E = R.recQ D ∧ R.usedN E = R.usedN D ∧ R.nextID E = R.nextID D ∧ R.records E = R.records D := by
  have hs : ∀ j, R.sec E j = R.sec D j := fun j => by unfold Rl.sec secL; rw [R.base_like hl, hb, hl.2.2]
  have hh : ∀ j, R.hdr E j = R.hdr D j := fun j => R.hdr_same (hs j)
  have ho : ∀ j, R.ofS E j = R.ofS D j := fun j => R.ofS_same (hs j) hl
  have hn : R.newest E = R.newest D := R.newest_same fun k _ _ => hh k
  have ha : ∀ s, R.at_ E s = R.at_ D s := fun s => by unfold Rl.at_; rw [hh, ho]
  have hs' : ∀ j, secL E (R.base E j) = secL D (R.base D j) := hs
  refine ⟨hn, ?_, ?_, ?_, ?_⟩
  · unfold Rl.recQ
    rw [hn]
    split
    · exact Rl.recR_same _ fun s _ _ => ha s
    · rfl
  · unfold Rl.usedN
    rw [hn, hs', hl.2.2]
  · unfold Rl.nextID
    rw [hn, ho, hs']
  · unfold Rl.records
    rw [hn]
    split
    · rfl
    · split
      · rw [← R.recR_map, ← R.recR_map, Rl.recR_same _ fun s _ _ => ha s]
      · rfl
theorem Agree.same {Y : Lg} {R : Rl} {D E : Dev} (a : Agree Y R D) (hb : E.bytes = D.bytes) (hl : E.Like D) (f : E.Fine) : Agree Y R E := by
  obtain ⟨s1, s2, s3, s4, _⟩ := R.same_bytes hb hl
  exact ⟨a.first, a.S, a.over, by rw [s1]; exact a.newest, by rw [s1]; exact a.tail, by rw [s2]; exact a.recs, by rw [s1, s3]; exact a.used, by rw [s4]; exact a.next, a.full, a.num, a.held, a.ye, a.re, f, a.rf.like hl⟩
theorem Pl.arm {n m : Int} {Y : Lg} {R : Rl} {D : Dev} (h : Pl n m Y R D) {k : Int} (hk : k ≤ 80) (t : Int) : Pl n m Y R (D.arm k t) := by
  obtain ⟨l, b, d, _⟩ := D.arm_like k t
  have f := Dev.arm_fine h.fine (t := t) hk
  refine ⟨f, l.trans h.like, h.rS, h.rf.like l, ?_⟩
  rcases h.st with ⟨a, hd⟩ | h1
  · exact .inl ⟨a.same b l f, by rw [d]; exact hd⟩
  · exact .inr h1
theorem Dev.restore_fine {D : Dev} (h : D.Fine) : D.restore.Fine := ⟨⟨h.ok.hn, h.ok.hw, h.ok.len, h.ok.wlen, by show (0 : Int) ≤ _; omega⟩, ⟨Int.le_refl 0, h.ok2.bytes⟩, ⟨h.geo.size0, h.geo.size1, h.geo.all⟩⟩
theorem Pl.opened {n m : Int} {D : Dev} (f : D.Fine) (l : D.Like (Dev.new n m)) (hd : D.down = false) (over : Bool) (hno : noRoom D.nw 0 n = false) (hm : 64 ≤ m) : Pl n m (openL 0 n over D) (Rl.open0 0 n over) D := by
  have a := openL_agree f (over := over) hno (by rw [l.2.2]; exact hm)
  exact ⟨f, l, rfl, a.rf, .inl ⟨a, hd⟩⟩
theorem Pl.dOf {n m : Int} {D : Dev} {over : Bool} (h : Pl n m (openL 0 n over D) (Rl.open0 0 n over) D) (q : Nat) : Go.Proofs.Ytbeiciinppmekaa.dOf (openL 0 n over D) q = some ⟨q, 0, none⟩ := by
  rcases h.st with ⟨a, _⟩ | ⟨_, h2, _⟩
  · unfold Go.Proofs.Ytbeiciinppmekaa.dOf; rw [a.ye]; rfl
  · cases h2
theorem noRoom_new {n m : Int} {D : Dev} (l : D.Like (Dev.new n m)) (h0 : 2 ≤ n) : noRoom D.nw 0 n = false := by
  have e : D.nw = n.toNat := l.2.1
  rw [e]
  simp only [noRoom, decide_eq_false_iff_not]
  omega
end Go.Proofs.Ytbeiciinppmekaa
