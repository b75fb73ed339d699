/-
  baseboardlaw09.EventlogPlays returns true, whatever the script; its conditions are its premises: the script lies in memory, and its numbers are of their kinds.
-/
import Derived.Test.YtbeiciinppmekaaTb
import Derived.Test.YtbeiciinppmekaaLawc
import Derived.Test.YtbeiciinppmekaaProg
namespace Go.Proofs.Ytbeiciinppmekaa
open Go Go.Sx Go.Proofs
set_option maxRecDepth 100000
set_option linter.unusedSimpArgs false
set_option linter.unusedVariables false


theorem sd_ct (F : Fr) (db bb bw cb cw f fb fw gb gw : Nat) (sb sw tb tw : List Value) (D : Dev) (hdb : F.h db = some (Blk.cells (devC D bb bw cb cw) 81).toObj) (hbb : F.h bb = some (Blk.cells (vI .u8 D.bytes ++ sb) 5).toObj) (hbw : F.h bw = some (Blk.cells (vI .i64 D.wear ++ sw) 3).toObj)
    (hf : F.h f = some (Blk.cells (devC D fb fw gb gw) 102).toObj) (hfb : F.h fb = some (Blk.cells (vI .u8 D.bytes ++ tb) 5).toObj) (hfw : F.h fw = some (Blk.cells (vI .i64 D.wear ++ tw) 3).toObj) (fine : D.Fine) (hcb : D.n ≤ cb) (hgb : D.n ≤ gb) (hn : 0 < D.n) :
    Ct Try.prog F 28 [.pointer (some ⟨db, 0, none⟩), .pointer (some ⟨f, 0, none⟩)] [] (S := Unit) (fun _ => True) (fun _ => .bool true) (fun _ => []) := by
  cases hd : D.down with
  | true => exact sdDown_ct F db bb bw cb cw f fb fw gb gw sb sw tb tw D hdb hbb hbw hf hfb hfw fine hcb hgb hd
  | false => exact sdUp_ct F db bb bw cb cw f fb fw gb gw sb sw tb tw D hdb hbb hbw hf hfb hfw fine hcb hgb hd hn
/-! The dice's events are good. -/
theorem limL_bd (i : Nat) : 0 ≤ ix limL i ∧ ix limL i ≤ 255 := by
  have h : Bytes limL := by unfold limL; intro x hx; simp at hx; omega
  exact h.ix i
theorem Di.byte_bd (D : Di) : 0 ≤ D.byte.1 ∧ D.byte.1 ≤ 255 := by
  unfold Di.byte
  split
  · exact limL_bd _
  · have := (D.bool 3).2.next_lt (m := 256) (by decide)
    omega
theorem typL_bd (i : Nat) : 0 ≤ ix typL i ∧ ix typL i ≤ 127 := by
  have h : ∀ x ∈ typL, 0 ≤ x ∧ x ≤ 127 := by unfold typL; intro x hx; simp at hx; omega
  unfold ix
  rw [List.getD_eq_getElem?_getD]
  cases hi : typL[i]? with
  | none => simp
  | some x => simpa using h x (List.mem_of_getElem? hi)
theorem ev_wf_of {t g s n y u v w : Int} {de : Bool} (ht : 0 ≤ t ∧ t ≤ 4294967294) (hg : 0 ≤ g ∧ g ≤ 65535) (hs : 0 ≤ s ∧ s ≤ 255) (hn : 0 ≤ n ∧ n ≤ 255) (hy : 0 ≤ y ∧ y ≤ 127) (hu : 0 ≤ u ∧ u ≤ 255) (hv : 0 ≤ v ∧ v ≤ 255) (hw : 0 ≤ w ∧ w ≤ 255) :
    (⟨0, t, g, s, n, y, de, u, v, w⟩ : Ev).Wf ∧ (⟨0, t, g, s, n, y, de, u, v, w⟩ : Ev).valid = true ∧ (⟨0, t, g, s, n, y, de, u, v, w⟩ : Ev).id = 0 := by
  refine ⟨⟨⟨Int.le_refl 0, by show (0 : Int) ≤ 65535; omega⟩, ⟨ht.1, by simp only; omega⟩, hg, hs, hn, ⟨hy.1, by simp only; omega⟩, hu, hv, hw⟩, ?_, rfl⟩
  simp only [Ev.valid, Bool.and_eq_true, decide_eq_true_eq]
  omega
theorem Di.event_wf (D : Di) : D.event.1.Wf ∧ D.event.1.valid = true ∧ D.event.1.id = 0 := by
  have h1 := D.next_lt (m := 2000000) (by decide)
  have h2 := (D.next 2000000).2.next_lt (m := 65536) (by decide)
  unfold Di.event
  refine ev_wf_of ?_ ⟨h2.1, by omega⟩ (Di.byte_bd _) (Di.byte_bd _) (typL_bd _) (Di.byte_bd _) (Di.byte_bd _) (Di.byte_bd _)
  split <;> omega
/-! What holds of the two logs and their devices between the steps of a script. -/
structure Pl (n m : Int) (Y : Lg) (R : Rl) (D : Dev) : Prop where
  fine : D.Fine
  like : D.Like (Dev.new n m)
  rS : R.S = n
  rf : R.Fine D
  st : (Agree Y R D ∧ D.down = false) ∨ (Y = Lg.gone ∧ R.ended = true ∧ R.refused = false)
theorem Pl.events {n m : Int} {Y : Lg} {R : Rl} {D : Dev} (h : Pl n m Y R D) : Y.events = R.records D := by
  rcases h.st with ⟨a, _⟩ | ⟨h1, h2, _⟩
  · exact a.events
  · rw [h1]; unfold Rl.records; rw [if_pos h2]; rfl
theorem Pl.full {n m : Int} {Y : Lg} {R : Rl} {D : Dev} (h : Pl n m Y R D) : Y.full = R.refused := by
  rcases h.st with ⟨a, _⟩ | ⟨h1, _, h2⟩
  · exact a.full
  · rw [h1, h2]; rfl
theorem Pl.len {n m : Int} {Y : Lg} {R : Rl} {D : Dev} (h : Pl n m Y R D) (hn : n ≤ 255) : Y.recs.length ≤ 16777216 := by
  rcases h.st with ⟨a, _⟩ | ⟨h1, _, _⟩
  · exact recs_len_bd a (by rw [h.rS]; exact hn)
  · rw [h1]; exact Nat.zero_le _
theorem Pl.gf {n m : Int} {Y : Lg} {R : Rl} {D : Dev} (h : Pl n m Y R D) : Y.ended = false → Y.Fine D := by
  intro he
  rcases h.st with ⟨a, _⟩ | ⟨h1, _, _⟩
  · exact a.yf
  · rw [h1] at he; cases he
theorem radd_last {R : Rl} {D : Dev} {e : Ev} : (R.add D e).1.first = R.first ∧ (R.add D e).1.S = R.S ∧ (R.add D e).1.last = R.last := by
  have h : ∀ (D : Dev) (e : Ev) (i : Int), (R.put D e i).1.first = R.first ∧ (R.put D e i).1.S = R.S ∧ (R.put D e i).1.last = R.last := by
    intro D e i
    unfold Rl.put
    split <;> exact ⟨rfl, rfl, rfl⟩
  unfold Rl.add
  split
  · exact ⟨rfl, rfl, rfl⟩
  · split
    · exact ⟨rfl, rfl, rfl⟩
    · split
      · split
        · exact ⟨rfl, rfl, rfl⟩
        · split
          · exact ⟨rfl, rfl, rfl⟩
          · split
            · exact h _ _ _
            · exact ⟨rfl, rfl, rfl⟩
      · exact h _ _ _
theorem rclear_last {R : Rl} {D : Dev} {r : Int} : (R.clear D r).1.first = R.first ∧ (R.clear D r).1.S = R.S ∧ (R.clear D r).1.last = R.last := by
  unfold Rl.clear
  split
  · exact ⟨rfl, rfl, rfl⟩
  · split
    · exact ⟨rfl, rfl, rfl⟩
    · split
      · split
        · exact ⟨rfl, rfl, rfl⟩
        · split <;> exact ⟨rfl, rfl, rfl⟩
      · exact ⟨rfl, rfl, rfl⟩
theorem Pl.add {n m : Int} {Y : Lg} {R : Rl} {D : Dev} (h : Pl n m Y R D) {e : Ev} (wf : e.Wf) : (Y.add D e).2 = (R.add D e).2 ∧ Pl n m (Y.add D e).1 (R.add D e).1 (R.add D e).2.1 := by
  have hl := radd_last (R := R) (D := D) (e := e)
  have hrf : ∀ {E : Dev}, E.Like D → (R.add D e).1.Fine E := fun l => ⟨by rw [hl.1]; exact h.rf.f0, by rw [hl.2.1]; exact h.rf.S2, by rw [hl.1, hl.2.1, l.2.1]; exact h.rf.fS, by rw [l.2.2]; exact h.rf.sz, by rw [hl.2.2]; exact h.rf.l0, by rw [hl.2.2]; exact h.rf.l1⟩
  rcases h.st with ⟨a, hd⟩ | ⟨h1, h2, h3⟩
  · obtain ⟨e1, o, f, l, _⟩ := add_agree a hd wf
    have e2 : Y.add D e = Y.addUp D e := by unfold Lg.add; rw [if_neg (by simp [a.ye, hd])]
    rw [e2]
    refine ⟨e1, f, l.trans h.like, by rw [hl.2.1]; exact h.rS, hrf l, ?_⟩
    rcases o with o | ⟨o1, o2, o3, _⟩
    · exact .inl o
    · exact .inr ⟨o1, o2, o3⟩
  · have e1 : Y.add D e = (Lg.gone, D, 0, 10) := by unfold Lg.add; rw [if_pos (by rw [h1]; rfl)]
    have e2 : R.add D e = (R.endR, D, 0, 10) := by unfold Rl.add; rw [if_pos (by rw [h2]; rfl)]
    rw [e1, e2]
    exact ⟨rfl, h.fine, h.like, h.rS, ⟨h.rf.f0, h.rf.S2, h.rf.fS, h.rf.sz, h.rf.l0, h.rf.l1⟩, .inr ⟨rfl, rfl, rfl⟩⟩
theorem Pl.clear {n m : Int} {Y : Lg} {R : Rl} {D : Dev} (h : Pl n m Y R D) (r : Int) : (Y.clear D r).2 = (R.clear D r).2 ∧ Pl n m (Y.clear D r).1 (R.clear D r).1 (R.clear D r).2.1 := by
  have hl := rclear_last (R := R) (D := D) (r := r)
  have hrf : ∀ {E : Dev}, E.Like D → (R.clear D r).1.Fine E := fun l => ⟨by rw [hl.1]; exact h.rf.f0, by rw [hl.2.1]; exact h.rf.S2, by rw [hl.1, hl.2.1, l.2.1]; exact h.rf.fS, by rw [l.2.2]; exact h.rf.sz, by rw [hl.2.2]; exact h.rf.l0, by rw [hl.2.2]; exact h.rf.l1⟩
  rcases h.st with ⟨a, hd⟩ | ⟨h1, h2, h3⟩
  · obtain ⟨e1, o, f, l, _⟩ := clear_agree a hd r
    have e2 : Y.clear D r = Y.clearUp D r := by unfold Lg.clear; rw [if_neg (by simp [a.ye, hd])]
    rw [e2]
    refine ⟨e1, f, l.trans h.like, by rw [hl.2.1]; exact h.rS, hrf l, ?_⟩
    rcases o with o | ⟨o1, o2, o3, _⟩
    · exact .inl o
    · exact .inr ⟨o1, o2, o3⟩
  · have e1 : Y.clear D r = (Lg.gone, D, 10) := by unfold Lg.clear; rw [if_pos (by rw [h1]; rfl)]
    have e2 : R.clear D r = (R.endR, D, 10) := by unfold Rl.clear; rw [if_pos (by rw [h2]; rfl)]
    rw [e1, e2]
    exact ⟨rfl, h.fine, h.like, h.rS, ⟨h.rf.f0, h.rf.S2, h.rf.fS, h.rf.sz, h.rf.l0, h.rf.l1⟩, .inr ⟨rfl, rfl, rfl⟩⟩
theorem Pl.reserve {n m : Int} {Y : Lg} {R : Rl} {D : Dev} (h : Pl n m Y R D) : Y.reserve.2 = R.reserve.2 ∧ Pl n m Y.reserve.1 R.reserve.1 D ∧ Y.reserve.1.recs = Y.recs ∧ dOf Y.reserve.1 = dOf Y ∧ 0 ≤ R.reserve.2 ∧ R.reserve.2 ≤ 65535 := by
  have l0 := h.rf.l0
  have l1 := h.rf.l1
  rcases h.st with ⟨a, hd⟩ | ⟨h1, h2, h3⟩
  · have e1 : Y.reserve = ({ Y with num := Y.num % 65535 + 1, held := true }, Y.num % 65535 + 1) := by unfold Lg.reserve; rw [if_neg (by simp [a.ye])]
    have e2 : R.reserve = ({ R with last := R.last % 65535 + 1, held := true }, R.last % 65535 + 1) := by unfold Rl.reserve; rw [if_neg (by simp [a.re])]
    rw [e1, e2]
    have rf2 : ({ R with last := R.last % 65535 + 1, held := true } : Rl).Fine D := ⟨h.rf.f0, h.rf.S2, h.rf.fS, h.rf.sz, by simp only; omega, by simp only; omega⟩
    exact ⟨by rw [a.num], ⟨h.fine, h.like, h.rS, rf2, .inl ⟨⟨a.first, a.S, a.over, a.newest, a.tail, a.recs, a.used, a.next, a.full, by simp only; rw [a.num], rfl, a.ye, a.re, a.fine, rf2⟩, hd⟩⟩, rfl, rfl, by simp only; omega, by simp only; omega⟩
  · have e1 : Y.reserve = (Y, 0) := by unfold Lg.reserve; rw [if_pos (by rw [h1]; rfl)]
    have e2 : R.reserve = (R, 0) := by unfold Rl.reserve; rw [if_pos h2]
    rw [e1, e2]
    exact ⟨rfl, h, rfl, rfl, by show (0 : Int) ≤ 0; omega, by show (0 : Int) ≤ 65535; omega⟩
theorem Dev.arm_like (D : Dev) (k t : Int) : (D.arm k t).Like D ∧ (D.arm k t).bytes = D.bytes ∧ (D.arm k t).down = D.down ∧ (D.arm k t).wear = D.wear := by unfold Dev.arm; split <;> exact ⟨⟨rfl, rfl, rfl⟩, rfl, rfl, rfl⟩
theorem Dev.arm_fine {D : Dev} (h : D.Fine) {k t : Int} (hk : k ≤ 80) : (D.arm k t).Fine := by
  unfold Dev.arm
  split
  · exact h
  · exact ⟨⟨h.ok.hn, h.ok.hw, h.ok.len, h.ok.wlen, by simp only; omega⟩, ⟨by simp only; omega, h.ok2.bytes⟩, ⟨h.geo.size0, h.geo.size1, h.geo.all⟩⟩
theorem Rl.same_bytes {R : Rl} {D E : Dev} (hb : E.bytes = D.bytes) (hl : E.Like D) : R.newest E = R.newest D ∧ R.recQ E = R.recQ D ∧ R.usedN E = R.usedN D ∧ R.nextID E = R.nextID D ∧ R.records E = R.records D := by
  have hs : ∀ j, R.sec E j = R.sec D j := fun j => by unfold Rl.sec secL; rw [R.base_like hl, hb, hl.2.2]
  have hh : ∀ j, R.hdr E j = R.hdr D j := fun j => R.hdr_same (hs j)
  have ho : ∀ j, R.ofS E j = R.ofS D j := fun j => R.ofS_same (hs j) hl
  have hn : R.newest E = R.newest D := R.newest_same fun k _ _ => hh k
  have ha : ∀ s, R.at_ E s = R.at_ D s := fun s => by unfold Rl.at_; rw [hh, ho]
  have hs' : ∀ j, secL E (R.base E j) = secL D (R.base D j) := hs
  refine ⟨hn, ?_, ?_, ?_, ?_⟩
  · unfold Rl.recQ
    rw [hn]
    split
    · exact Rl.recR_same _ fun s _ _ => ha s
    · rfl
  · unfold Rl.usedN
    rw [hn, hs', hl.2.2]
  · unfold Rl.nextID
    rw [hn, ho, hs']
  · unfold Rl.records
    rw [hn]
    split
    · rfl
    · split
      · rw [← R.recR_map, ← R.recR_map, Rl.recR_same _ fun s _ _ => ha s]
      · rfl
theorem Agree.same {Y : Lg} {R : Rl} {D E : Dev} (a : Agree Y R D) (hb : E.bytes = D.bytes) (hl : E.Like D) (f : E.Fine) : Agree Y R E := by
  obtain ⟨s1, s2, s3, s4, _⟩ := R.same_bytes hb hl
  exact ⟨a.first, a.S, a.over, by rw [s1]; exact a.newest, by rw [s1]; exact a.tail, by rw [s2]; exact a.recs, by rw [s1, s3]; exact a.used, by rw [s4]; exact a.next, a.full, a.num, a.held, a.ye, a.re, f, a.rf.like hl⟩
theorem Pl.arm {n m : Int} {Y : Lg} {R : Rl} {D : Dev} (h : Pl n m Y R D) {k : Int} (hk : k ≤ 80) (t : Int) : Pl n m Y R (D.arm k t) := by
  obtain ⟨l, b, d, _⟩ := D.arm_like k t
  have f := Dev.arm_fine h.fine (t := t) hk
  refine ⟨f, l.trans h.like, h.rS, h.rf.like l, ?_⟩
  rcases h.st with ⟨a, hd⟩ | h1
  · exact .inl ⟨a.same b l f, by rw [d]; exact hd⟩
  · exact .inr h1
theorem Dev.restore_fine {D : Dev} (h : D.Fine) : D.restore.Fine := ⟨⟨h.ok.hn, h.ok.hw, h.ok.len, h.ok.wlen, by show (0 : Int) ≤ _; omega⟩, ⟨Int.le_refl 0, h.ok2.bytes⟩, ⟨h.geo.size0, h.geo.size1, h.geo.all⟩⟩
theorem Pl.opened {n m : Int} {D : Dev} (f : D.Fine) (l : D.Like (Dev.new n m)) (hd : D.down = false) (over : Bool) (hno : noRoom D.nw 0 n = false) (hm : 64 ≤ m) : Pl n m (openL 0 n over D) (Rl.open0 0 n over) D := by
  have a := openL_agree f (over := over) hno (by rw [l.2.2]; exact hm)
  exact ⟨f, l, rfl, a.rf, .inl ⟨a, hd⟩⟩
theorem Pl.dOf {n m : Int} {D : Dev} {over : Bool} (h : Pl n m (openL 0 n over D) (Rl.open0 0 n over) D) (q : Nat) : Go.Proofs.Ytbeiciinppmekaa.dOf (openL 0 n over D) q = some ⟨q, 0, none⟩ := by
  rcases h.st with ⟨a, _⟩ | ⟨_, h2, _⟩
  · unfold Go.Proofs.Ytbeiciinppmekaa.dOf; rw [a.ye]; rfl
  · cases h2
theorem noRoom_new {n m : Int} {D : Dev} (l : D.Like (Dev.new n m)) (h0 : 2 ≤ n) : noRoom D.nw 0 n = false := by
  have e : D.nw = n.toNat := l.2.1
  rw [e]
  simp only [noRoom, decide_eq_false_iff_not]
  omega
theorem tmod_le (a : Int) {b : Int} (h : 0 < b) : a.tmod b ≤ b := by have := Int.tmod_lt_of_pos a h; omega

set_option maxHeartbeats 1000000 in
theorem plays_ct (F : Fr) (sectors size : Int) (over : Bool) (A : Option Addr) (c : Nat) (l : List Step) (hA : VwF F A (l.flatMap doC)) (hsd : ∀ d ∈ l, VwF F d.sA (vI .i64 d.seed)) (hwf0 : ∀ d ∈ l, d.e.Wf) :
    Ct Try.prog F 5 [.int .i64 sectors, .int .i64 size, .bool over, .slice A l.length c] [] (S := Unit) (fun _ => True) (fun _ => .bool true) (fun _ => []) := by
 refine Ct.of 204 [(0, _), (1, _), (2, _), (3, _)] Try.func5 rfl rfl rfl rfl ?_
 refine GC.seq (GC.region ?_)
 refine G.q Gd.no (Qt.asg rfl) rfl ?_
 refine G.nil (GK.then (GC.seq (GC.seq (GC.region ?_))))
 refine G.q Gd.no (Qt.mv rfl) rfl ?_
 refine G.ld Gd.no (Ld.call cal29 rfl rfl (.nil _) (fun F' hF => light_ct F' A c l (hA.mono hF)) (fun _ _ => ?_))
 dsimp only [lCa, lNa]
 refine G.q Gd.no (Qt.not rfl) rfl ?_
 refine G.nil (GK.then ?_)
 refine GC.condb rfl (fun c0 => ?_) (fun c0 => ?_)
 ·try simp only [sB0, sB1, sB2, sB3, sB4, sB5, sB6, sB7, sB8] at c0
  refine GC.seq (GC.region ?_)
  refine G.ld Gd.no (Ld.call cal7 rfl rfl (.nil _) (fun F' hF => awake_ct F') (fun _ _ => ?_))
  dsimp only [lCa, lNa]
  refine G.q Gd.no (Qt.asg rfl) rfl ?_
  refine G.nil (GK.then (GC.ret (GK.thenr ?_)))
  refine GK.ret (rs := [.tmp 8]) rfl (.tmp rfl .nil) () ?_ ?_ (.nil _)
  ·trivial
  ·rfl
 ·try simp only [sB0, sB1, sB2, sB3, sB4, sB5, sB6, sB7, sB8] at c0
  obtain ⟨hl60, hl40⟩ := light_out c0
  refine GC.skip (GK.then (GC.seq (GC.region ?_)))
  refine G.q Gd.no (Qt.mv rfl) rfl ?_
  refine G.q Gd.no (Qt.mv rfl) rfl ?_
  refine G.ld Gd.no (Ld.call cal8 rfl rfl (.nil _) (fun F' hF => geometry_ct F' _ _) (fun _ _ => ?_))
  dsimp only [lCa, lNa]
  obtain ⟨n, hn⟩ : ∃ n, 2 + sectors % 3 = n := ⟨_, rfl⟩
  obtain ⟨m, hm⟩ : ∃ m, 64 + size % 40 = m := ⟨_, rfl⟩
  rw [hn, hm]
  have hn2 : 2 ≤ n ∧ n ≤ 4 := by omega
  have hm2 : 64 ≤ m ∧ m ≤ 103 := by omega
  have hn255 : n ≤ 255 := by omega
  have hm64 : 64 ≤ m := by omega
  have hfn := Dev.new_fine (s := n) (z := m) (by omega) (by omega) (by omega) (by omega)
  have hno := noRoom_new (Dev.Like.refl (Dev.new n m)) hn2.1
  have inv0 := Pl.opened hfn (Dev.Like.refl (Dev.new n m)) rfl over hno hm64
  have hd0 := inv0.dOf
  have hnm : 0 < (n * m).toNat := by
   have h1 : 2 * 64 ≤ n * m := Int.mul_le_mul hn2.1 hm2.1 (by omega) (by omega)
   omega
  refine G.q Gd.no (Qt.mv rfl) rfl ?_
  refine G.q Gd.no (Qt.ext rfl rfl) rfl ?_
  refine G.q Gd.no (Qt.ext rfl rfl) rfl ?_
  refine G.q Gd.no (Qt.asg rfl) rfl ?_
  refine G.q Gd.no (Qt.asg rfl) rfl ?_
  refine G.nil (GK.then (GC.seq (GC.region ?_)))
  refine G.q Gd.no (Qt.mv rfl) rfl ?_
  refine G.q Gd.no (Qt.mv rfl) rfl ?_
  refine G.ld Gd.no (Ld.call cal21 rfl rfl (.nil _) (fun F' hF => new_ct F' n m (by omega) (by omega) (by omega) (by omega)) (fun ⟨q1, q2, q3⟩ _ => ?_))
  dsimp only [lCa, lNa]
  refine G.q Gd.no (Qt.mv rfl) rfl ?_
  refine G.q Gd.no (Qt.ext rfl rfl) rfl ?_
  refine G.q Gd.no (Qt.ext rfl rfl) rfl ?_
  refine G.q Gd.no (Qt.asg rfl) rfl ?_
  refine G.q Gd.no (Qt.asg rfl) rfl ?_
  refine G.nil (GK.then (GC.seq (GC.region ?_)))
  refine G.q Gd.no (Qt.mv rfl) rfl ?_
  refine G.q Gd.no (Qt.mv rfl) rfl ?_
  refine G.ld Gd.no (Ld.call cal22 rfl rfl (.nil _) (fun F' hF => rnew_ct F' n m (by omega) (by omega) (by omega) (by omega)) (fun ⟨r1, r2, r3, rs⟩ _ => ?_))
  dsimp only [lCa, lNa]
  refine G.q Gd.no (Qt.mv rfl) rfl ?_
  refine G.q Gd.no (Qt.ext rfl rfl) rfl ?_
  refine G.q Gd.no (Qt.ext rfl rfl) rfl ?_
  refine G.q Gd.no (Qt.asg rfl) rfl ?_
  refine G.q Gd.no (Qt.asg rfl) rfl ?_
  refine G.nil (GK.then (GC.seq (GC.seq (GC.region ?_))))
  refine G.q Gd.no (Qt.mv rfl) rfl ?_
  refine G.q Gd.no (Qt.eqPn Try.underlying27 rfl rfl) rfl ?_
  refine G.q Gd.no (Qt.mv rfl) rfl ?_
  apply G.orb (seg := [_, _])
  exact rfl
  exact rfl
  exact rfl
  exact Gd.no
  exact rfl
  exact rfl
  ·intro g3; try simp only [sB0, sB1, sB2, sB3, sB4, sB5, sB6, sB7, sB8] at g3
   refine G.q (Gd.yes rfl rfl) (Qt.mv rfl) rfl ?_
   refine G.q (Gd.yes rfl rfl) (Qt.neI rfl rfl) rfl ?_
   refine G.nil (GK.seg (n := [_, _]) rfl rfl rfl (by first | exact Tks.all _ | exact Tks.skip (Tks.all _) | exact Tks.skip (Tks.skip (Tks.all _)) | exact Tks.skip (Tks.skip (Tks.skip (Tks.all _)))))
  refine G.nil (GK.then ?_)
  refine GC.condf rfl ?_
  refine GC.skip (GK.then (GC.seq (GC.region ?_)))
  refine G.q Gd.no (Qt.mv rfl) rfl ?_
  refine G.q Gd.no (Qt.mv rfl) rfl ?_
  refine G.q Gd.no (Qt.mv rfl) rfl ?_
  refine G.ld Gd.no (Ld.call cal17 rfl rfl (.nil _) (fun F' hF => goUp_ct F' q1 q2 q3 _ _ [] (Dev.new n m) (hF.own In.o) (hF.own In.o) hfn (Nat.le_refl _) 0 n over hno rfl hm64 hn255) (fun ⟨g, rb, rc, sp⟩ ⟨i1, i2, i3⟩ => ?_))
  dsimp only [lCa, lNa]
  refine G.q Gd.no (Qt.mv rfl) rfl ?_
  refine G.q Gd.no (Qt.ext rfl rfl) rfl ?_
  refine G.q Gd.no (Qt.ext rfl rfl) rfl ?_
  refine G.q Gd.no (Qt.asg rfl) rfl ?_
  refine G.q Gd.no (Qt.asg rfl) rfl ?_
  refine G.nil (GK.then (GC.seq (GC.region ?_)))
  refine G.q Gd.no (Qt.mv rfl) rfl ?_
  refine G.q Gd.no (Qt.mv rfl) rfl ?_
  refine G.q Gd.no (Qt.mv rfl) rfl ?_
  refine G.ld Gd.no (Ld.call cal25 rfl rfl (.nil _) (fun F' hF => ropenUp_ct F' r1 r2 r3 _ _ (Dev.new n m) (hF.own In.o) hfn.ok 0 n over hno rfl) (fun r _ => ?_))
  dsimp only [lCa, lNa]
  refine G.q Gd.no (Qt.mv rfl) rfl ?_
  refine G.q Gd.no (Qt.ext rfl rfl) rfl ?_
  refine G.q Gd.no (Qt.ext rfl rfl) rfl ?_
  refine G.q Gd.no (Qt.asg rfl) rfl ?_
  refine G.q Gd.no (Qt.asg rfl) rfl ?_
  refine G.nil (GK.then (GC.seq (GC.seq (GC.region ?_))))
  refine G.q Gd.no (Qt.mv rfl) rfl ?_
  refine G.q Gd.no (Qt.eqPn Try.underlying28 rfl rfl) rfl ?_
  refine G.q Gd.no (Qt.mv rfl) rfl ?_
  apply G.orb (seg := [_, _])
  exact rfl
  exact rfl
  exact rfl
  exact Gd.no
  exact rfl
  exact rfl
  ·intro g3; try simp only [sB0, sB1, sB2, sB3, sB4, sB5, sB6, sB7, sB8] at g3
   refine G.q (Gd.yes rfl rfl) (Qt.mv rfl) rfl ?_
   refine G.q (Gd.yes rfl rfl) (Qt.neI rfl rfl) rfl ?_
   refine G.nil (GK.seg (n := [_, _]) rfl rfl rfl (by first | exact Tks.all _ | exact Tks.skip (Tks.all _) | exact Tks.skip (Tks.skip (Tks.all _)) | exact Tks.skip (Tks.skip (Tks.skip (Tks.all _)))))
  refine G.nil (GK.then ?_)
  refine GC.condf rfl ?_
  refine GC.skip (GK.then (GC.seq (GC.region ?_)))
  refine G.q Gd.no (Qt.asg rfl) rfl ?_
  refine G.nil (GK.then (GC.seq (GC.seq (GC.region ?_))))
  refine G.q Gd.no (Qt.asg rfl) rfl ?_
  refine G.nil (GK.then (GC.block ?_))
  refine GC.loop (S := Nat × Lg × Rl × Dev × Int × Nat × Option Nat × Nat × List Value × Nat) (fun x => x.1 ≤ l.length ∧ Pl n m x.2.1 x.2.2.1 x.2.2.2.1 ∧ (0 ≤ x.2.2.2.2.1 ∧ x.2.2.2.2.1 ≤ 65535) ∧ x.2.1.recs.length * 11 + x.2.2.2.2.2.2.2.2.1.length = x.2.2.2.2.2.2.2.1 * 11 ∧ (x.2.2.2.2.2.2.1 = none → x.2.1.recs = [] ∧ x.2.2.2.2.2.2.2.2.1 = [])) (fun x => l.length - x.1)
   (fun x => [(2, .bool over), (3, .slice A l.length c), (9, .int .i64 n), (11, .pointer (some ⟨q1, 0, none⟩)), (13, .pointer (some ⟨r1, 0, none⟩)), (15, .pointer (some ⟨x.2.2.2.2.2.1, 0, none⟩)), (16, .pointer (some ⟨x.2.2.2.2.2.2.2.2.2, 0, none⟩)), (18, .int .u16 x.2.2.2.2.1), (19, .int .i64 (x.1 : Int))]) (fun x => [(some x.2.2.2.2.2.1, .cells (lgC x.2.1 (dOf x.2.1 q1) x.2.2.2.2.2.2.1 x.2.2.2.2.2.2.2.1) 85), (x.2.2.2.2.2.2.1, .cells (x.2.1.recs.flatMap recC ++ x.2.2.2.2.2.2.2.2.1) 90), (some q1, .cells (devC x.2.2.2.1 q2 q3 (n * m).toNat n.toNat) 81), (some q2, .cells (vI .u8 x.2.2.2.1.bytes ++ []) 5), (some q3, .cells (vI .i64 x.2.2.2.1.wear ++ []) 3), (some x.2.2.2.2.2.2.2.2.2, .cells (rlC x.2.2.1 r1) 105), (some r1, .cells (devC x.2.2.2.1 r2 r3 ((n * m).toNat + rs.length) n.toNat) 102), (some r2, .cells (vI .u8 x.2.2.2.1.bytes ++ rs) 5), (some r3, .cells (vI .i64 x.2.2.2.1.wear ++ []) 3)]) (0, openL 0 n over (Dev.new n m), Rl.open0 0 n over, Dev.new n m, 0, g, rb, rc, sp, r) ?_ ?_ ?_ ?_
  ·exact ⟨Nat.zero_le _, inv0, by simp, i1, i2⟩
  ·exact ⟨rfl, rfl, rfl, rfl, rfl, rfl, rfl, rfl, rfl, trivial⟩
  ·(simp only [hd0]; exact ⟨_, (Tks.c (Tks.c (Tks.c (Tks.c (Tks.c (Tks.c (Tks.c (Tks.c (Tks.c (.nil _))))))))))⟩)
  intro ⟨i, Y, R, D, hd, b, rb, rc, sp, r⟩ ⟨h1, inv, hdb, hcp, hnl⟩
  simp only at h1 inv hdb hcp hnl
  have hcb : D.n ≤ (n * m).toNat := by rw [inv.like.1]; exact Nat.le_refl _
  have hgb : D.n ≤ (n * m).toNat + rs.length := by rw [inv.like.1]; exact Nat.le_add_right _ _
  have hrS := inv.rS
  refine GC.seq (GC.seq (GC.region ?_))
  refine G.q Gd.no (Qt.mv rfl) rfl ?_
  refine G.q Gd.no (Qt.mv rfl) rfl ?_
  refine G.q Gd.no (Qt.lenS (rt := 0) Try.underlying66 rfl) rfl ?_
  refine G.q Gd.no (Qt.lss rfl rfl) rfl ?_
  refine G.nil (GK.then ?_)
  refine GC.condb rfl (fun c3 => ?_) (fun c3 => ?_)
  ·try simp only [sB0, sB1, sB2, sB3, sB4, sB5, sB6, sB7, sB8] at c3
   obtain ⟨ad, hAd⟩ := someDo hA (by omega)
   subst hAd
   obtain ⟨u, hu⟩ : ∃ u, l[i]? = some u := ⟨_, List.getElem?_eq_getElem (by omega)⟩
   have hum := List.mem_of_getElem? hu
   refine GC.skip (GK.then (GC.seq (GC.block (GC.seq (GC.region ?_)))))
   refine G.q Gd.no (Qt.mv rfl) rfl ?_
   refine G.q Gd.no (Qt.mv rfl) rfl ?_
   refine G.q Gd.no (Qt.ia Try.underlying66 z69 rfl rfl (by omega) (by omega) (show ((i : Nat) : Int).toNat = i from rfl)) rfl ?_
   refine G.q Gd.no (Qt.ldV a69 rfl z69 (vs := doC u) (hA.elem doC_len hu _)) rfl ?_
   refine G.ld Gd.no (Ld.alloc rfl ze69 (by first | exact Cl.one rfl | exact Cl.agg) (fun b20 => ?_))
   refine G.ld Gd.no (Ld.stW (by exact z69) rfl rfl (doC_one _) (E := 69) (by rfl) UpdC.u ?_)
   refine G.nil (GK.then (GC.seq (GC.region ?_)))
   refine G.q Gd.no (Qt.asg rfl) rfl ?_
   refine G.q Gd.no (Qt.asg rfl) rfl ?_
   refine G.nil (GK.then (GC.seq (GC.region ?_)))
   refine G.q Gd.no (Qt.asg rfl) rfl ?_
   refine G.q Gd.no (Qt.asg rfl) rfl ?_
   refine G.nil (GK.then (GC.seq (GC.seq (GC.region ?_))))
   refine G.q Gd.no (Qt.fa0 fl69_0 rfl) rfl ?_
   refine G.q Gd.no (Qt.ldc a3 rfl (by first | exact Rdc.o rfl | exact Rdc.o (nth_vIs (by omega)) | exact Rdc.o (nth_vI (by omega)))) rfl ?_
   refine G.ld Gd.no (Ld.call cal10 rfl rfl (.nil _) (fun F' hF => mod_ct F' u.kind 8 (by omega) (by omega)) (fun _ _ => ?_))
   dsimp only [lCa, lNa]
   refine G.nil (GK.then (GC.block (GC.seq (GC.region ?_))))
   refine G.q Gd.no (Qt.eqI rfl rfl) rfl ?_
   refine G.q Gd.no (Qt.asg rfl) rfl ?_
   refine G.nil (GK.then ?_)
   refine GC.condb rfl (fun c4 => ?_) (fun c4 => ?_)
   ·try simp only [sB0, sB1, sB2, sB3, sB4, sB5, sB6, sB7, sB8] at c4
    refine GC.seq (GC.region ?_)
    refine G.q Gd.no (Qt.mv rfl) rfl ?_
    refine G.q Gd.no (Qt.asg rfl) rfl ?_
    refine G.nil (GK.then (GC.seq (GC.seq (GC.region ?_))))
    refine G.q Gd.no (Qt.fa0 fl69_1 rfl) rfl ?_
    refine G.q Gd.no (Qt.ldc a3 rfl (by first | exact Rdc.o rfl | exact Rdc.o (nth_vIs (by omega)) | exact Rdc.o (nth_vI (by omega)))) rfl ?_
    refine G.q Gd.no (Qt.rem rfl rfl (by omega) (by first | exact rem_nn (by omega) | exact rfl)) rfl ?_
    refine G.q Gd.no (Qt.eqI rfl rfl) rfl ?_
    refine G.nil (GK.then ?_)
    refine GC.condb rfl (fun c5 => ?_) (fun c5 => ?_)
    ·try simp only [sB0, sB1, sB2, sB3, sB4, sB5, sB6, sB7, sB8] at c5
     refine GC.region ?_
     refine G.q Gd.no (Qt.fa0 fl69_1 rfl) rfl ?_
     refine G.q Gd.no (Qt.ldc a3 rfl (by first | exact Rdc.o rfl | exact Rdc.o (nth_vIs (by omega)) | exact Rdc.o (nth_vI (by omega)))) rfl ?_
     refine G.q Gd.no (Qt.conv Try.underlying3 Try.underlying36 rfl (by first | exact u16_id (by omega) (by omega) | exact rfl)) rfl ?_
     obtain ⟨kk, hkk⟩ : ∃ kk, IntKind.u16.wrap u.n = kk := ⟨_, rfl⟩
     have hkb : 0 ≤ kk ∧ kk ≤ 65535 := by rw [← hkk, u16_mod]; omega
     rw [hkk]
     refine G.q Gd.no (Qt.asg rfl) rfl ?_
     refine G.nil (GK.then (GC.region ?_))
     refine G.q Gd.no (Qt.mv rfl) rfl ?_
     refine G.q Gd.no (Qt.mv rfl) rfl ?_
     refine G.ld Gd.no (Ld.call cal30 rfl rfl (Tks.c (Tks.c (Tks.c (Tks.c (Tks.c (.nil _)))))) (fun F' hF => clear_ct F' b q1 q2 q3 _ _ [] [] rb rc sp Y D inv.fine hcb hcp hnl (inv.len hn255) inv.gf kk) (fun ⟨rb2, rc2, sp2⟩ ⟨hcp2, hnl2⟩ => ?_))
     dsimp only [lCa, lNa]
     obtain ⟨he, inv2⟩ := inv.clear kk
     obtain ⟨Y2, p2, hy⟩ : ∃ Y2 p2, Y.clear D kk = (Y2, p2) := ⟨_, _, rfl⟩
     obtain ⟨R2, E2, x2, hr⟩ : ∃ R2 E2 x2, R.clear D kk = (R2, E2, x2) := ⟨_, _, _, rfl⟩
     rw [hy, hr] at he inv2
     dsimp only at he inv2
     subst he
     rw [hy] at hcp2 hnl2 ⊢
     dsimp only at hcp2 hnl2 ⊢
     refine G.q Gd.no (Qt.mv rfl) rfl ?_
     refine G.q Gd.no (Qt.mv rfl) rfl ?_
     refine G.ld Gd.no (Ld.call cal31 rfl rfl (Tks.c (Tks.c (Tks.c (Tks.c (.nil _))))) (fun F' hF => rclear_ct F' r r1 r2 r3 _ _ rs [] R D inv.fine inv.rf hgb (by omega) kk hkb.1 hkb.2) (fun _ _ => ?_))
     dsimp only [lCa, lNa]
     rw [hr]
     dsimp only
     refine G.q Gd.no (Qt.asg rfl) rfl ?_
     refine G.q Gd.no (Qt.asg rfl) rfl ?_
     refine G.nil (GK.blockn (GK.then (GC.seq (GC.region ?_))))
     refine G.q Gd.no (Qt.mv rfl) rfl ?_
     refine G.q Gd.no (Qt.mv rfl) rfl ?_
     refine G.q Gd.no (Qt.neI rfl rfl) rfl ?_
     rw [ne_self]
     refine G.q Gd.no (Qt.mv rfl) rfl ?_
     apply G.orb (seg := [_, _, _])
     exact rfl
     exact rfl
     exact rfl
     exact Gd.no
     exact rfl
     exact rfl
     ·intro g4; try simp only [sB0, sB1, sB2, sB3, sB4, sB5, sB6, sB7, sB8] at g4
      refine G.q (Gd.yes rfl rfl) (Qt.mv rfl) rfl ?_
      refine G.q (Gd.yes rfl rfl) (Qt.mv rfl) rfl ?_
      refine G.q (Gd.yes rfl rfl) (Qt.neI rfl rfl) rfl ?_
      rw [ne_self]
      refine G.nil (GK.seg (n := [_, _, _]) rfl rfl rfl (by first | exact Tks.all _ | exact Tks.skip (Tks.all _) | exact Tks.skip (Tks.skip (Tks.all _)) | exact Tks.skip (Tks.skip (Tks.skip (Tks.all _)))))
     refine G.q Gd.no (Qt.mv rfl) rfl ?_
     apply G.orb (seg := [_, _, _, _, _, _])
     exact rfl
     exact rfl
     exact rfl
     exact Gd.no
     exact rfl
     exact rfl
     ·intro g9; try simp only [sB0, sB1, sB2, sB3, sB4, sB5, sB6, sB7, sB8] at g9
      refine G.q (Gd.yes rfl rfl) (Qt.mv rfl) rfl ?_
      refine G.q (Gd.yes rfl rfl) (Qt.mv rfl) rfl ?_
      refine G.q (Gd.yes rfl rfl) (Qt.mv rfl) rfl ?_
      refine G.q (Gd.yes rfl rfl) (Qt.conv Try.underlying3 Try.underlying36 rfl (by exact u16_id (by omega) (by omega))) rfl ?_
      refine G.ld (Gd.yes rfl rfl) (Ld.call cal27 rfl rfl (.nil _) (fun F' hF => same_ct F' _ _ _ _ _ _ (hF.own In.o) (VwF.oA (fun b hb => by subst hb; exact VwF.ofPre (hF.own In.o)) (fun e => by rw [(hnl2 e).1]; rfl)) (fun b hb => by subst hb; exact hF.own In.o) (inv2.len hn255) _ r1 r2 r3 _ _ rs _ _ (hF.own In.o) (hF.own In.o) (hF.own In.o) inv2.fine inv2.rf (by rw [inv2.like.1]; exact Nat.le_add_right _ _) (by rw [inv2.rS]; omega) inv2.events inv2.full _) (fun _ _ => ?_))
      dsimp only [lCa, lNa]
      refine G.q (Gd.yes rfl rfl) (Qt.not rfl) rfl ?_
      refine G.nil (GK.seg (n := [_, _, _, _, _, _]) rfl rfl rfl (by first | exact Tks.all _ | exact Tks.skip (Tks.all _) | exact Tks.skip (Tks.skip (Tks.all _)) | exact Tks.skip (Tks.skip (Tks.skip (Tks.all _)))))
     refine G.q Gd.no (Qt.mv rfl) rfl ?_
     apply G.orb (seg := [_, _, _, _])
     exact rfl
     exact rfl
     exact rfl
     exact Gd.no
     exact rfl
     exact rfl
     ·intro g17; try simp only [sB0, sB1, sB2, sB3, sB4, sB5, sB6, sB7, sB8] at g17
      refine G.q (Gd.yes rfl rfl) (Qt.mv rfl) rfl ?_
      refine G.q (Gd.yes rfl rfl) (Qt.mv rfl) rfl ?_
      refine G.ld (Gd.yes rfl rfl) (Ld.call cal28 rfl rfl (.nil _) (fun F' hF => sd_ct F' q1 q2 q3 _ _ r1 r2 r3 _ _ [] [] rs [] _ (hF.own In.o) (hF.own In.o) (hF.own In.o) (hF.own In.o) (hF.own In.o) (hF.own In.o) inv2.fine (by rw [inv2.like.1]; exact Nat.le_refl _) (by rw [inv2.like.1]; exact Nat.le_add_right _ _) (by rw [inv2.like.1]; exact hnm)) (fun _ _ => ?_))
      dsimp only [lCa, lNa]
      refine G.q (Gd.yes rfl rfl) (Qt.not rfl) rfl ?_
      refine G.nil (GK.seg (n := [_, _, _, _]) rfl rfl rfl (by first | exact Tks.all _ | exact Tks.skip (Tks.all _) | exact Tks.skip (Tks.skip (Tks.all _)) | exact Tks.skip (Tks.skip (Tks.skip (Tks.all _)))))
     refine G.nil (GK.then ?_)
     refine GC.condf rfl ?_
     refine GC.skip (GK.blockn (GK.then (GC.region ?_)))
     refine G.q Gd.no (Qt.mv rfl) rfl ?_
     refine G.q Gd.no (Qt.add rfl rfl (by first | exact i64_id (by omega) (by omega) | exact rfl)) rfl ?_
     refine G.q Gd.no (Qt.asg rfl) rfl ?_
     refine G.nil ?_
     refine GK.head (i + 1, Y2, R2, E2, hd, b, rb2, rc2, sp2, r) ?_ ?_ ?_ ?_
     ·simp only; omega
     ·exact ⟨by simp only; omega, inv2, hdb, hcp2, hnl2⟩
     ·exact ⟨rfl, rfl, rfl, rfl, rfl, rfl, rfl, rfl, rfl, trivial⟩
     ·exact ⟨_, (Tks.c (Tks.c (Tks.c (Tks.c (Tks.c (Tks.c (Tks.c (Tks.c (Tks.c (.nil _))))))))))⟩
    ·try simp only [sB0, sB1, sB2, sB3, sB4, sB5, sB6, sB7, sB8] at c5
     obtain ⟨kk, hkk⟩ : ∃ kk, kk = hd := ⟨_, rfl⟩
     subst hkk
     have hkb := hdb
     refine GC.skip (GK.then (GC.region ?_))
     refine G.q Gd.no (Qt.mv rfl) rfl ?_
     refine G.q Gd.no (Qt.mv rfl) rfl ?_
     refine G.ld Gd.no (Ld.call cal30 rfl rfl (Tks.c (Tks.c (Tks.c (Tks.c (Tks.c (.nil _)))))) (fun F' hF => clear_ct F' b q1 q2 q3 _ _ [] [] rb rc sp Y D inv.fine hcb hcp hnl (inv.len hn255) inv.gf kk) (fun ⟨rb2, rc2, sp2⟩ ⟨hcp2, hnl2⟩ => ?_))
     dsimp only [lCa, lNa]
     obtain ⟨he, inv2⟩ := inv.clear kk
     obtain ⟨Y2, p2, hy⟩ : ∃ Y2 p2, Y.clear D kk = (Y2, p2) := ⟨_, _, rfl⟩
     obtain ⟨R2, E2, x2, hr⟩ : ∃ R2 E2 x2, R.clear D kk = (R2, E2, x2) := ⟨_, _, _, rfl⟩
     rw [hy, hr] at he inv2
     dsimp only at he inv2
     subst he
     rw [hy] at hcp2 hnl2 ⊢
     dsimp only at hcp2 hnl2 ⊢
     refine G.q Gd.no (Qt.mv rfl) rfl ?_
     refine G.q Gd.no (Qt.mv rfl) rfl ?_
     refine G.ld Gd.no (Ld.call cal31 rfl rfl (Tks.c (Tks.c (Tks.c (Tks.c (.nil _))))) (fun F' hF => rclear_ct F' r r1 r2 r3 _ _ rs [] R D inv.fine inv.rf hgb (by omega) kk hkb.1 hkb.2) (fun _ _ => ?_))
     dsimp only [lCa, lNa]
     rw [hr]
     dsimp only
     refine G.q Gd.no (Qt.asg rfl) rfl ?_
     refine G.q Gd.no (Qt.asg rfl) rfl ?_
     refine G.nil (GK.blockn (GK.then (GC.seq (GC.region ?_))))
     refine G.q Gd.no (Qt.mv rfl) rfl ?_
     refine G.q Gd.no (Qt.mv rfl) rfl ?_
     refine G.q Gd.no (Qt.neI rfl rfl) rfl ?_
     rw [ne_self]
     refine G.q Gd.no (Qt.mv rfl) rfl ?_
     apply G.orb (seg := [_, _, _])
     exact rfl
     exact rfl
     exact rfl
     exact Gd.no
     exact rfl
     exact rfl
     ·intro g4; try simp only [sB0, sB1, sB2, sB3, sB4, sB5, sB6, sB7, sB8] at g4
      refine G.q (Gd.yes rfl rfl) (Qt.mv rfl) rfl ?_
      refine G.q (Gd.yes rfl rfl) (Qt.mv rfl) rfl ?_
      refine G.q (Gd.yes rfl rfl) (Qt.neI rfl rfl) rfl ?_
      rw [ne_self]
      refine G.nil (GK.seg (n := [_, _, _]) rfl rfl rfl (by first | exact Tks.all _ | exact Tks.skip (Tks.all _) | exact Tks.skip (Tks.skip (Tks.all _)) | exact Tks.skip (Tks.skip (Tks.skip (Tks.all _)))))
     refine G.q Gd.no (Qt.mv rfl) rfl ?_
     apply G.orb (seg := [_, _, _, _, _, _])
     exact rfl
     exact rfl
     exact rfl
     exact Gd.no
     exact rfl
     exact rfl
     ·intro g9; try simp only [sB0, sB1, sB2, sB3, sB4, sB5, sB6, sB7, sB8] at g9
      refine G.q (Gd.yes rfl rfl) (Qt.mv rfl) rfl ?_
      refine G.q (Gd.yes rfl rfl) (Qt.mv rfl) rfl ?_
      refine G.q (Gd.yes rfl rfl) (Qt.mv rfl) rfl ?_
      refine G.q (Gd.yes rfl rfl) (Qt.conv Try.underlying3 Try.underlying36 rfl (by exact u16_id (by omega) (by omega))) rfl ?_
      refine G.ld (Gd.yes rfl rfl) (Ld.call cal27 rfl rfl (.nil _) (fun F' hF => same_ct F' _ _ _ _ _ _ (hF.own In.o) (VwF.oA (fun b hb => by subst hb; exact VwF.ofPre (hF.own In.o)) (fun e => by rw [(hnl2 e).1]; rfl)) (fun b hb => by subst hb; exact hF.own In.o) (inv2.len hn255) _ r1 r2 r3 _ _ rs _ _ (hF.own In.o) (hF.own In.o) (hF.own In.o) inv2.fine inv2.rf (by rw [inv2.like.1]; exact Nat.le_add_right _ _) (by rw [inv2.rS]; omega) inv2.events inv2.full _) (fun _ _ => ?_))
      dsimp only [lCa, lNa]
      refine G.q (Gd.yes rfl rfl) (Qt.not rfl) rfl ?_
      refine G.nil (GK.seg (n := [_, _, _, _, _, _]) rfl rfl rfl (by first | exact Tks.all _ | exact Tks.skip (Tks.all _) | exact Tks.skip (Tks.skip (Tks.all _)) | exact Tks.skip (Tks.skip (Tks.skip (Tks.all _)))))
     refine G.q Gd.no (Qt.mv rfl) rfl ?_
     apply G.orb (seg := [_, _, _, _])
     exact rfl
     exact rfl
     exact rfl
     exact Gd.no
     exact rfl
     exact rfl
     ·intro g17; try simp only [sB0, sB1, sB2, sB3, sB4, sB5, sB6, sB7, sB8] at g17
      refine G.q (Gd.yes rfl rfl) (Qt.mv rfl) rfl ?_
      refine G.q (Gd.yes rfl rfl) (Qt.mv rfl) rfl ?_
      refine G.ld (Gd.yes rfl rfl) (Ld.call cal28 rfl rfl (.nil _) (fun F' hF => sd_ct F' q1 q2 q3 _ _ r1 r2 r3 _ _ [] [] rs [] _ (hF.own In.o) (hF.own In.o) (hF.own In.o) (hF.own In.o) (hF.own In.o) (hF.own In.o) inv2.fine (by rw [inv2.like.1]; exact Nat.le_refl _) (by rw [inv2.like.1]; exact Nat.le_add_right _ _) (by rw [inv2.like.1]; exact hnm)) (fun _ _ => ?_))
      dsimp only [lCa, lNa]
      refine G.q (Gd.yes rfl rfl) (Qt.not rfl) rfl ?_
      refine G.nil (GK.seg (n := [_, _, _, _]) rfl rfl rfl (by first | exact Tks.all _ | exact Tks.skip (Tks.all _) | exact Tks.skip (Tks.skip (Tks.all _)) | exact Tks.skip (Tks.skip (Tks.skip (Tks.all _)))))
     refine G.nil (GK.then ?_)
     refine GC.condf rfl ?_
     refine GC.skip (GK.blockn (GK.then (GC.region ?_)))
     refine G.q Gd.no (Qt.mv rfl) rfl ?_
     refine G.q Gd.no (Qt.add rfl rfl (by first | exact i64_id (by omega) (by omega) | exact rfl)) rfl ?_
     refine G.q Gd.no (Qt.asg rfl) rfl ?_
     refine G.nil ?_
     refine GK.head (i + 1, Y2, R2, E2, kk, b, rb2, rc2, sp2, r) ?_ ?_ ?_ ?_
     ·simp only; omega
     ·exact ⟨by simp only; omega, inv2, hdb, hcp2, hnl2⟩
     ·exact ⟨rfl, rfl, rfl, rfl, rfl, rfl, rfl, rfl, rfl, trivial⟩
     ·exact ⟨_, (Tks.c (Tks.c (Tks.c (Tks.c (Tks.c (Tks.c (Tks.c (Tks.c (Tks.c (.nil _))))))))))⟩
   ·try simp only [sB0, sB1, sB2, sB3, sB4, sB5, sB6, sB7, sB8] at c4
    refine GC.seq (GC.region ?_)
    refine G.q Gd.no (Qt.eqI rfl rfl) rfl ?_
    refine G.q Gd.no (Qt.asg rfl) rfl ?_
    refine G.nil (GK.then ?_)
    refine GC.condb rfl (fun c8 => ?_) (fun c8 => ?_)
    ·try simp only [sB0, sB1, sB2, sB3, sB4, sB5, sB6, sB7, sB8] at c8
     refine GC.seq (GC.region ?_)
     refine G.q Gd.no (Qt.mv rfl) rfl ?_
     have hnum : 0 ≤ Y.num ∧ Y.num ≤ 65535 := by rcases inv.st with ⟨a, _⟩ | ⟨h, _⟩; (rw [a.num]; exact ⟨a.rf.l0, a.rf.l1⟩); (rw [h]; decide)
     refine G.ld Gd.no (Ld.call cal32 rfl rfl (Tks.c (.nil _)) (fun F' hF => reserve_ct F' b (dOf Y q1) rb rc Y hnum.1 hnum.2) (fun _ _ => ?_))
     dsimp only [lCa, lNa]
     obtain ⟨he, inv2, hrc, hdo, hres⟩ := inv.reserve
     obtain ⟨Y2, v2, hy⟩ : ∃ Y2 v2, Y.reserve = (Y2, v2) := ⟨_, _, rfl⟩
     obtain ⟨R2, av, hr⟩ : ∃ R2 av, R.reserve = (R2, av) := ⟨_, _, rfl⟩
     rw [hy, hr] at he inv2
     rw [hr] at hres
     rw [hy] at hrc hdo
     dsimp only at he inv2 hrc hdo hres
     subst he
     rw [hy, ← hdo, ← hrc]
     rw [← hrc] at hcp hnl
     dsimp only
     have hcp2 := hcp
     have hnl2 := hnl
     refine G.q Gd.no (Qt.mv rfl) rfl ?_
     refine G.ld Gd.no (Ld.call cal33 rfl rfl (Tks.c (.nil _)) (fun F' hF => rreserve_ct F' r r1 R inv.rf.l0 inv.rf.l1) (fun _ _ => ?_))
     dsimp only [lCa, lNa]
     rw [hr]
     dsimp only
     refine G.q Gd.no (Qt.asg rfl) rfl ?_
     refine G.q Gd.no (Qt.asg rfl) rfl ?_
     refine G.nil (GK.then (GC.region ?_))
     refine G.q Gd.no (Qt.mv rfl) rfl ?_
     refine G.q Gd.no (Qt.asg rfl) rfl ?_
     refine G.nil (GK.blockn (GK.then (GC.seq (GC.region ?_))))
     refine G.q Gd.no (Qt.mv rfl) rfl ?_
     refine G.q Gd.no (Qt.mv rfl) rfl ?_
     refine G.q Gd.no (Qt.neI rfl rfl) rfl ?_
     rw [ne_self]
     refine G.q Gd.no (Qt.mv rfl) rfl ?_
     apply G.orb (seg := [_, _, _])
     exact rfl
     exact rfl
     exact rfl
     exact Gd.no
     exact rfl
     exact rfl
     ·intro g4; try simp only [sB0, sB1, sB2, sB3, sB4, sB5, sB6, sB7, sB8] at g4
      refine G.q (Gd.yes rfl rfl) (Qt.mv rfl) rfl ?_
      refine G.q (Gd.yes rfl rfl) (Qt.mv rfl) rfl ?_
      refine G.q (Gd.yes rfl rfl) (Qt.neI rfl rfl) rfl ?_
      rw [ne_self]
      refine G.nil (GK.seg (n := [_, _, _]) rfl rfl rfl (by first | exact Tks.all _ | exact Tks.skip (Tks.all _) | exact Tks.skip (Tks.skip (Tks.all _)) | exact Tks.skip (Tks.skip (Tks.skip (Tks.all _)))))
     refine G.q Gd.no (Qt.mv rfl) rfl ?_
     apply G.orb (seg := [_, _, _, _, _, _])
     exact rfl
     exact rfl
     exact rfl
     exact Gd.no
     exact rfl
     exact rfl
     ·intro g9; try simp only [sB0, sB1, sB2, sB3, sB4, sB5, sB6, sB7, sB8] at g9
      refine G.q (Gd.yes rfl rfl) (Qt.mv rfl) rfl ?_
      refine G.q (Gd.yes rfl rfl) (Qt.mv rfl) rfl ?_
      refine G.q (Gd.yes rfl rfl) (Qt.mv rfl) rfl ?_
      refine G.q (Gd.yes rfl rfl) (Qt.conv Try.underlying3 Try.underlying36 rfl (by exact u16_id (by omega) (by omega))) rfl ?_
      refine G.ld (Gd.yes rfl rfl) (Ld.call cal27 rfl rfl (.nil _) (fun F' hF => same_ct F' _ _ _ _ _ _ (hF.own In.o) (VwF.oA (fun b hb => by subst hb; exact VwF.ofPre (hF.own In.o)) (fun e => by rw [(hnl2 e).1]; rfl)) (fun b hb => by subst hb; exact hF.own In.o) (inv2.len hn255) _ r1 r2 r3 _ _ rs _ _ (hF.own In.o) (hF.own In.o) (hF.own In.o) inv2.fine inv2.rf (by rw [inv2.like.1]; exact Nat.le_add_right _ _) (by rw [inv2.rS]; omega) inv2.events inv2.full _) (fun _ _ => ?_))
      dsimp only [lCa, lNa]
      refine G.q (Gd.yes rfl rfl) (Qt.not rfl) rfl ?_
      refine G.nil (GK.seg (n := [_, _, _, _, _, _]) rfl rfl rfl (by first | exact Tks.all _ | exact Tks.skip (Tks.all _) | exact Tks.skip (Tks.skip (Tks.all _)) | exact Tks.skip (Tks.skip (Tks.skip (Tks.all _)))))
     refine G.q Gd.no (Qt.mv rfl) rfl ?_
     apply G.orb (seg := [_, _, _, _])
     exact rfl
     exact rfl
     exact rfl
     exact Gd.no
     exact rfl
     exact rfl
     ·intro g17; try simp only [sB0, sB1, sB2, sB3, sB4, sB5, sB6, sB7, sB8] at g17
      refine G.q (Gd.yes rfl rfl) (Qt.mv rfl) rfl ?_
      refine G.q (Gd.yes rfl rfl) (Qt.mv rfl) rfl ?_
      refine G.ld (Gd.yes rfl rfl) (Ld.call cal28 rfl rfl (.nil _) (fun F' hF => sd_ct F' q1 q2 q3 _ _ r1 r2 r3 _ _ [] [] rs [] _ (hF.own In.o) (hF.own In.o) (hF.own In.o) (hF.own In.o) (hF.own In.o) (hF.own In.o) inv2.fine (by rw [inv2.like.1]; exact Nat.le_refl _) (by rw [inv2.like.1]; exact Nat.le_add_right _ _) (by rw [inv2.like.1]; exact hnm)) (fun _ _ => ?_))
      dsimp only [lCa, lNa]
      refine G.q (Gd.yes rfl rfl) (Qt.not rfl) rfl ?_
      refine G.nil (GK.seg (n := [_, _, _, _]) rfl rfl rfl (by first | exact Tks.all _ | exact Tks.skip (Tks.all _) | exact Tks.skip (Tks.skip (Tks.all _)) | exact Tks.skip (Tks.skip (Tks.skip (Tks.all _)))))
     refine G.nil (GK.then ?_)
     refine GC.condf rfl ?_
     refine GC.skip (GK.blockn (GK.then (GC.region ?_)))
     refine G.q Gd.no (Qt.mv rfl) rfl ?_
     refine G.q Gd.no (Qt.add rfl rfl (by first | exact i64_id (by omega) (by omega) | exact rfl)) rfl ?_
     refine G.q Gd.no (Qt.asg rfl) rfl ?_
     refine G.nil ?_
     refine GK.head (i + 1, Y2, R2, D, v2, b, rb, rc, sp, r) ?_ ?_ ?_ ?_
     ·simp only; omega
     ·exact ⟨by simp only; omega, inv2, hres, hcp2, hnl2⟩
     ·exact ⟨rfl, rfl, rfl, rfl, rfl, rfl, rfl, rfl, rfl, trivial⟩
     ·exact ⟨_, (Tks.c (Tks.c (Tks.c (Tks.c (Tks.c (Tks.c (Tks.c (Tks.c (Tks.c (.nil _))))))))))⟩
    ·try simp only [sB0, sB1, sB2, sB3, sB4, sB5, sB6, sB7, sB8] at c8
     refine GC.seq (GC.region ?_)
     refine G.q Gd.no (Qt.eqI rfl rfl) rfl ?_
     refine G.q Gd.no (Qt.asg rfl) rfl ?_
     refine G.nil (GK.then ?_)
     refine GC.condb rfl (fun c10 => ?_) (fun c10 => ?_)
     ·try simp only [sB0, sB1, sB2, sB3, sB4, sB5, sB6, sB7, sB8] at c10
      refine GC.seq (GC.region ?_)
      refine G.q Gd.no (Qt.mv rfl) rfl ?_
      refine G.q Gd.no (Qt.fa0 fl69_1 rfl) rfl ?_
      refine G.q Gd.no (Qt.ldc a3 rfl (by first | exact Rdc.o rfl | exact Rdc.o (nth_vIs (by omega)) | exact Rdc.o (nth_vI (by omega)))) rfl ?_
      refine G.q Gd.no (Qt.rem rfl rfl (by omega) (by first | exact rem_nn (by omega) | exact rfl)) rfl ?_
      refine G.q Gd.no (Qt.fa0 fl69_2 rfl) rfl ?_
      refine G.q Gd.no (Qt.ldc a5 rfl (by first | exact Rdc.o rfl | exact Rdc.o (nth_vIs (by omega)) | exact Rdc.o (nth_vI (by omega)))) rfl ?_
      refine G.ld Gd.no (Ld.call cal14 rfl rfl (Tks.c (.nil _)) (fun F' hF => arm_ct F' q1 q2 q3 _ _ D (u.n.tmod 80) u.torn) (fun _ _ => ?_))
      dsimp only [lCa, lNa]
      have inv2 := inv.arm (tmod_le u.n (b := 80) (by decide)) u.torn
      obtain ⟨_, ab, _, aw⟩ := D.arm_like (u.n.tmod 80) u.torn
      obtain ⟨E2, hE2⟩ : ∃ E2, D.arm (u.n.tmod 80) u.torn = E2 := ⟨_, rfl⟩
      rw [hE2] at inv2 ab aw
      rw [hE2]
      have hcp2 := hcp
      have hnl2 := hnl
      refine G.nil (GK.then (GC.region ?_))
      refine G.q Gd.no (Qt.mv rfl) rfl ?_
      refine G.q Gd.no (Qt.fa0 fl69_1 rfl) rfl ?_
      refine G.q Gd.no (Qt.ldc a3 rfl (by first | exact Rdc.o rfl | exact Rdc.o (nth_vIs (by omega)) | exact Rdc.o (nth_vI (by omega)))) rfl ?_
      refine G.q Gd.no (Qt.rem rfl rfl (by omega) (by first | exact rem_nn (by omega) | exact rfl)) rfl ?_
      refine G.q Gd.no (Qt.fa0 fl69_2 rfl) rfl ?_
      refine G.q Gd.no (Qt.ldc a5 rfl (by first | exact Rdc.o rfl | exact Rdc.o (nth_vIs (by omega)) | exact Rdc.o (nth_vI (by omega)))) rfl ?_
      refine G.ld Gd.no (Ld.call cal34 rfl rfl (Tks.c (.nil _)) (fun F' hF => rarm_ct F' r1 r2 r3 _ _ D (u.n.tmod 80) u.torn) (fun _ _ => ?_))
      dsimp only [lCa, lNa]
      rw [hE2, ← ab, ← aw]
      refine G.nil (GK.blockn (GK.then (GC.seq (GC.region ?_))))
      refine G.q Gd.no (Qt.mv rfl) rfl ?_
      refine G.q Gd.no (Qt.mv rfl) rfl ?_
      refine G.q Gd.no (Qt.neI rfl rfl) rfl ?_
      rw [ne_self]
      refine G.q Gd.no (Qt.mv rfl) rfl ?_
      apply G.orb (seg := [_, _, _])
      exact rfl
      exact rfl
      exact rfl
      exact Gd.no
      exact rfl
      exact rfl
      ·intro g4; try simp only [sB0, sB1, sB2, sB3, sB4, sB5, sB6, sB7, sB8] at g4
       refine G.q (Gd.yes rfl rfl) (Qt.mv rfl) rfl ?_
       refine G.q (Gd.yes rfl rfl) (Qt.mv rfl) rfl ?_
       refine G.q (Gd.yes rfl rfl) (Qt.neI rfl rfl) rfl ?_
       rw [ne_self]
       refine G.nil (GK.seg (n := [_, _, _]) rfl rfl rfl (by first | exact Tks.all _ | exact Tks.skip (Tks.all _) | exact Tks.skip (Tks.skip (Tks.all _)) | exact Tks.skip (Tks.skip (Tks.skip (Tks.all _)))))
      refine G.q Gd.no (Qt.mv rfl) rfl ?_
      apply G.orb (seg := [_, _, _, _, _, _])
      exact rfl
      exact rfl
      exact rfl
      exact Gd.no
      exact rfl
      exact rfl
      ·intro g9; try simp only [sB0, sB1, sB2, sB3, sB4, sB5, sB6, sB7, sB8] at g9
       refine G.q (Gd.yes rfl rfl) (Qt.mv rfl) rfl ?_
       refine G.q (Gd.yes rfl rfl) (Qt.mv rfl) rfl ?_
       refine G.q (Gd.yes rfl rfl) (Qt.mv rfl) rfl ?_
       refine G.q (Gd.yes rfl rfl) (Qt.conv Try.underlying3 Try.underlying36 rfl (by exact u16_id (by omega) (by omega))) rfl ?_
       refine G.ld (Gd.yes rfl rfl) (Ld.call cal27 rfl rfl (.nil _) (fun F' hF => same_ct F' _ _ _ _ _ _ (hF.own In.o) (VwF.oA (fun b hb => by subst hb; exact VwF.ofPre (hF.own In.o)) (fun e => by rw [(hnl2 e).1]; rfl)) (fun b hb => by subst hb; exact hF.own In.o) (inv2.len hn255) _ r1 r2 r3 _ _ rs _ _ (hF.own In.o) (hF.own In.o) (hF.own In.o) inv2.fine inv2.rf (by rw [inv2.like.1]; exact Nat.le_add_right _ _) (by rw [inv2.rS]; omega) inv2.events inv2.full _) (fun _ _ => ?_))
       dsimp only [lCa, lNa]
       refine G.q (Gd.yes rfl rfl) (Qt.not rfl) rfl ?_
       refine G.nil (GK.seg (n := [_, _, _, _, _, _]) rfl rfl rfl (by first | exact Tks.all _ | exact Tks.skip (Tks.all _) | exact Tks.skip (Tks.skip (Tks.all _)) | exact Tks.skip (Tks.skip (Tks.skip (Tks.all _)))))
      refine G.q Gd.no (Qt.mv rfl) rfl ?_
      apply G.orb (seg := [_, _, _, _])
      exact rfl
      exact rfl
      exact rfl
      exact Gd.no
      exact rfl
      exact rfl
      ·intro g17; try simp only [sB0, sB1, sB2, sB3, sB4, sB5, sB6, sB7, sB8] at g17
       refine G.q (Gd.yes rfl rfl) (Qt.mv rfl) rfl ?_
       refine G.q (Gd.yes rfl rfl) (Qt.mv rfl) rfl ?_
       refine G.ld (Gd.yes rfl rfl) (Ld.call cal28 rfl rfl (.nil _) (fun F' hF => sd_ct F' q1 q2 q3 _ _ r1 r2 r3 _ _ [] [] rs [] _ (hF.own In.o) (hF.own In.o) (hF.own In.o) (hF.own In.o) (hF.own In.o) (hF.own In.o) inv2.fine (by rw [inv2.like.1]; exact Nat.le_refl _) (by rw [inv2.like.1]; exact Nat.le_add_right _ _) (by rw [inv2.like.1]; exact hnm)) (fun _ _ => ?_))
       dsimp only [lCa, lNa]
       refine G.q (Gd.yes rfl rfl) (Qt.not rfl) rfl ?_
       refine G.nil (GK.seg (n := [_, _, _, _]) rfl rfl rfl (by first | exact Tks.all _ | exact Tks.skip (Tks.all _) | exact Tks.skip (Tks.skip (Tks.all _)) | exact Tks.skip (Tks.skip (Tks.skip (Tks.all _)))))
      refine G.nil (GK.then ?_)
      refine GC.condf rfl ?_
      refine GC.skip (GK.blockn (GK.then (GC.region ?_)))
      refine G.q Gd.no (Qt.mv rfl) rfl ?_
      refine G.q Gd.no (Qt.add rfl rfl (by first | exact i64_id (by omega) (by omega) | exact rfl)) rfl ?_
      refine G.q Gd.no (Qt.asg rfl) rfl ?_
      refine G.nil ?_
      refine GK.head (i + 1, Y, R, E2, hd, b, rb, rc, sp, r) ?_ ?_ ?_ ?_
      ·simp only; omega
      ·exact ⟨by simp only; omega, inv2, hdb, hcp2, hnl2⟩
      ·exact ⟨rfl, rfl, rfl, rfl, rfl, rfl, rfl, rfl, rfl, trivial⟩
      ·exact ⟨_, (Tks.c (Tks.c (Tks.c (Tks.c (Tks.c (Tks.c (Tks.c (Tks.c (Tks.c (.nil _))))))))))⟩
     ·try simp only [sB0, sB1, sB2, sB3, sB4, sB5, sB6, sB7, sB8] at c10
      refine GC.seq (GC.region ?_)
      refine G.q Gd.no (Qt.eqI rfl rfl) rfl ?_
      refine G.q Gd.no (Qt.asg rfl) rfl ?_
      refine G.nil (GK.then ?_)
      refine GC.condb rfl (fun c12 => ?_) (fun c12 => ?_)
      ·try simp only [sB0, sB1, sB2, sB3, sB4, sB5, sB6, sB7, sB8] at c12
       refine GC.seq (GC.region ?_)
       refine G.q Gd.no (Qt.mv rfl) rfl ?_
       refine G.ld Gd.no (Ld.call cal16 rfl rfl (Tks.c (.nil _)) (fun F' hF => restore_ct F' q1 q2 q3 _ _ D) (fun _ _ => ?_))
       dsimp only [lCa, lNa]
       have fR := Dev.restore_fine inv.fine
       have lR : D.restore.Like (Dev.new n m) := inv.like
       have hnoR := noRoom_new lR hn2.1
       have inv2 := Pl.opened fR lR rfl over hnoR hm64
       have hd2 := inv2.dOf
       have ab : D.restore.bytes = D.bytes := rfl
       have aw : D.restore.wear = D.wear := rfl
       have aD : D.restore.down = false := rfl
       have aN : D.restore.n ≤ (n * m).toNat := hcb
       obtain ⟨E2, hE2⟩ : ∃ E2, D.restore = E2 := ⟨_, rfl⟩
       rw [hE2] at inv2 hd2 ab aw fR lR hnoR aD aN
       rw [hE2]
       refine G.nil (GK.then (GC.seq (GC.region ?_)))
       refine G.q Gd.no (Qt.mv rfl) rfl ?_
       refine G.ld Gd.no (Ld.call cal35 rfl rfl (Tks.c (.nil _)) (fun F' hF => rrestore_ct F' r1 r2 r3 _ _ D) (fun _ _ => ?_))
       dsimp only [lCa, lNa]
       rw [hE2, ← ab, ← aw]
       refine G.nil (GK.then (GC.seq (GC.region ?_)))
       refine G.q Gd.no (Qt.mv rfl) rfl ?_
       refine G.q Gd.no (Qt.mv rfl) rfl ?_
       refine G.q Gd.no (Qt.mv rfl) rfl ?_
       refine G.ld Gd.no (Ld.call cal17 rfl rfl (.nil _) (fun F' hF => goUp_ct F' q1 q2 q3 _ _ [] E2 (hF.own In.o) (hF.own In.o) fR aN 0 n over hnoR aD (by rw [lR.2.2]; exact hm64) hn255) (fun ⟨g2, rb2, rc2, sp2⟩ ⟨hcp2, hnl2, _⟩ => ?_))
       dsimp only [lCa, lNa]
       refine G.q Gd.no (Qt.mv rfl) rfl ?_
       refine G.q Gd.no (Qt.ext rfl rfl) rfl ?_
       refine G.q Gd.no (Qt.ext rfl rfl) rfl ?_
       refine G.q Gd.no (Qt.asg rfl) rfl ?_
       refine G.q Gd.no (Qt.asg rfl) rfl ?_
       refine G.nil (GK.then (GC.seq (GC.region ?_)))
       refine G.q Gd.no (Qt.mv rfl) rfl ?_
       refine G.q Gd.no (Qt.mv rfl) rfl ?_
       refine G.q Gd.no (Qt.mv rfl) rfl ?_
       refine G.ld Gd.no (Ld.call cal25 rfl rfl (.nil _) (fun F' hF => ropenUp_ct F' r1 r2 r3 _ _ E2 (hF.own In.o) fR.ok 0 n over hnoR aD) (fun rr _ => ?_))
       dsimp only [lCa, lNa]
       refine G.q Gd.no (Qt.mv rfl) rfl ?_
       refine G.q Gd.no (Qt.ext rfl rfl) rfl ?_
       refine G.q Gd.no (Qt.ext rfl rfl) rfl ?_
       refine G.q Gd.no (Qt.asg rfl) rfl ?_
       refine G.q Gd.no (Qt.asg rfl) rfl ?_
       refine G.nil (GK.then (GC.seq (GC.region ?_)))
       refine G.q Gd.no (Qt.mv rfl) rfl ?_
       refine G.q Gd.no (Qt.eqPn Try.underlying28 rfl rfl) rfl ?_
       refine G.nil (GK.then ?_)
       refine GC.condf rfl ?_
       refine GC.skip (GK.blockn (GK.then (GC.seq (GC.region ?_))))
       refine G.q Gd.no (Qt.mv rfl) rfl ?_
       refine G.q Gd.no (Qt.mv rfl) rfl ?_
       refine G.q Gd.no (Qt.neI rfl rfl) rfl ?_
       rw [ne_self]
       refine G.q Gd.no (Qt.mv rfl) rfl ?_
       apply G.orb (seg := [_, _, _])
       exact rfl
       exact rfl
       exact rfl
       exact Gd.no
       exact rfl
       exact rfl
       ·intro g4; try simp only [sB0, sB1, sB2, sB3, sB4, sB5, sB6, sB7, sB8] at g4
        refine G.q (Gd.yes rfl rfl) (Qt.mv rfl) rfl ?_
        refine G.q (Gd.yes rfl rfl) (Qt.mv rfl) rfl ?_
        refine G.q (Gd.yes rfl rfl) (Qt.neI rfl rfl) rfl ?_
        rw [ne_self]
        refine G.nil (GK.seg (n := [_, _, _]) rfl rfl rfl (by first | exact Tks.all _ | exact Tks.skip (Tks.all _) | exact Tks.skip (Tks.skip (Tks.all _)) | exact Tks.skip (Tks.skip (Tks.skip (Tks.all _)))))
       refine G.q Gd.no (Qt.mv rfl) rfl ?_
       apply G.orb (seg := [_, _, _, _, _, _])
       exact rfl
       exact rfl
       exact rfl
       exact Gd.no
       exact rfl
       exact rfl
       ·intro g9; try simp only [sB0, sB1, sB2, sB3, sB4, sB5, sB6, sB7, sB8] at g9
        refine G.q (Gd.yes rfl rfl) (Qt.mv rfl) rfl ?_
        refine G.q (Gd.yes rfl rfl) (Qt.mv rfl) rfl ?_
        refine G.q (Gd.yes rfl rfl) (Qt.mv rfl) rfl ?_
        refine G.q (Gd.yes rfl rfl) (Qt.conv Try.underlying3 Try.underlying36 rfl (by exact u16_id (by omega) (by omega))) rfl ?_
        refine G.ld (Gd.yes rfl rfl) (Ld.call cal27 rfl rfl (.nil _) (fun F' hF => same_ct F' _ _ _ _ _ _ (hF.own In.o) (VwF.oA (fun b hb => by subst hb; exact VwF.ofPre (hF.own In.o)) (fun e => by rw [(hnl2 e).1]; rfl)) (fun b hb => by subst hb; exact hF.own In.o) (inv2.len hn255) _ r1 r2 r3 _ _ rs _ _ (hF.own In.o) (hF.own In.o) (hF.own In.o) inv2.fine inv2.rf (by rw [inv2.like.1]; exact Nat.le_add_right _ _) (by rw [inv2.rS]; omega) inv2.events inv2.full _) (fun _ _ => ?_))
        dsimp only [lCa, lNa]
        refine G.q (Gd.yes rfl rfl) (Qt.not rfl) rfl ?_
        refine G.nil (GK.seg (n := [_, _, _, _, _, _]) rfl rfl rfl (by first | exact Tks.all _ | exact Tks.skip (Tks.all _) | exact Tks.skip (Tks.skip (Tks.all _)) | exact Tks.skip (Tks.skip (Tks.skip (Tks.all _)))))
       refine G.q Gd.no (Qt.mv rfl) rfl ?_
       apply G.orb (seg := [_, _, _, _])
       exact rfl
       exact rfl
       exact rfl
       exact Gd.no
       exact rfl
       exact rfl
       ·intro g17; try simp only [sB0, sB1, sB2, sB3, sB4, sB5, sB6, sB7, sB8] at g17
        refine G.q (Gd.yes rfl rfl) (Qt.mv rfl) rfl ?_
        refine G.q (Gd.yes rfl rfl) (Qt.mv rfl) rfl ?_
        refine G.ld (Gd.yes rfl rfl) (Ld.call cal28 rfl rfl (.nil _) (fun F' hF => sd_ct F' q1 q2 q3 _ _ r1 r2 r3 _ _ [] [] rs [] _ (hF.own In.o) (hF.own In.o) (hF.own In.o) (hF.own In.o) (hF.own In.o) (hF.own In.o) inv2.fine (by rw [inv2.like.1]; exact Nat.le_refl _) (by rw [inv2.like.1]; exact Nat.le_add_right _ _) (by rw [inv2.like.1]; exact hnm)) (fun _ _ => ?_))
        dsimp only [lCa, lNa]
        refine G.q (Gd.yes rfl rfl) (Qt.not rfl) rfl ?_
        refine G.nil (GK.seg (n := [_, _, _, _]) rfl rfl rfl (by first | exact Tks.all _ | exact Tks.skip (Tks.all _) | exact Tks.skip (Tks.skip (Tks.all _)) | exact Tks.skip (Tks.skip (Tks.skip (Tks.all _)))))
       refine G.nil (GK.then ?_)
       refine GC.condf rfl ?_
       refine GC.skip (GK.blockn (GK.then (GC.region ?_)))
       refine G.q Gd.no (Qt.mv rfl) rfl ?_
       refine G.q Gd.no (Qt.add rfl rfl (by first | exact i64_id (by omega) (by omega) | exact rfl)) rfl ?_
       refine G.q Gd.no (Qt.asg rfl) rfl ?_
       refine G.nil ?_
       refine GK.head (i + 1, openL 0 n over E2, Rl.open0 0 n over, E2, hd, g2, rb2, rc2, sp2, rr) ?_ ?_ ?_ ?_
       ·simp only; omega
       ·exact ⟨by simp only; omega, inv2, hdb, hcp2, hnl2⟩
       ·exact ⟨rfl, rfl, rfl, rfl, rfl, rfl, rfl, rfl, rfl, trivial⟩
       ·(simp only [hd2]; exact ⟨_, (Tks.c (Tks.c (Tks.c (Tks.c (Tks.c (Tks.c (Tks.c (Tks.c (Tks.c (.nil _))))))))))⟩)
      ·try simp only [sB0, sB1, sB2, sB3, sB4, sB5, sB6, sB7, sB8] at c12
       refine GC.seq (GC.region ?_)
       refine G.q Gd.no (Qt.eqI rfl rfl) rfl ?_
       refine G.q Gd.no (Qt.asg rfl) rfl ?_
       refine G.nil (GK.then ?_)
       refine GC.condb rfl (fun c15 => ?_) (fun c15 => ?_)
       ·try simp only [sB0, sB1, sB2, sB3, sB4, sB5, sB6, sB7, sB8] at c15
        refine GC.seq (GC.region ?_)
        refine G.q Gd.no (Qt.mv rfl) rfl ?_
        refine G.q Gd.no (Qt.fa0 fl69_4 rfl) rfl ?_
        refine G.q Gd.no (Qt.ldA (vs := evC u.e) a40 rfl Rd.o z40 rfl) rfl ?_
        have hwf := hwf0 u hum
        refine G.ld Gd.no (Ld.call cal15 rfl rfl (Tks.c (Tks.c (Tks.c (Tks.c (Tks.c (.nil _)))))) (fun F' hF => add_ct F' b q1 q2 q3 _ _ [] [] rb rc sp Y D inv.fine hcb hcp hnl (inv.len hn255) inv.gf u.e hwf) (fun ⟨rb2, rc2, sp2⟩ ⟨hcp2, hnl2⟩ => ?_))
        dsimp only [lCa, lNa]
        obtain ⟨he, inv2⟩ := inv.add hwf
        obtain ⟨Y2, p2, hy⟩ : ∃ Y2 p2, Y.add D (u.e) = (Y2, p2) := ⟨_, _, rfl⟩
        obtain ⟨R2, E2, av, xv, hr⟩ : ∃ R2 E2 av xv, R.add D (u.e) = (R2, E2, av, xv) := ⟨_, _, _, _, rfl⟩
        rw [hy, hr] at he inv2
        dsimp only at he inv2
        subst he
        rw [hy] at hcp2 hnl2 ⊢
        dsimp only at hcp2 hnl2 ⊢
        refine G.q Gd.no (Qt.mv rfl) rfl ?_
        refine G.q Gd.no (Qt.ext rfl rfl) rfl ?_
        refine G.q Gd.no (Qt.ext rfl rfl) rfl ?_
        refine G.q Gd.no (Qt.asg rfl) rfl ?_
        refine G.q Gd.no (Qt.asg rfl) rfl ?_
        refine G.nil (GK.then (GC.region ?_))
        refine G.q Gd.no (Qt.mv rfl) rfl ?_
        refine G.q Gd.no (Qt.fa0 fl69_4 rfl) rfl ?_
        refine G.q Gd.no (Qt.ldA (vs := evC u.e) a40 rfl Rd.o z40 rfl) rfl ?_
        refine G.ld Gd.no (Ld.call cal26 rfl rfl (Tks.c (Tks.c (Tks.c (Tks.c (.nil _))))) (fun F' hF => radd_ct F' r r1 r2 r3 _ _ rs [] R D inv.fine inv.rf hgb u.e hwf) (fun _ _ => ?_))
        dsimp only [lCa, lNa]
        rw [hr]
        dsimp only
        refine G.q Gd.no (Qt.mv rfl) rfl ?_
        refine G.q Gd.no (Qt.ext rfl rfl) rfl ?_
        refine G.q Gd.no (Qt.ext rfl rfl) rfl ?_
        refine G.q Gd.no (Qt.asg rfl) rfl ?_
        refine G.q Gd.no (Qt.asg rfl) rfl ?_
        refine G.nil (GK.blockn (GK.then (GC.seq (GC.region ?_))))
        refine G.q Gd.no (Qt.mv rfl) rfl ?_
        refine G.q Gd.no (Qt.mv rfl) rfl ?_
        refine G.q Gd.no (Qt.neI rfl rfl) rfl ?_
        rw [ne_self]
        refine G.q Gd.no (Qt.mv rfl) rfl ?_
        apply G.orb (seg := [_, _, _])
        exact rfl
        exact rfl
        exact rfl
        exact Gd.no
        exact rfl
        exact rfl
        ·intro g4; try simp only [sB0, sB1, sB2, sB3, sB4, sB5, sB6, sB7, sB8] at g4
         refine G.q (Gd.yes rfl rfl) (Qt.mv rfl) rfl ?_
         refine G.q (Gd.yes rfl rfl) (Qt.mv rfl) rfl ?_
         refine G.q (Gd.yes rfl rfl) (Qt.neI rfl rfl) rfl ?_
         rw [ne_self]
         refine G.nil (GK.seg (n := [_, _, _]) rfl rfl rfl (by first | exact Tks.all _ | exact Tks.skip (Tks.all _) | exact Tks.skip (Tks.skip (Tks.all _)) | exact Tks.skip (Tks.skip (Tks.skip (Tks.all _)))))
        refine G.q Gd.no (Qt.mv rfl) rfl ?_
        apply G.orb (seg := [_, _, _, _, _, _])
        exact rfl
        exact rfl
        exact rfl
        exact Gd.no
        exact rfl
        exact rfl
        ·intro g9; try simp only [sB0, sB1, sB2, sB3, sB4, sB5, sB6, sB7, sB8] at g9
         refine G.q (Gd.yes rfl rfl) (Qt.mv rfl) rfl ?_
         refine G.q (Gd.yes rfl rfl) (Qt.mv rfl) rfl ?_
         refine G.q (Gd.yes rfl rfl) (Qt.mv rfl) rfl ?_
         refine G.q (Gd.yes rfl rfl) (Qt.conv Try.underlying3 Try.underlying36 rfl (by exact u16_id (by omega) (by omega))) rfl ?_
         refine G.ld (Gd.yes rfl rfl) (Ld.call cal27 rfl rfl (.nil _) (fun F' hF => same_ct F' _ _ _ _ _ _ (hF.own In.o) (VwF.oA (fun b hb => by subst hb; exact VwF.ofPre (hF.own In.o)) (fun e => by rw [(hnl2 e).1]; rfl)) (fun b hb => by subst hb; exact hF.own In.o) (inv2.len hn255) _ r1 r2 r3 _ _ rs _ _ (hF.own In.o) (hF.own In.o) (hF.own In.o) inv2.fine inv2.rf (by rw [inv2.like.1]; exact Nat.le_add_right _ _) (by rw [inv2.rS]; omega) inv2.events inv2.full _) (fun _ _ => ?_))
         dsimp only [lCa, lNa]
         refine G.q (Gd.yes rfl rfl) (Qt.not rfl) rfl ?_
         refine G.nil (GK.seg (n := [_, _, _, _, _, _]) rfl rfl rfl (by first | exact Tks.all _ | exact Tks.skip (Tks.all _) | exact Tks.skip (Tks.skip (Tks.all _)) | exact Tks.skip (Tks.skip (Tks.skip (Tks.all _)))))
        refine G.q Gd.no (Qt.mv rfl) rfl ?_
        apply G.orb (seg := [_, _, _, _])
        exact rfl
        exact rfl
        exact rfl
        exact Gd.no
        exact rfl
        exact rfl
        ·intro g17; try simp only [sB0, sB1, sB2, sB3, sB4, sB5, sB6, sB7, sB8] at g17
         refine G.q (Gd.yes rfl rfl) (Qt.mv rfl) rfl ?_
         refine G.q (Gd.yes rfl rfl) (Qt.mv rfl) rfl ?_
         refine G.ld (Gd.yes rfl rfl) (Ld.call cal28 rfl rfl (.nil _) (fun F' hF => sd_ct F' q1 q2 q3 _ _ r1 r2 r3 _ _ [] [] rs [] _ (hF.own In.o) (hF.own In.o) (hF.own In.o) (hF.own In.o) (hF.own In.o) (hF.own In.o) inv2.fine (by rw [inv2.like.1]; exact Nat.le_refl _) (by rw [inv2.like.1]; exact Nat.le_add_right _ _) (by rw [inv2.like.1]; exact hnm)) (fun _ _ => ?_))
         dsimp only [lCa, lNa]
         refine G.q (Gd.yes rfl rfl) (Qt.not rfl) rfl ?_
         refine G.nil (GK.seg (n := [_, _, _, _]) rfl rfl rfl (by first | exact Tks.all _ | exact Tks.skip (Tks.all _) | exact Tks.skip (Tks.skip (Tks.all _)) | exact Tks.skip (Tks.skip (Tks.skip (Tks.all _)))))
        refine G.nil (GK.then ?_)
        refine GC.condf rfl ?_
        refine GC.skip (GK.blockn (GK.then (GC.region ?_)))
        refine G.q Gd.no (Qt.mv rfl) rfl ?_
        refine G.q Gd.no (Qt.add rfl rfl (by first | exact i64_id (by omega) (by omega) | exact rfl)) rfl ?_
        refine G.q Gd.no (Qt.asg rfl) rfl ?_
        refine G.nil ?_
        refine GK.head (i + 1, Y2, R2, E2, hd, b, rb2, rc2, sp2, r) ?_ ?_ ?_ ?_
        ·simp only; omega
        ·exact ⟨by simp only; omega, inv2, hdb, hcp2, hnl2⟩
        ·exact ⟨rfl, rfl, rfl, rfl, rfl, rfl, rfl, rfl, rfl, trivial⟩
        ·exact ⟨_, (Tks.c (Tks.c (Tks.c (Tks.c (Tks.c (Tks.c (Tks.c (Tks.c (Tks.c (.nil _))))))))))⟩
       ·try simp only [sB0, sB1, sB2, sB3, sB4, sB5, sB6, sB7, sB8] at c15
        refine GC.seq (GC.region ?_)
        refine G.q Gd.no (Qt.fa0 fl69_3 rfl) rfl ?_
        refine G.q Gd.no (Qt.ldc a22 rfl (by first | exact Rdc.o rfl | exact Rdc.o (nth_vIs (by omega)) | exact Rdc.o (nth_vI (by omega)))) rfl ?_
        refine G.ld Gd.no (Ld.call cal12 rfl rfl (.nil _) (fun F' hF => roll_ct F' u.sA _ _ u.seed rfl) (fun qd _ => ?_))
        dsimp only [lCa, lNa]
        refine G.ld Gd.no (Ld.call cal13 rfl rfl (Tks.c (.nil _)) (fun F' hF => event_ct F' qd u.sA u.sc ⟨u.seed, 0⟩ ((hsd u hum).mono hF) (by have := hl40 u hum; simp only; omega)) (fun _ _ => ?_))
        dsimp only [lCa, lNa]
        obtain ⟨z, hz⟩ : ∃ z, Di.event ⟨u.seed, 0⟩ = z := ⟨_, rfl⟩
        have hwf : z.1.Wf := by rw [← hz]; exact (Di.event_wf _).1
        rw [hz]
        refine G.ld Gd.no (Ld.alloc rfl ze40 (by first | exact Cl.one rfl | exact Cl.agg) (fun b26 => ?_))
        refine G.ld Gd.no (Ld.stW (by exact z40) rfl rfl (evC_one _) (E := 40) (by rfl) UpdC.u ?_)
        refine G.nil (GK.then (GC.seq (GC.region ?_)))
        refine G.q Gd.no (Qt.mv rfl) rfl ?_
        refine G.q Gd.no (Qt.ldW a40 rfl Rd.o z40) rfl ?_
        refine G.ld Gd.no (Ld.call cal15 rfl rfl (Tks.c (Tks.c (Tks.c (Tks.c (Tks.c (.nil _)))))) (fun F' hF => add_ct F' b q1 q2 q3 _ _ [] [] rb rc sp Y D inv.fine hcb hcp hnl (inv.len hn255) inv.gf z.1 hwf) (fun ⟨rb2, rc2, sp2⟩ ⟨hcp2, hnl2⟩ => ?_))
        dsimp only [lCa, lNa]
        obtain ⟨he, inv2⟩ := inv.add hwf
        obtain ⟨Y2, p2, hy⟩ : ∃ Y2 p2, Y.add D (z.1) = (Y2, p2) := ⟨_, _, rfl⟩
        obtain ⟨R2, E2, av, xv, hr⟩ : ∃ R2 E2 av xv, R.add D (z.1) = (R2, E2, av, xv) := ⟨_, _, _, _, rfl⟩
        rw [hy, hr] at he inv2
        dsimp only at he inv2
        subst he
        rw [hy] at hcp2 hnl2 ⊢
        dsimp only at hcp2 hnl2 ⊢
        refine G.q Gd.no (Qt.mv rfl) rfl ?_
        refine G.q Gd.no (Qt.ext rfl rfl) rfl ?_
        refine G.q Gd.no (Qt.ext rfl rfl) rfl ?_
        refine G.q Gd.no (Qt.asg rfl) rfl ?_
        refine G.q Gd.no (Qt.asg rfl) rfl ?_
        refine G.nil (GK.then (GC.region ?_))
        refine G.q Gd.no (Qt.mv rfl) rfl ?_
        refine G.q Gd.no (Qt.ldW a40 rfl Rd.o z40) rfl ?_
        refine G.ld Gd.no (Ld.call cal26 rfl rfl (Tks.c (Tks.c (Tks.c (Tks.c (.nil _))))) (fun F' hF => radd_ct F' r r1 r2 r3 _ _ rs [] R D inv.fine inv.rf hgb z.1 hwf) (fun _ _ => ?_))
        dsimp only [lCa, lNa]
        rw [hr]
        dsimp only
        refine G.q Gd.no (Qt.mv rfl) rfl ?_
        refine G.q Gd.no (Qt.ext rfl rfl) rfl ?_
        refine G.q Gd.no (Qt.ext rfl rfl) rfl ?_
        refine G.q Gd.no (Qt.asg rfl) rfl ?_
        refine G.q Gd.no (Qt.asg rfl) rfl ?_
        refine G.nil (GK.blockn (GK.then (GC.seq (GC.region ?_))))
        refine G.q Gd.no (Qt.mv rfl) rfl ?_
        refine G.q Gd.no (Qt.mv rfl) rfl ?_
        refine G.q Gd.no (Qt.neI rfl rfl) rfl ?_
        rw [ne_self]
        refine G.q Gd.no (Qt.mv rfl) rfl ?_
        apply G.orb (seg := [_, _, _])
        exact rfl
        exact rfl
        exact rfl
        exact Gd.no
        exact rfl
        exact rfl
        ·intro g4; try simp only [sB0, sB1, sB2, sB3, sB4, sB5, sB6, sB7, sB8] at g4
         refine G.q (Gd.yes rfl rfl) (Qt.mv rfl) rfl ?_
         refine G.q (Gd.yes rfl rfl) (Qt.mv rfl) rfl ?_
         refine G.q (Gd.yes rfl rfl) (Qt.neI rfl rfl) rfl ?_
         rw [ne_self]
         refine G.nil (GK.seg (n := [_, _, _]) rfl rfl rfl (by first | exact Tks.all _ | exact Tks.skip (Tks.all _) | exact Tks.skip (Tks.skip (Tks.all _)) | exact Tks.skip (Tks.skip (Tks.skip (Tks.all _)))))
        refine G.q Gd.no (Qt.mv rfl) rfl ?_
        apply G.orb (seg := [_, _, _, _, _, _])
        exact rfl
        exact rfl
        exact rfl
        exact Gd.no
        exact rfl
        exact rfl
        ·intro g9; try simp only [sB0, sB1, sB2, sB3, sB4, sB5, sB6, sB7, sB8] at g9
         refine G.q (Gd.yes rfl rfl) (Qt.mv rfl) rfl ?_
         refine G.q (Gd.yes rfl rfl) (Qt.mv rfl) rfl ?_
         refine G.q (Gd.yes rfl rfl) (Qt.mv rfl) rfl ?_
         refine G.q (Gd.yes rfl rfl) (Qt.conv Try.underlying3 Try.underlying36 rfl (by exact u16_id (by omega) (by omega))) rfl ?_
         refine G.ld (Gd.yes rfl rfl) (Ld.call cal27 rfl rfl (.nil _) (fun F' hF => same_ct F' _ _ _ _ _ _ (hF.own In.o) (VwF.oA (fun b hb => by subst hb; exact VwF.ofPre (hF.own In.o)) (fun e => by rw [(hnl2 e).1]; rfl)) (fun b hb => by subst hb; exact hF.own In.o) (inv2.len hn255) _ r1 r2 r3 _ _ rs _ _ (hF.own In.o) (hF.own In.o) (hF.own In.o) inv2.fine inv2.rf (by rw [inv2.like.1]; exact Nat.le_add_right _ _) (by rw [inv2.rS]; omega) inv2.events inv2.full _) (fun _ _ => ?_))
         dsimp only [lCa, lNa]
         refine G.q (Gd.yes rfl rfl) (Qt.not rfl) rfl ?_
         refine G.nil (GK.seg (n := [_, _, _, _, _, _]) rfl rfl rfl (by first | exact Tks.all _ | exact Tks.skip (Tks.all _) | exact Tks.skip (Tks.skip (Tks.all _)) | exact Tks.skip (Tks.skip (Tks.skip (Tks.all _)))))
        refine G.q Gd.no (Qt.mv rfl) rfl ?_
        apply G.orb (seg := [_, _, _, _])
        exact rfl
        exact rfl
        exact rfl
        exact Gd.no
        exact rfl
        exact rfl
        ·intro g17; try simp only [sB0, sB1, sB2, sB3, sB4, sB5, sB6, sB7, sB8] at g17
         refine G.q (Gd.yes rfl rfl) (Qt.mv rfl) rfl ?_
         refine G.q (Gd.yes rfl rfl) (Qt.mv rfl) rfl ?_
         refine G.ld (Gd.yes rfl rfl) (Ld.call cal28 rfl rfl (.nil _) (fun F' hF => sd_ct F' q1 q2 q3 _ _ r1 r2 r3 _ _ [] [] rs [] _ (hF.own In.o) (hF.own In.o) (hF.own In.o) (hF.own In.o) (hF.own In.o) (hF.own In.o) inv2.fine (by rw [inv2.like.1]; exact Nat.le_refl _) (by rw [inv2.like.1]; exact Nat.le_add_right _ _) (by rw [inv2.like.1]; exact hnm)) (fun _ _ => ?_))
         dsimp only [lCa, lNa]
         refine G.q (Gd.yes rfl rfl) (Qt.not rfl) rfl ?_
         refine G.nil (GK.seg (n := [_, _, _, _]) rfl rfl rfl (by first | exact Tks.all _ | exact Tks.skip (Tks.all _) | exact Tks.skip (Tks.skip (Tks.all _)) | exact Tks.skip (Tks.skip (Tks.skip (Tks.all _)))))
        refine G.nil (GK.then ?_)
        refine GC.condf rfl ?_
        refine GC.skip (GK.blockn (GK.then (GC.region ?_)))
        refine G.q Gd.no (Qt.mv rfl) rfl ?_
        refine G.q Gd.no (Qt.add rfl rfl (by first | exact i64_id (by omega) (by omega) | exact rfl)) rfl ?_
        refine G.q Gd.no (Qt.asg rfl) rfl ?_
        refine G.nil ?_
        refine GK.head (i + 1, Y2, R2, E2, hd, b, rb2, rc2, sp2, r) ?_ ?_ ?_ ?_
        ·simp only; omega
        ·exact ⟨by simp only; omega, inv2, hdb, hcp2, hnl2⟩
        ·exact ⟨rfl, rfl, rfl, rfl, rfl, rfl, rfl, rfl, rfl, trivial⟩
        ·exact ⟨_, (Tks.c (Tks.c (Tks.c (Tks.c (Tks.c (Tks.c (Tks.c (Tks.c (Tks.c (.nil _))))))))))⟩
  ·try simp only [sB0, sB1, sB2, sB3, sB4, sB5, sB6, sB7, sB8] at c3
   refine GC.exit (GK.thene (GK.thene (GK.blocke (GK.then (GC.seq (GC.region ?_))))))
   refine G.ld Gd.no (Ld.call cal7 rfl rfl (.nil _) (fun F' hF => awake_ct F') (fun _ _ => ?_))
   dsimp only [lCa, lNa]
   refine G.q Gd.no (Qt.asg rfl) rfl ?_
   refine G.nil (GK.then (GC.ret ?_))
   refine GK.ret (rs := [.tmp 8]) rfl (.tmp rfl .nil) () ?_ ?_ (.nil _)
   ·trivial
   ·rfl

end Go.Proofs.Ytbeiciinppmekaa
