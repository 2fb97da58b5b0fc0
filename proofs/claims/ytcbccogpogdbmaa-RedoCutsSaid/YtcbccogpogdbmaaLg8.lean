/- Two logs over two areas; Commits that are asked again. -/
import Derived.Test.YtcbccogpogdbmaaLg7
namespace Go.Proofs.Ytcbccogpogdbmaa
open Go.RowKit Go.Maps Go.Lib Go.Sort
theorem AreaAt.left {W : World} {ab ag : Nat} {A : List ByteArray} {left : Int} (h : AreaAt W ab ag A left) (v : Int) : AreaAt (W.setCell ⟨ab, 1, none⟩ (.int .i64 v)) ab ag A v ∧ Fr [ab] W (W.setCell ⟨ab, 1, none⟩ (.int .i64 v)) := by
  have f : Fr [ab] W (W.setCell ⟨ab, 1, none⟩ (.int .i64 v)) := (Fr.refl _ _).setCell _ _ (.inl (by simp))
  exact ⟨⟨by rw [setCell_at h.1]; rfl, f.keep h.2.1 (by simpa using fun e => h.ne e.symm), h.2.2⟩, f⟩
structure Two (w W : World) (lx ax gx ly ay gy base slots : Nat) (Ax Ay : List ByteArray) (tx ty mx my : Int) (Kx Ky Fx Fy : List Rec) (Gx Gy : Nat → Prop) : Prop where
  x : LA Gx W lx ax gx base slots Ax tx mx Kx Fx
  y : LA Gy W ly ay gy base slots Ay ty my Ky Fy
  apart : ∀ g, Gx g → ¬ Gy g
  xo : ∀ g, Gx g → g ≠ ay ∧ g ≠ gy
  yo : ∀ g, Gy g → g ≠ ax ∧ g ≠ gx
  oo : ax ≠ ay ∧ ax ≠ gy ∧ gx ≠ ay ∧ gx ≠ gy
  xb : ∀ g, Gx g → w.heap.size ≤ g ∧ g < W.heap.size
  yb : ∀ g, Gy g → w.heap.size ≤ g ∧ g < W.heap.size
  ob : w.heap.size ≤ ax ∧ w.heap.size ≤ gx ∧ w.heap.size ≤ ay ∧ w.heap.size ≤ gy
  fr : Fr [] w W
section
variable {w W : World} {lx ax gx ly ay gy base slots : Nat} {Ax Ay : List ByteArray} {tx ty mx my : Int} {Kx Ky Fx Fy : List Rec} {Gx Gy : Nat → Prop}
theorem Two.swap (h : Two w W lx ax gx ly ay gy base slots Ax Ay tx ty mx my Kx Ky Fx Fy Gx Gy) : Two w W ly ay gy lx ax gx base slots Ay Ax ty tx my mx Ky Kx Fy Fx Gy Gx :=
  ⟨h.y, h.x, fun g h1 h2 => h.apart g h2 h1, h.yo, h.xo, ⟨h.oo.1.symm, h.oo.2.2.1.symm, h.oo.2.1.symm, h.oo.2.2.2.symm⟩, h.yb, h.xb, ⟨h.ob.2.2.1, h.ob.2.2.2, h.ob.1, h.ob.2.1⟩, h.fr⟩
/-- A step of the first one. -/
theorem Two.step (h : Two w W lx ax gx ly ay gy base slots Ax Ay tx ty mx my Kx Ky Fx Fy Gx Gy) {W' : World} {T : List Nat} (hT : ∀ t ∈ T, t = ax ∨ t = gx ∨ Gx t ∨ W.heap.size ≤ t) (hf : Fr T W W') {Ax' : List ByteArray} {tx' mx' : Int} {Kx' Fx' : List Rec} (hx : LA (Gr Gx W W') W' lx ax gx base slots Ax' tx' mx' Kx' Fx') :
    Two w W' lx ax gx ly ay gy base slots Ax' Ay tx' ty mx' my Kx' Ky Fx' Fy (Gr Gx W W') Gy := by
  have hz := hf.size
  have hy1 := h.y.area.lt
  have hx1 := h.x.area.lt
  have hzw := h.fr.size
  refine ⟨hx, h.y.fr hf (fun t ht => ?_), fun g h1 h2 => ?_, fun g h1 => ?_, h.yo, h.oo, fun g h1 => ?_, fun g h1 => ?_, h.ob, h.fr.andThen hf (fun t ht => .inr ?_)⟩
  · rcases hT t ht with e | e | e | e
    · exact ⟨fun hg => (h.yo t hg).1 e, e ▸ h.oo.1, e ▸ h.oo.2.1⟩
    · exact ⟨fun hg => (h.yo t hg).2 e, e ▸ h.oo.2.2.1, e ▸ h.oo.2.2.2⟩
    · exact ⟨h.apart t e, (h.xo t e).1, (h.xo t e).2⟩
    · exact ⟨fun hg => by have := (h.yb t hg).2; omega, by omega, by omega⟩
  · rcases h1 with h1 | h1
    · exact h.apart g h1 h2
    · have := (h.yb g h2).2; omega
  · rcases h1 with h1 | h1
    · exact h.xo g h1
    · omega
  · rcases h1 with h1 | h1
    · have := h.xb g h1; omega
    · omega
  · have := h.yb g h1; omega
  · have h4 := h.ob
    rcases hT t ht with e | e | e | e
    · omega
    · omega
    · exact (h.xb t e).1
    · omega
theorem Two.fr0 (h : Two w W lx ax gx ly ay gy base slots Ax Ay tx ty mx my Kx Ky Fx Fy Gx Gy) {W' : World} (hf : Fr [] W W') : Two w W' lx ax gx ly ay gy base slots Ax Ay tx ty mx my Kx Ky Fx Fy Gx Gy := by
  have hz := hf.size
  exact ⟨h.x.fr0 hf, h.y.fr0 hf, h.apart, h.xo, h.yo, h.oo, fun g hg => by have := h.xb g hg; omega, fun g hg => by have := h.yb g hg; omega, h.ob, h.fr.trans hf⟩
theorem Two.append (h : Two w W lx ax gx ly ay gy base slots Ax Ay tx ty mx my Kx Ky Fx Fy Gx Gy) (b s : Int) (d : ByteArray) {n e : Int} {F1 : List Rec} (hr : appendP slots mx Kx Fx b s d = (n, e, F1)) :
    Calls Try.prog 17 #[.pointer (some ⟨lx, 0, none⟩), .int .i64 b, .int .i64 s, .string d] W fun z W' => z = .returned (.tuple #[.int .i64 n, .int .i64 e]) ∧ ∃ Gx', Two w W' lx ax gx ly ay gy base slots Ax Ay tx ty mx my Kx Ky F1 Fy Gx' Gy := by
  refine (h.x.append b s d hr).mono ?_
  rintro z W' ⟨rfl, hf, hl⟩
  exact ⟨rfl, _, h.step (fun t ht => .inr (.inr (.inl (by rw [List.mem_singleton.1 ht]; exact h.x.log.at.1)))) hf hl⟩
theorem Two.append2 (h : Two w W lx ax gx ly ay gy base slots Ax Ay tx ty mx my Kx Ky Fx Fy Gx Gy) (b s : Int) (d : ByteArray) {n e : Int} {F1 : List Rec} (hr : appendP slots my Ky Fy b s d = (n, e, F1)) :
    Calls Try.prog 17 #[.pointer (some ⟨ly, 0, none⟩), .int .i64 b, .int .i64 s, .string d] W fun z W' => z = .returned (.tuple #[.int .i64 n, .int .i64 e]) ∧ ∃ Gy', Two w W' lx ax gx ly ay gy base slots Ax Ay tx ty mx my Kx Ky Fx F1 Gx Gy' := by
  refine (h.swap.append b s d hr).mono ?_
  rintro z W' ⟨rfl, G', h2⟩
  exact ⟨rfl, G', h2.swap⟩
theorem Two.commit (h : Two w W lx ax gx ly ay gy base slots Ax Ay tx ty mx my Kx Ky Fx Fy Gx Gy) {e tx1 mx1 : Int} {A1 : List ByteArray} {K1 F1 : List Rec} (hr : commitP base slots Fx Ax tx mx Kx = (e, A1, tx1, mx1, K1, F1)) (hl : tx1 < 1000000) :
    Calls Try.prog 18 #[.pointer (some ⟨lx, 0, none⟩)] W fun z W' => z = .returned (.int .i64 e) ∧ ∃ Gx', Two w W' lx ax gx ly ay gy base slots A1 Ay tx1 ty mx1 my K1 Ky F1 Fy Gx' Gy := by
  refine (h.x.commit hr hl).mono ?_
  rintro z W' ⟨rfl, ⟨T, hT, hf⟩, hx⟩
  exact ⟨rfl, _, h.step hT hf hx⟩
theorem Two.commit2 (h : Two w W lx ax gx ly ay gy base slots Ax Ay tx ty mx my Kx Ky Fx Fy Gx Gy) {e tx1 mx1 : Int} {A1 : List ByteArray} {K1 F1 : List Rec} (hr : commitP base slots Fy Ay ty my Ky = (e, A1, tx1, mx1, K1, F1)) (hl : tx1 < 1000000) :
    Calls Try.prog 18 #[.pointer (some ⟨ly, 0, none⟩)] W fun z W' => z = .returned (.int .i64 e) ∧ ∃ Gy', Two w W' lx ax gx ly ay gy base slots Ax A1 tx tx1 mx mx1 Kx K1 Fx F1 Gx Gy' := by
  refine (h.swap.commit hr hl).mono ?_
  rintro z W' ⟨rfl, G', h2⟩
  exact ⟨rfl, G', h2.swap⟩
/-- The first area's Left is set. -/
theorem Two.left (h : Two w W lx ax gx ly ay gy base slots Ax Ay tx ty mx my Kx Ky Fx Fy Gx Gy) (v : Int) (hv : v < 1000000) : ∃ Gx', Two w (W.setCell ⟨ax, 1, none⟩ (.int .i64 v)) lx ax gx ly ay gy base slots Ax Ay v ty mx my Kx Ky Fx Fy Gx' Gy := by
  obtain ⟨ha, hf⟩ := h.x.area.left v
  have hl := h.x.log.fr hf (fun g hg => by rw [List.mem_singleton.1 hg]; exact h.x.nab)
  refine ⟨_, h.step (T := [ax]) (fun t ht => .inl (List.mem_singleton.1 ht)) hf ⟨hl.imp (fun g _ hg => .inl hg), ha, gr_no h.x.area.lt.1 h.x.nab, gr_no h.x.area.lt.2 h.x.nag, h.x.ok, hv, h.x.s1, h.x.s2, h.x.s3⟩⟩
end
/-! ### What a Commit leaves to be done -/
theorem sets_again : ∀ (ps A : List ByteArray) (i k : Nat), i + ps.length ≤ A.length → setsP (setsP A i (ps.take k)) i ps = setsP A i ps := by
  intro ps A i k h
  apply List.ext_getElem?
  intro x
  rw [sets_get ps _ i x (by rw [sets_len]; exact h), sets_get ps A i x h]
  by_cases hx : i ≤ x ∧ x < i + ps.length
  · rw [if_pos hx, if_pos hx]
  · rw [if_neg hx, if_neg hx, sets_get _ A i x (by rw [List.length_take]; omega)]
    rw [if_neg (by rw [List.length_take]; omega)]
theorem all_append (base slots : Nat) : ∀ (D F : List Rec) (A : List ByteArray), allP base slots (D ++ F) A = allP base slots F (allP base slots D A)
  | [], F, A => rfl
  | r :: D, F, A => by rw [List.cons_append, allP, all_append base slots D F, allP]
theorem lastQ_append : ∀ (D F : List Rec) (m : Int), lastQ m (D ++ F) = lastQ (lastQ m D) F
  | [], F, m => rfl
  | r :: D, F, m => by rw [List.cons_append, lastQ, lastQ_append D F, lastQ]
theorem all_len (base slots : Nat) : ∀ (D : List Rec) (A : List ByteArray), (allP base slots D A).length = A.length
  | [], A => rfl
  | r :: D, A => by rw [allP, all_len base slots D, sets_len]
theorem putsP_left : ∀ (ps A : List ByteArray) (left : Int) (i : Nat), (putsP A left i ps).2.2 ≤ left
  | [], A, left, i => Int.le_refl _
  | s :: ps, A, left, i => by
    unfold putsP
    by_cases h0 : left = 0
    · subst h0
      rw [putP_none, if_pos (by simp)]
      exact Int.le_refl _
    · rw [putP_zero h0, if_neg (by simp)]
      have := putsP_left ps (A.set i s) (if 0 < left then left - 1 else left) (i + 1)
      dsimp only
      refine Int.le_trans this ?_
      split <;> omega
theorem commit_left (base slots : Nat) : ∀ (F : List Rec) (A : List ByteArray) (left last : Int) (K : List Rec), (commitP base slots F A left last K).2.2.1 ≤ left
  | [], A, left, last, K => Int.le_refl _
  | r :: F, A, left, last, K => by
    unfold commitP
    dsimp only
    have h := putsP_left (partsP r) A left (base + (r.1.toNat - 1) % slots * 3)
    split
    · exact h
    · exact Int.le_trans (commit_left base slots F _ _ _ _) h
/-- A Commit that was cut off leaves the rest to be done. -/
theorem commit_keep {base slots : Nat} {F K : List Rec} {A : List ByteArray} {left last : Int} (hA : A.length = 256) (hs : 1 ≤ slots) (hb : base + 3 * slots ≤ 256) (hE : ∀ r ∈ F, errR r = 0) {e left1 last1 : Int} {A1 : List ByteArray} {K1 F1 : List Rec} (hr : commitP base slots F A left last K = (e, A1, left1, last1, K1, F1)) :
    K1 ++ F1 = K ++ F ∧ allP base slots F1 A1 = allP base slots F A ∧ lastQ last1 F1 = lastQ last F ∧ A1.length = 256 ∧ left1 ≤ left ∧ (∀ r ∈ F1, errR r = 0) := by
  have hleft := commit_left base slots F A left last K
  obtain ⟨D, F', e', A', left', rfl, h2, h3⟩ := commit_cut base slots F A left last K
  rw [hr] at h2 hleft
  simp only [Prod.mk.injEq] at h2
  obtain ⟨-, rfl, rfl, rfl, rfl, rfl⟩ := h2
  have hl := all_len base slots D A
  refine ⟨by simp, ?_, (lastQ_append _ _ _).symm, ?_, hleft, fun r hr => hE r (by simp [hr])⟩
  · rw [all_append]
    rcases h3 with ⟨_, _, rfl⟩ | ⟨_, r, F'', k, rfl, hk, rfl⟩
    · rfl
    · rw [allP, allP]
      have hp := parts_len (hE r (by simp))
      have : (r.1.toNat - 1) % slots < slots := Nat.mod_lt _ (by omega)
      rw [sets_again _ _ _ _ (by rw [hl, hA, hp]; unfold posP; omega)]
  · rcases h3 with ⟨_, _, rfl⟩ | ⟨_, r, F'', k, rfl, hk, rfl⟩
    · rw [hl, hA]
    · rw [sets_len, hl, hA]
end Go.Proofs.Ytcbccogpogdbmaa
