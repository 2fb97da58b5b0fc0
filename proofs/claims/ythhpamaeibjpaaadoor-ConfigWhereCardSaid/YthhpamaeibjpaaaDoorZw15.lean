/- Contracts and words, several texts in one. -/
import Derived.Deep.RegionLaw
import Derived.Deep.DrawnRows
import Derived.IntWalk
import Derived.Test.YthhpamaeibjpaaaDoorZw13
import Derived.Test.YthhpamaeibjpaaaDoorZw14
section
namespace Go.Proofs.YthhpamaeibjpaaaDoor
open Go.RowKit Go.Maps Go.Lib Go.Sort
theorem infoRt : (Tryd.prog.info? 73).map (fun i => (i.zero, i.size, i.bytes)) = some (some (.agg #[.int .i64 0, .int .i64 0, .int .i64 0, .int .i64 0]), 4, 32) := by kernel_rfl
attribute [local go_sem ↓] Go.wp_at_zero Go.wp_at_succ
set_option maxRecDepth 100000 in
set_option maxHeartbeats 4000000 in
theorem theirs_any {B : Nat → Prop} (c : Cfg) (vs vp : Value) (w : World) (h : CfgIs w B vs vp c) (hl : c.pt.length < 1000000) :
    Calls Tryd.prog 12 #[aggC c vs vp] w fun e w' => ∃ vp', e = .returned (aggC c vs vp') ∧ Fr [] w w' ∧ w'.ownsRow w.heap.size 73 4 vp' c.pt.length (c.pt.flatMap encPt) := by
  obtain ⟨ep, sv, pt, tb⟩ := c
  obtain ⟨hv, h⟩ := h
  obtain ⟨a1, cap1, rfl, _, _, _⟩ := hv
  dsimp only at h hl
  obtain ⟨a, cap, rfl, hc1, hc2, hat⟩ := h.at encPt_len
  have hat' := Lib.hid hat
  unfold aggC
  dsimp only
  clear hat h
  obtain ⟨W, hW⟩ : ∃ W, W = ((w.alloc (.cells #[.int .i64 ep, .slice a1 sv.length cap1, .slice a pt.length cap, .int .i64 tb] 26)).alloc (.cells #[.int .i64 0, .slice none 0 0, .slice none 0 0, .int .i64 0] 37)).alloc (.cells #[.int .i64 ep, .slice a1 sv.length cap1, .slice none 0 0, .int .i64 tb] 37) := ⟨_, rfl⟩
  have hW' := Lib.hid hW
  have hFW : Fr [] w W := by rw [hW]; exact (((Fr.refl _ _).alloc _).alloc _).alloc _
  have hb1 : W.heap[w.heap.size]? = some (.cells #[.int .i64 ep, .slice a1 sv.length cap1, .slice a pt.length cap, .int .i64 tb] 26 (0, 0)) := by rw [hW]; exact (((Fr.refl [] _).alloc _).alloc _).keep (heap_alloc_new w _) (by simp)
  have hb2 : W.heap[w.heap.size + 1]? = some (.cells #[.int .i64 0, .slice none 0 0, .slice none 0 0, .int .i64 0] 37 (0, 0)) := by rw [hW]; have := ((Fr.refl [] _).alloc (.cells #[.int .i64 ep, .slice a1 sv.length cap1, .slice none 0 0, .int .i64 tb] 37)).keep (heap_alloc_new (w.alloc (.cells #[.int .i64 ep, .slice a1 sv.length cap1, .slice a pt.length cap, .int .i64 tb] 26)) (.cells #[.int .i64 0, .slice none 0 0, .slice none 0 0, .int .i64 0] 37)) (by simp); simpa using this
  have hb3 : W.heap[w.heap.size + 2]? = some (.cells #[.int .i64 ep, .slice a1 sv.length cap1, .slice none 0 0, .int .i64 tb] 37 (0, 0)) := by rw [hW]; have := heap_alloc_new ((w.alloc (.cells #[.int .i64 ep, .slice a1 sv.length cap1, .slice a pt.length cap, .int .i64 tb] 26)).alloc (.cells #[.int .i64 0, .slice none 0 0, .slice none 0 0, .int .i64 0] 37)) (.cells #[.int .i64 ep, .slice a1 sv.length cap1, .slice none 0 0, .int .i64 tb] 37); simpa using this
  have hzW : W.heap.size = w.heap.size + 3 := by rw [hW]; simp
  have hb1' := Lib.hid hb1; have hb2' := Lib.hid hb2; have hb3' := Lib.hid hb3
  clear hW hb1 hb2 hb3
  go_enter Tryd.func12, Tryd.ntmps12
  go_wp2
  rw [← hW'.out]
  go_loopg [4] pt.length (fun gk iv wr => ∃ (i : Nat) (lv : Value), i ≤ pt.length ∧ gk = pt.length - i ∧ iv = .int .i64 i ∧ wr.heap[w.heap.size + 2]? = some (.cells #[.int .i64 ep, .slice a1 sv.length cap1, lv, .int .i64 tb] 37 (0, 0)) ∧ wr.ownsRow (w.heap.size + 3) 73 4 lv (pt.take i).length ((pt.take i).flatMap encPt) ∧ Fr [w.heap.size + 2] W wr)
  case atStart => exact ⟨0, .slice none 0 0, Nat.zero_le _, rfl, rfl, hb3'.out, ⟨by simp, .inl ⟨rfl, by simp⟩⟩, Fr.refl _ _⟩
  case round =>
    obtain ⟨i, lv, hi, hgk, rfl, ho3, hown, hfr⟩ := hrel
    have hgk' := Lib.hid hgk
    clear hgk
    have hzr := hfr.size
    have h1 := hfr.keep hb1'.out (by simp)
    have h2 := hfr.keep hb2'.out (by simp)
    have k2 := (show wr.cell? ⟨w.heap.size, 2, none⟩ = some (.slice a pt.length cap) from cell_at h1)
    have lk := lt_of_cell k2
    have m2 := (show wr.cell? ⟨w.heap.size + 2, 2, none⟩ = some lv from cell_at ho3)
    have lm := lt_of_cell m2
    have nm2 := (show wr.frozen? ⟨w.heap.size + 2, 2, none⟩ = false from frozen_at ho3)
    have h1' := Lib.hid h1; have h2' := Lib.hid h2; have ho3' := Lib.hid ho3
    clear h1 h2 ho3
    by_cases hlt : i < pt.length
    · obtain ⟨g, off, rfl, _, hg2, hcells⟩ := hat'.out (by rintro rfl; simp at hlt)
      obtain ⟨x, hx⟩ : ∃ x, pt[i]? = some x := ⟨_, List.getElem?_eq_getElem hlt⟩
      have hc : ∀ j u, (encPt x)[j]? = some u → wr.cell? ⟨g, off + i * 4 + j, none⟩ = some u := fun j u hj => by rw [hfr.cell (p := ⟨g, _, none⟩) (by show g < _; omega) (by simp; omega), hFW.cell (p := ⟨g, _, none⟩) hg2 (by simp), Nat.add_assoc]; exact hcells i x j u hx hj
      have z0 := hc 0 _ rfl
      have z1 := hc 1 _ rfl
      have z2 := hc 2 _ rfl
      have z3 := hc 3 _ rfl
      rw [Nat.add_zero] at z0
      have lz := lt_of_cell z0
      have htk : pt.take (i + 1) = pt.take i ++ [x] := by rw [List.take_add_one, hx]; rfl
      obtain ⟨f, t, A, b⟩ := x
      dsimp only at z0 z1 z2 z3
      have htk' := Lib.hid htk
      have hTl : (pt.take i).length ≤ 1000000 := by rw [List.length_take]; omega
      obtain ⟨T, hT⟩ : ∃ T, T = pt.take i := ⟨_, rfl⟩
      rw [← hT] at hown htk' hTl
      have hob := hown.lt
      have hown' := Lib.hid hown
      clear hcells hx hc htk hT hown
      go_wp2
      go_region_law
        ((refine step_push _ wr.heap.size #[.int .i64 f, .int .i64 t, .int .i64 A, .int .i64 b] 73 (by rfl) _ _ 35 (by rfl) (w.heap.size + 3) 73 Tryd.underlying35 infoRt rfl (by omega) lv T (by rfl) (by first | exact owns_fr hown'.out ((Fr.refl [] wr).alloc _).drew (by simp) | exact owns_fr hown'.out ((Fr.refl [] wr).drew.alloc _) (by simp)) (f, t, A, b) (by exact heap_alloc_new wr _) rfl encPt_len (enc1Pt _) (by rfl) (by omega) (by omega) (by simp; omega) ?_; intro g7 cap7 w7 hown7 hf7 hat7 hlt7; have hf7' := Lib.hid hf7; have hown7' := Lib.hid hown7; have h37 := hf7.keep ((((Fr.refl [] wr).alloc _).drew).keep ho3'.out (by simp)) (fun hm => by have := hob (w.heap.size + 2) (by simpa using hm); omega); have n7 := (show w7.frozen? ⟨w.heap.size + 2, 2, none⟩ = false from frozen_at h37); have m7 := (show w7.cell? ⟨w.heap.size + 2, 2, none⟩ = some lv from cell_at h37); have h37' := Lib.hid h37; clear hf7 hown7 h37))
      all_goals
        go_wp2
        have hbl : ∀ t, t ∈ lv.ownBlock.toList → w.heap.size + 3 ≤ t := fun t ht => (hob t (by simpa using ht)).1
        have hg7 : w.heap.size + 3 ≤ g7 := by
          rcases hat7 with h | h
          · exact (hob g7 h).1
          · rw [h]; simp; omega
        have hF7 : Fr [w.heap.size + 2] W w7 := (hfr.trans (((Fr.refl [] wr).alloc _).drew.mono (by simp))).andThen hf7'.out (fun t ht => .inr (by have := hbl t ht; omega))
        go_roundg (pt.length - (i + 1))
        case rel => exact ⟨i + 1, _, by omega, rfl, by go_num, by rw [setCell_at h37'.out]; rfl, by rw [htk'.out]; exact owns_fr hown7'.out (T := [w.heap.size + 2]) ((Fr.refl [w.heap.size + 2] w7).setCell _ _ (.inl (by simp))) (by simp), hF7.setCell _ _ (.inl (by simp))⟩
        case measure => rw [hgk'.out]; omega
    · have he : i = pt.length := by omega
      subst he
      rw [List.take_length] at hown
      obtain ⟨a2, cap2, rfl, _, _, _⟩ := SliceIs.of_owns hown rfl
      have m0 := (show wr.cell? ⟨w.heap.size + 2, 0, none⟩ = some (.int .i64 ep) from cell_at ho3'.out)
      have m1 := (show wr.cell? ⟨w.heap.size + 2, 1, none⟩ = some (.slice a1 sv.length cap1) from cell_at ho3'.out)
      have m3 := (show wr.cell? ⟨w.heap.size + 2, 3, none⟩ = some (.int .i64 tb) from cell_at ho3'.out)
      have r0 := (show wr.cell? ⟨w.heap.size + 1, 0, none⟩ = some (.int .i64 0) from cell_at h2'.out)
      have r1 := (show wr.cell? ⟨w.heap.size + 1, 1, none⟩ = some (.slice none 0 0) from cell_at h2'.out)
      have r2 := (show wr.cell? ⟨w.heap.size + 1, 2, none⟩ = some (.slice none 0 0) from cell_at h2'.out)
      have r3 := (show wr.cell? ⟨w.heap.size + 1, 3, none⟩ = some (.int .i64 0) from cell_at h2'.out)
      have q0 := (show wr.frozen? ⟨w.heap.size + 1, 0, none⟩ = false from frozen_at h2'.out)
      have q1 := (show wr.frozen? ⟨w.heap.size + 1, 1, none⟩ = false from frozen_at h2'.out)
      have q2 := (show wr.frozen? ⟨w.heap.size + 1, 2, none⟩ = false from frozen_at h2'.out)
      have q3 := (show wr.frozen? ⟨w.heap.size + 1, 3, none⟩ = false from frozen_at h2'.out)
      have hown' := Lib.hid hown
      clear hown
      go_wp2
      have h4 := set4 h2'.out (.int .i64 ep) (.slice a1 sv.length cap1) (.slice a2 pt.length cap2) (.int .i64 tb)
      have f4 := fr_set4 wr (w.heap.size + 1) (.int .i64 ep) (.slice a1 sv.length cap1) (.slice a2 pt.length cap2) (.int .i64 tb)
      obtain ⟨wf, hwf⟩ : ∃ wf, wf = (((wr.setCell ⟨w.heap.size + 1, 0, none⟩ (.int .i64 ep)).setCell ⟨w.heap.size + 1, 1, none⟩ (.slice a1 sv.length cap1)).setCell ⟨w.heap.size + 1, 2, none⟩ (.slice a2 pt.length cap2)).setCell ⟨w.heap.size + 1, 3, none⟩ (.int .i64 tb) := ⟨_, rfl⟩
      rw [← hwf] at h4 f4 ⊢
      have p0 := (show wf.cell? ⟨w.heap.size + 1, 0, none⟩ = some (.int .i64 ep) from cell_at h4)
      have p1 := (show wf.cell? ⟨w.heap.size + 1, 1, none⟩ = some (.slice a1 sv.length cap1) from cell_at h4)
      have p2 := (show wf.cell? ⟨w.heap.size + 1, 2, none⟩ = some (.slice a2 pt.length cap2) from cell_at h4)
      have p3 := (show wf.cell? ⟨w.heap.size + 1, 3, none⟩ = some (.int .i64 tb) from cell_at h4)
      refine bodyPost_ret (v := .agg #[.int .i64 ep, .slice a1 sv.length cap1, .slice a2 pt.length cap2, .int .i64 tb]) (by simp [results, Tryd.results12, go_sem, p0, p1, p2, p3]) rfl ?_
      exact ⟨_, rfl, (hFW.andThen hfr (fun t ht => .inr (by simp at ht; omega))).andThen f4 (fun t ht => .inr (by simp at ht; omega)), owns_base (owns_fr hown'.out f4 (by simp)) (by omega)⟩
end Go.Proofs.YthhpamaeibjpaaaDoor
end
section
namespace Go.Proofs.YthhpamaeibjpaaaDoor
open Go.RowKit Go.Maps Go.Lib Go.Sort
end Go.Proofs.YthhpamaeibjpaaaDoor
end
section
namespace Go.Proofs.YthhpamaeibjpaaaDoor
open Go.RowKit Go.Maps Go.Lib Go.Sort
theorem infoI : (Tryd.prog.info? 3).map (fun i => (i.zero, i.size, i.bytes)) = some (some (.int .i64 0), 1, 8) := by kernel_rfl
theorem enc1I (x : Int) : ∀ u ∈ encI x, u.oneCell' = true := by intro v hv; simp [encI] at hv; subst hv; rfl
def OutC (B : Nat → Prop) (w : World) (r : Cfg × Int) (e : Ending) (w' : World) : Prop := ∃ vs vp, e = .returned (.tuple #[aggC r.1 vs vp, .int .i64 r.2]) ∧ Fr [] w w' ∧ CfgIs w' (fun g => B g ∨ w.heap.size ≤ g) vs vp r.1
theorem zero_is (w : World) {B : Nat → Prop} : CfgIs w B (.slice none 0 0) (.slice none 0 0) zeroCfg := ⟨SliceIs.nil _ _ _, SliceIs.nil _ _ _⟩
end Go.Proofs.YthhpamaeibjpaaaDoor
end
section
namespace Go.Proofs.YthhpamaeibjpaaaDoor
open Go.RowKit Go.Maps Go.Lib Go.Sort
end Go.Proofs.YthhpamaeibjpaaaDoor
end
section
namespace Go.Proofs.YthhpamaeibjpaaaDoor
open Go.RowKit Go.Maps Go.Lib Go.Sort
def aggO (o : Ord) : Value := .agg #[.int .i64 o.1, .int .i64 o.2.1, .int .i64 o.2.2.1, .int .i64 o.2.2.2.1, .int .i64 o.2.2.2.2]
end Go.Proofs.YthhpamaeibjpaaaDoor
end
section
namespace Go.Proofs.YthhpamaeibjpaaaDoor
open Go.RowKit Go.Maps Go.Lib Go.Sort
theorem apply_bad {c : Cfg} (o : Ord) (h : okC c = false) : applyP c o = (zeroCfg, 1) := by unfold applyP; rw [if_pos h]
theorem apply_max {c : Cfg} (o : Ord) (h : okC c = true) (he : c.ep = 1099511627776) : applyP c o = (zeroCfg, 6) := by unfold applyP; rw [if_neg (by simp [h]), if_pos he]
theorem apply_kind {c : Cfg} (o : Ord) (h : okC c = true) (he : c.ep ≠ 1099511627776) (hk : o.1 < 1 ∨ 4 < o.1) : applyP c o = (zeroCfg, 1) := by unfold applyP; rw [if_neg (by simp [h]), if_neg he, if_pos hk]
theorem apply_do {c : Cfg} (o : Ord) (h : okC c = true) (he : c.ep ≠ 1099511627776) (hk : ¬ (o.1 < 1 ∨ 4 < o.1)) : applyP c o = if (doP c o).1 = 0 then ({ (doP c o).2 with ep := c.ep + 1 }, 0) else (zeroCfg, (doP c o).1) := by unfold applyP; rw [if_neg (by simp [h]), if_neg he, if_neg hk]
theorem do_ep {c : Cfg} {o : Ord} : (doP c o).2.ep = c.ep := by
  unfold doP comeP leaveP placeP tablesP
  repeat' split
  all_goals rfl
end Go.Proofs.YthhpamaeibjpaaaDoor
end
