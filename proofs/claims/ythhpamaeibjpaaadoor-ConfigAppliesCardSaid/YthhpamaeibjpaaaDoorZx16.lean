/- Contracts and words, several texts in one. -/
import Derived.Deep.RegionLaw
import Derived.Deep.DrawnRows
import Derived.IntWalk
import Derived.Test.YthhpamaeibjpaaaDoorZx14
import Derived.Test.YthhpamaeibjpaaaDoorZx15
section
namespace Go.Proofs.YthhpamaeibjpaaaDoor
open Go.RowKit Go.Maps Go.Lib Go.Sort
theorem infoRt : (Tryd.prog.info? 73).map (fun i => (i.zero, i.size, i.bytes)) = some (some (.agg #[.int .i64 0, .int .i64 0, .int .i64 0, .int .i64 0]), 4, 32) := by kernel_rfl
attribute [local go_sem ↓] Go.wp_at_zero Go.wp_at_succ
set_option maxRecDepth 100000 in
set_option maxHeartbeats 4000000 in
theorem theirs_any {B : Nat → Prop} (c : Cfg) (vs vp : Value) (w : World) (h : CfgIs w B vs vp c) (hl : c.pt.length < 1000000) :
    Calls Tryd.prog 12 #[aggC c vs vp] w fun e w' => ∃ vp', e = .returned (aggC c vs vp') ∧ Fr [] w w' ∧ w'.ownsRow w.heap.size 73 4 vp' c.pt.length (c.pt.flatMap encPt) := by
  obtain ⟨ep, sv, pt, tb⟩ := c
  obtain ⟨hv, h⟩ := h
  obtain ⟨a1, cap1, rfl, _, _, _⟩ := hv
  dsimp only at h hl
  obtain ⟨a, cap, rfl, hc1, hc2, hat⟩ := h.at encPt_len
  have hat' := Lib.hid hat
  unfold aggC
  dsimp only
  clear hat h
  obtain ⟨W, hW⟩ : ∃ W, W = ((w.alloc (.cells #[.int .i64 ep, .slice a1 sv.length cap1, .slice a pt.length cap, .int .i64 tb] 26)).alloc (.cells #[.int .i64 0, .slice none 0 0, .slice none 0 0, .int .i64 0] 37)).alloc (.cells #[.int .i64 ep, .slice a1 sv.length cap1, .slice none 0 0, .int .i64 tb] 37) := ⟨_, rfl⟩
  have hW' := Lib.hid hW
  have hFW : Fr [] w W := by rw [hW]; exact (((Fr.refl _ _).alloc _).alloc _).alloc _
  have hb1 : W.heap[w.heap.size]? = some (.cells #[.int .i64 ep, .slice a1 sv.length cap1, .slice a pt.length cap, .int .i64 tb] 26 (0, 0)) := by rw [hW]; exact (((Fr.refl [] _).alloc _).alloc _).keep (heap_alloc_new w _) (by simp)
  have hb2 : W.heap[w.heap.size + 1]? = some (.cells #[.int .i64 0, .slice none 0 0, .slice none 0 0, .int .i64 0] 37 (0, 0)) := by rw [hW]; have := ((Fr.refl [] _).alloc (.cells #[.int .i64 ep, .slice a1 sv.length cap1, .slice none 0 0, .int .i64 tb] 37)).keep (heap_alloc_new (w.alloc (.cells #[.int .i64 ep, .slice a1 sv.length cap1, .slice a pt.length cap, .int .i64 tb] 26)) (.cells #[.int .i64 0, .slice none 0 0, .slice none 0 0, .int .i64 0] 37)) (by simp); simpa using this
  have hb3 : W.heap[w.heap.size + 2]? = some (.cells #[.int .i64 ep, .slice a1 sv.length cap1, .slice none 0 0, .int .i64 tb] 37 (0, 0)) := by rw [hW]; have := heap_alloc_new ((w.alloc (.cells #[.int .i64 ep, .slice a1 sv.length cap1, .slice a pt.length cap, .int .i64 tb] 26)).alloc (.cells #[.int .i64 0, .slice none 0 0, .slice none 0 0, .int .i64 0] 37)) (.cells #[.int .i64 ep, .slice a1 sv.length cap1, .slice none 0 0, .int .i64 tb] 37); simpa using this
  have hzW : W.heap.size = w.heap.size + 3 := by rw [hW]; simp
  have hb1' := Lib.hid hb1; have hb2' := Lib.hid hb2; have hb3' := Lib.hid hb3
  clear hW hb1 hb2 hb3
  go_enter Tryd.func12, Tryd.ntmps12
  go_wp2
  rw [← hW'.out]
  go_loopg [4] pt.length (fun gk iv wr => ∃ (i : Nat) (lv : Value), i ≤ pt.length ∧ gk = pt.length - i ∧ iv = .int .i64 i ∧ wr.heap[w.heap.size + 2]? = some (.cells #[.int .i64 ep, .slice a1 sv.length cap1, lv, .int .i64 tb] 37 (0, 0)) ∧ wr.ownsRow (w.heap.size + 3) 73 4 lv (pt.take i).length ((pt.take i).flatMap encPt) ∧ Fr [w.heap.size + 2] W wr)
  case atStart => exact ⟨0, .slice none 0 0, Nat.zero_le _, rfl, rfl, hb3'.out, ⟨by simp, .inl ⟨rfl, by simp⟩⟩, Fr.refl _ _⟩
  case round =>
    obtain ⟨i, lv, hi, hgk, rfl, ho3, hown, hfr⟩ := hrel
    have hgk' := Lib.hid hgk
    clear hgk
    have hzr := hfr.size
    have h1 := hfr.keep hb1'.out (by simp)
    have h2 := hfr.keep hb2'.out (by simp)
    have k2 := (show wr.cell? ⟨w.heap.size, 2, none⟩ = some (.slice a pt.length cap) from cell_at h1)
    have lk := lt_of_cell k2
    have m2 := (show wr.cell? ⟨w.heap.size + 2, 2, none⟩ = some lv from cell_at ho3)
    have lm := lt_of_cell m2
    have nm2 := (show wr.frozen? ⟨w.heap.size + 2, 2, none⟩ = false from frozen_at ho3)
    have h1' := Lib.hid h1; have h2' := Lib.hid h2; have ho3' := Lib.hid ho3
    clear h1 h2 ho3
    by_cases hlt : i < pt.length
    · obtain ⟨g, off, rfl, _, hg2, hcells⟩ := hat'.out (by rintro rfl; simp at hlt)
      obtain ⟨x, hx⟩ : ∃ x, pt[i]? = some x := ⟨_, List.getElem?_eq_getElem hlt⟩
      have hc : ∀ j u, (encPt x)[j]? = some u → wr.cell? ⟨g, off + i * 4 + j, none⟩ = some u := fun j u hj => by rw [hfr.cell (p := ⟨g, _, none⟩) (by show g < _; omega) (by simp; omega), hFW.cell (p := ⟨g, _, none⟩) hg2 (by simp), Nat.add_assoc]; exact hcells i x j u hx hj
      have z0 := hc 0 _ rfl
      have z1 := hc 1 _ rfl
      have z2 := hc 2 _ rfl
      have z3 := hc 3 _ rfl
      rw [Nat.add_zero] at z0
      have lz := lt_of_cell z0
      have htk : pt.take (i + 1) = pt.take i ++ [x] := by rw [List.take_add_one, hx]; rfl
      obtain ⟨f, t, A, b⟩ := x
      dsimp only at z0 z1 z2 z3
      have htk' := Lib.hid htk
      have hTl : (pt.take i).length ≤ 1000000 := by rw [List.length_take]; omega
      obtain ⟨T, hT⟩ : ∃ T, T = pt.take i := ⟨_, rfl⟩
      rw [← hT] at hown htk' hTl
      have hob := hown.lt
      have hown' := Lib.hid hown
      clear hcells hx hc htk hT hown
      go_wp2
      go_region_law
        ((refine step_push _ wr.heap.size #[.int .i64 f, .int .i64 t, .int .i64 A, .int .i64 b] 73 (by rfl) _ _ 35 (by rfl) (w.heap.size + 3) 73 Tryd.underlying35 infoRt rfl (by omega) lv T (by rfl) (by first | exact owns_fr hown'.out ((Fr.refl [] wr).alloc _).drew (by simp) | exact owns_fr hown'.out ((Fr.refl [] wr).drew.alloc _) (by simp)) (f, t, A, b) (by exact heap_alloc_new wr _) rfl encPt_len (enc1Pt _) (by rfl) (by omega) (by omega) (by simp; omega) ?_; intro g7 cap7 w7 hown7 hf7 hat7 hlt7; have hf7' := Lib.hid hf7; have hown7' := Lib.hid hown7; have h37 := hf7.keep ((((Fr.refl [] wr).alloc _).drew).keep ho3'.out (by simp)) (fun hm => by have := hob (w.heap.size + 2) (by simpa using hm); omega); have n7 := (show w7.frozen? ⟨w.heap.size + 2, 2, none⟩ = false from frozen_at h37); have m7 := (show w7.cell? ⟨w.heap.size + 2, 2, none⟩ = some lv from cell_at h37); have h37' := Lib.hid h37; clear hf7 hown7 h37))
      all_goals
        go_wp2
        have hbl : ∀ t, t ∈ lv.ownBlock.toList → w.heap.size + 3 ≤ t := fun t ht => (hob t (by simpa using ht)).1
        have hg7 : w.heap.size + 3 ≤ g7 := by
          rcases hat7 with h | h
          · exact (hob g7 h).1
          · rw [h]; simp; omega
        have hF7 : Fr [w.heap.size + 2] W w7 := (hfr.trans (((Fr.refl [] wr).alloc _).drew.mono (by simp))).andThen hf7'.out (fun t ht => .inr (by have := hbl t ht; omega))
        go_roundg (pt.length - (i + 1))
        case rel => exact ⟨i + 1, _, by omega, rfl, by go_num, by rw [setCell_at h37'.out]; rfl, by rw [htk'.out]; exact owns_fr hown7'.out (T := [w.heap.size + 2]) ((Fr.refl [w.heap.size + 2] w7).setCell _ _ (.inl (by simp))) (by simp), hF7.setCell _ _ (.inl (by simp))⟩
        case measure => rw [hgk'.out]; omega
    · have he : i = pt.length := by omega
      subst he
      rw [List.take_length] at hown
      obtain ⟨a2, cap2, rfl, _, _, _⟩ := SliceIs.of_owns hown rfl
      have m0 := (show wr.cell? ⟨w.heap.size + 2, 0, none⟩ = some (.int .i64 ep) from cell_at ho3'.out)
      have m1 := (show wr.cell? ⟨w.heap.size + 2, 1, none⟩ = some (.slice a1 sv.length cap1) from cell_at ho3'.out)
      have m3 := (show wr.cell? ⟨w.heap.size + 2, 3, none⟩ = some (.int .i64 tb) from cell_at ho3'.out)
      have r0 := (show wr.cell? ⟨w.heap.size + 1, 0, none⟩ = some (.int .i64 0) from cell_at h2'.out)
      have r1 := (show wr.cell? ⟨w.heap.size + 1, 1, none⟩ = some (.slice none 0 0) from cell_at h2'.out)
      have r2 := (show wr.cell? ⟨w.heap.size + 1, 2, none⟩ = some (.slice none 0 0) from cell_at h2'.out)
      have r3 := (show wr.cell? ⟨w.heap.size + 1, 3, none⟩ = some (.int .i64 0) from cell_at h2'.out)
      have q0 := (show wr.frozen? ⟨w.heap.size + 1, 0, none⟩ = false from frozen_at h2'.out)
      have q1 := (show wr.frozen? ⟨w.heap.size + 1, 1, none⟩ = false from frozen_at h2'.out)
      have q2 := (show wr.frozen? ⟨w.heap.size + 1, 2, none⟩ = false from frozen_at h2'.out)
      have q3 := (show wr.frozen? ⟨w.heap.size + 1, 3, none⟩ = false from frozen_at h2'.out)
      have hown' := Lib.hid hown
      clear hown
      go_wp2
      have h4 := set4 h2'.out (.int .i64 ep) (.slice a1 sv.length cap1) (.slice a2 pt.length cap2) (.int .i64 tb)
      have f4 := fr_set4 wr (w.heap.size + 1) (.int .i64 ep) (.slice a1 sv.length cap1) (.slice a2 pt.length cap2) (.int .i64 tb)
      obtain ⟨wf, hwf⟩ : ∃ wf, wf = (((wr.setCell ⟨w.heap.size + 1, 0, none⟩ (.int .i64 ep)).setCell ⟨w.heap.size + 1, 1, none⟩ (.slice a1 sv.length cap1)).setCell ⟨w.heap.size + 1, 2, none⟩ (.slice a2 pt.length cap2)).setCell ⟨w.heap.size + 1, 3, none⟩ (.int .i64 tb) := ⟨_, rfl⟩
      rw [← hwf] at h4 f4 ⊢
      have p0 := (show wf.cell? ⟨w.heap.size + 1, 0, none⟩ = some (.int .i64 ep) from cell_at h4)
      have p1 := (show wf.cell? ⟨w.heap.size + 1, 1, none⟩ = some (.slice a1 sv.length cap1) from cell_at h4)
      have p2 := (show wf.cell? ⟨w.heap.size + 1, 2, none⟩ = some (.slice a2 pt.length cap2) from cell_at h4)
      have p3 := (show wf.cell? ⟨w.heap.size + 1, 3, none⟩ = some (.int .i64 tb) from cell_at h4)
      refine bodyPost_ret (v := .agg #[.int .i64 ep, .slice a1 sv.length cap1, .slice a2 pt.length cap2, .int .i64 tb]) (by simp [results, Tryd.results12, go_sem, p0, p1, p2, p3]) rfl ?_
      exact ⟨_, rfl, (hFW.andThen hfr (fun t ht => .inr (by simp at ht; omega))).andThen f4 (fun t ht => .inr (by simp at ht; omega)), owns_base (owns_fr hown'.out f4 (by simp)) (by omega)⟩
end Go.Proofs.YthhpamaeibjpaaaDoor
end
section
namespace Go.Proofs.YthhpamaeibjpaaaDoor
open Go.RowKit Go.Maps Go.Lib Go.Sort
def encB (x : Int × Int) : List Value := encPt (0, 0, x.1, x.2)
theorem encB_len (x : Int × Int) : (encB x).length = 4 := rfl
theorem prun_append (out : List Pt) (k : Nat) : ∀ (xs ys : List (Int × Int)), prun out k (xs ++ ys) = prun (prun out k xs) (k + xs.length) ys := by
  intro xs
  induction xs generalizing out k with
  | nil => intro ys; rfl
  | cons x xs ih =>
    intro ys
    show prun (jput out _) (k + 1) (xs ++ ys) = _
    rw [ih]
    show _ = prun (prun (jput out _) (k + 1) xs) _ ys
    congr 1
    rw [List.length_cons]; omega
def prk (S : List (Int × Int)) (i : Nat) : List Pt := prun [] 0 (S.take i)
theorem prk_step {S : List (Int × Int)} {i : Nat} {x : Int × Int} (h : S[i]? = some x) : prk S (i + 1) = jput (prk S i) ((i : Int), (i : Int) + 1, x.1, x.2) := by
  have hi := (List.getElem?_eq_some_iff.1 h).1
  unfold prk
  rw [List.take_add_one, h, prun_append, Nat.zero_add, List.length_take, Nat.min_eq_left (by omega)]
  rfl
theorem prk_len (S : List (Int × Int)) (i : Nat) : (prk S i).length ≤ S.length := by
  have h : ∀ (o : Option (Int × Int)) (l : List (Int × Int)), cnt o l ≤ l.length := by
    intro o l
    induction l generalizing o with
    | nil => unfold cnt; omega
    | cons x l ih => rw [cnt_cons, List.length_cons]; have := ih (some x); split <;> omega
  have h1 := parts_len (S.take i)
  have h2 := h none (S.take i)
  unfold prk
  unfold partsP at h1
  rw [h1]
  rw [List.length_take] at h2; omega
theorem prk_all (S : List (Int × Int)) : prk S S.length = partsP S := by unfold prk partsP; rw [List.take_length]
set_option maxRecDepth 100000 in
set_option maxHeartbeats 8000000 in
theorem parts_any {B : Nat → Prop} (v : Value) (S : List (Int × Int)) (w : World) (h : SliceIs w B encB v S) (hl : S.length < 1000000) :
    Calls Tryd.prog 53 #[v] w fun e w' => ∃ v', e = .returned v' ∧ Fr [] w w' ∧ w'.ownsRow w.heap.size 73 4 v' (partsP S).length ((partsP S).flatMap encPt) := by
  obtain ⟨a, cap, rfl, hc1, hc2, hat⟩ := h.at encB_len
  have hat' := Lib.hid hat
  clear hat h
  obtain ⟨W, hW⟩ : ∃ W, W = w.alloc (.cells #[] 73) := ⟨_, rfl⟩
  have hFW : Fr [] w W := by rw [hW]; exact (Fr.refl _ _).alloc _
  have hown0 : W.ownsRow w.heap.size 73 4 (.slice (some ⟨w.heap.size, 0, none⟩) 0 0) (prk S 0).length ((prk S 0).flatMap encPt) := by
    rw [hW]; exact World.ownsRow_made w #[] 0 (Nat.le_refl _) (Nat.zero_le _) rfl
  have hW' := Lib.hid hW
  clear hW
  go_enter Tryd.func53, Tryd.ntmps53
  go_wp2
  rw [← hW'.out]
  go_loopg [3, 4] S.length (fun gk lv iv wr => ∃ i : Nat, i ≤ S.length ∧ gk = S.length - i ∧ iv = .int .i64 i ∧ wr.ownsRow w.heap.size 73 4 lv (prk S i).length ((prk S i).flatMap encPt) ∧ Fr [] w wr)
  case atStart => exact ⟨0, Nat.zero_le _, rfl, rfl, hown0, hFW⟩
  case round =>
    obtain ⟨i, hi, hgk, rfl, hown, hfr⟩ := hrel
    have hgk' := Lib.hid hgk
    clear hgk
    have hzr := hfr.size
    by_cases hlt : i < S.length
    · obtain ⟨g, off, rfl, _, hg2, hcells⟩ := hat'.out (by rintro rfl; simp at hlt)
      obtain ⟨x, hx⟩ : ∃ x, S[i]? = some x := ⟨_, List.getElem?_eq_getElem hlt⟩
      have hc : ∀ j u, (encB x)[j]? = some u → wr.cell? ⟨g, off + i * 4 + j, none⟩ = some u := fun j u hj => by rw [hfr.cell (p := ⟨g, _, none⟩) hg2 (by simp), Nat.add_assoc]; exact hcells i x j u hx hj
      have b2 := hc 2 _ rfl
      have b3 := hc 3 _ rfl
      have hst := prk_step hx
      have hjl := prk_len S i
      have hst' := Lib.hid hst
      obtain ⟨J, hJ⟩ : ∃ J, J = prk S i := ⟨_, rfl⟩
      rw [← hJ] at hown hst' hjl
      have hob := hown.lt
      obtain ⟨a, b⟩ := x
      dsimp only at b2 b3 hst'
      clear hcells hx hc hst hJ
      cases hJ : J.getLast? with
      | none =>
        have hJ0 : J = [] := List.getLast?_eq_none_iff.1 hJ
        subst hJ0
        have hj : jput [] ((i : Int), (i : Int) + 1, a, b) = [((i : Int), (i : Int) + 1, a, b)] := rfl
        rw [hj] at hst'
        clear hj hJ
        obtain ⟨a1, cap1, rfl, _, _, _⟩ := SliceIs.of_owns hown rfl
        have hown' := Lib.hid hown
        clear hown
        go_wp2
        go_quiet (fail)
        go_wp2
        obtain ⟨wq, hwq⟩ : ∃ wq, wq = wr.drewN nq := ⟨_, rfl⟩
        have hfq : Fr [] wr wq := by rw [hwq]; exact (Fr.refl [] wr).drewN nq
        have z2 := hfq.at0 b2
        have z3 := hfq.at0 b3
        have lz := lt_of_cell z2
        have hownq := owns_fr hown'.out hfq (by simp)
        have hzq := hfq.size
        rw [← hwq]
        have hwr : IntKind.i64.wrap ((i : Int) + 1) = (i : Int) + 1 := IntWalk.i64_in _ (by omega)
        have hwr' := Lib.hid hwr
        clear hwr
        have hfq' := Lib.hid hfq; have hownq' := Lib.hid hownq
        clear b2 b3 hwq hfq hownq
        go_region_held3 (fun w' => w'.cell? ⟨g, off + i * 4 + 2, none⟩ = some (.int .i64 a) ∧ w'.cell? ⟨g, off + i * 4 + 3, none⟩ = some (.int .i64 b)) (first | go_keep | exact hk1)
          ((refine step_push _ wq.heap.size #[.int .i64 i, .int .i64 ((i : Int) + 1), .int .i64 a, .int .i64 b] 73 (by rfl) _ _ 35 (by rfl) w.heap.size 73 Tryd.underlying35 infoRt rfl (by omega) (.slice a1 0 cap1) [] (by rfl) (by first | exact owns_fr hownq'.out ((Fr.refl [] wq).alloc _).drew (by simp) | exact owns_fr hownq'.out ((Fr.refl [] wq).drew.alloc _) (by simp)) ((i : Int), (i : Int) + 1, a, b) (by rw [hwr'.out]; exact heap_alloc_new wq _) rfl encPt_len (enc1Pt _) (by rfl) (by simp) (by omega) (by simp; omega) ?_; intro g7 cap7 w7 hown7 hf7 hat7 hlt7; have hf7' := Lib.hid hf7; have hown7' := Lib.hid hown7; have hk1 := (show w7.cell? ⟨g, off + i * 4 + 2, none⟩ = some (.int .i64 a) ∧ w7.cell? ⟨g, off + i * 4 + 3, none⟩ = some (.int .i64 b) from by
              have hF : ∀ o u, wq.cell? ⟨g, o, none⟩ = some u → w7.cell? ⟨g, o, none⟩ = some u := fun o u hc => by
                rw [hf7.cell (p := ⟨g, o, none⟩) (by simp; omega) (fun hm => by have := hob g (by simpa using hm); omega)]
                exact (((Fr.refl [] wq).alloc _).drew).at0 hc
              exact ⟨hF _ _ z2, hF _ _ z3⟩); clear hf7 hown7))
        all_goals
          go_wp2
          go_roundg (S.length - (i + 1))
          case rel => exact ⟨i + 1, by omega, by omega, by go_num, by rw [hst'.out]; exact hown7'.out, (hfr.trans (hfq'.out.trans ((Fr.refl [] wq).alloc _).drew)).andThen hf7'.out (fun t ht => .inr (by have := hob t (by simpa using ht); omega))⟩
          case measure => rw [hgk'.out]; omega
      | some q =>
        obtain ⟨o, hJo⟩ := List.getLast?_eq_some_iff.1 hJ
        obtain ⟨q1, q2, q3, q4⟩ := q
        have hjp : jput J ((i : Int), (i : Int) + 1, a, b) = if q3 = a ∧ q4 = b then o ++ [(q1, (i : Int) + 1, q3, q4)] else J ++ [((i : Int), (i : Int) + 1, a, b)] := by
          unfold jput
          rw [hJ]
          dsimp only
          rw [hJo]
          simp
        rw [hjp] at hst'
        have hJl : J.length = o.length + 1 := by rw [hJo]; simp
        have hq : J[o.length]? = some (q1, q2, q3, q4) := by rw [hJo]; simp
        obtain ⟨gJ, capJ, hv, hg1, hg3, _, hnf, hcJ⟩ := owns_cell hown encPt_len (by rw [hJo]; simp)
        have c0 := hcJ o.length _ 0 _ hq rfl
        have c1 := hcJ o.length _ 1 _ hq rfl
        have c2 := hcJ o.length _ 2 _ hq rfl
        have c3 := hcJ o.length _ 3 _ hq rfl
        rw [Nat.add_zero] at c0
        dsimp only at c0 c1 c2 c3
        have hn1 := hnf (o.length * 4 + 1)
        have hset : J.set o.length (q1, (i : Int) + 1, q3, q4) = o ++ [(q1, (i : Int) + 1, q3, q4)] := by rw [hJo]; simp
        have hownS := (fun (h : wr.ownsRow w.heap.size 73 4 (.slice (some ⟨gJ, 0, none⟩) J.length capJ) J.length (J.flatMap encPt)) => owns_setAt h encPt_len o.length (q1, q2, q3, q4) (q1, (i : Int) + 1, q3, q4) 1 (.int .i64 ((i : Int) + 1)) hq (by omega) rfl) (by rw [← hv]; exact hown)
        rw [hset] at hownS
        subst hv
        have hown' := Lib.hid hown; have hownS' := Lib.hid hownS; have hJl' := Lib.hid hJl
        clear hjp hJo hJ hcJ hnf hset hown hownS hq
        rw [hJl]
        clear hJl
        have hol : o.length < 1000000 := by have := hJl'.out; omega
        by_cases e2 : q3 = a
        · by_cases e3 : q4 = b
          · rw [if_pos ⟨e2, e3⟩] at hst'
            have e2s := e2.symm; have e3s := e3.symm
            subst e2s e3s
            go_wp2
            go_quiet (fail)
            go_wp2
            have hS2 : ((wr.drewN nq).setCell ⟨gJ, o.length * 4 + 1, none⟩ (.int .i64 ((i : Int) + 1))).ownsRow w.heap.size 73 4 (.slice (some ⟨gJ, 0, none⟩) (o.length + 1) capJ) (o ++ [(q1, (i : Int) + 1, a, b)]).length ((o ++ [(q1, (i : Int) + 1, a, b)]).flatMap encPt) := by
              rw [← hJl'.out]
              exact owns_fr (T := []) hownS'.out (by exact ⟨rfl, rfl, rfl, Nat.le_refl _, fun _ _ _ => rfl⟩) (by simp)
            go_roundg (S.length - (i + 1))
            case rel => exact ⟨i + 1, by omega, by omega, by go_num, by rw [hst'.out]; exact hS2, (hfr.drewN nq).setCell _ _ (.inr hg1)⟩
            case measure => rw [hgk'.out]; omega
          · have e3b : (q4 == b) = false := by simpa using e3
            rw [if_neg (fun h => e3 h.2)] at hst'
            have e2s := e2.symm
            subst e2s
            clear e3
            go_wp2
            go_quiet (fail)
            go_wp2
            obtain ⟨wq, hwq⟩ : ∃ wq, wq = wr.drewN nq := ⟨_, rfl⟩
            have hfq : Fr [] wr wq := by rw [hwq]; exact (Fr.refl [] wr).drewN nq
            have z2 := hfq.at0 b2
            have z3 := hfq.at0 b3
            have lz := lt_of_cell z2
            have hownq := owns_fr hown'.out hfq (by simp)
            have hzq := hfq.size
            rw [← hwq]
            have hwr : IntKind.i64.wrap ((i : Int) + 1) = (i : Int) + 1 := IntWalk.i64_in _ (by omega)
            have hwr' := Lib.hid hwr
            clear hwr
            have hfq' := Lib.hid hfq; have hownq' := Lib.hid hownq
            clear b2 b3 hwq hfq hownq
            go_region_held3 (fun w' => w'.cell? ⟨g, off + i * 4 + 2, none⟩ = some (.int .i64 a) ∧ w'.cell? ⟨g, off + i * 4 + 3, none⟩ = some (.int .i64 b)) (first | go_keep | exact hk1)
              ((refine step_push _ wq.heap.size #[.int .i64 i, .int .i64 ((i : Int) + 1), .int .i64 a, .int .i64 b] 73 (by rfl) _ _ 35 (by rfl) w.heap.size 73 Tryd.underlying35 infoRt rfl (by omega) (.slice (some ⟨gJ, 0, none⟩) (o.length + 1) capJ) J (by rfl) (by first | exact owns_fr (by rw [← hJl'.out]; exact hownq'.out) ((Fr.refl [] wq).alloc _).drew (by simp) | exact owns_fr (by rw [← hJl'.out]; exact hownq'.out) ((Fr.refl [] wq).drew.alloc _) (by simp)) ((i : Int), (i : Int) + 1, a, b) (by rw [hwr'.out]; exact heap_alloc_new wq _) rfl encPt_len (enc1Pt _) (by rfl) (by omega) (by omega) (by simp; omega) ?_; intro g7 cap7 w7 hown7 hf7 hat7 hlt7; have hf7' := Lib.hid hf7; have hown7' := Lib.hid hown7; have hk1 := (show w7.cell? ⟨g, off + i * 4 + 2, none⟩ = some (.int .i64 a) ∧ w7.cell? ⟨g, off + i * 4 + 3, none⟩ = some (.int .i64 b) from by
                  have hF : ∀ o u, wq.cell? ⟨g, o, none⟩ = some u → w7.cell? ⟨g, o, none⟩ = some u := fun o u hc => by
                    rw [hf7.cell (p := ⟨g, o, none⟩) (by simp; omega) (fun hm => by have h5 : g = gJ := (by simpa [Value.ownBlock] using hm); omega)]
                    exact (((Fr.refl [] wq).alloc _).drew).at0 hc
                  exact ⟨hF _ _ z2, hF _ _ z3⟩); clear hf7 hown7))
            all_goals
              go_wp2
              go_roundg (S.length - (i + 1))
              case rel => exact ⟨i + 1, by omega, by omega, by go_num, by rw [hst'.out]; exact hown7'.out, (hfr.trans (hfq'.out.trans ((Fr.refl [] wq).alloc _).drew)).andThen hf7'.out (fun t ht => .inr (by have h5 : t = gJ := (by simpa [Value.ownBlock] using ht); omega))⟩
              case measure => rw [hgk'.out]; omega
        · have e2b : (q3 == a) = false := by simpa using e2
          rw [if_neg (fun h => e2 h.1)] at hst'
          clear e2
          go_wp2
          go_quiet (fail)
          go_wp2
          obtain ⟨wq, hwq⟩ : ∃ wq, wq = wr.drewN nq := ⟨_, rfl⟩
          have hfq : Fr [] wr wq := by rw [hwq]; exact (Fr.refl [] wr).drewN nq
          have z2 := hfq.at0 b2
          have z3 := hfq.at0 b3
          have lz := lt_of_cell z2
          have hownq := owns_fr hown'.out hfq (by simp)
          have hzq := hfq.size
          rw [← hwq]
          have hwr : IntKind.i64.wrap ((i : Int) + 1) = (i : Int) + 1 := IntWalk.i64_in _ (by omega)
          have hwr' := Lib.hid hwr
          clear hwr
          have hfq' := Lib.hid hfq; have hownq' := Lib.hid hownq
          clear b2 b3 hwq hfq hownq
          go_region_held3 (fun w' => w'.cell? ⟨g, off + i * 4 + 2, none⟩ = some (.int .i64 a) ∧ w'.cell? ⟨g, off + i * 4 + 3, none⟩ = some (.int .i64 b)) (first | go_keep | exact hk1)
            ((refine step_push _ wq.heap.size #[.int .i64 i, .int .i64 ((i : Int) + 1), .int .i64 a, .int .i64 b] 73 (by rfl) _ _ 35 (by rfl) w.heap.size 73 Tryd.underlying35 infoRt rfl (by omega) (.slice (some ⟨gJ, 0, none⟩) (o.length + 1) capJ) J (by rfl) (by first | exact owns_fr (by rw [← hJl'.out]; exact hownq'.out) ((Fr.refl [] wq).alloc _).drew (by simp) | exact owns_fr (by rw [← hJl'.out]; exact hownq'.out) ((Fr.refl [] wq).drew.alloc _) (by simp)) ((i : Int), (i : Int) + 1, a, b) (by rw [hwr'.out]; exact heap_alloc_new wq _) rfl encPt_len (enc1Pt _) (by rfl) (by omega) (by omega) (by simp; omega) ?_; intro g7 cap7 w7 hown7 hf7 hat7 hlt7; have hf7' := Lib.hid hf7; have hown7' := Lib.hid hown7; have hk1 := (show w7.cell? ⟨g, off + i * 4 + 2, none⟩ = some (.int .i64 a) ∧ w7.cell? ⟨g, off + i * 4 + 3, none⟩ = some (.int .i64 b) from by
                have hF : ∀ o u, wq.cell? ⟨g, o, none⟩ = some u → w7.cell? ⟨g, o, none⟩ = some u := fun o u hc => by
                  rw [hf7.cell (p := ⟨g, o, none⟩) (by simp; omega) (fun hm => by have h5 : g = gJ := (by simpa [Value.ownBlock] using hm); omega)]
                  exact (((Fr.refl [] wq).alloc _).drew).at0 hc
                exact ⟨hF _ _ z2, hF _ _ z3⟩); clear hf7 hown7))
          all_goals
            go_wp2
            go_roundg (S.length - (i + 1))
            case rel => exact ⟨i + 1, by omega, by omega, by go_num, by rw [hst'.out]; exact hown7'.out, (hfr.trans (hfq'.out.trans ((Fr.refl [] wq).alloc _).drew)).andThen hf7'.out (fun t ht => .inr (by have h5 : t = gJ := (by simpa [Value.ownBlock] using ht); omega))⟩
            case measure => rw [hgk'.out]; omega
    · have he : i = S.length := by omega
      subst he
      rw [prk_all] at hown
      have hsl := SliceIs.of_owns hown rfl
      obtain ⟨a1, cap1, rfl, hd1, hd2, _⟩ := id hsl
      go_wp2
      go_ret
      exact ⟨_, rfl, hfr, hown⟩
end Go.Proofs.YthhpamaeibjpaaaDoor
end
section
namespace Go.Proofs.YthhpamaeibjpaaaDoor
open Go.RowKit Go.Maps Go.Lib Go.Sort
theorem infoI : (Tryd.prog.info? 3).map (fun i => (i.zero, i.size, i.bytes)) = some (some (.int .i64 0), 1, 8) := by kernel_rfl
theorem enc1I (x : Int) : ∀ u ∈ encI x, u.oneCell' = true := by intro v hv; simp [encI] at hv; subst hv; rfl
def OutC (B : Nat → Prop) (w : World) (r : Cfg × Int) (e : Ending) (w' : World) : Prop := ∃ vs vp, e = .returned (.tuple #[aggC r.1 vs vp, .int .i64 r.2]) ∧ Fr [] w w' ∧ CfgIs w' (fun g => B g ∨ w.heap.size ≤ g) vs vp r.1
theorem zero_is (w : World) {B : Nat → Prop} : CfgIs w B (.slice none 0 0) (.slice none 0 0) zeroCfg := ⟨SliceIs.nil _ _ _, SliceIs.nil _ _ _⟩
def cpart (sv : List Int) (n : Int) (i : Nat) : List Int := (([0, 1, 2, 3, 4, 5, 6, 7] : List Int).take i).filter fun i => decide (i = n) || sv.contains i
theorem cpart_step (sv : List Int) (n : Int) {i : Nat} (h : i < 8) : cpart sv n (i + 1) = cpart sv n i ++ if (i : Int) = n ∨ (i : Int) ∈ sv then [(i : Int)] else [] := by
  have hx : ([0, 1, 2, 3, 4, 5, 6, 7] : List Int)[i]? = some (i : Int) := by
    match i, h with
    | 0, _ => rfl
    | 1, _ => rfl
    | 2, _ => rfl
    | 3, _ => rfl
    | 4, _ => rfl
    | 5, _ => rfl
    | 6, _ => rfl
    | 7, _ => rfl
  unfold cpart
  rw [List.take_add_one, hx, List.filter_append]
  by_cases e : (i : Int) = n ∨ (i : Int) ∈ sv
  · rw [if_pos e]; simp [e]
  · rw [if_neg e]
    simp only [not_or] at e
    simp [e.1, e.2]
theorem cpart_len (sv : List Int) (n : Int) (i : Nat) : (cpart sv n i).length ≤ 8 := by
  unfold cpart
  refine Nat.le_trans (List.length_filter_le _ _) ?_
  rw [List.length_take]; simp; omega
theorem cpart_all (sv : List Int) (n : Int) : cpart sv n 8 = comeL sv n := rfl
set_option maxRecDepth 100000 in
set_option maxHeartbeats 8000000 in
theorem rcome_any {B : Nat → Prop} (c : Cfg) (vs vp : Value) (n : Int) (w : World) (h : CfgIs w B vs vp c) (hs : c.sv.length < 1000000) (hp : c.pt.length < 1000000) :
    Calls Tryd.prog 33 #[aggC c vs vp, .int .i64 n] w (OutC B w (if (comeP c n).1 = 0 then (comeP c n).2 else zeroCfg, (comeP c n).1)) := by
  obtain ⟨ep, sv, pt, tb⟩ := c
  obtain ⟨hsv, hpt⟩ := h
  dsimp only at hsv hpt hs hp
  have hsv0 := hsv; have hpt0 := hpt
  obtain ⟨a1, cap1, rfl, hs1, hs2, hat1⟩ := hsv.at encI_len
  obtain ⟨a2, cap2, rfl, hp1, hp2, hat2⟩ := hpt.at encPt_len
  have hat1' := Lib.hid hat1; have hat2' := Lib.hid hat2; have hsv' := Lib.hid hsv0; have hpt' := Lib.hid hpt0
  unfold aggC
  dsimp only
  clear hat1 hat2 hsv hpt hsv0 hpt0
  obtain ⟨W, hW⟩ : ∃ W, W = (w.alloc (.cells #[.int .i64 ep, .slice a1 sv.length cap1, .slice a2 pt.length cap2, .int .i64 tb] 37)).alloc (.cells #[.int .i64 0, .slice none 0 0, .slice none 0 0, .int .i64 0] 37) := ⟨_, rfl⟩
  have hFW : Fr [] w W := by rw [hW]; exact ((Fr.refl _ _).alloc _).alloc _
  have hb1 : W.heap[w.heap.size]? = some (.cells #[.int .i64 ep, .slice a1 sv.length cap1, .slice a2 pt.length cap2, .int .i64 tb] 37 (0, 0)) := by
    rw [hW]; exact ((Fr.refl [] _).alloc _).keep (heap_alloc_new w _) (by simp)
  have hb2 : W.heap[w.heap.size + 1]? = some (.cells #[.int .i64 0, .slice none 0 0, .slice none 0 0, .int .i64 0] 37 (0, 0)) := by
    rw [hW]
    have := heap_alloc_new (w.alloc (.cells #[.int .i64 ep, .slice a1 sv.length cap1, .slice a2 pt.length cap2, .int .i64 tb] 37)) (.cells #[.int .i64 0, .slice none 0 0, .slice none 0 0, .int .i64 0] 37)
    simpa using this
  have hzW : W.heap.size = w.heap.size + 2 := by rw [hW]; simp
  have hb1' := Lib.hid hb1; have hb2' := Lib.hid hb2; have hW' := Lib.hid hW
  clear hW hb1 hb2
  have kb := (Fr.refl [] W).keep hb1'.out (by simp)
  have rb := (Fr.refl [] W).keep hb2'.out (by simp)
  have k0 := (show W.cell? ⟨w.heap.size, 0, none⟩ = some (.int .i64 ep) from cell_at kb)
  have kz0 := (show W.frozen? ⟨w.heap.size, 0, none⟩ = false from frozen_at kb)
  have k1 := (show W.cell? ⟨w.heap.size, 1, none⟩ = some (.slice a1 sv.length cap1) from cell_at kb)
  have kz1 := (show W.frozen? ⟨w.heap.size, 1, none⟩ = false from frozen_at kb)
  have k2 := (show W.cell? ⟨w.heap.size, 2, none⟩ = some (.slice a2 pt.length cap2) from cell_at kb)
  have kz2 := (show W.frozen? ⟨w.heap.size, 2, none⟩ = false from frozen_at kb)
  have k3 := (show W.cell? ⟨w.heap.size, 3, none⟩ = some (.int .i64 tb) from cell_at kb)
  have kz3 := (show W.frozen? ⟨w.heap.size, 3, none⟩ = false from frozen_at kb)
  have r0 := (show W.cell? ⟨w.heap.size + 1, 0, none⟩ = some (.int .i64 0) from cell_at rb)
  have rz0 := (show W.frozen? ⟨w.heap.size + 1, 0, none⟩ = false from frozen_at rb)
  have r1 := (show W.cell? ⟨w.heap.size + 1, 1, none⟩ = some (.slice none 0 0) from cell_at rb)
  have rz1 := (show W.frozen? ⟨w.heap.size + 1, 1, none⟩ = false from frozen_at rb)
  have r2 := (show W.cell? ⟨w.heap.size + 1, 2, none⟩ = some (.slice none 0 0) from cell_at rb)
  have rz2 := (show W.frozen? ⟨w.heap.size + 1, 2, none⟩ = false from frozen_at rb)
  have r3 := (show W.cell? ⟨w.heap.size + 1, 3, none⟩ = some (.int .i64 0) from cell_at rb)
  have rz3 := (show W.frozen? ⟨w.heap.size + 1, 3, none⟩ = false from frozen_at rb)
  have kl := lt_of_cell k0
  have rl := lt_of_cell r0
  have kb' := Lib.hid kb; have rb' := Lib.hid rb
  clear kb rb
  by_cases h1 : n < 0
  · have hv : comeP ⟨ep, sv, pt, tb⟩ n = (1, ⟨ep, sv, pt, tb⟩) := by unfold comeP; rw [if_pos (.inl h1)]
    rw [hv, if_neg (by simp)]
    dsimp only
    clear hv
    go_enter Tryd.func33, Tryd.ntmps33
    go_upto_region 1 with (fail)
    rw [← hW'.out]
    go_wp2
    have h4 := set4 hb2'.out (.int .i64 0) (.slice none 0 0) (.slice none 0 0) (.int .i64 0)
    have f4 := fr_set4 (W) (w.heap.size + 1) (.int .i64 0) (.slice none 0 0) (.slice none 0 0) (.int .i64 0)
    obtain ⟨wf, hwf⟩ : ∃ wf, wf = (((W.setCell ⟨w.heap.size + 1, 0, none⟩ (.int .i64 0)).setCell ⟨w.heap.size + 1, 1, none⟩ (.slice none 0 0)).setCell ⟨w.heap.size + 1, 2, none⟩ (.slice none 0 0)).setCell ⟨w.heap.size + 1, 3, none⟩ (.int .i64 0) := ⟨_, rfl⟩
    rw [← hwf] at h4 f4 ⊢
    have p0 := (show wf.cell? ⟨w.heap.size + 1, 0, none⟩ = some (.int .i64 0) from cell_at h4)
    have p1 := (show wf.cell? ⟨w.heap.size + 1, 1, none⟩ = some (.slice none 0 0) from cell_at h4)
    have p2 := (show wf.cell? ⟨w.heap.size + 1, 2, none⟩ = some (.slice none 0 0) from cell_at h4)
    have p3 := (show wf.cell? ⟨w.heap.size + 1, 3, none⟩ = some (.int .i64 0) from cell_at h4)
    refine bodyPost_ret (v := .tuple #[.agg #[.int .i64 0, .slice none 0 0, .slice none 0 0, .int .i64 0], .int .i64 1]) (by simp [results, Tryd.results33, go_sem, p0, p1, p2, p3]) rfl ?_
    have hff : Fr [] w wf := (hFW).andThen f4 (fun t ht => .inr (by simp at ht; omega))
    exact ⟨_, _, rfl, hff, zero_is _⟩
  have h1b : decide (n < 0) = false := by simpa using h1
  by_cases h2 : 8 ≤ n
  · have hv : comeP ⟨ep, sv, pt, tb⟩ n = (1, ⟨ep, sv, pt, tb⟩) := by unfold comeP; rw [if_pos (.inr (by omega))]
    rw [hv, if_neg (by simp)]
    dsimp only
    clear hv
    go_enter Tryd.func33, Tryd.ntmps33
    go_upto_region 1 with (fail)
    rw [← hW'.out]
    go_wp2
    have h4 := set4 hb2'.out (.int .i64 0) (.slice none 0 0) (.slice none 0 0) (.int .i64 0)
    have f4 := fr_set4 (W) (w.heap.size + 1) (.int .i64 0) (.slice none 0 0) (.slice none 0 0) (.int .i64 0)
    obtain ⟨wf, hwf⟩ : ∃ wf, wf = (((W.setCell ⟨w.heap.size + 1, 0, none⟩ (.int .i64 0)).setCell ⟨w.heap.size + 1, 1, none⟩ (.slice none 0 0)).setCell ⟨w.heap.size + 1, 2, none⟩ (.slice none 0 0)).setCell ⟨w.heap.size + 1, 3, none⟩ (.int .i64 0) := ⟨_, rfl⟩
    rw [← hwf] at h4 f4 ⊢
    have p0 := (show wf.cell? ⟨w.heap.size + 1, 0, none⟩ = some (.int .i64 0) from cell_at h4)
    have p1 := (show wf.cell? ⟨w.heap.size + 1, 1, none⟩ = some (.slice none 0 0) from cell_at h4)
    have p2 := (show wf.cell? ⟨w.heap.size + 1, 2, none⟩ = some (.slice none 0 0) from cell_at h4)
    have p3 := (show wf.cell? ⟨w.heap.size + 1, 3, none⟩ = some (.int .i64 0) from cell_at h4)
    refine bodyPost_ret (v := .tuple #[.agg #[.int .i64 0, .slice none 0 0, .slice none 0 0, .int .i64 0], .int .i64 1]) (by simp [results, Tryd.results33, go_sem, p0, p1, p2, p3]) rfl ?_
    have hff : Fr [] w wf := (hFW).andThen f4 (fun t ht => .inr (by simp at ht; omega))
    exact ⟨_, _, rfl, hff, zero_is _⟩
  have h2b : decide (8 ≤ n) = false := by simpa using h2
  have hhas : ∀ (X : World) (i : Int), Fr [] w X → _ := fun X i hX => rhas_any ((hsv'.out).fr hX (by simp)) (by omega) i
  have hhas' := Lib.hid hhas
  have hasW := hhas W n hFW
  clear hhas
  by_cases h3 : n ∈ sv
  · have hv : comeP ⟨ep, sv, pt, tb⟩ n = (4, ⟨ep, sv, pt, tb⟩) := by unfold comeP; rw [if_neg (by omega), if_pos h3]
    rw [hv, if_neg (by simp)]
    dsimp only
    rw [List.contains_iff_mem.2 h3] at hasW
    clear hv h3
    go_enter Tryd.func33, Tryd.ntmps33
    go_upto_region 1 with (fail)
    rw [← hW'.out]
    go_wp2_with (first | (go_at_call 21; refine hasW.mono ?_; rintro e w1 ⟨rfl, hf1⟩; have rb1 := hf1.keep hb2'.out (by simp); have s0 := (show w1.cell? ⟨w.heap.size + 1, 0, none⟩ = some (.int .i64 0) from cell_at rb1); have sz0 := (show w1.frozen? ⟨w.heap.size + 1, 0, none⟩ = false from frozen_at rb1); have s1 := (show w1.cell? ⟨w.heap.size + 1, 1, none⟩ = some (.slice none 0 0) from cell_at rb1); have sz1 := (show w1.frozen? ⟨w.heap.size + 1, 1, none⟩ = false from frozen_at rb1); have s2 := (show w1.cell? ⟨w.heap.size + 1, 2, none⟩ = some (.slice none 0 0) from cell_at rb1); have sz2 := (show w1.frozen? ⟨w.heap.size + 1, 2, none⟩ = false from frozen_at rb1); have s3 := (show w1.cell? ⟨w.heap.size + 1, 3, none⟩ = some (.int .i64 0) from cell_at rb1); have sz3 := (show w1.frozen? ⟨w.heap.size + 1, 3, none⟩ = false from frozen_at rb1); have sl := lt_of_cell s0; have rb1' := Lib.hid rb1; clear rb1))
    have h4 := set4 rb1'.out (.int .i64 0) (.slice none 0 0) (.slice none 0 0) (.int .i64 0)
    have f4 := fr_set4 (w1) (w.heap.size + 1) (.int .i64 0) (.slice none 0 0) (.slice none 0 0) (.int .i64 0)
    obtain ⟨wf, hwf⟩ : ∃ wf, wf = (((w1.setCell ⟨w.heap.size + 1, 0, none⟩ (.int .i64 0)).setCell ⟨w.heap.size + 1, 1, none⟩ (.slice none 0 0)).setCell ⟨w.heap.size + 1, 2, none⟩ (.slice none 0 0)).setCell ⟨w.heap.size + 1, 3, none⟩ (.int .i64 0) := ⟨_, rfl⟩
    rw [← hwf] at h4 f4 ⊢
    have p0 := (show wf.cell? ⟨w.heap.size + 1, 0, none⟩ = some (.int .i64 0) from cell_at h4)
    have p1 := (show wf.cell? ⟨w.heap.size + 1, 1, none⟩ = some (.slice none 0 0) from cell_at h4)
    have p2 := (show wf.cell? ⟨w.heap.size + 1, 2, none⟩ = some (.slice none 0 0) from cell_at h4)
    have p3 := (show wf.cell? ⟨w.heap.size + 1, 3, none⟩ = some (.int .i64 0) from cell_at h4)
    refine bodyPost_ret (v := .tuple #[.agg #[.int .i64 0, .slice none 0 0, .slice none 0 0, .int .i64 0], .int .i64 4]) (by simp [results, Tryd.results33, go_sem, p0, p1, p2, p3]) rfl ?_
    have hff : Fr [] w wf := (hFW.trans hf1).andThen f4 (fun t ht => .inr (by simp at ht; omega))
    exact ⟨_, _, rfl, hff, zero_is _⟩
  have hv : comeP ⟨ep, sv, pt, tb⟩ n = (0, ⟨ep, comeL sv n, pt, tb⟩) := by unfold comeP; rw [if_neg (by omega), if_neg h3]
  rw [hv, if_pos rfl]
  dsimp only
  have hcf : sv.contains n = false := by
    cases hc : sv.contains n with
    | false => rfl
    | true => exact absurd (List.contains_iff_mem.1 hc) h3
  rw [hcf] at hasW
  clear hv h3 hcf
  go_enter Tryd.func33, Tryd.ntmps33
  go_upto_region 1 with (fail)
  rw [← hW'.out]
  go_wp2_with (first | (go_at_call 21; refine hasW.mono ?_; rintro e w1 ⟨rfl, hf1⟩))
  obtain ⟨w2, hw2⟩ : ∃ w2, w2 = w1.alloc (.cells #[] 3) := ⟨_, rfl⟩
  have hF12 : Fr [] w1 w2 := by rw [hw2]; exact (Fr.refl _ _).alloc _
  have hown0 : w2.ownsRow w1.heap.size 3 1 (.slice (some ⟨w1.heap.size, 0, none⟩) 0 0) (cpart sv n 0).length ((cpart sv n 0).flatMap encI) := by
    rw [hw2]; exact World.ownsRow_made w1 #[] 0 (Nat.le_refl _) (Nat.zero_le _) rfl
  rw [← hw2]
  have hz1 := hf1.size
  have hW1 : Fr [] w w1 := hFW.trans hf1
  have hW1' := Lib.hid hW1; have hf1' := Lib.hid hf1
  clear hw2 hW1 hf1
  clear k0 k1 k2 k3 kz0 kz1 kz2 kz3 r0 r1 r2 r3 rz0 rz1 rz2 rz3 kl rl
  go_loopg [6, 7] 8 (fun gk lv iv wr => ∃ i : Nat, i ≤ 8 ∧ gk = 8 - i ∧ iv = .int .i64 i ∧ wr.ownsRow w1.heap.size 3 1 lv (cpart sv n i).length ((cpart sv n i).flatMap encI) ∧ Fr [] w1 wr)
  case atStart => exact ⟨0, by omega, rfl, rfl, hown0, hF12⟩
  case round =>
    obtain ⟨i, hi, hgk, rfl, hown, hfr⟩ := hrel
    have hgk' := Lib.hid hgk
    clear hgk
    have hzr := hfr.size
    have kb := (hf1'.out.trans hfr).keep hb1'.out (by simp)
    have rb := (hf1'.out.trans hfr).keep hb2'.out (by simp)
    have k0 := (show wr.cell? ⟨w.heap.size, 0, none⟩ = some (.int .i64 ep) from cell_at kb)
    have kz0 := (show wr.frozen? ⟨w.heap.size, 0, none⟩ = false from frozen_at kb)
    have k1 := (show wr.cell? ⟨w.heap.size, 1, none⟩ = some (.slice a1 sv.length cap1) from cell_at kb)
    have kz1 := (show wr.frozen? ⟨w.heap.size, 1, none⟩ = false from frozen_at kb)
    have k2 := (show wr.cell? ⟨w.heap.size, 2, none⟩ = some (.slice a2 pt.length cap2) from cell_at kb)
    have kz2 := (show wr.frozen? ⟨w.heap.size, 2, none⟩ = false from frozen_at kb)
    have k3 := (show wr.cell? ⟨w.heap.size, 3, none⟩ = some (.int .i64 tb) from cell_at kb)
    have kz3 := (show wr.frozen? ⟨w.heap.size, 3, none⟩ = false from frozen_at kb)
    have r0 := (show wr.cell? ⟨w.heap.size + 1, 0, none⟩ = some (.int .i64 0) from cell_at rb)
    have rz0 := (show wr.frozen? ⟨w.heap.size + 1, 0, none⟩ = false from frozen_at rb)
    have r1 := (show wr.cell? ⟨w.heap.size + 1, 1, none⟩ = some (.slice none 0 0) from cell_at rb)
    have rz1 := (show wr.frozen? ⟨w.heap.size + 1, 1, none⟩ = false from frozen_at rb)
    have r2 := (show wr.cell? ⟨w.heap.size + 1, 2, none⟩ = some (.slice none 0 0) from cell_at rb)
    have rz2 := (show wr.frozen? ⟨w.heap.size + 1, 2, none⟩ = false from frozen_at rb)
    have r3 := (show wr.cell? ⟨w.heap.size + 1, 3, none⟩ = some (.int .i64 0) from cell_at rb)
    have rz3 := (show wr.frozen? ⟨w.heap.size + 1, 3, none⟩ = false from frozen_at rb)
    have kl := lt_of_cell k0
    have rl := lt_of_cell r0
    have kb' := Lib.hid kb; have rb' := Lib.hid rb
    clear kb rb
    by_cases hlt : i < 8
    · have hst := cpart_step sv n hlt
      have hcl := cpart_len sv n i
      obtain ⟨A, hA⟩ : ∃ A, A = cpart sv n i := ⟨_, rfl⟩
      rw [← hA] at hown hst hcl
      have hob := hown.lt
      have hst' := Lib.hid hst
      clear hst hA
      by_cases e1 : (i : Int) = n
      · have e1b : ((i : Int) == n) = true := by simpa using e1
        rw [if_pos (.inl e1)] at hst'
        clear e1
        go_wp2_with (first | (at_builtin; (refine wpList_push wr _ _ rfl _ _ 23 rfl w1.heap.size 3 Tryd.underlying23 infoI rfl (by omega) u6 A rfl hown (i : Int) rfl encI_len (enc1I _) rfl (by omega) (by omega) (by omega) ?_; intro v' w7 hown7 hf7)))
        go_roundg (8 - (i + 1))
        case rel => exact ⟨i + 1, by omega, rfl, by go_num, by rw [hst'.out]; exact hown7, hfr.andThen hf7 (fun t ht => .inr (by have := hob t (by simpa using ht); omega))⟩
        case measure => rw [hgk'.out]; omega
      have e1b : ((i : Int) == n) = false := by simpa using e1
      have hhi := hhas'.out wr i (hW1'.out.trans hfr)
      by_cases e2 : (i : Int) ∈ sv
      · rw [if_pos (.inr e2)] at hst'
        rw [List.contains_iff_mem.2 e2] at hhi
        have hown' := Lib.hid hown
        clear e1 e2 hown
        go_wp2_with (first | (go_at_call 21; refine hhi.mono ?_; rintro e w3 ⟨rfl, hf3⟩; have hown3 := owns_fr hown'.out hf3 (by simp); have hz3 := hf3.size) | (at_builtin; (refine wpList_push w3 _ _ rfl _ _ 23 rfl w1.heap.size 3 Tryd.underlying23 infoI rfl (by omega) u6 A rfl hown3 (i : Int) rfl encI_len (enc1I _) rfl (by omega) (by omega) (by omega) ?_; intro v' w7 hown7 hf7)))
        go_roundg (8 - (i + 1))
        case rel => exact ⟨i + 1, by omega, rfl, by go_num, by rw [hst'.out]; exact hown7, (hfr.trans hf3).andThen hf7 (fun t ht => .inr (by have := hob t (by simpa using ht); omega))⟩
        case measure => rw [hgk'.out]; omega
      · rw [if_neg (fun h => h.elim e1 e2), List.append_nil] at hst'
        have hcf : sv.contains (i : Int) = false := by
          cases hc : sv.contains (i : Int) with
          | false => rfl
          | true => exact absurd (List.contains_iff_mem.1 hc) e2
        rw [hcf] at hhi
        have hown' := Lib.hid hown
        clear e1 e2 hown hcf
        go_wp2_with (first | (go_at_call 21; refine hhi.mono ?_; rintro e w3 ⟨rfl, hf3⟩))
        go_roundg (8 - (i + 1))
        case rel => exact ⟨i + 1, by omega, rfl, by go_num, by rw [hst'.out]; exact owns_fr hown'.out hf3 (by simp), hfr.trans hf3⟩
        case measure => rw [hgk'.out]; omega
    · have he : i = 8 := by omega
      subst he
      rw [cpart_all] at hown
      obtain ⟨a3, cap3, rfl, _, _, _⟩ := SliceIs.of_owns hown rfl
      have hown' := Lib.hid hown
      clear hown
      go_wp2
      have h5 := setCell_at (i := 1) kb'.out (.slice a3 (comeL sv n).length cap3)
      have f5 : Fr [w.heap.size] wr (wr.setCell ⟨w.heap.size, 1, none⟩ (.slice a3 (comeL sv n).length cap3)) := (Fr.refl [w.heap.size] wr).setCell _ _ (.inl (by simp))
      have rb5 := f5.keep rb'.out (by simp)
      have h4 := set4 rb5 (.int .i64 ep) (.slice a3 (comeL sv n).length cap3) (.slice a2 pt.length cap2) (.int .i64 tb)
      have f4 := fr_set4 ((wr.setCell ⟨w.heap.size, 1, none⟩ (.slice a3 (comeL sv n).length cap3))) (w.heap.size + 1) (.int .i64 ep) (.slice a3 (comeL sv n).length cap3) (.slice a2 pt.length cap2) (.int .i64 tb)
      obtain ⟨wf, hwf⟩ : ∃ wf, wf = ((((wr.setCell ⟨w.heap.size, 1, none⟩ (.slice a3 (comeL sv n).length cap3)).setCell ⟨w.heap.size + 1, 0, none⟩ (.int .i64 ep)).setCell ⟨w.heap.size + 1, 1, none⟩ (.slice a3 (comeL sv n).length cap3)).setCell ⟨w.heap.size + 1, 2, none⟩ (.slice a2 pt.length cap2)).setCell ⟨w.heap.size + 1, 3, none⟩ (.int .i64 tb) := ⟨_, rfl⟩
      rw [← hwf] at h4 f4 ⊢
      have p0 := (show wf.cell? ⟨w.heap.size + 1, 0, none⟩ = some (.int .i64 ep) from cell_at h4)
      have p1 := (show wf.cell? ⟨w.heap.size + 1, 1, none⟩ = some (.slice a3 (comeL sv n).length cap3) from cell_at h4)
      have p2 := (show wf.cell? ⟨w.heap.size + 1, 2, none⟩ = some (.slice a2 pt.length cap2) from cell_at h4)
      have p3 := (show wf.cell? ⟨w.heap.size + 1, 3, none⟩ = some (.int .i64 tb) from cell_at h4)
      refine bodyPost_ret (v := .tuple #[.agg #[.int .i64 ep, .slice a3 (comeL sv n).length cap3, .slice a2 pt.length cap2, .int .i64 tb], .int .i64 0]) (by simp [results, Tryd.results33, go_sem, p0, p1, p2, p3]) rfl ?_
      have hff : Fr [] w wf := (((hW1'.out.trans hfr).andThen f5 (fun t ht => .inr (by simp at ht; omega)))).andThen f4 (fun t ht => .inr (by simp at ht; omega))
      exact ⟨_, _, rfl, hff, (SliceIs.of_owns (owns_fr (owns_fr hown'.out f5 (by simp; omega)) f4 (by simp; omega)) rfl).imp (fun g _ (h : _ ≤ g) => .inr (by omega)), ((((((hpt'.out).imp (B' := fun g => B g ∧ g < w.heap.size) (fun g hg h => ⟨h, hg⟩)).fr hW1'.out (by simp)).fr hfr (by simp)).fr f5 (by intro g hg _; have := hg.2; simp; omega)).fr f4 (by intro g hg _; have := hg.2; simp; omega)).imp (fun g _ h => .inl h.1)⟩
end Go.Proofs.YthhpamaeibjpaaaDoor
end
section
namespace Go.Proofs.YthhpamaeibjpaaaDoor
open Go.RowKit Go.Maps Go.Lib Go.Sort
theorem addr_ne {g o g' o' : Nat} (h : g ≠ g' ∨ o ≠ o') : (⟨g, o, none⟩ : Addr) ≠ ⟨g', o', none⟩ := by
  intro e
  injection e with e1 e2
  rcases h with h | h
  · exact h e1
  · exact h e2
theorem set_other {w : World} {g o g' o' : Nat} {u : Value} (h : g ≠ g' ∨ o ≠ o') : (w.setCell ⟨g, o, none⟩ u).cell? ⟨g', o', none⟩ = w.cell? ⟨g', o', none⟩ := by
  apply World.cell?_setCell_other
  exact addr_ne h
def mapk {α : Type} (f : α → α) (l : List α) (k : Nat) : List α := (l.take k).map f ++ l.drop k
theorem mapk_len {α : Type} (f : α → α) (l : List α) (k : Nat) : (mapk f l k).length = l.length := by unfold mapk; simp; omega
theorem mapk_get {α : Type} {f : α → α} {l : List α} {k : Nat} (h : k ≤ l.length) : (mapk f l k)[k]? = l[k]? := by
  unfold mapk
  have e : ((l.take k).map f).length = k := by simp; omega
  rw [List.getElem?_append_right (by omega), e, Nat.sub_self, List.getElem?_drop, Nat.add_zero]
theorem mapk_set {α : Type} {f : α → α} {l : List α} {k : Nat} {x : α} (h : l[k]? = some x) : (mapk f l k).set k (f x) = mapk f l (k + 1) := by
  obtain ⟨hk, rfl⟩ := List.getElem?_eq_some_iff.1 h
  unfold mapk
  have e : ((l.take k).map f).length = k := by simp; omega
  have e2 : l.drop k = l[k] :: l.drop (k + 1) := (List.getElem_cons_drop (h := hk)).symm
  rw [List.set_append_right _ _ (by omega), e, Nat.sub_self, List.take_add_one, h, List.map_append, e2, List.set_cons_zero]
  simp only [Option.toList_some, List.map_cons, List.map_nil, List.append_assoc, List.cons_append, List.nil_append]
theorem mapk_all {α : Type} (f : α → α) (l : List α) : mapk f l l.length = l.map f := by unfold mapk; simp
theorem mapk_id {α : Type} {f : α → α} {l : List α} {k : Nat} {x : α} (h : l[k]? = some x) (hf : f x = x) : mapk f l (k + 1) = mapk f l k := by
  rw [← mapk_set h, hf]
  have := mapk_get (f := f) (l := l) (k := k) (Nat.le_of_lt (List.getElem?_eq_some_iff.1 h).1)
  rw [h] at this
  obtain ⟨hk, e⟩ := List.getElem?_eq_some_iff.1 this
  conv => lhs; arg 3; rw [← e]
  exact List.set_getElem_self hk
def svk (sv : List Int) (n : Int) (i : Nat) : List Int := (sv.take i).filter fun m => m != n
theorem svk_step {sv : List Int} {n x : Int} {i : Nat} (h : sv[i]? = some x) : svk sv n (i + 1) = svk sv n i ++ if x = n then [] else [x] := by
  unfold svk
  rw [List.take_add_one, h, List.filter_append]
  by_cases e : x = n <;> simp [e]
theorem svk_len (sv : List Int) (n : Int) (i : Nat) : (svk sv n i).length ≤ sv.length := Nat.le_trans (List.length_filter_le _ _) (by rw [List.length_take]; omega)
theorem svk_all (sv : List Int) (n : Int) : svk sv n sv.length = sv.filter fun m => m != n := by unfold svk; rw [List.take_length]
set_option maxRecDepth 100000 in
set_option maxHeartbeats 16000000 in
theorem rleave_any {B : Nat → Prop} (c : Cfg) (vs vp : Value) (n : Int) (w : World) (h : CfgIs w B vs vp c) (ho : okC c = true) (hs : c.sv.length < 1000000) (hp : c.pt.length < 1000000) :
    Calls Tryd.prog 34 #[aggC c vs vp, .int .i64 n] w (OutC B w (if (leaveR c n).1 = 0 then (leaveR c n).2 else zeroCfg, (leaveR c n).1)) := by
  have hcfg := h
  have hmem := blk_mem (ok_chain ho).2.2
  have hbl := chain_blk _ _ (ok_chain ho).1
  obtain ⟨ep, sv, pt, tb⟩ := c
  dsimp only at hmem hbl
  obtain ⟨hsv, hpt⟩ := h
  dsimp only at hsv hpt hs hp
  have hsv0 := hsv; have hpt0 := hpt
  obtain ⟨a1, cap1, rfl, hs1, hs2, hat1⟩ := hsv.at encI_len
  obtain ⟨a2, cap2, rfl, hp1, hp2, hat2⟩ := hpt.at encPt_len
  have hat1' := Lib.hid hat1; have hat2' := Lib.hid hat2; have hsv' := Lib.hid hsv0; have hpt' := Lib.hid hpt0
  unfold aggC
  dsimp only
  clear hat1 hat2 hsv hpt hsv0 hpt0
  obtain ⟨W, hW⟩ : ∃ W, W = (w.alloc (.cells #[.int .i64 ep, .slice a1 sv.length cap1, .slice a2 pt.length cap2, .int .i64 tb] 37)).alloc (.cells #[.int .i64 0, .slice none 0 0, .slice none 0 0, .int .i64 0] 37) := ⟨_, rfl⟩
  have hFW : Fr [] w W := by rw [hW]; exact ((Fr.refl _ _).alloc _).alloc _
  have hb1 : W.heap[w.heap.size]? = some (.cells #[.int .i64 ep, .slice a1 sv.length cap1, .slice a2 pt.length cap2, .int .i64 tb] 37 (0, 0)) := by
    rw [hW]; exact ((Fr.refl [] _).alloc _).keep (heap_alloc_new w _) (by simp)
  have hb2 : W.heap[w.heap.size + 1]? = some (.cells #[.int .i64 0, .slice none 0 0, .slice none 0 0, .int .i64 0] 37 (0, 0)) := by
    rw [hW]
    have := heap_alloc_new (w.alloc (.cells #[.int .i64 ep, .slice a1 sv.length cap1, .slice a2 pt.length cap2, .int .i64 tb] 37)) (.cells #[.int .i64 0, .slice none 0 0, .slice none 0 0, .int .i64 0] 37)
    simpa using this
  have hzW : W.heap.size = w.heap.size + 2 := by rw [hW]; simp
  have hb1' := Lib.hid hb1; have hb2' := Lib.hid hb2; have hW' := Lib.hid hW
  clear hW hb1 hb2
  have hcW := hcfg.fr0 hFW
  have hcfg' := Lib.hid hcfg; have hmem' := Lib.hid hmem; have ho' := Lib.hid ho
  clear hcfg hmem ho
  have hblk : ∀ X, Fr [] w X → _ := fun X hX => blocks_any (hcfg'.out.fr0 hX) ho'.out
  have hblk' := Lib.hid hblk
  clear hblk hcW
  have kb := (Fr.refl [] W).keep hb1'.out (by simp)
  have rb := (Fr.refl [] W).keep hb2'.out (by simp)
  have k0 := (show W.cell? ⟨w.heap.size, 0, none⟩ = some (.int .i64 ep) from cell_at kb)
  have kz0 := (show W.frozen? ⟨w.heap.size, 0, none⟩ = false from frozen_at kb)
  have k1 := (show W.cell? ⟨w.heap.size, 1, none⟩ = some (.slice a1 sv.length cap1) from cell_at kb)
  have kz1 := (show W.frozen? ⟨w.heap.size, 1, none⟩ = false from frozen_at kb)
  have k2 := (show W.cell? ⟨w.heap.size, 2, none⟩ = some (.slice a2 pt.length cap2) from cell_at kb)
  have kz2 := (show W.frozen? ⟨w.heap.size, 2, none⟩ = false from frozen_at kb)
  have k3 := (show W.cell? ⟨w.heap.size, 3, none⟩ = some (.int .i64 tb) from cell_at kb)
  have kz3 := (show W.frozen? ⟨w.heap.size, 3, none⟩ = false from frozen_at kb)
  have r0 := (show W.cell? ⟨w.heap.size + 1, 0, none⟩ = some (.int .i64 0) from cell_at rb)
  have rz0 := (show W.frozen? ⟨w.heap.size + 1, 0, none⟩ = false from frozen_at rb)
  have r1 := (show W.cell? ⟨w.heap.size + 1, 1, none⟩ = some (.slice none 0 0) from cell_at rb)
  have rz1 := (show W.frozen? ⟨w.heap.size + 1, 1, none⟩ = false from frozen_at rb)
  have r2 := (show W.cell? ⟨w.heap.size + 1, 2, none⟩ = some (.slice none 0 0) from cell_at rb)
  have rz2 := (show W.frozen? ⟨w.heap.size + 1, 2, none⟩ = false from frozen_at rb)
  have r3 := (show W.cell? ⟨w.heap.size + 1, 3, none⟩ = some (.int .i64 0) from cell_at rb)
  have rz3 := (show W.frozen? ⟨w.heap.size + 1, 3, none⟩ = false from frozen_at rb)
  have kl := lt_of_cell k0
  have rl := lt_of_cell r0
  have kb' := Lib.hid kb; have rb' := Lib.hid rb
  clear kb rb
  have hhas : ∀ (X : World) (i : Int), Fr [] w X → _ := fun X i hX => rhas_any ((hsv'.out).fr hX (by simp)) (by omega) i
  have hasW := hhas W n hFW
  clear hhas
  have hoth : ∀ (X : World) (i : Int), Fr [] w X → _ := fun X i hX => other_any ((hsv'.out).fr hX (by simp)) (by omega) n i
  have hoth' := Lib.hid hoth
  clear hoth
  by_cases h3 : n ∉ sv
  · have hv : leaveR ⟨ep, sv, pt, tb⟩ n = (3, ⟨ep, sv, pt, tb⟩) := by unfold leaveR; rw [if_pos h3]
    rw [hv, if_neg (by simp)]
    dsimp only
    have hcf : sv.contains n = false := by
      cases hc : sv.contains n with
      | false => rfl
      | true => exact absurd (List.contains_iff_mem.1 hc) h3
    rw [hcf] at hasW
    clear hv h3 hcf
    go_enter Tryd.func34, Tryd.ntmps34
    go_upto_region 1 with (fail)
    rw [← hW'.out]
    go_wp2_with (first | (go_at_call 21; refine hasW.mono ?_; rintro e w1 ⟨rfl, hf1⟩; have sb := hf1.keep hb1'.out (by simp); have xb := hf1.keep hb2'.out (by simp); have s0 := (show w1.cell? ⟨w.heap.size, 0, none⟩ = some (.int .i64 ep) from cell_at sb); have sz0 := (show w1.frozen? ⟨w.heap.size, 0, none⟩ = false from frozen_at sb); have s1 := (show w1.cell? ⟨w.heap.size, 1, none⟩ = some (.slice a1 sv.length cap1) from cell_at sb); have sz1 := (show w1.frozen? ⟨w.heap.size, 1, none⟩ = false from frozen_at sb); have s2 := (show w1.cell? ⟨w.heap.size, 2, none⟩ = some (.slice a2 pt.length cap2) from cell_at sb); have sz2 := (show w1.frozen? ⟨w.heap.size, 2, none⟩ = false from frozen_at sb); have s3 := (show w1.cell? ⟨w.heap.size, 3, none⟩ = some (.int .i64 tb) from cell_at sb); have sz3 := (show w1.frozen? ⟨w.heap.size, 3, none⟩ = false from frozen_at sb); have x0 := (show w1.cell? ⟨w.heap.size + 1, 0, none⟩ = some (.int .i64 0) from cell_at xb); have xz0 := (show w1.frozen? ⟨w.heap.size + 1, 0, none⟩ = false from frozen_at xb); have x1 := (show w1.cell? ⟨w.heap.size + 1, 1, none⟩ = some (.slice none 0 0) from cell_at xb); have xz1 := (show w1.frozen? ⟨w.heap.size + 1, 1, none⟩ = false from frozen_at xb); have x2 := (show w1.cell? ⟨w.heap.size + 1, 2, none⟩ = some (.slice none 0 0) from cell_at xb); have xz2 := (show w1.frozen? ⟨w.heap.size + 1, 2, none⟩ = false from frozen_at xb); have x3 := (show w1.cell? ⟨w.heap.size + 1, 3, none⟩ = some (.int .i64 0) from cell_at xb); have xz3 := (show w1.frozen? ⟨w.heap.size + 1, 3, none⟩ = false from frozen_at xb); have sl := lt_of_cell s0; have xl := lt_of_cell x0; have sb' := Lib.hid sb; have xb' := Lib.hid xb; clear sb xb))
    have h4 := set4 xb'.out (.int .i64 0) (.slice none 0 0) (.slice none 0 0) (.int .i64 0)
    have f4 := fr_set4 (w1) (w.heap.size + 1) (.int .i64 0) (.slice none 0 0) (.slice none 0 0) (.int .i64 0)
    obtain ⟨wf, hwf⟩ : ∃ wf, wf = (((w1.setCell ⟨w.heap.size + 1, 0, none⟩ (.int .i64 0)).setCell ⟨w.heap.size + 1, 1, none⟩ (.slice none 0 0)).setCell ⟨w.heap.size + 1, 2, none⟩ (.slice none 0 0)).setCell ⟨w.heap.size + 1, 3, none⟩ (.int .i64 0) := ⟨_, rfl⟩
    rw [← hwf] at h4 f4 ⊢
    have p0 := (show wf.cell? ⟨w.heap.size + 1, 0, none⟩ = some (.int .i64 0) from cell_at h4)
    have p1 := (show wf.cell? ⟨w.heap.size + 1, 1, none⟩ = some (.slice none 0 0) from cell_at h4)
    have p2 := (show wf.cell? ⟨w.heap.size + 1, 2, none⟩ = some (.slice none 0 0) from cell_at h4)
    have p3 := (show wf.cell? ⟨w.heap.size + 1, 3, none⟩ = some (.int .i64 0) from cell_at h4)
    refine bodyPost_ret (v := .tuple #[.agg #[.int .i64 0, .slice none 0 0, .slice none 0 0, .int .i64 0], .int .i64 3]) (by simp [results, Tryd.results34, go_sem, p0, p1, p2, p3]) rfl ?_
    have hff : Fr [] w wf := (hFW.trans hf1).andThen f4 (fun t ht => .inr (by simp at ht; omega))
    exact ⟨_, _, rfl, hff, zero_is _⟩
  rw [Decidable.not_not] at h3
  rw [List.contains_iff_mem.2 h3] at hasW
  by_cases h4 : sv.length ≤ 2
  · have hv : leaveR ⟨ep, sv, pt, tb⟩ n = (110, ⟨ep, sv, pt, tb⟩) := by unfold leaveR; rw [if_neg (fun h => h h3), if_pos h4]
    rw [hv, if_neg (by simp)]
    dsimp only
    clear hv h3
    go_enter Tryd.func34, Tryd.ntmps34
    go_upto_region 1 with (fail)
    rw [← hW'.out]
    go_wp2_with (first | (go_at_call 21; refine hasW.mono ?_; rintro e w1 ⟨rfl, hf1⟩; have sb := hf1.keep hb1'.out (by simp); have xb := hf1.keep hb2'.out (by simp); have s0 := (show w1.cell? ⟨w.heap.size, 0, none⟩ = some (.int .i64 ep) from cell_at sb); have sz0 := (show w1.frozen? ⟨w.heap.size, 0, none⟩ = false from frozen_at sb); have s1 := (show w1.cell? ⟨w.heap.size, 1, none⟩ = some (.slice a1 sv.length cap1) from cell_at sb); have sz1 := (show w1.frozen? ⟨w.heap.size, 1, none⟩ = false from frozen_at sb); have s2 := (show w1.cell? ⟨w.heap.size, 2, none⟩ = some (.slice a2 pt.length cap2) from cell_at sb); have sz2 := (show w1.frozen? ⟨w.heap.size, 2, none⟩ = false from frozen_at sb); have s3 := (show w1.cell? ⟨w.heap.size, 3, none⟩ = some (.int .i64 tb) from cell_at sb); have sz3 := (show w1.frozen? ⟨w.heap.size, 3, none⟩ = false from frozen_at sb); have x0 := (show w1.cell? ⟨w.heap.size + 1, 0, none⟩ = some (.int .i64 0) from cell_at xb); have xz0 := (show w1.frozen? ⟨w.heap.size + 1, 0, none⟩ = false from frozen_at xb); have x1 := (show w1.cell? ⟨w.heap.size + 1, 1, none⟩ = some (.slice none 0 0) from cell_at xb); have xz1 := (show w1.frozen? ⟨w.heap.size + 1, 1, none⟩ = false from frozen_at xb); have x2 := (show w1.cell? ⟨w.heap.size + 1, 2, none⟩ = some (.slice none 0 0) from cell_at xb); have xz2 := (show w1.frozen? ⟨w.heap.size + 1, 2, none⟩ = false from frozen_at xb); have x3 := (show w1.cell? ⟨w.heap.size + 1, 3, none⟩ = some (.int .i64 0) from cell_at xb); have xz3 := (show w1.frozen? ⟨w.heap.size + 1, 3, none⟩ = false from frozen_at xb); have sl := lt_of_cell s0; have xl := lt_of_cell x0; have sb' := Lib.hid sb; have xb' := Lib.hid xb; clear sb xb))
    have h4 := set4 xb'.out (.int .i64 0) (.slice none 0 0) (.slice none 0 0) (.int .i64 0)
    have f4 := fr_set4 (w1) (w.heap.size + 1) (.int .i64 0) (.slice none 0 0) (.slice none 0 0) (.int .i64 0)
    obtain ⟨wf, hwf⟩ : ∃ wf, wf = (((w1.setCell ⟨w.heap.size + 1, 0, none⟩ (.int .i64 0)).setCell ⟨w.heap.size + 1, 1, none⟩ (.slice none 0 0)).setCell ⟨w.heap.size + 1, 2, none⟩ (.slice none 0 0)).setCell ⟨w.heap.size + 1, 3, none⟩ (.int .i64 0) := ⟨_, rfl⟩
    rw [← hwf] at h4 f4 ⊢
    have p0 := (show wf.cell? ⟨w.heap.size + 1, 0, none⟩ = some (.int .i64 0) from cell_at h4)
    have p1 := (show wf.cell? ⟨w.heap.size + 1, 1, none⟩ = some (.slice none 0 0) from cell_at h4)
    have p2 := (show wf.cell? ⟨w.heap.size + 1, 2, none⟩ = some (.slice none 0 0) from cell_at h4)
    have p3 := (show wf.cell? ⟨w.heap.size + 1, 3, none⟩ = some (.int .i64 0) from cell_at h4)
    refine bodyPost_ret (v := .tuple #[.agg #[.int .i64 0, .slice none 0 0, .slice none 0 0, .int .i64 0], .int .i64 110]) (by simp [results, Tryd.results34, go_sem, p0, p1, p2, p3]) rfl ?_
    have hff : Fr [] w wf := (hFW.trans hf1).andThen f4 (fun t ht => .inr (by simp at ht; omega))
    exact ⟨_, _, rfl, hff, zero_is _⟩
  have hv : leaveR ⟨ep, sv, pt, tb⟩ n = (0, ⟨ep, sv.filter (fun m => m != n), partsP ((blk pt).map (swapR sv n)), tb⟩) := by unfold leaveR; rw [if_neg (fun h => h h3), if_neg h4]
  rw [hv, if_pos rfl]
  dsimp only
  have h4b : decide (sv.length ≤ 2) = false := by simpa using h4
  clear hv h3
  unfold aggC at hblk'
  dsimp only at hblk'
  go_enter Tryd.func34, Tryd.ntmps34
  go_upto_region 1 with (fail)
  rw [← hW'.out]
  go_wp2_with (first | (go_at_call 21; refine hasW.mono ?_; rintro e w1 ⟨rfl, hf1⟩; have hblk1 := hblk'.out w1 (hFW.trans hf1); have sb := hf1.keep hb1'.out (by simp); have xb := hf1.keep hb2'.out (by simp); have s0 := (show w1.cell? ⟨w.heap.size, 0, none⟩ = some (.int .i64 ep) from cell_at sb); have sz0 := (show w1.frozen? ⟨w.heap.size, 0, none⟩ = false from frozen_at sb); have s1 := (show w1.cell? ⟨w.heap.size, 1, none⟩ = some (.slice a1 sv.length cap1) from cell_at sb); have sz1 := (show w1.frozen? ⟨w.heap.size, 1, none⟩ = false from frozen_at sb); have s2 := (show w1.cell? ⟨w.heap.size, 2, none⟩ = some (.slice a2 pt.length cap2) from cell_at sb); have sz2 := (show w1.frozen? ⟨w.heap.size, 2, none⟩ = false from frozen_at sb); have s3 := (show w1.cell? ⟨w.heap.size, 3, none⟩ = some (.int .i64 tb) from cell_at sb); have sz3 := (show w1.frozen? ⟨w.heap.size, 3, none⟩ = false from frozen_at sb); have x0 := (show w1.cell? ⟨w.heap.size + 1, 0, none⟩ = some (.int .i64 0) from cell_at xb); have xz0 := (show w1.frozen? ⟨w.heap.size + 1, 0, none⟩ = false from frozen_at xb); have x1 := (show w1.cell? ⟨w.heap.size + 1, 1, none⟩ = some (.slice none 0 0) from cell_at xb); have xz1 := (show w1.frozen? ⟨w.heap.size + 1, 1, none⟩ = false from frozen_at xb); have x2 := (show w1.cell? ⟨w.heap.size + 1, 2, none⟩ = some (.slice none 0 0) from cell_at xb); have xz2 := (show w1.frozen? ⟨w.heap.size + 1, 2, none⟩ = false from frozen_at xb); have x3 := (show w1.cell? ⟨w.heap.size + 1, 3, none⟩ = some (.int .i64 0) from cell_at xb); have xz3 := (show w1.frozen? ⟨w.heap.size + 1, 3, none⟩ = false from frozen_at xb); have sl := lt_of_cell s0; have xl := lt_of_cell x0; have sb' := Lib.hid sb; have xb' := Lib.hid xb; clear sb xb) | (go_at_call 51; refine hblk1.mono ?_; rintro e w2 ⟨vL, rfl, hf2, hownL⟩))
  have hz1 := hf1.size
  have hz2 := hf2.size
  have hW2 : Fr [] w w2 := (hFW.trans hf1).trans hf2
  have hF2 : Fr [] W w2 := hf1.trans hf2
  have hW2' := Lib.hid hW2; have hF2' := Lib.hid hF2
  have hownL0 : w2.ownsRow w1.heap.size 73 4 vL (mapk (swapR sv n) (blk pt) 0).length ((mapk (swapR sv n) (blk pt) 0).flatMap encB) := by
    have : mapk (swapR sv n) (blk pt) 0 = blk pt := by unfold mapk; simp
    rw [this]; exact hownL
  obtain ⟨gL, capL, hvL, hL1, hL2, _, _, _⟩ := owns_cell (enc := encB) hownL encB_len (by rintro e; rw [e] at hbl; simp at hbl)
  subst hvL
  have hbl2 : (blk pt).length = 256 := hbl
  have hownL0' := Lib.hid hownL0
  rw [hbl2]
  clear hownL hownL0 hf1 hf2 hW2 hF2 hbl
  clear k0 k1 k2 k3 kz0 kz1 kz2 kz3 r0 r1 r2 r3 rz0 rz1 rz2 rz3 s0 s1 s2 s3 sz0 sz1 sz2 sz3 x0 x1 x2 x3 xz0 xz1 xz2 xz3 kl rl sl xl
  go_loopg [7] 256 (fun gk iv wr => ∃ i : Nat, i ≤ 256 ∧ gk = 256 - i ∧ iv = .int .i64 i ∧ wr.ownsRow w1.heap.size 73 4 (.slice (some ⟨gL, 0, none⟩) (blk pt).length capL) (mapk (swapR sv n) (blk pt) i).length ((mapk (swapR sv n) (blk pt) i).flatMap encB) ∧ Fr [gL] w2 wr)
  case atStart => exact ⟨0, by omega, rfl, rfl, hownL0'.out, Fr.refl _ _⟩
  case round =>
    obtain ⟨i, hi, hgk, rfl, hown, hfr⟩ := hrel
    have hgk' := Lib.hid hgk
    clear hgk
    have hzr := hfr.size
    have hFr : Fr [gL] W wr := (hF2'.out.mono (by simp)).trans hfr
    have hFw : Fr [] w wr := hW2'.out.andThen hfr (fun t ht => .inr (by simp at ht; omega))
    have kb := hFr.keep hb1'.out (by simp; omega)
    have rb := hFr.keep hb2'.out (by simp; omega)
    have k0 := (show wr.cell? ⟨w.heap.size, 0, none⟩ = some (.int .i64 ep) from cell_at kb)
    have kz0 := (show wr.frozen? ⟨w.heap.size, 0, none⟩ = false from frozen_at kb)
    have k1 := (show wr.cell? ⟨w.heap.size, 1, none⟩ = some (.slice a1 sv.length cap1) from cell_at kb)
    have kz1 := (show wr.frozen? ⟨w.heap.size, 1, none⟩ = false from frozen_at kb)
    have k2 := (show wr.cell? ⟨w.heap.size, 2, none⟩ = some (.slice a2 pt.length cap2) from cell_at kb)
    have kz2 := (show wr.frozen? ⟨w.heap.size, 2, none⟩ = false from frozen_at kb)
    have k3 := (show wr.cell? ⟨w.heap.size, 3, none⟩ = some (.int .i64 tb) from cell_at kb)
    have kz3 := (show wr.frozen? ⟨w.heap.size, 3, none⟩ = false from frozen_at kb)
    have r0 := (show wr.cell? ⟨w.heap.size + 1, 0, none⟩ = some (.int .i64 0) from cell_at rb)
    have rz0 := (show wr.frozen? ⟨w.heap.size + 1, 0, none⟩ = false from frozen_at rb)
    have r1 := (show wr.cell? ⟨w.heap.size + 1, 1, none⟩ = some (.slice none 0 0) from cell_at rb)
    have rz1 := (show wr.frozen? ⟨w.heap.size + 1, 1, none⟩ = false from frozen_at rb)
    have r2 := (show wr.cell? ⟨w.heap.size + 1, 2, none⟩ = some (.slice none 0 0) from cell_at rb)
    have rz2 := (show wr.frozen? ⟨w.heap.size + 1, 2, none⟩ = false from frozen_at rb)
    have r3 := (show wr.cell? ⟨w.heap.size + 1, 3, none⟩ = some (.int .i64 0) from cell_at rb)
    have rz3 := (show wr.frozen? ⟨w.heap.size + 1, 3, none⟩ = false from frozen_at rb)
    have kl := lt_of_cell k0
    have rl := lt_of_cell r0
    have kb' := Lib.hid kb; have rb' := Lib.hid rb
    clear kb rb
    have hFr' := Lib.hid hFr; have hFw' := Lib.hid hFw; have hfr' := Lib.hid hfr
    clear hFr hFw hfr
    by_cases hlt : i < 256
    · obtain ⟨x, hx⟩ : ∃ x, (blk pt)[i]? = some x := ⟨_, List.getElem?_eq_getElem (by omega)⟩
      have hxm := hmem'.out x (List.mem_of_getElem? hx)
      have hg := mapk_get (f := swapR sv n) (l := blk pt) (k := i) (by omega)
      rw [hx] at hg
      have hset := mapk_set (f := swapR sv n) hx
      have hid := mapk_id (f := swapR sv n) hx
      have hML := mapk_len (swapR sv n) (blk pt) i
      obtain ⟨gL', capL', hvL, _, _, _, hnf, hcL⟩ := owns_cell (enc := encB) hown encB_len (by rintro e; rw [e] at hML; simp at hML; omega)
      rw [hML] at hvL
      cases hvL
      have c2 := hcL i _ 2 _ hg rfl
      have c3 := hcL i _ 3 _ hg rfl
      have n2 := hnf (i * 4 + 2)
      have n3 := hnf (i * 4 + 3)
      have lc := lt_of_cell c2
      obtain ⟨x1, x2⟩ := x
      dsimp only at c2 c3 hxm
      have hg' := Lib.hid hg; have hown' := Lib.hid hown; have hset' := Lib.hid hset; have hid' := Lib.hid hid
      clear hown hset hid hg hx hnf hcL hML
      by_cases e1 : x1 = n
      · have e2 : (x2 == n) = false := by simp; omega
        have hsw : swapR sv n (x1, x2) = (otherR sv n x2, x2) := by
          unfold swapR; dsimp only
          rw [if_pos e1, if_neg (by omega)]
        have hsw' := Lib.hid hsw
        have e1b : (x1 == n) = true := by simpa using e1
        have ho1 := hoth'.out wr.drew x2 hFw'.out.drew
        clear hsw e1 hxm
        go_wp2
        go_region_held3 (fun w' => w'.cell? ⟨w.heap.size, 1, none⟩ = some (.slice a1 sv.length cap1) ∧ w'.cell? ⟨gL, i * 4 + 3, none⟩ = some (.int .i64 x2)) (first | go_keep | exact hk1 | exact ⟨(set_other (.inl (by omega))).trans hk1.1, (set_other (.inr (by omega))).trans hk1.2⟩)
          ((go_at_call 52; refine ho1.mono ?_; rintro e w5 ⟨rfl, hf5⟩; have hF5 : Fr [] wr w5 := (Fr.refl _ _).drew.trans hf5; have hk1 := (show w5.cell? ⟨w.heap.size, 1, none⟩ = some (.slice a1 sv.length cap1) ∧ w5.cell? ⟨gL, i * 4 + 3, none⟩ = some (.int .i64 x2) from ⟨hF5.at0 k1, hF5.at0 c3⟩); have m2 := hF5.at0 c2; have m3 := hF5.at0 c3; have mz : w5.frozen? ⟨gL, i * 4 + 2, none⟩ = false := (hF5.frozen (p := ⟨gL, i * 4 + 2, none⟩) lc (by simp)).trans n2; have hF5' := Lib.hid hF5; have hz5 := hF5.size; clear hf5 hF5))
        go_wp2
        go_roundg (256 - (i + 1))
        case rel => exact ⟨i + 1, by omega, rfl, by go_num, by rw [← hset'.out, hsw'.out]; exact owns_setAt (owns_fr hown'.out hF5'.out (by simp)) encB_len i (x1, x2) (otherR sv n x2, x2) 2 (.int .i64 (otherR sv n x2)) hg'.out (by omega) rfl, ((hfr'.out.trans (hF5'.out.mono (by simp))).setCell _ _ (.inl (by simp)))⟩
        case measure => rw [hgk'.out]; omega
      have e1b : (x1 == n) = false := by simpa using e1
      by_cases e2 : x2 = n
      · have hsw : swapR sv n (x1, x2) = (x1, otherR sv n x1) := by
          unfold swapR; dsimp only
          rw [if_neg e1, if_pos e2]
        have hsw' := Lib.hid hsw
        have e2b : (x2 == n) = true := by simpa using e2
        have ho1 := hoth'.out wr.drew x1 hFw'.out.drew
        clear hsw e1 e2 hxm
        go_wp2
        go_region_held3 (fun w' => w'.cell? ⟨w.heap.size, 1, none⟩ = some (.slice a1 sv.length cap1) ∧ w'.cell? ⟨gL, i * 4 + 2, none⟩ = some (.int .i64 x1)) (first | go_keep | exact hk1 | exact ⟨(set_other (.inl (by omega))).trans hk1.1, (set_other (.inr (by omega))).trans hk1.2⟩)
          ((go_at_call 52; refine ho1.mono ?_; rintro e w5 ⟨rfl, hf5⟩; have hF5 : Fr [] wr w5 := (Fr.refl _ _).drew.trans hf5; have hk1 := (show w5.cell? ⟨w.heap.size, 1, none⟩ = some (.slice a1 sv.length cap1) ∧ w5.cell? ⟨gL, i * 4 + 2, none⟩ = some (.int .i64 x1) from ⟨hF5.at0 k1, hF5.at0 c2⟩); have m2 := hF5.at0 c2; have m3 := hF5.at0 c3; have mz : w5.frozen? ⟨gL, i * 4 + 3, none⟩ = false := (hF5.frozen (p := ⟨gL, i * 4 + 3, none⟩) lc (by simp)).trans n3; have hF5' := Lib.hid hF5; have hz5 := hF5.size; clear hf5 hF5))
        go_wp2
        go_roundg (256 - (i + 1))
        case rel => exact ⟨i + 1, by omega, rfl, by go_num, by rw [← hset'.out, hsw'.out]; exact owns_setAt (owns_fr hown'.out hF5'.out (by simp)) encB_len i (x1, x2) (x1, otherR sv n x1) 3 (.int .i64 (otherR sv n x1)) hg'.out (by omega) rfl, ((hfr'.out.trans (hF5'.out.mono (by simp))).setCell _ _ (.inl (by simp)))⟩
        case measure => rw [hgk'.out]; omega
      · have hsw : swapR sv n (x1, x2) = (x1, x2) := by
          unfold swapR; dsimp only
          rw [if_neg e1, if_neg e2]
        have hid2 := Lib.hid (hid'.out hsw)
        have e2b : (x2 == n) = false := by simpa using e2
        clear hsw e1 e2 hxm
        go_wp2
        go_roundg (256 - (i + 1))
        case rel => exact ⟨i + 1, by omega, rfl, by go_num, by rw [hid2.out]; exact hown'.out, hfr'.out⟩
        case measure => rw [hgk'.out]; omega
    · have he : i = 256 := by omega
      subst he
      rw [show (256 : Nat) = (blk pt).length from by omega, mapk_all] at hown
      have hslL := SliceIs.of_owns hown rfl
      have hpl : ((blk pt).map (swapR sv n)).length < 1000000 := by rw [List.length_map]; omega
      have hslL' := Lib.hid hslL
      clear hown hslL
      clear k0 k1 k2 k3 kz0 kz1 kz2 kz3 r0 r1 r2 r3 rz0 rz1 rz2 rz3 kl rl
      go_upto_region 15 with (fail)
      obtain ⟨wo, rfl⟩ : ∃ wo : World, wo = wr := ⟨_, rfl⟩
      obtain ⟨w3, hw3⟩ : ∃ w3, w3 = wo.alloc (.cells #[] 3) := ⟨_, rfl⟩
      have hF13 : Fr [] wo w3 := by rw [hw3]; exact (Fr.refl _ _).alloc _
      have hown0 : w3.ownsRow wo.heap.size 3 1 (.slice (some ⟨wo.heap.size, 0, none⟩) 0 0) (svk sv n 0).length ((svk sv n 0).flatMap encI) := by
        rw [hw3]; exact World.ownsRow_made wo #[] 0 (Nat.le_refl _) (Nat.zero_le _) rfl
      rw [← hw3]
      have hown0' := Lib.hid hown0; have hF13' := Lib.hid hF13
      clear hw3 hown0 hF13
      go_loopg [8, 9] sv.length (fun gk lv iv wi => ∃ i : Nat, i ≤ sv.length ∧ gk = sv.length - i ∧ iv = .int .i64 i ∧ wi.ownsRow wo.heap.size 3 1 lv (svk sv n i).length ((svk sv n i).flatMap encI) ∧ Fr [] wo wi)
      case atStart => exact ⟨0, by omega, rfl, rfl, hown0'.out, hF13'.out⟩
      case round =>
        obtain ⟨i, hi, hgk, rfl, hown, hfi⟩ := hrel
        have hgk' := Lib.hid hgk
        clear hgk
        have hzi := hfi.size
        have hFi : Fr [gL] W wr := hFr'.out.trans (hfi.mono (by simp))
        have kb := hFi.keep hb1'.out (by simp; omega)
        have rb := hFi.keep hb2'.out (by simp; omega)
        have k0 := (show wr.cell? ⟨w.heap.size, 0, none⟩ = some (.int .i64 ep) from cell_at kb)
        have kz0 := (show wr.frozen? ⟨w.heap.size, 0, none⟩ = false from frozen_at kb)
        have k1 := (show wr.cell? ⟨w.heap.size, 1, none⟩ = some (.slice a1 sv.length cap1) from cell_at kb)
        have kz1 := (show wr.frozen? ⟨w.heap.size, 1, none⟩ = false from frozen_at kb)
        have k2 := (show wr.cell? ⟨w.heap.size, 2, none⟩ = some (.slice a2 pt.length cap2) from cell_at kb)
        have kz2 := (show wr.frozen? ⟨w.heap.size, 2, none⟩ = false from frozen_at kb)
        have k3 := (show wr.cell? ⟨w.heap.size, 3, none⟩ = some (.int .i64 tb) from cell_at kb)
        have kz3 := (show wr.frozen? ⟨w.heap.size, 3, none⟩ = false from frozen_at kb)
        have r0 := (show wr.cell? ⟨w.heap.size + 1, 0, none⟩ = some (.int .i64 0) from cell_at rb)
        have rz0 := (show wr.frozen? ⟨w.heap.size + 1, 0, none⟩ = false from frozen_at rb)
        have r1 := (show wr.cell? ⟨w.heap.size + 1, 1, none⟩ = some (.slice none 0 0) from cell_at rb)
        have rz1 := (show wr.frozen? ⟨w.heap.size + 1, 1, none⟩ = false from frozen_at rb)
        have r2 := (show wr.cell? ⟨w.heap.size + 1, 2, none⟩ = some (.slice none 0 0) from cell_at rb)
        have rz2 := (show wr.frozen? ⟨w.heap.size + 1, 2, none⟩ = false from frozen_at rb)
        have r3 := (show wr.cell? ⟨w.heap.size + 1, 3, none⟩ = some (.int .i64 0) from cell_at rb)
        have rz3 := (show wr.frozen? ⟨w.heap.size + 1, 3, none⟩ = false from frozen_at rb)
        have kl := lt_of_cell k0
        have rl := lt_of_cell r0
        have kb' := Lib.hid kb; have rb' := Lib.hid rb
        clear kb rb
        have hfi' := Lib.hid hfi; have hFi' := Lib.hid hFi
        clear hfi hFi
        by_cases hlt : i < sv.length
        · obtain ⟨gS, offS, rfl, _, hgS, hcS⟩ := hat1'.out (by rintro rfl; simp at hlt)
          obtain ⟨x, hx⟩ : ∃ x, sv[i]? = some x := ⟨_, List.getElem?_eq_getElem hlt⟩
          have c0 : wr.cell? ⟨gS, offS + i, none⟩ = some (.int .i64 x) := by
            have := hcS i x 0 _ hx rfl
            rw [hfi'.out.cell (p := ⟨gS, _, none⟩) (by show gS < _; omega) (by simp), hFw'.out.cell (p := ⟨gS, _, none⟩) hgS (by simp)]
            simpa using this
          have lc := lt_of_cell c0
          have hst := svk_step (n := n) hx
          have hcl := svk_len sv n i
          obtain ⟨A, hA⟩ : ∃ A, A = svk sv n i := ⟨_, rfl⟩
          rw [← hA] at hown hst hcl
          have hob := hown.lt
          have hst' := Lib.hid hst
          clear hst hA hx hcS
          by_cases e1 : x = n
          · have e1b : (x != n) = false := by simpa using e1
            rw [if_pos e1, List.append_nil] at hst'
            have hown' := Lib.hid hown
            clear e1 hown
            go_wp2
            go_roundg (sv.length - (i + 1))
            case rel => exact ⟨i + 1, by omega, rfl, by go_num, by rw [hst'.out]; exact hown'.out, hfi'.out⟩
            case measure => rw [hgk'.out]; omega
          · have e1b : (x != n) = true := by simpa using e1
            rw [if_neg e1] at hst'
            clear e1
            go_wp2_with (first | (at_builtin; (refine wpList_push wr _ _ rfl _ _ 23 rfl wo.heap.size 3 Tryd.underlying23 infoI rfl (by omega) u8 A rfl hown x rfl encI_len (enc1I _) rfl (by omega) (by omega) (by omega) ?_; intro v' w7 hown7 hf7)))
            go_roundg (sv.length - (i + 1))
            case rel => exact ⟨i + 1, by omega, rfl, by go_num, by rw [hst'.out]; exact hown7, hfi'.out.andThen hf7 (fun t ht => .inr (by have := hob t (by simpa using ht); omega))⟩
            case measure => rw [hgk'.out]; omega
        · have he : i = sv.length := by omega
          subst he
          rw [svk_all] at hown
          obtain ⟨a3, cap3, rfl, _, _, _⟩ := SliceIs.of_owns hown rfl
          have hown' := Lib.hid hown
          clear hown
          have h5 := setCell_at (i := 1) kb'.out (.slice a3 (List.filter (fun m => m != n) sv).length cap3)
          have f5 : Fr [w.heap.size] wr (wr.setCell ⟨w.heap.size, 1, none⟩ (.slice a3 (List.filter (fun m => m != n) sv).length cap3)) := (Fr.refl [w.heap.size] wr).setCell _ _ (.inl (by simp))
          have rb5 := f5.keep rb'.out (by simp)
          have hown5 := owns_fr hown'.out f5 (by simp; omega)
          obtain ⟨w5, hw5⟩ : ∃ w5, w5 = wr.setCell ⟨w.heap.size, 1, none⟩ (.slice a3 (List.filter (fun m => m != n) sv).length cap3) := ⟨_, rfl⟩
          go_upto_region 20 with (fail)
          rw [← hw5] at h5 f5 rb5 hown5 ⊢
          have hsl5 := ((hslL'.out.fr hfi'.out (by simp)).fr f5 (by intro g hg _; simp; omega))
          have hcp := parts_any _ _ w5 hsl5 hpl
          have hz5 := f5.size
          have hF5 : Fr [] w w5 := (hFw'.out.trans hfi'.out).andThen f5 (fun t ht => .inr (by simp at ht; omega))
          have hF5' := Lib.hid hF5
          rw [show (blk pt).length = 256 from by omega] at hcp
          have h5' := Lib.hid h5; have rb5' := Lib.hid rb5; have hown5' := Lib.hid hown5
          clear k0 k1 k2 k3 kz0 kz1 kz2 kz3 r0 r1 r2 r3 rz0 rz1 rz2 rz3 kl rl
          clear h5 rb5 hown5 hF5 hw5 hsl5
          go_wp2_with (first | (go_at_call 53; refine hcp.mono ?_; rintro e w6 ⟨v6, rfl, hf6, hown6⟩; have h6 := hf6.keep h5'.out (by simp); have rb6 := hf6.keep rb5'.out (by simp); obtain ⟨a6, cap6, rfl, _, _, _⟩ := SliceIs.of_owns hown6 rfl; have k0 := (show w6.cell? ⟨w.heap.size, 0, none⟩ = some (.int .i64 ep) from cell_at h6); have kz0 := (show w6.frozen? ⟨w.heap.size, 0, none⟩ = false from frozen_at h6); have k1 := (show w6.cell? ⟨w.heap.size, 1, none⟩ = some (.slice a3 (List.filter (fun m => m != n) sv).length cap3) from cell_at h6); have kz1 := (show w6.frozen? ⟨w.heap.size, 1, none⟩ = false from frozen_at h6); have k2 := (show w6.cell? ⟨w.heap.size, 2, none⟩ = some (.slice a2 pt.length cap2) from cell_at h6); have kz2 := (show w6.frozen? ⟨w.heap.size, 2, none⟩ = false from frozen_at h6); have k3 := (show w6.cell? ⟨w.heap.size, 3, none⟩ = some (.int .i64 tb) from cell_at h6); have kz3 := (show w6.frozen? ⟨w.heap.size, 3, none⟩ = false from frozen_at h6); have kl := lt_of_cell k0; have r0 := (show w6.cell? ⟨w.heap.size + 1, 0, none⟩ = some (.int .i64 0) from cell_at rb6); have rz0 := (show w6.frozen? ⟨w.heap.size + 1, 0, none⟩ = false from frozen_at rb6); have r1 := (show w6.cell? ⟨w.heap.size + 1, 1, none⟩ = some (.slice none 0 0) from cell_at rb6); have rz1 := (show w6.frozen? ⟨w.heap.size + 1, 1, none⟩ = false from frozen_at rb6); have r2 := (show w6.cell? ⟨w.heap.size + 1, 2, none⟩ = some (.slice none 0 0) from cell_at rb6); have rz2 := (show w6.frozen? ⟨w.heap.size + 1, 2, none⟩ = false from frozen_at rb6); have r3 := (show w6.cell? ⟨w.heap.size + 1, 3, none⟩ = some (.int .i64 0) from cell_at rb6); have rz3 := (show w6.frozen? ⟨w.heap.size + 1, 3, none⟩ = false from frozen_at rb6); have rl := lt_of_cell r0; have h6' := Lib.hid h6; have rb6' := Lib.hid rb6; have hown6' := Lib.hid hown6; have hz6 := hf6.size; have hf6' := Lib.hid hf6; clear h6 rb6 hown6 hf6))
          have f7 : Fr [w.heap.size] w6 (w6.setCell ⟨w.heap.size, 2, none⟩ (.slice a6 (partsP ((blk pt).map (swapR sv n))).length cap6)) := (Fr.refl [w.heap.size] w6).setCell _ _ (.inl (by simp))
          have rb7 := f7.keep rb6'.out (by simp)
          have h4 := set4 rb7 (.int .i64 ep) (.slice a3 (List.filter (fun m => m != n) sv).length cap3) (.slice a6 (partsP ((blk pt).map (swapR sv n))).length cap6) (.int .i64 tb)
          have f4 := fr_set4 ((w6.setCell ⟨w.heap.size, 2, none⟩ (.slice a6 (partsP ((blk pt).map (swapR sv n))).length cap6))) (w.heap.size + 1) (.int .i64 ep) (.slice a3 (List.filter (fun m => m != n) sv).length cap3) (.slice a6 (partsP ((blk pt).map (swapR sv n))).length cap6) (.int .i64 tb)
          obtain ⟨wf, hwf⟩ : ∃ wf, wf = ((((w6.setCell ⟨w.heap.size, 2, none⟩ (.slice a6 (partsP ((blk pt).map (swapR sv n))).length cap6)).setCell ⟨w.heap.size + 1, 0, none⟩ (.int .i64 ep)).setCell ⟨w.heap.size + 1, 1, none⟩ (.slice a3 (List.filter (fun m => m != n) sv).length cap3)).setCell ⟨w.heap.size + 1, 2, none⟩ (.slice a6 (partsP ((blk pt).map (swapR sv n))).length cap6)).setCell ⟨w.heap.size + 1, 3, none⟩ (.int .i64 tb) := ⟨_, rfl⟩
          rw [← hwf] at h4 f4 ⊢
          have p0 := (show wf.cell? ⟨w.heap.size + 1, 0, none⟩ = some (.int .i64 ep) from cell_at h4)
          have p1 := (show wf.cell? ⟨w.heap.size + 1, 1, none⟩ = some (.slice a3 (List.filter (fun m => m != n) sv).length cap3) from cell_at h4)
          have p2 := (show wf.cell? ⟨w.heap.size + 1, 2, none⟩ = some (.slice a6 (partsP ((blk pt).map (swapR sv n))).length cap6) from cell_at h4)
          have p3 := (show wf.cell? ⟨w.heap.size + 1, 3, none⟩ = some (.int .i64 tb) from cell_at h4)
          refine bodyPost_ret (v := .tuple #[.agg #[.int .i64 ep, .slice a3 (List.filter (fun m => m != n) sv).length cap3, .slice a6 (partsP ((blk pt).map (swapR sv n))).length cap6, .int .i64 tb], .int .i64 0]) (by simp [results, Tryd.results34, go_sem, p0, p1, p2, p3]) rfl ?_
          have hff : Fr [] w wf := (((hF5'.out.trans hf6'.out).andThen f7 (fun t ht => .inr (by simp at ht; omega)))).andThen f4 (fun t ht => .inr (by simp at ht; omega))
          exact ⟨_, _, rfl, hff, (SliceIs.of_owns (owns_fr (owns_fr (owns_fr hown5'.out hf6'.out (by simp)) f7 (by simp; omega)) f4 (by simp; omega)) rfl).imp (fun g _ (h : _ ≤ g) => .inr (by omega)), (SliceIs.of_owns (owns_fr (owns_fr hown6'.out f7 (by simp; omega)) f4 (by simp; omega)) rfl).imp (fun g _ (h : _ ≤ g) => .inr (by omega))⟩
end Go.Proofs.YthhpamaeibjpaaaDoor
end
section
namespace Go.Proofs.YthhpamaeibjpaaaDoor
open Go.RowKit Go.Maps Go.Lib Go.Sort
def aggO (o : Ord) : Value := .agg #[.int .i64 o.1, .int .i64 o.2.1, .int .i64 o.2.2.1, .int .i64 o.2.2.2.1, .int .i64 o.2.2.2.2]
theorem setR_set {F i : Nat} {x : Int × Int} {l : List (Int × Int)} (hF : F ≤ i) (hi : i < l.length) : (setR F i x 0 l).set i x = setR F ((i : Int) + 1) x 0 l := by
  apply List.ext_getElem?
  intro j
  rw [List.getElem?_set, setR_len, setR_get, setR_get]
  by_cases e : i = j
  · subst e
    rw [if_pos rfl, if_pos hi, List.getElem?_eq_getElem hi]
    simp only [Option.map_some]
    rw [if_pos (by omega)]
  · rw [if_neg e]
    congr 1
    funext y
    by_cases c : (F : Int) ≤ 0 + (j : Int) ∧ 0 + (j : Int) < (i : Int)
    · rw [if_pos c, if_pos (by omega)]
    · rw [if_neg c, if_neg (by omega)]
theorem setR_none {F : Int} {x : Int × Int} (l : List (Int × Int)) : setR F F x 0 l = l := by
  apply List.ext_getElem?
  intro j
  rw [setR_get]
  cases l[j]? with
  | none => rfl
  | some y => simp only [Option.map_some]; rw [if_neg (by omega)]
theorem owns_put {w : World} {base g n cap : Nat} {e : TypeId} {S : List (Int × Int)} (h : w.ownsRow base e 4 (.slice (some ⟨g, 0, none⟩) n cap) S.length (S.flatMap encB)) {i : Nat} {a b : Int} (hx : S[i]? = some (a, b)) (a' b' : Int) :
    ((((w.setCell ⟨g, i * 4, none⟩ (.int .i64 0)).setCell ⟨g, i * 4 + 1, none⟩ (.int .i64 0)).setCell ⟨g, i * 4 + 2, none⟩ (.int .i64 a')).setCell ⟨g, i * 4 + 3, none⟩ (.int .i64 b')).ownsRow base e 4 (.slice (some ⟨g, 0, none⟩) n cap) (S.set i (a', b')).length ((S.set i (a', b')).flatMap encB) := by
  have hi := (List.getElem?_eq_some_iff.1 hx).1
  have e0 : S.set i (a, b) = S := by
    obtain ⟨h1, h2⟩ := List.getElem?_eq_some_iff.1 hx
    rw [← h2]; exact List.set_getElem_self h1
  have h0 := owns_setAt h encB_len i (a, b) (a, b) 0 (.int .i64 0) hx (by omega) rfl
  rw [e0] at h0
  have h1 := owns_setAt h0 encB_len i (a, b) (a, b) 1 (.int .i64 0) hx (by omega) rfl
  rw [e0] at h1
  have h2 := owns_setAt h1 encB_len i (a, b) (a', b) 2 (.int .i64 a') hx (by omega) rfl
  have h3 := owns_setAt h2 encB_len i (a', b) (a', b') 3 (.int .i64 b') (by rw [List.getElem?_set]; simp [hi]) (by omega) rfl
  rw [List.set_set] at h3
  simpa using h3
set_option maxRecDepth 100000 in
set_option maxHeartbeats 16000000 in
theorem rplace_any {B : Nat → Prop} (c : Cfg) (vs vp : Value) (o : Ord) (w : World) (h : CfgIs w B vs vp c) (ho : okC c = true) (hs : c.sv.length < 1000000) (hp : c.pt.length < 1000000) :
    Calls Tryd.prog 35 #[aggC c vs vp, aggO o] w (OutC B w (if (placeR c o.2.1 o.2.2.1 o.2.2.2.1 o.2.2.2.2).1 = 0 then (placeR c o.2.1 o.2.2.1 o.2.2.2.1 o.2.2.2.2).2 else zeroCfg, (placeR c o.2.1 o.2.2.1 o.2.2.2.1 o.2.2.2.2).1)) := by
  have hcfg := h
  have hbl := chain_blk _ _ (ok_chain ho).1
  obtain ⟨ep, sv, pt, tb⟩ := c
  dsimp only at hbl
  obtain ⟨ok, n, m, F, T⟩ := o
  obtain ⟨hsv, hpt⟩ := h
  dsimp only at hsv hpt hs hp
  have hsv0 := hsv; have hpt0 := hpt
  obtain ⟨a1, cap1, rfl, hs1, hs2, hat1⟩ := hsv.at encI_len
  obtain ⟨a2, cap2, rfl, hp1, hp2, hat2⟩ := hpt.at encPt_len
  have hat1' := Lib.hid hat1; have hat2' := Lib.hid hat2; have hsv' := Lib.hid hsv0; have hpt' := Lib.hid hpt0
  unfold aggC aggO
  dsimp only
  clear hat1 hat2 hsv hpt hsv0 hpt0
  obtain ⟨W, hW⟩ : ∃ W, W = ((w.alloc (.cells #[.int .i64 ep, .slice a1 sv.length cap1, .slice a2 pt.length cap2, .int .i64 tb] 37)).alloc (.cells #[.int .i64 ok, .int .i64 n, .int .i64 m, .int .i64 F, .int .i64 T] 44)).alloc (.cells #[.int .i64 0, .slice none 0 0, .slice none 0 0, .int .i64 0] 37) := ⟨_, rfl⟩
  have hFW : Fr [] w W := by rw [hW]; exact (((Fr.refl _ _).alloc _).alloc _).alloc _
  have hb1 : W.heap[w.heap.size]? = some (.cells #[.int .i64 ep, .slice a1 sv.length cap1, .slice a2 pt.length cap2, .int .i64 tb] 37 (0, 0)) := by
    rw [hW]; exact (((Fr.refl [] _).alloc _).alloc _).keep (heap_alloc_new w _) (by simp)
  have hb3 : W.heap[w.heap.size + 1]? = some (.cells #[.int .i64 ok, .int .i64 n, .int .i64 m, .int .i64 F, .int .i64 T] 44 (0, 0)) := by
    rw [hW]
    have := ((Fr.refl [] _).alloc (.cells #[.int .i64 0, .slice none 0 0, .slice none 0 0, .int .i64 0] 37)).keep (heap_alloc_new (w.alloc (.cells #[.int .i64 ep, .slice a1 sv.length cap1, .slice a2 pt.length cap2, .int .i64 tb] 37)) (.cells #[.int .i64 ok, .int .i64 n, .int .i64 m, .int .i64 F, .int .i64 T] 44)) (by simp)
    simpa using this
  have hb2 : W.heap[w.heap.size + 2]? = some (.cells #[.int .i64 0, .slice none 0 0, .slice none 0 0, .int .i64 0] 37 (0, 0)) := by
    rw [hW]
    have := heap_alloc_new ((w.alloc (.cells #[.int .i64 ep, .slice a1 sv.length cap1, .slice a2 pt.length cap2, .int .i64 tb] 37)).alloc (.cells #[.int .i64 ok, .int .i64 n, .int .i64 m, .int .i64 F, .int .i64 T] 44)) (.cells #[.int .i64 0, .slice none 0 0, .slice none 0 0, .int .i64 0] 37)
    simpa using this
  have hzW : W.heap.size = w.heap.size + 3 := by rw [hW]; simp
  have hb1' := Lib.hid hb1; have hb2' := Lib.hid hb2; have hb3' := Lib.hid hb3; have hW' := Lib.hid hW
  clear hW hb1 hb2 hb3
  have hcfg' := Lib.hid hcfg; have ho' := Lib.hid ho
  clear hcfg ho
  have hblk : ∀ X, Fr [] w X → _ := fun X hX => blocks_any (hcfg'.out.fr0 hX) ho'.out
  unfold aggC at hblk
  dsimp only at hblk
  have hblk' := Lib.hid hblk
  clear hblk
  have kb := (Fr.refl [] W).keep hb1'.out (by simp)
  have k0 := (show W.cell? ⟨w.heap.size, 0, none⟩ = some (.int .i64 ep) from cell_at kb)
  have kz0 := (show W.frozen? ⟨w.heap.size, 0, none⟩ = false from frozen_at kb)
  have k1 := (show W.cell? ⟨w.heap.size, 1, none⟩ = some (.slice a1 sv.length cap1) from cell_at kb)
  have kz1 := (show W.frozen? ⟨w.heap.size, 1, none⟩ = false from frozen_at kb)
  have k2 := (show W.cell? ⟨w.heap.size, 2, none⟩ = some (.slice a2 pt.length cap2) from cell_at kb)
  have kz2 := (show W.frozen? ⟨w.heap.size, 2, none⟩ = false from frozen_at kb)
  have k3 := (show W.cell? ⟨w.heap.size, 3, none⟩ = some (.int .i64 tb) from cell_at kb)
  have kz3 := (show W.frozen? ⟨w.heap.size, 3, none⟩ = false from frozen_at kb)
  have kl := lt_of_cell k0
  have kb' := Lib.hid kb
  clear kb
  have ob := (Fr.refl [] W).keep hb3'.out (by simp)
  have o0 := (show W.cell? ⟨w.heap.size + 1, 0, none⟩ = some (.int .i64 ok) from cell_at ob)
  have oz0 := (show W.frozen? ⟨w.heap.size + 1, 0, none⟩ = false from frozen_at ob)
  have o1 := (show W.cell? ⟨w.heap.size + 1, 1, none⟩ = some (.int .i64 n) from cell_at ob)
  have oz1 := (show W.frozen? ⟨w.heap.size + 1, 1, none⟩ = false from frozen_at ob)
  have o2 := (show W.cell? ⟨w.heap.size + 1, 2, none⟩ = some (.int .i64 m) from cell_at ob)
  have oz2 := (show W.frozen? ⟨w.heap.size + 1, 2, none⟩ = false from frozen_at ob)
  have o3 := (show W.cell? ⟨w.heap.size + 1, 3, none⟩ = some (.int .i64 F) from cell_at ob)
  have oz3 := (show W.frozen? ⟨w.heap.size + 1, 3, none⟩ = false from frozen_at ob)
  have o4 := (show W.cell? ⟨w.heap.size + 1, 4, none⟩ = some (.int .i64 T) from cell_at ob)
  have oz4 := (show W.frozen? ⟨w.heap.size + 1, 4, none⟩ = false from frozen_at ob)
  have ol := lt_of_cell o0
  have ob' := Lib.hid ob
  clear ob
  have rb := (Fr.refl [] W).keep hb2'.out (by simp)
  have r0 := (show W.cell? ⟨w.heap.size + 2, 0, none⟩ = some (.int .i64 0) from cell_at rb)
  have rz0 := (show W.frozen? ⟨w.heap.size + 2, 0, none⟩ = false from frozen_at rb)
  have r1 := (show W.cell? ⟨w.heap.size + 2, 1, none⟩ = some (.slice none 0 0) from cell_at rb)
  have rz1 := (show W.frozen? ⟨w.heap.size + 2, 1, none⟩ = false from frozen_at rb)
  have r2 := (show W.cell? ⟨w.heap.size + 2, 2, none⟩ = some (.slice none 0 0) from cell_at rb)
  have rz2 := (show W.frozen? ⟨w.heap.size + 2, 2, none⟩ = false from frozen_at rb)
  have r3 := (show W.cell? ⟨w.heap.size + 2, 3, none⟩ = some (.int .i64 0) from cell_at rb)
  have rz3 := (show W.frozen? ⟨w.heap.size + 2, 3, none⟩ = false from frozen_at rb)
  have rl := lt_of_cell r0
  have rb' := Lib.hid rb
  clear rb
  have hhas : ∀ (X : World) (i : Int), Fr [] w X → _ := fun X i hX => rhas_any ((hsv'.out).fr hX (by simp)) (by omega) i
  have hasW := hhas W n hFW
  have hhas' := Lib.hid hhas
  clear hhas
  by_cases h1 : F < 0
  · have hv : placeR ⟨ep, sv, pt, tb⟩ n m F T = (71, ⟨ep, sv, pt, tb⟩) := by unfold placeR; rw [if_pos (.inl h1)]
    rw [hv, if_neg (by simp)]
    dsimp only
    clear hv
    go_enter Tryd.func35, Tryd.ntmps35
    go_upto_region 1 with (fail)
    rw [← hW'.out]
    go_wp2
    have h4 := set4 hb2'.out (.int .i64 0) (.slice none 0 0) (.slice none 0 0) (.int .i64 0)
    have f4 := fr_set4 (W) (w.heap.size + 2) (.int .i64 0) (.slice none 0 0) (.slice none 0 0) (.int .i64 0)
    obtain ⟨wf, hwf⟩ : ∃ wf, wf = (((W.setCell ⟨w.heap.size + 2, 0, none⟩ (.int .i64 0)).setCell ⟨w.heap.size + 2, 1, none⟩ (.slice none 0 0)).setCell ⟨w.heap.size + 2, 2, none⟩ (.slice none 0 0)).setCell ⟨w.heap.size + 2, 3, none⟩ (.int .i64 0) := ⟨_, rfl⟩
    rw [← hwf] at h4 f4 ⊢
    have p0 := (show wf.cell? ⟨w.heap.size + 2, 0, none⟩ = some (.int .i64 0) from cell_at h4)
    have p1 := (show wf.cell? ⟨w.heap.size + 2, 1, none⟩ = some (.slice none 0 0) from cell_at h4)
    have p2 := (show wf.cell? ⟨w.heap.size + 2, 2, none⟩ = some (.slice none 0 0) from cell_at h4)
    have p3 := (show wf.cell? ⟨w.heap.size + 2, 3, none⟩ = some (.int .i64 0) from cell_at h4)
    refine bodyPost_ret (v := .tuple #[.agg #[.int .i64 0, .slice none 0 0, .slice none 0 0, .int .i64 0], .int .i64 71]) (by simp [results, Tryd.results35, go_sem, p0, p1, p2, p3]) rfl ?_
    have hff : Fr [] w wf := (hFW).andThen f4 (fun t ht => .inr (by simp at ht; omega))
    exact ⟨_, _, rfl, hff, zero_is _⟩
  
  have h1b : decide (F < 0) = false := by simpa using h1
  by_cases h2 : T ≤ F
  · have hv : placeR ⟨ep, sv, pt, tb⟩ n m F T = (71, ⟨ep, sv, pt, tb⟩) := by unfold placeR; rw [if_pos (.inr (.inl h2))]
    rw [hv, if_neg (by simp)]
    dsimp only
    clear hv
    go_enter Tryd.func35, Tryd.ntmps35
    go_upto_region 1 with (fail)
    rw [← hW'.out]
    go_wp2
    have h4 := set4 hb2'.out (.int .i64 0) (.slice none 0 0) (.slice none 0 0) (.int .i64 0)
    have f4 := fr_set4 (W) (w.heap.size + 2) (.int .i64 0) (.slice none 0 0) (.slice none 0 0) (.int .i64 0)
    obtain ⟨wf, hwf⟩ : ∃ wf, wf = (((W.setCell ⟨w.heap.size + 2, 0, none⟩ (.int .i64 0)).setCell ⟨w.heap.size + 2, 1, none⟩ (.slice none 0 0)).setCell ⟨w.heap.size + 2, 2, none⟩ (.slice none 0 0)).setCell ⟨w.heap.size + 2, 3, none⟩ (.int .i64 0) := ⟨_, rfl⟩
    rw [← hwf] at h4 f4 ⊢
    have p0 := (show wf.cell? ⟨w.heap.size + 2, 0, none⟩ = some (.int .i64 0) from cell_at h4)
    have p1 := (show wf.cell? ⟨w.heap.size + 2, 1, none⟩ = some (.slice none 0 0) from cell_at h4)
    have p2 := (show wf.cell? ⟨w.heap.size + 2, 2, none⟩ = some (.slice none 0 0) from cell_at h4)
    have p3 := (show wf.cell? ⟨w.heap.size + 2, 3, none⟩ = some (.int .i64 0) from cell_at h4)
    refine bodyPost_ret (v := .tuple #[.agg #[.int .i64 0, .slice none 0 0, .slice none 0 0, .int .i64 0], .int .i64 71]) (by simp [results, Tryd.results35, go_sem, p0, p1, p2, p3]) rfl ?_
    have hff : Fr [] w wf := (hFW).andThen f4 (fun t ht => .inr (by simp at ht; omega))
    exact ⟨_, _, rfl, hff, zero_is _⟩
  
  have h2b : decide (T ≤ F) = false := by simpa using h2
  by_cases h3 : 256 < T
  · have hv : placeR ⟨ep, sv, pt, tb⟩ n m F T = (71, ⟨ep, sv, pt, tb⟩) := by unfold placeR; rw [if_pos (.inr (.inr h3))]
    rw [hv, if_neg (by simp)]
    dsimp only
    clear hv
    go_enter Tryd.func35, Tryd.ntmps35
    go_upto_region 1 with (fail)
    rw [← hW'.out]
    go_wp2
    have h4 := set4 hb2'.out (.int .i64 0) (.slice none 0 0) (.slice none 0 0) (.int .i64 0)
    have f4 := fr_set4 (W) (w.heap.size + 2) (.int .i64 0) (.slice none 0 0) (.slice none 0 0) (.int .i64 0)
    obtain ⟨wf, hwf⟩ : ∃ wf, wf = (((W.setCell ⟨w.heap.size + 2, 0, none⟩ (.int .i64 0)).setCell ⟨w.heap.size + 2, 1, none⟩ (.slice none 0 0)).setCell ⟨w.heap.size + 2, 2, none⟩ (.slice none 0 0)).setCell ⟨w.heap.size + 2, 3, none⟩ (.int .i64 0) := ⟨_, rfl⟩
    rw [← hwf] at h4 f4 ⊢
    have p0 := (show wf.cell? ⟨w.heap.size + 2, 0, none⟩ = some (.int .i64 0) from cell_at h4)
    have p1 := (show wf.cell? ⟨w.heap.size + 2, 1, none⟩ = some (.slice none 0 0) from cell_at h4)
    have p2 := (show wf.cell? ⟨w.heap.size + 2, 2, none⟩ = some (.slice none 0 0) from cell_at h4)
    have p3 := (show wf.cell? ⟨w.heap.size + 2, 3, none⟩ = some (.int .i64 0) from cell_at h4)
    refine bodyPost_ret (v := .tuple #[.agg #[.int .i64 0, .slice none 0 0, .slice none 0 0, .int .i64 0], .int .i64 71]) (by simp [results, Tryd.results35, go_sem, p0, p1, p2, p3]) rfl ?_
    have hff : Fr [] w wf := (hFW).andThen f4 (fun t ht => .inr (by simp at ht; omega))
    exact ⟨_, _, rfl, hff, zero_is _⟩
  
  have h3b : decide (256 < T) = false := by simpa using h3
  have hr : ¬ (F < 0 ∨ T ≤ F ∨ 256 < T) := by omega
  by_cases h4 : n = m
  · have hv : placeR ⟨ep, sv, pt, tb⟩ n m F T = (1, ⟨ep, sv, pt, tb⟩) := by unfold placeR; rw [if_neg hr, if_pos h4]
    rw [hv, if_neg (by simp)]
    dsimp only
    clear hv
    have h4b : (n == m) = true := by simpa using h4
    clear h4
    go_enter Tryd.func35, Tryd.ntmps35
    go_upto_region 1 with (fail)
    rw [← hW'.out]
    go_wp2
    have h4 := set4 hb2'.out (.int .i64 0) (.slice none 0 0) (.slice none 0 0) (.int .i64 0)
    have f4 := fr_set4 (W) (w.heap.size + 2) (.int .i64 0) (.slice none 0 0) (.slice none 0 0) (.int .i64 0)
    obtain ⟨wf, hwf⟩ : ∃ wf, wf = (((W.setCell ⟨w.heap.size + 2, 0, none⟩ (.int .i64 0)).setCell ⟨w.heap.size + 2, 1, none⟩ (.slice none 0 0)).setCell ⟨w.heap.size + 2, 2, none⟩ (.slice none 0 0)).setCell ⟨w.heap.size + 2, 3, none⟩ (.int .i64 0) := ⟨_, rfl⟩
    rw [← hwf] at h4 f4 ⊢
    have p0 := (show wf.cell? ⟨w.heap.size + 2, 0, none⟩ = some (.int .i64 0) from cell_at h4)
    have p1 := (show wf.cell? ⟨w.heap.size + 2, 1, none⟩ = some (.slice none 0 0) from cell_at h4)
    have p2 := (show wf.cell? ⟨w.heap.size + 2, 2, none⟩ = some (.slice none 0 0) from cell_at h4)
    have p3 := (show wf.cell? ⟨w.heap.size + 2, 3, none⟩ = some (.int .i64 0) from cell_at h4)
    refine bodyPost_ret (v := .tuple #[.agg #[.int .i64 0, .slice none 0 0, .slice none 0 0, .int .i64 0], .int .i64 1]) (by simp [results, Tryd.results35, go_sem, p0, p1, p2, p3]) rfl ?_
    have hff : Fr [] w wf := (hFW).andThen f4 (fun t ht => .inr (by simp at ht; omega))
    exact ⟨_, _, rfl, hff, zero_is _⟩
  
  have h4b : (n == m) = false := by simpa using h4
  have hcf : ∀ i : Int, i ∉ sv → sv.contains i = false := fun i hi => by
    cases hc : sv.contains i with
    | false => rfl
    | true => exact absurd (List.contains_iff_mem.1 hc) hi
  by_cases h5 : n ∉ sv
  · have hv : placeR ⟨ep, sv, pt, tb⟩ n m F T = (3, ⟨ep, sv, pt, tb⟩) := by unfold placeR; rw [if_neg hr, if_neg h4, if_pos (.inl h5)]
    rw [hv, if_neg (by simp)]
    dsimp only
    clear hv
    rw [hcf n h5] at hasW
    clear h5 hr h4 hcf
    go_enter Tryd.func35, Tryd.ntmps35
    go_upto_region 1 with (fail)
    rw [← hW'.out]
    go_wp2_with (first | (go_at_call 21; refine hasW.mono ?_; rintro e w1 ⟨rfl, hf1⟩; have xb := hf1.keep hb2'.out (by simp); have x0 := (show w1.cell? ⟨w.heap.size + 2, 0, none⟩ = some (.int .i64 0) from cell_at xb); have xz0 := (show w1.frozen? ⟨w.heap.size + 2, 0, none⟩ = false from frozen_at xb); have x1 := (show w1.cell? ⟨w.heap.size + 2, 1, none⟩ = some (.slice none 0 0) from cell_at xb); have xz1 := (show w1.frozen? ⟨w.heap.size + 2, 1, none⟩ = false from frozen_at xb); have x2 := (show w1.cell? ⟨w.heap.size + 2, 2, none⟩ = some (.slice none 0 0) from cell_at xb); have xz2 := (show w1.frozen? ⟨w.heap.size + 2, 2, none⟩ = false from frozen_at xb); have x3 := (show w1.cell? ⟨w.heap.size + 2, 3, none⟩ = some (.int .i64 0) from cell_at xb); have xz3 := (show w1.frozen? ⟨w.heap.size + 2, 3, none⟩ = false from frozen_at xb); have xl := lt_of_cell x0; have xb' := Lib.hid xb; clear xb))
    have h4 := set4 xb'.out (.int .i64 0) (.slice none 0 0) (.slice none 0 0) (.int .i64 0)
    have f4 := fr_set4 (w1) (w.heap.size + 2) (.int .i64 0) (.slice none 0 0) (.slice none 0 0) (.int .i64 0)
    obtain ⟨wf, hwf⟩ : ∃ wf, wf = (((w1.setCell ⟨w.heap.size + 2, 0, none⟩ (.int .i64 0)).setCell ⟨w.heap.size + 2, 1, none⟩ (.slice none 0 0)).setCell ⟨w.heap.size + 2, 2, none⟩ (.slice none 0 0)).setCell ⟨w.heap.size + 2, 3, none⟩ (.int .i64 0) := ⟨_, rfl⟩
    rw [← hwf] at h4 f4 ⊢
    have p0 := (show wf.cell? ⟨w.heap.size + 2, 0, none⟩ = some (.int .i64 0) from cell_at h4)
    have p1 := (show wf.cell? ⟨w.heap.size + 2, 1, none⟩ = some (.slice none 0 0) from cell_at h4)
    have p2 := (show wf.cell? ⟨w.heap.size + 2, 2, none⟩ = some (.slice none 0 0) from cell_at h4)
    have p3 := (show wf.cell? ⟨w.heap.size + 2, 3, none⟩ = some (.int .i64 0) from cell_at h4)
    refine bodyPost_ret (v := .tuple #[.agg #[.int .i64 0, .slice none 0 0, .slice none 0 0, .int .i64 0], .int .i64 3]) (by simp [results, Tryd.results35, go_sem, p0, p1, p2, p3]) rfl ?_
    have hff : Fr [] w wf := (hFW.trans hf1).andThen f4 (fun t ht => .inr (by simp at ht; omega))
    exact ⟨_, _, rfl, hff, zero_is _⟩
  
  rw [Decidable.not_not] at h5
  rw [List.contains_iff_mem.2 h5] at hasW
  by_cases h6 : m ∉ sv
  · have hv : placeR ⟨ep, sv, pt, tb⟩ n m F T = (3, ⟨ep, sv, pt, tb⟩) := by unfold placeR; rw [if_neg hr, if_neg h4, if_pos (.inr h6)]
    rw [hv, if_neg (by simp)]
    dsimp only
    clear hv
    have hcm := hcf m h6
    clear h5 h6 hr h4 hcf
    go_enter Tryd.func35, Tryd.ntmps35
    go_upto_region 1 with (fail)
    rw [← hW'.out]
    go_wp2_with (first | (go_at_call 21; refine hasW.mono ?_; rintro e w1 ⟨rfl, hf1⟩; have sb := hf1.keep hb1'.out (by simp); have s0 := (show w1.cell? ⟨w.heap.size, 0, none⟩ = some (.int .i64 ep) from cell_at sb); have sz0 := (show w1.frozen? ⟨w.heap.size, 0, none⟩ = false from frozen_at sb); have s1 := (show w1.cell? ⟨w.heap.size, 1, none⟩ = some (.slice a1 sv.length cap1) from cell_at sb); have sz1 := (show w1.frozen? ⟨w.heap.size, 1, none⟩ = false from frozen_at sb); have s2 := (show w1.cell? ⟨w.heap.size, 2, none⟩ = some (.slice a2 pt.length cap2) from cell_at sb); have sz2 := (show w1.frozen? ⟨w.heap.size, 2, none⟩ = false from frozen_at sb); have s3 := (show w1.cell? ⟨w.heap.size, 3, none⟩ = some (.int .i64 tb) from cell_at sb); have sz3 := (show w1.frozen? ⟨w.heap.size, 3, none⟩ = false from frozen_at sb); have sl := lt_of_cell s0; have sb' := Lib.hid sb; clear sb; have pb := hf1.keep hb3'.out (by simp); have p0 := (show w1.cell? ⟨w.heap.size + 1, 0, none⟩ = some (.int .i64 ok) from cell_at pb); have pz0 := (show w1.frozen? ⟨w.heap.size + 1, 0, none⟩ = false from frozen_at pb); have p1 := (show w1.cell? ⟨w.heap.size + 1, 1, none⟩ = some (.int .i64 n) from cell_at pb); have pz1 := (show w1.frozen? ⟨w.heap.size + 1, 1, none⟩ = false from frozen_at pb); have p2 := (show w1.cell? ⟨w.heap.size + 1, 2, none⟩ = some (.int .i64 m) from cell_at pb); have pz2 := (show w1.frozen? ⟨w.heap.size + 1, 2, none⟩ = false from frozen_at pb); have p3 := (show w1.cell? ⟨w.heap.size + 1, 3, none⟩ = some (.int .i64 F) from cell_at pb); have pz3 := (show w1.frozen? ⟨w.heap.size + 1, 3, none⟩ = false from frozen_at pb); have p4 := (show w1.cell? ⟨w.heap.size + 1, 4, none⟩ = some (.int .i64 T) from cell_at pb); have pz4 := (show w1.frozen? ⟨w.heap.size + 1, 4, none⟩ = false from frozen_at pb); have pl := lt_of_cell p0; have pb' := Lib.hid pb; clear pb; have hasM := hhas'.out w1 m (hFW.trans hf1); rw [hcm] at hasM; clear hasW) | (go_at_call 21; refine hasM.mono ?_; rintro e w2 ⟨rfl, hf2⟩; have hf12 := hf1.trans hf2; have xb := hf12.keep hb2'.out (by simp); have x0 := (show w2.cell? ⟨w.heap.size + 2, 0, none⟩ = some (.int .i64 0) from cell_at xb); have xz0 := (show w2.frozen? ⟨w.heap.size + 2, 0, none⟩ = false from frozen_at xb); have x1 := (show w2.cell? ⟨w.heap.size + 2, 1, none⟩ = some (.slice none 0 0) from cell_at xb); have xz1 := (show w2.frozen? ⟨w.heap.size + 2, 1, none⟩ = false from frozen_at xb); have x2 := (show w2.cell? ⟨w.heap.size + 2, 2, none⟩ = some (.slice none 0 0) from cell_at xb); have xz2 := (show w2.frozen? ⟨w.heap.size + 2, 2, none⟩ = false from frozen_at xb); have x3 := (show w2.cell? ⟨w.heap.size + 2, 3, none⟩ = some (.int .i64 0) from cell_at xb); have xz3 := (show w2.frozen? ⟨w.heap.size + 2, 3, none⟩ = false from frozen_at xb); have xl := lt_of_cell x0; have xb' := Lib.hid xb; clear xb))
    have h4 := set4 xb'.out (.int .i64 0) (.slice none 0 0) (.slice none 0 0) (.int .i64 0)
    have f4 := fr_set4 (w2) (w.heap.size + 2) (.int .i64 0) (.slice none 0 0) (.slice none 0 0) (.int .i64 0)
    obtain ⟨wf, hwf⟩ : ∃ wf, wf = (((w2.setCell ⟨w.heap.size + 2, 0, none⟩ (.int .i64 0)).setCell ⟨w.heap.size + 2, 1, none⟩ (.slice none 0 0)).setCell ⟨w.heap.size + 2, 2, none⟩ (.slice none 0 0)).setCell ⟨w.heap.size + 2, 3, none⟩ (.int .i64 0) := ⟨_, rfl⟩
    rw [← hwf] at h4 f4 ⊢
    have p0 := (show wf.cell? ⟨w.heap.size + 2, 0, none⟩ = some (.int .i64 0) from cell_at h4)
    have p1 := (show wf.cell? ⟨w.heap.size + 2, 1, none⟩ = some (.slice none 0 0) from cell_at h4)
    have p2 := (show wf.cell? ⟨w.heap.size + 2, 2, none⟩ = some (.slice none 0 0) from cell_at h4)
    have p3 := (show wf.cell? ⟨w.heap.size + 2, 3, none⟩ = some (.int .i64 0) from cell_at h4)
    refine bodyPost_ret (v := .tuple #[.agg #[.int .i64 0, .slice none 0 0, .slice none 0 0, .int .i64 0], .int .i64 3]) (by simp [results, Tryd.results35, go_sem, p0, p1, p2, p3]) rfl ?_
    have hff : Fr [] w wf := (hFW.trans hf12).andThen f4 (fun t ht => .inr (by simp at ht; omega))
    exact ⟨_, _, rfl, hff, zero_is _⟩
  
  rw [Decidable.not_not] at h6
  have hv : placeR ⟨ep, sv, pt, tb⟩ n m F T = (0, ⟨ep, sv, partsP (setR F T (n, m) 0 (blk pt)), tb⟩) := by unfold placeR; rw [if_neg hr, if_neg h4, if_neg (fun h => h.elim (fun a => a h5) (fun a => a h6))]
  rw [hv, if_pos rfl]
  dsimp only
  have hcm := List.contains_iff_mem.2 h6
  clear hv h4 h5 h6 hcf
  go_enter Tryd.func35, Tryd.ntmps35
  go_upto_region 1 with (fail)
  rw [← hW'.out]
  go_wp2_with (first | (go_at_call 21; refine hasW.mono ?_; rintro e w1 ⟨rfl, hf1⟩; have sb := hf1.keep hb1'.out (by simp); have s0 := (show w1.cell? ⟨w.heap.size, 0, none⟩ = some (.int .i64 ep) from cell_at sb); have sz0 := (show w1.frozen? ⟨w.heap.size, 0, none⟩ = false from frozen_at sb); have s1 := (show w1.cell? ⟨w.heap.size, 1, none⟩ = some (.slice a1 sv.length cap1) from cell_at sb); have sz1 := (show w1.frozen? ⟨w.heap.size, 1, none⟩ = false from frozen_at sb); have s2 := (show w1.cell? ⟨w.heap.size, 2, none⟩ = some (.slice a2 pt.length cap2) from cell_at sb); have sz2 := (show w1.frozen? ⟨w.heap.size, 2, none⟩ = false from frozen_at sb); have s3 := (show w1.cell? ⟨w.heap.size, 3, none⟩ = some (.int .i64 tb) from cell_at sb); have sz3 := (show w1.frozen? ⟨w.heap.size, 3, none⟩ = false from frozen_at sb); have sl := lt_of_cell s0; have sb' := Lib.hid sb; clear sb; have pb := hf1.keep hb3'.out (by simp); have p0 := (show w1.cell? ⟨w.heap.size + 1, 0, none⟩ = some (.int .i64 ok) from cell_at pb); have pz0 := (show w1.frozen? ⟨w.heap.size + 1, 0, none⟩ = false from frozen_at pb); have p1 := (show w1.cell? ⟨w.heap.size + 1, 1, none⟩ = some (.int .i64 n) from cell_at pb); have pz1 := (show w1.frozen? ⟨w.heap.size + 1, 1, none⟩ = false from frozen_at pb); have p2 := (show w1.cell? ⟨w.heap.size + 1, 2, none⟩ = some (.int .i64 m) from cell_at pb); have pz2 := (show w1.frozen? ⟨w.heap.size + 1, 2, none⟩ = false from frozen_at pb); have p3 := (show w1.cell? ⟨w.heap.size + 1, 3, none⟩ = some (.int .i64 F) from cell_at pb); have pz3 := (show w1.frozen? ⟨w.heap.size + 1, 3, none⟩ = false from frozen_at pb); have p4 := (show w1.cell? ⟨w.heap.size + 1, 4, none⟩ = some (.int .i64 T) from cell_at pb); have pz4 := (show w1.frozen? ⟨w.heap.size + 1, 4, none⟩ = false from frozen_at pb); have pl := lt_of_cell p0; have pb' := Lib.hid pb; clear pb; have hasM := hhas'.out w1 m (hFW.trans hf1); rw [hcm] at hasM; clear hasW) | (go_at_call 21; refine hasM.mono ?_; rintro e w2 ⟨rfl, hf2⟩; have hf12 := hf1.trans hf2; have Sb := hf12.keep hb1'.out (by simp); have S0 := (show w2.cell? ⟨w.heap.size, 0, none⟩ = some (.int .i64 ep) from cell_at Sb); have Sz0 := (show w2.frozen? ⟨w.heap.size, 0, none⟩ = false from frozen_at Sb); have S1 := (show w2.cell? ⟨w.heap.size, 1, none⟩ = some (.slice a1 sv.length cap1) from cell_at Sb); have Sz1 := (show w2.frozen? ⟨w.heap.size, 1, none⟩ = false from frozen_at Sb); have S2 := (show w2.cell? ⟨w.heap.size, 2, none⟩ = some (.slice a2 pt.length cap2) from cell_at Sb); have Sz2 := (show w2.frozen? ⟨w.heap.size, 2, none⟩ = false from frozen_at Sb); have S3 := (show w2.cell? ⟨w.heap.size, 3, none⟩ = some (.int .i64 tb) from cell_at Sb); have Sz3 := (show w2.frozen? ⟨w.heap.size, 3, none⟩ = false from frozen_at Sb); have Sl := lt_of_cell S0; have Sb' := Lib.hid Sb; clear Sb; have Pb := hf12.keep hb3'.out (by simp); have P0 := (show w2.cell? ⟨w.heap.size + 1, 0, none⟩ = some (.int .i64 ok) from cell_at Pb); have Pz0 := (show w2.frozen? ⟨w.heap.size + 1, 0, none⟩ = false from frozen_at Pb); have P1 := (show w2.cell? ⟨w.heap.size + 1, 1, none⟩ = some (.int .i64 n) from cell_at Pb); have Pz1 := (show w2.frozen? ⟨w.heap.size + 1, 1, none⟩ = false from frozen_at Pb); have P2 := (show w2.cell? ⟨w.heap.size + 1, 2, none⟩ = some (.int .i64 m) from cell_at Pb); have Pz2 := (show w2.frozen? ⟨w.heap.size + 1, 2, none⟩ = false from frozen_at Pb); have P3 := (show w2.cell? ⟨w.heap.size + 1, 3, none⟩ = some (.int .i64 F) from cell_at Pb); have Pz3 := (show w2.frozen? ⟨w.heap.size + 1, 3, none⟩ = false from frozen_at Pb); have P4 := (show w2.cell? ⟨w.heap.size + 1, 4, none⟩ = some (.int .i64 T) from cell_at Pb); have Pz4 := (show w2.frozen? ⟨w.heap.size + 1, 4, none⟩ = false from frozen_at Pb); have Pl := lt_of_cell P0; have Pb' := Lib.hid Pb; clear Pb; have hblk1 := hblk'.out w2 (hFW.trans hf12)) | (go_at_call 51; refine hblk1.mono ?_; rintro e w3 ⟨vL, rfl, hf3, hownL⟩; have ub := (hf12.trans hf3).keep hb1'.out (by simp); have u0 := (show w3.cell? ⟨w.heap.size, 0, none⟩ = some (.int .i64 ep) from cell_at ub); have uz0 := (show w3.frozen? ⟨w.heap.size, 0, none⟩ = false from frozen_at ub); have u1 := (show w3.cell? ⟨w.heap.size, 1, none⟩ = some (.slice a1 sv.length cap1) from cell_at ub); have uz1 := (show w3.frozen? ⟨w.heap.size, 1, none⟩ = false from frozen_at ub); have u2 := (show w3.cell? ⟨w.heap.size, 2, none⟩ = some (.slice a2 pt.length cap2) from cell_at ub); have uz2 := (show w3.frozen? ⟨w.heap.size, 2, none⟩ = false from frozen_at ub); have u3 := (show w3.cell? ⟨w.heap.size, 3, none⟩ = some (.int .i64 tb) from cell_at ub); have uz3 := (show w3.frozen? ⟨w.heap.size, 3, none⟩ = false from frozen_at ub); have ul := lt_of_cell u0; have ub' := Lib.hid ub; clear ub; have qb := (hf12.trans hf3).keep hb3'.out (by simp); have q0 := (show w3.cell? ⟨w.heap.size + 1, 0, none⟩ = some (.int .i64 ok) from cell_at qb); have qz0 := (show w3.frozen? ⟨w.heap.size + 1, 0, none⟩ = false from frozen_at qb); have q1 := (show w3.cell? ⟨w.heap.size + 1, 1, none⟩ = some (.int .i64 n) from cell_at qb); have qz1 := (show w3.frozen? ⟨w.heap.size + 1, 1, none⟩ = false from frozen_at qb); have q2 := (show w3.cell? ⟨w.heap.size + 1, 2, none⟩ = some (.int .i64 m) from cell_at qb); have qz2 := (show w3.frozen? ⟨w.heap.size + 1, 2, none⟩ = false from frozen_at qb); have q3 := (show w3.cell? ⟨w.heap.size + 1, 3, none⟩ = some (.int .i64 F) from cell_at qb); have qz3 := (show w3.frozen? ⟨w.heap.size + 1, 3, none⟩ = false from frozen_at qb); have q4 := (show w3.cell? ⟨w.heap.size + 1, 4, none⟩ = some (.int .i64 T) from cell_at qb); have qz4 := (show w3.frozen? ⟨w.heap.size + 1, 4, none⟩ = false from frozen_at qb); have ql := lt_of_cell q0; have qb' := Lib.hid qb; clear qb))
  have hz1 := hf1.size
  have hz12 := hf12.size
  have hz3 := hf3.size
  have hW3 : Fr [] w w3 := (hFW.trans hf12).trans hf3
  have hF3 : Fr [] W w3 := hf12.trans hf3
  obtain ⟨f, rfl⟩ : ∃ f : Nat, F = f := ⟨F.toNat, by omega⟩
  obtain ⟨t, rfl⟩ : ∃ t : Nat, T = t := ⟨T.toNat, by omega⟩
  have hft : f < t := by omega
  have ht256 : t ≤ 256 := by omega
  obtain ⟨gL, capL, hvL, hL1, hL2, _, _, _⟩ := owns_cell (enc := encB) hownL encB_len (by rintro e; rw [e] at hbl; simp at hbl)
  subst hvL
  have hbl2 : (blk pt).length = 256 := hbl
  have hbl2' := Lib.hid hbl2
  have hownL0 : w3.ownsRow w2.heap.size 73 4 (.slice (some ⟨gL, 0, none⟩) (blk pt).length capL) (setR f f (n, m) 0 (blk pt)).length ((setR f f (n, m) 0 (blk pt)).flatMap encB) := by
    rw [setR_none]; exact hownL
  have hW3' := Lib.hid hW3; have hF3' := Lib.hid hF3; have hownL0' := Lib.hid hownL0
  clear hownL hownL0 hf1 hf12 hf3 hf2 hW3 hF3 hbl hbl2 hr h1 h2 h3 h1b h2b h3b h4b hcm
  clear k0 k1 k2 k3 kz0 kz1 kz2 kz3 kl o0 o1 o2 o3 o4 oz0 oz1 oz2 oz3 oz4 ol r0 r1 r2 r3 rz0 rz1 rz2 rz3 rl s0 s1 s2 s3 sz0 sz1 sz2 sz3 sl p0 p1 p2 p3 p4 pz0 pz1 pz2 pz3 pz4 pl S0 S1 S2 S3 Sz0 Sz1 Sz2 Sz3 Sl P0 P1 P2 P3 P4 Pz0 Pz1 Pz2 Pz3 Pz4 Pl u0 u1 u2 u3 uz0 uz1 uz2 uz3 ul q0 q1 q2 q3 q4 qz0 qz1 qz2 qz3 qz4 ql
  go_loopg [7] (t - f) (fun gk iv wr => ∃ i : Nat, f ≤ i ∧ i ≤ t ∧ gk = t - i ∧ iv = .int .i64 i ∧ wr.ownsRow w2.heap.size 73 4 (.slice (some ⟨gL, 0, none⟩) (blk pt).length capL) (setR f i (n, m) 0 (blk pt)).length ((setR f i (n, m) 0 (blk pt)).flatMap encB) ∧ Fr [gL] w3 wr)
  case atStart => exact ⟨f, by omega, by omega, rfl, rfl, hownL0'.out, Fr.refl _ _⟩
  case round =>
    obtain ⟨i, hfi, hi, hgk, rfl, hown, hfr⟩ := hrel
    have hgk' := Lib.hid hgk
    clear hgk
    have hzr := hfr.size
    have hFr : Fr [gL] W wr := (hF3'.out.mono (by simp)).trans hfr
    have hFw : Fr [] w wr := hW3'.out.andThen hfr (fun t ht => .inr (by simp at ht; omega))
    have kb := hFr.keep hb1'.out (by simp; omega)
    have k0 := (show wr.cell? ⟨w.heap.size, 0, none⟩ = some (.int .i64 ep) from cell_at kb)
    have kz0 := (show wr.frozen? ⟨w.heap.size, 0, none⟩ = false from frozen_at kb)
    have k1 := (show wr.cell? ⟨w.heap.size, 1, none⟩ = some (.slice a1 sv.length cap1) from cell_at kb)
    have kz1 := (show wr.frozen? ⟨w.heap.size, 1, none⟩ = false from frozen_at kb)
    have k2 := (show wr.cell? ⟨w.heap.size, 2, none⟩ = some (.slice a2 pt.length cap2) from cell_at kb)
    have kz2 := (show wr.frozen? ⟨w.heap.size, 2, none⟩ = false from frozen_at kb)
    have k3 := (show wr.cell? ⟨w.heap.size, 3, none⟩ = some (.int .i64 tb) from cell_at kb)
    have kz3 := (show wr.frozen? ⟨w.heap.size, 3, none⟩ = false from frozen_at kb)
    have kl := lt_of_cell k0
    have kb' := Lib.hid kb
    clear kb
    have ob := hFr.keep hb3'.out (by simp; omega)
    have o0 := (show wr.cell? ⟨w.heap.size + 1, 0, none⟩ = some (.int .i64 ok) from cell_at ob)
    have oz0 := (show wr.frozen? ⟨w.heap.size + 1, 0, none⟩ = false from frozen_at ob)
    have o1 := (show wr.cell? ⟨w.heap.size + 1, 1, none⟩ = some (.int .i64 n) from cell_at ob)
    have oz1 := (show wr.frozen? ⟨w.heap.size + 1, 1, none⟩ = false from frozen_at ob)
    have o2 := (show wr.cell? ⟨w.heap.size + 1, 2, none⟩ = some (.int .i64 m) from cell_at ob)
    have oz2 := (show wr.frozen? ⟨w.heap.size + 1, 2, none⟩ = false from frozen_at ob)
    have o3 := (show wr.cell? ⟨w.heap.size + 1, 3, none⟩ = some (.int .i64 f) from cell_at ob)
    have oz3 := (show wr.frozen? ⟨w.heap.size + 1, 3, none⟩ = false from frozen_at ob)
    have o4 := (show wr.cell? ⟨w.heap.size + 1, 4, none⟩ = some (.int .i64 t) from cell_at ob)
    have oz4 := (show wr.frozen? ⟨w.heap.size + 1, 4, none⟩ = false from frozen_at ob)
    have ol := lt_of_cell o0
    have ob' := Lib.hid ob
    clear ob
    have rb := hFr.keep hb2'.out (by simp; omega)
    have r0 := (show wr.cell? ⟨w.heap.size + 2, 0, none⟩ = some (.int .i64 0) from cell_at rb)
    have rz0 := (show wr.frozen? ⟨w.heap.size + 2, 0, none⟩ = false from frozen_at rb)
    have r1 := (show wr.cell? ⟨w.heap.size + 2, 1, none⟩ = some (.slice none 0 0) from cell_at rb)
    have rz1 := (show wr.frozen? ⟨w.heap.size + 2, 1, none⟩ = false from frozen_at rb)
    have r2 := (show wr.cell? ⟨w.heap.size + 2, 2, none⟩ = some (.slice none 0 0) from cell_at rb)
    have rz2 := (show wr.frozen? ⟨w.heap.size + 2, 2, none⟩ = false from frozen_at rb)
    have r3 := (show wr.cell? ⟨w.heap.size + 2, 3, none⟩ = some (.int .i64 0) from cell_at rb)
    have rz3 := (show wr.frozen? ⟨w.heap.size + 2, 3, none⟩ = false from frozen_at rb)
    have rl := lt_of_cell r0
    have rb' := Lib.hid rb
    clear rb
    have hFr' := Lib.hid hFr; have hFw' := Lib.hid hFw; have hfr' := Lib.hid hfr
    clear hFr hFw hfr
    by_cases hlt : i < t
    · have hML := setR_len f i (n, m) (blk pt) 0
      obtain ⟨x, hx⟩ : ∃ x, (setR f i (n, m) 0 (blk pt))[i]? = some x := ⟨_, List.getElem?_eq_getElem (by have := hbl2'.out; omega)⟩
      have hset := setR_set (x := (n, m)) (l := blk pt) hfi (by have := hbl2'.out; omega)
      obtain ⟨gL', capL', hvL, _, _, _, hnf, hcL⟩ := owns_cell (enc := encB) hown encB_len (by rintro e; rw [e] at hML; simp at hML; have := hbl2'.out; omega)
      rw [hML] at hvL
      cases hvL
      have c0 := hcL i _ 0 _ hx rfl
      have c1 := hcL i _ 1 _ hx rfl
      have c2 := hcL i _ 2 _ hx rfl
      have c3 := hcL i _ 3 _ hx rfl
      rw [Nat.add_zero] at c0
      have n0 := hnf (i * 4)
      have n1 := hnf (i * 4 + 1)
      have n2 := hnf (i * 4 + 2)
      have n3 := hnf (i * 4 + 3)
      have lc := lt_of_cell c0
      obtain ⟨x1, x2⟩ := x
      have hput := owns_put hown hx n m
      rw [hset] at hput
      have hput' := Lib.hid hput
      dsimp only at c2 c3
      clear hown hput hset hx hnf hcL hML
      have hib : i < (blk pt).length := by have := hbl2'.out; omega
      have hib2 : (i : Int) < ((blk pt).length : Int) := by omega
      go_wp2
      go_roundg (t - (i + 1))
      case rel => exact ⟨i + 1, by omega, by omega, rfl, by go_num, hput'.out, hfr'.out.trans (((((Fr.refl [gL] wr).setCell _ _ (.inl (by simp))).setCell _ _ (.inl (by simp))).setCell _ _ (.inl (by simp))).setCell _ _ (.inl (by simp)))⟩
      case measure => rw [hgk'.out]; omega
    · have he : i = t := by omega
      subst he
      have hML := setR_len f i (n, m) (blk pt) 0
      have hslL := SliceIs.of_owns hown rfl
      have hpl : (setR f i (n, m) 0 (blk pt)).length < 1000000 := by have := hbl2'.out; omega
      have hcp := parts_any _ _ wr hslL hpl
      have hML' := Lib.hid hML
      clear hown hslL hML
      go_wp2_with (first | (go_at_call 53; refine hcp.mono ?_; rintro e w6 ⟨v6, rfl, hf6, hown6⟩; obtain ⟨a6, cap6, rfl, _, _, _⟩ := SliceIs.of_owns hown6 rfl; have hz6 := hf6.size; have hFr6 := hFr'.out.trans (hf6.mono (T := [gL]) (by simp)); have Kb := hFr6.keep hb1'.out (by simp; omega); have K0 := (show w6.cell? ⟨w.heap.size, 0, none⟩ = some (.int .i64 ep) from cell_at Kb); have Kz0 := (show w6.frozen? ⟨w.heap.size, 0, none⟩ = false from frozen_at Kb); have K1 := (show w6.cell? ⟨w.heap.size, 1, none⟩ = some (.slice a1 sv.length cap1) from cell_at Kb); have Kz1 := (show w6.frozen? ⟨w.heap.size, 1, none⟩ = false from frozen_at Kb); have K2 := (show w6.cell? ⟨w.heap.size, 2, none⟩ = some (.slice a2 pt.length cap2) from cell_at Kb); have Kz2 := (show w6.frozen? ⟨w.heap.size, 2, none⟩ = false from frozen_at Kb); have K3 := (show w6.cell? ⟨w.heap.size, 3, none⟩ = some (.int .i64 tb) from cell_at Kb); have Kz3 := (show w6.frozen? ⟨w.heap.size, 3, none⟩ = false from frozen_at Kb); have Kl := lt_of_cell K0; have Kb' := Lib.hid Kb; clear Kb; have Rb := hFr6.keep hb2'.out (by simp; omega); have R0 := (show w6.cell? ⟨w.heap.size + 2, 0, none⟩ = some (.int .i64 0) from cell_at Rb); have Rz0 := (show w6.frozen? ⟨w.heap.size + 2, 0, none⟩ = false from frozen_at Rb); have R1 := (show w6.cell? ⟨w.heap.size + 2, 1, none⟩ = some (.slice none 0 0) from cell_at Rb); have Rz1 := (show w6.frozen? ⟨w.heap.size + 2, 1, none⟩ = false from frozen_at Rb); have R2 := (show w6.cell? ⟨w.heap.size + 2, 2, none⟩ = some (.slice none 0 0) from cell_at Rb); have Rz2 := (show w6.frozen? ⟨w.heap.size + 2, 2, none⟩ = false from frozen_at Rb); have R3 := (show w6.cell? ⟨w.heap.size + 2, 3, none⟩ = some (.int .i64 0) from cell_at Rb); have Rz3 := (show w6.frozen? ⟨w.heap.size + 2, 3, none⟩ = false from frozen_at Rb); have Rl := lt_of_cell R0; have Rb' := Lib.hid Rb; clear Rb; have hown6' := Lib.hid hown6; have hf6' := Lib.hid hf6; clear hown6 hf6 hFr6))
      have f7 : Fr [w.heap.size] w6 (w6.setCell ⟨w.heap.size, 2, none⟩ (.slice a6 (partsP (setR (↑f) (↑i) (n, m) 0 (blk pt))).length cap6)) := (Fr.refl [w.heap.size] w6).setCell _ _ (.inl (by simp))
      have rb7 := f7.keep Rb'.out (by simp)
      have h4 := set4 rb7 (.int .i64 ep) (.slice a1 sv.length cap1) (.slice a6 (partsP (setR (↑f) (↑i) (n, m) 0 (blk pt))).length cap6) (.int .i64 tb)
      have f4 := fr_set4 ((w6.setCell ⟨w.heap.size, 2, none⟩ (.slice a6 (partsP (setR (↑f) (↑i) (n, m) 0 (blk pt))).length cap6))) (w.heap.size + 2) (.int .i64 ep) (.slice a1 sv.length cap1) (.slice a6 (partsP (setR (↑f) (↑i) (n, m) 0 (blk pt))).length cap6) (.int .i64 tb)
      obtain ⟨wf, hwf⟩ : ∃ wf, wf = ((((w6.setCell ⟨w.heap.size, 2, none⟩ (.slice a6 (partsP (setR (↑f) (↑i) (n, m) 0 (blk pt))).length cap6)).setCell ⟨w.heap.size + 2, 0, none⟩ (.int .i64 ep)).setCell ⟨w.heap.size + 2, 1, none⟩ (.slice a1 sv.length cap1)).setCell ⟨w.heap.size + 2, 2, none⟩ (.slice a6 (partsP (setR (↑f) (↑i) (n, m) 0 (blk pt))).length cap6)).setCell ⟨w.heap.size + 2, 3, none⟩ (.int .i64 tb) := ⟨_, rfl⟩
      rw [← hwf] at h4 f4 ⊢
      have p0 := (show wf.cell? ⟨w.heap.size + 2, 0, none⟩ = some (.int .i64 ep) from cell_at h4)
      have p1 := (show wf.cell? ⟨w.heap.size + 2, 1, none⟩ = some (.slice a1 sv.length cap1) from cell_at h4)
      have p2 := (show wf.cell? ⟨w.heap.size + 2, 2, none⟩ = some (.slice a6 (partsP (setR (↑f) (↑i) (n, m) 0 (blk pt))).length cap6) from cell_at h4)
      have p3 := (show wf.cell? ⟨w.heap.size + 2, 3, none⟩ = some (.int .i64 tb) from cell_at h4)
      refine bodyPost_ret (v := .tuple #[.agg #[.int .i64 ep, .slice a1 sv.length cap1, .slice a6 (partsP (setR (↑f) (↑i) (n, m) 0 (blk pt))).length cap6, .int .i64 tb], .int .i64 0]) (by simp [results, Tryd.results35, go_sem, p0, p1, p2, p3]) rfl ?_
      have hff : Fr [] w wf := (((hFw'.out.trans hf6'.out).andThen f7 (fun t ht => .inr (by simp at ht; omega)))).andThen f4 (fun t ht => .inr (by simp at ht; omega))
      exact ⟨_, _, rfl, hff, (((((((hsv'.out).imp (B' := fun g => B g ∧ g < w.heap.size) (fun g hg h => ⟨h, hg⟩)).fr hFw'.out (by simp)).fr hf6'.out (by simp)).fr f7 (by intro g hg _; have := hg.2; simp; omega)).fr f4 (by intro g hg _; have := hg.2; simp; omega)).imp (fun g _ h => .inl h.1)), (SliceIs.of_owns (owns_fr (owns_fr hown6'.out f7 (by simp; omega)) f4 (by simp; omega)) rfl).imp (fun g _ (h : _ ≤ g) => .inr (by omega))⟩
end Go.Proofs.YthhpamaeibjpaaaDoor
end
section
namespace Go.Proofs.YthhpamaeibjpaaaDoor
open Go.RowKit Go.Maps Go.Lib Go.Sort
theorem apply_bad {c : Cfg} (o : Ord) (h : okC c = false) : applyP c o = (zeroCfg, 1) := by unfold applyP; rw [if_pos h]
theorem apply_max {c : Cfg} (o : Ord) (h : okC c = true) (he : c.ep = 1099511627776) : applyP c o = (zeroCfg, 6) := by unfold applyP; rw [if_neg (by simp [h]), if_pos he]
theorem apply_kind {c : Cfg} (o : Ord) (h : okC c = true) (he : c.ep ≠ 1099511627776) (hk : o.1 < 1 ∨ 4 < o.1) : applyP c o = (zeroCfg, 1) := by unfold applyP; rw [if_neg (by simp [h]), if_neg he, if_pos hk]
theorem apply_do {c : Cfg} (o : Ord) (h : okC c = true) (he : c.ep ≠ 1099511627776) (hk : ¬ (o.1 < 1 ∨ 4 < o.1)) : applyP c o = if (doP c o).1 = 0 then ({ (doP c o).2 with ep := c.ep + 1 }, 0) else (zeroCfg, (doP c o).1) := by unfold applyP; rw [if_neg (by simp [h]), if_neg he, if_neg hk]
theorem do_ep {c : Cfg} {o : Ord} : (doP c o).2.ep = c.ep := by
  unfold doP comeP leaveP placeP tablesP
  repeat' split
  all_goals rfl
set_option maxRecDepth 100000 in
set_option maxHeartbeats 16000000 in
theorem rapply_any {B : Nat → Prop} (c : Cfg) (vs vp : Value) (o : Ord) (w : World) (h : CfgIs w B vs vp c) (hs : c.sv.length < 1000000) (hp : c.pt.length < 1000000) :
    Calls Tryd.prog 15 #[aggC c vs vp, aggO o] w (OutC B w (applyP c o)) := by
  have hcfg := h.imp (B' := fun g => B g ∧ g < w.heap.size) (fun g hg hb => ⟨hb, hg⟩)
  obtain ⟨ep, sv, pt, tb⟩ := c
  obtain ⟨ok, n, m, F, T⟩ := o
  obtain ⟨hsv, hpt⟩ := h
  dsimp only at hsv hpt hs hp
  have hsv0 := hsv; have hpt0 := hpt
  obtain ⟨a1, cap1, rfl, hs1, hs2, hat1⟩ := hsv.at encI_len
  obtain ⟨a2, cap2, rfl, hp1, hp2, hat2⟩ := hpt.at encPt_len
  have hat1' := Lib.hid hat1; have hat2' := Lib.hid hat2; have hsv' := Lib.hid hsv0; have hpt' := Lib.hid hpt0
  unfold aggC aggO
  dsimp only
  clear hat1 hat2 hsv hpt hsv0 hpt0
  obtain ⟨W, hW⟩ : ∃ W, W = ((w.alloc (.cells #[.int .i64 ep, .slice a1 sv.length cap1, .slice a2 pt.length cap2, .int .i64 tb] 37)).alloc (.cells #[.int .i64 ok, .int .i64 n, .int .i64 m, .int .i64 F, .int .i64 T] 44)).alloc (.cells #[.int .i64 0, .slice none 0 0, .slice none 0 0, .int .i64 0] 37) := ⟨_, rfl⟩
  have hFW : Fr [] w W := by rw [hW]; exact (((Fr.refl _ _).alloc _).alloc _).alloc _
  have hb1 : W.heap[w.heap.size]? = some (.cells #[.int .i64 ep, .slice a1 sv.length cap1, .slice a2 pt.length cap2, .int .i64 tb] 37 (0, 0)) := by
    rw [hW]; exact (((Fr.refl [] _).alloc _).alloc _).keep (heap_alloc_new w _) (by simp)
  have hb3 : W.heap[w.heap.size + 1]? = some (.cells #[.int .i64 ok, .int .i64 n, .int .i64 m, .int .i64 F, .int .i64 T] 44 (0, 0)) := by
    rw [hW]
    have := ((Fr.refl [] _).alloc (.cells #[.int .i64 0, .slice none 0 0, .slice none 0 0, .int .i64 0] 37)).keep (heap_alloc_new (w.alloc (.cells #[.int .i64 ep, .slice a1 sv.length cap1, .slice a2 pt.length cap2, .int .i64 tb] 37)) (.cells #[.int .i64 ok, .int .i64 n, .int .i64 m, .int .i64 F, .int .i64 T] 44)) (by simp)
    simpa using this
  have hb2 : W.heap[w.heap.size + 2]? = some (.cells #[.int .i64 0, .slice none 0 0, .slice none 0 0, .int .i64 0] 37 (0, 0)) := by
    rw [hW]
    have := heap_alloc_new ((w.alloc (.cells #[.int .i64 ep, .slice a1 sv.length cap1, .slice a2 pt.length cap2, .int .i64 tb] 37)).alloc (.cells #[.int .i64 ok, .int .i64 n, .int .i64 m, .int .i64 F, .int .i64 T] 44)) (.cells #[.int .i64 0, .slice none 0 0, .slice none 0 0, .int .i64 0] 37)
    simpa using this
  have hzW : W.heap.size = w.heap.size + 3 := by rw [hW]; simp
  have hb1' := Lib.hid hb1; have hb2' := Lib.hid hb2; have hb3' := Lib.hid hb3; have hW' := Lib.hid hW
  clear hW hb1 hb2 hb3
  have hchk : ∀ X, Fr [] w X → _ := fun X hX => rcheck_any (hcfg.fr0 hX) (by dsimp only; omega) (by dsimp only; omega)
  have hchk := hchk W hFW
  have hcfg' := Lib.hid hcfg
  unfold aggC at hchk
  dsimp only at hchk
  clear hcfg
  have kb := (Fr.refl [] W).keep hb1'.out (by simp)
  have k0 := (show W.cell? ⟨w.heap.size, 0, none⟩ = some (.int .i64 ep) from cell_at kb)
  have kz0 := (show W.frozen? ⟨w.heap.size, 0, none⟩ = false from frozen_at kb)
  have k1 := (show W.cell? ⟨w.heap.size, 1, none⟩ = some (.slice a1 sv.length cap1) from cell_at kb)
  have kz1 := (show W.frozen? ⟨w.heap.size, 1, none⟩ = false from frozen_at kb)
  have k2 := (show W.cell? ⟨w.heap.size, 2, none⟩ = some (.slice a2 pt.length cap2) from cell_at kb)
  have kz2 := (show W.frozen? ⟨w.heap.size, 2, none⟩ = false from frozen_at kb)
  have k3 := (show W.cell? ⟨w.heap.size, 3, none⟩ = some (.int .i64 tb) from cell_at kb)
  have kz3 := (show W.frozen? ⟨w.heap.size, 3, none⟩ = false from frozen_at kb)
  have kl := lt_of_cell k0
  have kb' := Lib.hid kb
  clear kb
  have ob := (Fr.refl [] W).keep hb3'.out (by simp)
  have o0 := (show W.cell? ⟨w.heap.size + 1, 0, none⟩ = some (.int .i64 ok) from cell_at ob)
  have oz0 := (show W.frozen? ⟨w.heap.size + 1, 0, none⟩ = false from frozen_at ob)
  have o1 := (show W.cell? ⟨w.heap.size + 1, 1, none⟩ = some (.int .i64 n) from cell_at ob)
  have oz1 := (show W.frozen? ⟨w.heap.size + 1, 1, none⟩ = false from frozen_at ob)
  have o2 := (show W.cell? ⟨w.heap.size + 1, 2, none⟩ = some (.int .i64 m) from cell_at ob)
  have oz2 := (show W.frozen? ⟨w.heap.size + 1, 2, none⟩ = false from frozen_at ob)
  have o3 := (show W.cell? ⟨w.heap.size + 1, 3, none⟩ = some (.int .i64 F) from cell_at ob)
  have oz3 := (show W.frozen? ⟨w.heap.size + 1, 3, none⟩ = false from frozen_at ob)
  have o4 := (show W.cell? ⟨w.heap.size + 1, 4, none⟩ = some (.int .i64 T) from cell_at ob)
  have oz4 := (show W.frozen? ⟨w.heap.size + 1, 4, none⟩ = false from frozen_at ob)
  have ol := lt_of_cell o0
  have ob' := Lib.hid ob
  clear ob
  have rb := (Fr.refl [] W).keep hb2'.out (by simp)
  have r0 := (show W.cell? ⟨w.heap.size + 2, 0, none⟩ = some (.int .i64 0) from cell_at rb)
  have rz0 := (show W.frozen? ⟨w.heap.size + 2, 0, none⟩ = false from frozen_at rb)
  have r1 := (show W.cell? ⟨w.heap.size + 2, 1, none⟩ = some (.slice none 0 0) from cell_at rb)
  have rz1 := (show W.frozen? ⟨w.heap.size + 2, 1, none⟩ = false from frozen_at rb)
  have r2 := (show W.cell? ⟨w.heap.size + 2, 2, none⟩ = some (.slice none 0 0) from cell_at rb)
  have rz2 := (show W.frozen? ⟨w.heap.size + 2, 2, none⟩ = false from frozen_at rb)
  have r3 := (show W.cell? ⟨w.heap.size + 2, 3, none⟩ = some (.int .i64 0) from cell_at rb)
  have rz3 := (show W.frozen? ⟨w.heap.size + 2, 3, none⟩ = false from frozen_at rb)
  have rl := lt_of_cell r0
  have rb' := Lib.hid rb
  clear rb
  cases ho : okC ⟨ep, sv, pt, tb⟩ with
  | false =>
    rw [apply_bad _ ho]
    have he : errC ⟨ep, sv, pt, tb⟩ = 1 := by unfold errC; rw [if_neg (by simp [ho])]
    rw [he] at hchk
    clear he ho
    go_enter Tryd.func15, Tryd.ntmps15
    go_upto_region 1 with (fail)
    rw [← hW'.out]
    go_wp2_with (first | (go_at_call 11; refine hchk.mono ?_; rintro e w1 ⟨rfl, hf1⟩; have sb := hf1.keep hb1'.out (by simp); have s0 := (show w1.cell? ⟨w.heap.size, 0, none⟩ = some (.int .i64 ep) from cell_at sb); have sz0 := (show w1.frozen? ⟨w.heap.size, 0, none⟩ = false from frozen_at sb); have s1 := (show w1.cell? ⟨w.heap.size, 1, none⟩ = some (.slice a1 sv.length cap1) from cell_at sb); have sz1 := (show w1.frozen? ⟨w.heap.size, 1, none⟩ = false from frozen_at sb); have s2 := (show w1.cell? ⟨w.heap.size, 2, none⟩ = some (.slice a2 pt.length cap2) from cell_at sb); have sz2 := (show w1.frozen? ⟨w.heap.size, 2, none⟩ = false from frozen_at sb); have s3 := (show w1.cell? ⟨w.heap.size, 3, none⟩ = some (.int .i64 tb) from cell_at sb); have sz3 := (show w1.frozen? ⟨w.heap.size, 3, none⟩ = false from frozen_at sb); have sl := lt_of_cell s0; have sb' := Lib.hid sb; clear sb; have pb := hf1.keep hb3'.out (by simp); have p0 := (show w1.cell? ⟨w.heap.size + 1, 0, none⟩ = some (.int .i64 ok) from cell_at pb); have pz0 := (show w1.frozen? ⟨w.heap.size + 1, 0, none⟩ = false from frozen_at pb); have p1 := (show w1.cell? ⟨w.heap.size + 1, 1, none⟩ = some (.int .i64 n) from cell_at pb); have pz1 := (show w1.frozen? ⟨w.heap.size + 1, 1, none⟩ = false from frozen_at pb); have p2 := (show w1.cell? ⟨w.heap.size + 1, 2, none⟩ = some (.int .i64 m) from cell_at pb); have pz2 := (show w1.frozen? ⟨w.heap.size + 1, 2, none⟩ = false from frozen_at pb); have p3 := (show w1.cell? ⟨w.heap.size + 1, 3, none⟩ = some (.int .i64 F) from cell_at pb); have pz3 := (show w1.frozen? ⟨w.heap.size + 1, 3, none⟩ = false from frozen_at pb); have p4 := (show w1.cell? ⟨w.heap.size + 1, 4, none⟩ = some (.int .i64 T) from cell_at pb); have pz4 := (show w1.frozen? ⟨w.heap.size + 1, 4, none⟩ = false from frozen_at pb); have pl := lt_of_cell p0; have pb' := Lib.hid pb; clear pb; have xb := hf1.keep hb2'.out (by simp); have x0 := (show w1.cell? ⟨w.heap.size + 2, 0, none⟩ = some (.int .i64 0) from cell_at xb); have xz0 := (show w1.frozen? ⟨w.heap.size + 2, 0, none⟩ = false from frozen_at xb); have x1 := (show w1.cell? ⟨w.heap.size + 2, 1, none⟩ = some (.slice none 0 0) from cell_at xb); have xz1 := (show w1.frozen? ⟨w.heap.size + 2, 1, none⟩ = false from frozen_at xb); have x2 := (show w1.cell? ⟨w.heap.size + 2, 2, none⟩ = some (.slice none 0 0) from cell_at xb); have xz2 := (show w1.frozen? ⟨w.heap.size + 2, 2, none⟩ = false from frozen_at xb); have x3 := (show w1.cell? ⟨w.heap.size + 2, 3, none⟩ = some (.int .i64 0) from cell_at xb); have xz3 := (show w1.frozen? ⟨w.heap.size + 2, 3, none⟩ = false from frozen_at xb); have xl := lt_of_cell x0; have xb' := Lib.hid xb; clear xb; clear hchk))
    have h4 := set4 xb'.out (.int .i64 0) (.slice none 0 0) (.slice none 0 0) (.int .i64 0)
    have f4 := fr_set4 (w1) (w.heap.size + 2) (.int .i64 0) (.slice none 0 0) (.slice none 0 0) (.int .i64 0)
    obtain ⟨wf, hwf⟩ : ∃ wf, wf = (((w1.setCell ⟨w.heap.size + 2, 0, none⟩ (.int .i64 0)).setCell ⟨w.heap.size + 2, 1, none⟩ (.slice none 0 0)).setCell ⟨w.heap.size + 2, 2, none⟩ (.slice none 0 0)).setCell ⟨w.heap.size + 2, 3, none⟩ (.int .i64 0) := ⟨_, rfl⟩
    rw [← hwf] at h4 f4 ⊢
    have p0 := (show wf.cell? ⟨w.heap.size + 2, 0, none⟩ = some (.int .i64 0) from cell_at h4)
    have p1 := (show wf.cell? ⟨w.heap.size + 2, 1, none⟩ = some (.slice none 0 0) from cell_at h4)
    have p2 := (show wf.cell? ⟨w.heap.size + 2, 2, none⟩ = some (.slice none 0 0) from cell_at h4)
    have p3 := (show wf.cell? ⟨w.heap.size + 2, 3, none⟩ = some (.int .i64 0) from cell_at h4)
    refine bodyPost_ret (v := .tuple #[.agg #[.int .i64 0, .slice none 0 0, .slice none 0 0, .int .i64 0], .int .i64 1]) (by simp [results, Tryd.results15, go_sem, p0, p1, p2, p3]) rfl ?_
    have hff : Fr [] w wf := (hFW.trans hf1).andThen f4 (fun t ht => .inr (by simp at ht; omega))
    exact ⟨_, _, rfl, hff, zero_is _⟩
  | true =>
    have he : errC ⟨ep, sv, pt, tb⟩ = 0 := by unfold errC; rw [if_pos ho]
    rw [he] at hchk
    clear he
    by_cases h2 : ep = 1099511627776
    · rw [apply_max _ ho h2]
      have h2b : (ep == 1099511627776) = true := by simpa using h2
      clear h2 ho
      go_enter Tryd.func15, Tryd.ntmps15
      go_upto_region 1 with (fail)
      rw [← hW'.out]
      go_wp2_with (first | (go_at_call 11; refine hchk.mono ?_; rintro e w1 ⟨rfl, hf1⟩; have sb := hf1.keep hb1'.out (by simp); have s0 := (show w1.cell? ⟨w.heap.size, 0, none⟩ = some (.int .i64 ep) from cell_at sb); have sz0 := (show w1.frozen? ⟨w.heap.size, 0, none⟩ = false from frozen_at sb); have s1 := (show w1.cell? ⟨w.heap.size, 1, none⟩ = some (.slice a1 sv.length cap1) from cell_at sb); have sz1 := (show w1.frozen? ⟨w.heap.size, 1, none⟩ = false from frozen_at sb); have s2 := (show w1.cell? ⟨w.heap.size, 2, none⟩ = some (.slice a2 pt.length cap2) from cell_at sb); have sz2 := (show w1.frozen? ⟨w.heap.size, 2, none⟩ = false from frozen_at sb); have s3 := (show w1.cell? ⟨w.heap.size, 3, none⟩ = some (.int .i64 tb) from cell_at sb); have sz3 := (show w1.frozen? ⟨w.heap.size, 3, none⟩ = false from frozen_at sb); have sl := lt_of_cell s0; have sb' := Lib.hid sb; clear sb; have pb := hf1.keep hb3'.out (by simp); have p0 := (show w1.cell? ⟨w.heap.size + 1, 0, none⟩ = some (.int .i64 ok) from cell_at pb); have pz0 := (show w1.frozen? ⟨w.heap.size + 1, 0, none⟩ = false from frozen_at pb); have p1 := (show w1.cell? ⟨w.heap.size + 1, 1, none⟩ = some (.int .i64 n) from cell_at pb); have pz1 := (show w1.frozen? ⟨w.heap.size + 1, 1, none⟩ = false from frozen_at pb); have p2 := (show w1.cell? ⟨w.heap.size + 1, 2, none⟩ = some (.int .i64 m) from cell_at pb); have pz2 := (show w1.frozen? ⟨w.heap.size + 1, 2, none⟩ = false from frozen_at pb); have p3 := (show w1.cell? ⟨w.heap.size + 1, 3, none⟩ = some (.int .i64 F) from cell_at pb); have pz3 := (show w1.frozen? ⟨w.heap.size + 1, 3, none⟩ = false from frozen_at pb); have p4 := (show w1.cell? ⟨w.heap.size + 1, 4, none⟩ = some (.int .i64 T) from cell_at pb); have pz4 := (show w1.frozen? ⟨w.heap.size + 1, 4, none⟩ = false from frozen_at pb); have pl := lt_of_cell p0; have pb' := Lib.hid pb; clear pb; have xb := hf1.keep hb2'.out (by simp); have x0 := (show w1.cell? ⟨w.heap.size + 2, 0, none⟩ = some (.int .i64 0) from cell_at xb); have xz0 := (show w1.frozen? ⟨w.heap.size + 2, 0, none⟩ = false from frozen_at xb); have x1 := (show w1.cell? ⟨w.heap.size + 2, 1, none⟩ = some (.slice none 0 0) from cell_at xb); have xz1 := (show w1.frozen? ⟨w.heap.size + 2, 1, none⟩ = false from frozen_at xb); have x2 := (show w1.cell? ⟨w.heap.size + 2, 2, none⟩ = some (.slice none 0 0) from cell_at xb); have xz2 := (show w1.frozen? ⟨w.heap.size + 2, 2, none⟩ = false from frozen_at xb); have x3 := (show w1.cell? ⟨w.heap.size + 2, 3, none⟩ = some (.int .i64 0) from cell_at xb); have xz3 := (show w1.frozen? ⟨w.heap.size + 2, 3, none⟩ = false from frozen_at xb); have xl := lt_of_cell x0; have xb' := Lib.hid xb; clear xb; clear hchk))
      have h4 := set4 xb'.out (.int .i64 0) (.slice none 0 0) (.slice none 0 0) (.int .i64 0)
      have f4 := fr_set4 (w1) (w.heap.size + 2) (.int .i64 0) (.slice none 0 0) (.slice none 0 0) (.int .i64 0)
      obtain ⟨wf, hwf⟩ : ∃ wf, wf = (((w1.setCell ⟨w.heap.size + 2, 0, none⟩ (.int .i64 0)).setCell ⟨w.heap.size + 2, 1, none⟩ (.slice none 0 0)).setCell ⟨w.heap.size + 2, 2, none⟩ (.slice none 0 0)).setCell ⟨w.heap.size + 2, 3, none⟩ (.int .i64 0) := ⟨_, rfl⟩
      rw [← hwf] at h4 f4 ⊢
      have p0 := (show wf.cell? ⟨w.heap.size + 2, 0, none⟩ = some (.int .i64 0) from cell_at h4)
      have p1 := (show wf.cell? ⟨w.heap.size + 2, 1, none⟩ = some (.slice none 0 0) from cell_at h4)
      have p2 := (show wf.cell? ⟨w.heap.size + 2, 2, none⟩ = some (.slice none 0 0) from cell_at h4)
      have p3 := (show wf.cell? ⟨w.heap.size + 2, 3, none⟩ = some (.int .i64 0) from cell_at h4)
      refine bodyPost_ret (v := .tuple #[.agg #[.int .i64 0, .slice none 0 0, .slice none 0 0, .int .i64 0], .int .i64 6]) (by simp [results, Tryd.results15, go_sem, p0, p1, p2, p3]) rfl ?_
      have hff : Fr [] w wf := (hFW.trans hf1).andThen f4 (fun t ht => .inr (by simp at ht; omega))
      exact ⟨_, _, rfl, hff, zero_is _⟩
    have h2b : (ep == 1099511627776) = false := by simpa using h2
    by_cases h3 : ok < 1 ∨ 4 < ok
    · rw [apply_kind _ ho h2 h3]
      have j1 : (ok == 1) = false := by simp; omega
      have j2 : (ok == 2) = false := by simp; omega
      have j3 : (ok == 3) = false := by simp; omega
      have j4 : (ok == 4) = false := by simp; omega
      clear h2 h3 ho
      go_enter Tryd.func15, Tryd.ntmps15
      go_upto_region 1 with (fail)
      rw [← hW'.out]
      go_wp2_with (first | (go_at_call 11; refine hchk.mono ?_; rintro e w1 ⟨rfl, hf1⟩; have sb := hf1.keep hb1'.out (by simp); have s0 := (show w1.cell? ⟨w.heap.size, 0, none⟩ = some (.int .i64 ep) from cell_at sb); have sz0 := (show w1.frozen? ⟨w.heap.size, 0, none⟩ = false from frozen_at sb); have s1 := (show w1.cell? ⟨w.heap.size, 1, none⟩ = some (.slice a1 sv.length cap1) from cell_at sb); have sz1 := (show w1.frozen? ⟨w.heap.size, 1, none⟩ = false from frozen_at sb); have s2 := (show w1.cell? ⟨w.heap.size, 2, none⟩ = some (.slice a2 pt.length cap2) from cell_at sb); have sz2 := (show w1.frozen? ⟨w.heap.size, 2, none⟩ = false from frozen_at sb); have s3 := (show w1.cell? ⟨w.heap.size, 3, none⟩ = some (.int .i64 tb) from cell_at sb); have sz3 := (show w1.frozen? ⟨w.heap.size, 3, none⟩ = false from frozen_at sb); have sl := lt_of_cell s0; have sb' := Lib.hid sb; clear sb; have pb := hf1.keep hb3'.out (by simp); have p0 := (show w1.cell? ⟨w.heap.size + 1, 0, none⟩ = some (.int .i64 ok) from cell_at pb); have pz0 := (show w1.frozen? ⟨w.heap.size + 1, 0, none⟩ = false from frozen_at pb); have p1 := (show w1.cell? ⟨w.heap.size + 1, 1, none⟩ = some (.int .i64 n) from cell_at pb); have pz1 := (show w1.frozen? ⟨w.heap.size + 1, 1, none⟩ = false from frozen_at pb); have p2 := (show w1.cell? ⟨w.heap.size + 1, 2, none⟩ = some (.int .i64 m) from cell_at pb); have pz2 := (show w1.frozen? ⟨w.heap.size + 1, 2, none⟩ = false from frozen_at pb); have p3 := (show w1.cell? ⟨w.heap.size + 1, 3, none⟩ = some (.int .i64 F) from cell_at pb); have pz3 := (show w1.frozen? ⟨w.heap.size + 1, 3, none⟩ = false from frozen_at pb); have p4 := (show w1.cell? ⟨w.heap.size + 1, 4, none⟩ = some (.int .i64 T) from cell_at pb); have pz4 := (show w1.frozen? ⟨w.heap.size + 1, 4, none⟩ = false from frozen_at pb); have pl := lt_of_cell p0; have pb' := Lib.hid pb; clear pb; have xb := hf1.keep hb2'.out (by simp); have x0 := (show w1.cell? ⟨w.heap.size + 2, 0, none⟩ = some (.int .i64 0) from cell_at xb); have xz0 := (show w1.frozen? ⟨w.heap.size + 2, 0, none⟩ = false from frozen_at xb); have x1 := (show w1.cell? ⟨w.heap.size + 2, 1, none⟩ = some (.slice none 0 0) from cell_at xb); have xz1 := (show w1.frozen? ⟨w.heap.size + 2, 1, none⟩ = false from frozen_at xb); have x2 := (show w1.cell? ⟨w.heap.size + 2, 2, none⟩ = some (.slice none 0 0) from cell_at xb); have xz2 := (show w1.frozen? ⟨w.heap.size + 2, 2, none⟩ = false from frozen_at xb); have x3 := (show w1.cell? ⟨w.heap.size + 2, 3, none⟩ = some (.int .i64 0) from cell_at xb); have xz3 := (show w1.frozen? ⟨w.heap.size + 2, 3, none⟩ = false from frozen_at xb); have xl := lt_of_cell x0; have xb' := Lib.hid xb; clear xb; clear hchk))
      have h4 := set4 xb'.out (.int .i64 0) (.slice none 0 0) (.slice none 0 0) (.int .i64 0)
      have f4 := fr_set4 (w1) (w.heap.size + 2) (.int .i64 0) (.slice none 0 0) (.slice none 0 0) (.int .i64 0)
      obtain ⟨wf, hwf⟩ : ∃ wf, wf = (((w1.setCell ⟨w.heap.size + 2, 0, none⟩ (.int .i64 0)).setCell ⟨w.heap.size + 2, 1, none⟩ (.slice none 0 0)).setCell ⟨w.heap.size + 2, 2, none⟩ (.slice none 0 0)).setCell ⟨w.heap.size + 2, 3, none⟩ (.int .i64 0) := ⟨_, rfl⟩
      rw [← hwf] at h4 f4 ⊢
      have p0 := (show wf.cell? ⟨w.heap.size + 2, 0, none⟩ = some (.int .i64 0) from cell_at h4)
      have p1 := (show wf.cell? ⟨w.heap.size + 2, 1, none⟩ = some (.slice none 0 0) from cell_at h4)
      have p2 := (show wf.cell? ⟨w.heap.size + 2, 2, none⟩ = some (.slice none 0 0) from cell_at h4)
      have p3 := (show wf.cell? ⟨w.heap.size + 2, 3, none⟩ = some (.int .i64 0) from cell_at h4)
      refine bodyPost_ret (v := .tuple #[.agg #[.int .i64 0, .slice none 0 0, .slice none 0 0, .int .i64 0], .int .i64 1]) (by simp [results, Tryd.results15, go_sem, p0, p1, p2, p3]) rfl ?_
      have hff : Fr [] w wf := (hFW.trans hf1).andThen f4 (fun t ht => .inr (by simp at ht; omega))
      exact ⟨_, _, rfl, hff, zero_is _⟩
    rw [apply_do _ ho h2 h3]
    by_cases e1 : ok = 1
    · subst e1
      have hd : doP ⟨ep, sv, pt, tb⟩ (1, n, m, F, T) = comeP ⟨ep, sv, pt, tb⟩ n := by unfold doP; rw [if_pos rfl]
      have hcall0 : ∀ X, Fr [] w X → _ := fun X hX => rcome_any _ _ _ n X (hcfg'.out.fr0 hX) hs hp
      have hep := do_ep (c := ⟨ep, sv, pt, tb⟩) (o := (1, n, m, F, T))
      rw [hd] at hep ⊢
      obtain ⟨r, hr⟩ : ∃ r, r = comeP ⟨ep, sv, pt, tb⟩ n := ⟨_, rfl⟩
      simp only [← hr] at hcall0 hep ⊢
      obtain ⟨code, ep', sv', pt', tb'⟩ := r
      dsimp only at hep hcall0 ⊢
      have hep := hep.symm
      subst hep
      by_cases hz : code = 0
      · subst hz
        simp only [if_true] at hcall0
        rw [if_pos rfl]
        have hcall0 := Lib.hid hcall0
        have hep64 : ep < 1099511627776 := by
          have := ((okC_iff _).1 ho).1
          dsimp only at this
          omega
        have hep1 : 1 ≤ ep := by
          have := ((okC_iff _).1 ho).1
          dsimp only at this
          omega
        clear hr hd h2 h3 ho
        go_enter Tryd.func15, Tryd.ntmps15
        go_upto_region 1 with (fail)
        rw [← hW'.out]
        go_wp2_with (first | (go_at_call 11; refine hchk.mono ?_; rintro e w1 ⟨rfl, hf1⟩; have sb := hf1.keep hb1'.out (by simp); have s0 := (show w1.cell? ⟨w.heap.size, 0, none⟩ = some (.int .i64 ep) from cell_at sb); have sz0 := (show w1.frozen? ⟨w.heap.size, 0, none⟩ = false from frozen_at sb); have s1 := (show w1.cell? ⟨w.heap.size, 1, none⟩ = some (.slice a1 sv.length cap1) from cell_at sb); have sz1 := (show w1.frozen? ⟨w.heap.size, 1, none⟩ = false from frozen_at sb); have s2 := (show w1.cell? ⟨w.heap.size, 2, none⟩ = some (.slice a2 pt.length cap2) from cell_at sb); have sz2 := (show w1.frozen? ⟨w.heap.size, 2, none⟩ = false from frozen_at sb); have s3 := (show w1.cell? ⟨w.heap.size, 3, none⟩ = some (.int .i64 tb) from cell_at sb); have sz3 := (show w1.frozen? ⟨w.heap.size, 3, none⟩ = false from frozen_at sb); have sl := lt_of_cell s0; have sb' := Lib.hid sb; clear sb; have pb := hf1.keep hb3'.out (by simp); have p0 := (show w1.cell? ⟨w.heap.size + 1, 0, none⟩ = some (.int .i64 1) from cell_at pb); have pz0 := (show w1.frozen? ⟨w.heap.size + 1, 0, none⟩ = false from frozen_at pb); have p1 := (show w1.cell? ⟨w.heap.size + 1, 1, none⟩ = some (.int .i64 n) from cell_at pb); have pz1 := (show w1.frozen? ⟨w.heap.size + 1, 1, none⟩ = false from frozen_at pb); have p2 := (show w1.cell? ⟨w.heap.size + 1, 2, none⟩ = some (.int .i64 m) from cell_at pb); have pz2 := (show w1.frozen? ⟨w.heap.size + 1, 2, none⟩ = false from frozen_at pb); have p3 := (show w1.cell? ⟨w.heap.size + 1, 3, none⟩ = some (.int .i64 F) from cell_at pb); have pz3 := (show w1.frozen? ⟨w.heap.size + 1, 3, none⟩ = false from frozen_at pb); have p4 := (show w1.cell? ⟨w.heap.size + 1, 4, none⟩ = some (.int .i64 T) from cell_at pb); have pz4 := (show w1.frozen? ⟨w.heap.size + 1, 4, none⟩ = false from frozen_at pb); have pl := lt_of_cell p0; have pb' := Lib.hid pb; clear pb; have xb := hf1.keep hb2'.out (by simp); have x0 := (show w1.cell? ⟨w.heap.size + 2, 0, none⟩ = some (.int .i64 0) from cell_at xb); have xz0 := (show w1.frozen? ⟨w.heap.size + 2, 0, none⟩ = false from frozen_at xb); have x1 := (show w1.cell? ⟨w.heap.size + 2, 1, none⟩ = some (.slice none 0 0) from cell_at xb); have xz1 := (show w1.frozen? ⟨w.heap.size + 2, 1, none⟩ = false from frozen_at xb); have x2 := (show w1.cell? ⟨w.heap.size + 2, 2, none⟩ = some (.slice none 0 0) from cell_at xb); have xz2 := (show w1.frozen? ⟨w.heap.size + 2, 2, none⟩ = false from frozen_at xb); have x3 := (show w1.cell? ⟨w.heap.size + 2, 3, none⟩ = some (.int .i64 0) from cell_at xb); have xz3 := (show w1.frozen? ⟨w.heap.size + 2, 3, none⟩ = false from frozen_at xb); have xl := lt_of_cell x0; have xb' := Lib.hid xb; clear xb; have hcall := hcall0.out w1 (hFW.trans hf1); unfold aggC at hcall; dsimp only at hcall; have hf1' := Lib.hid hf1; have hz1 := hf1.size; clear hchk hf1) | (go_at_call 33; refine hcall.mono ?_; rintro e w2 ⟨v1, v2, rfl, hf2, hc2⟩; obtain ⟨hc2s, hc2p⟩ := hc2; dsimp only at hc2s hc2p; obtain ⟨a3, cap3, rfl, _, _, _⟩ := id hc2s; obtain ⟨a4, cap4, rfl, _, _, _⟩ := id hc2p; have hf12 := hf1'.out.trans hf2; have ub := hf12.keep hb1'.out (by simp); have u0 := (show w2.cell? ⟨w.heap.size, 0, none⟩ = some (.int .i64 ep) from cell_at ub); have uz0 := (show w2.frozen? ⟨w.heap.size, 0, none⟩ = false from frozen_at ub); have u1 := (show w2.cell? ⟨w.heap.size, 1, none⟩ = some (.slice a1 sv.length cap1) from cell_at ub); have uz1 := (show w2.frozen? ⟨w.heap.size, 1, none⟩ = false from frozen_at ub); have u2 := (show w2.cell? ⟨w.heap.size, 2, none⟩ = some (.slice a2 pt.length cap2) from cell_at ub); have uz2 := (show w2.frozen? ⟨w.heap.size, 2, none⟩ = false from frozen_at ub); have u3 := (show w2.cell? ⟨w.heap.size, 3, none⟩ = some (.int .i64 tb) from cell_at ub); have uz3 := (show w2.frozen? ⟨w.heap.size, 3, none⟩ = false from frozen_at ub); have ul := lt_of_cell u0; have ub' := Lib.hid ub; clear ub; have qb := hf12.keep hb3'.out (by simp); have q0 := (show w2.cell? ⟨w.heap.size + 1, 0, none⟩ = some (.int .i64 1) from cell_at qb); have qz0 := (show w2.frozen? ⟨w.heap.size + 1, 0, none⟩ = false from frozen_at qb); have q1 := (show w2.cell? ⟨w.heap.size + 1, 1, none⟩ = some (.int .i64 n) from cell_at qb); have qz1 := (show w2.frozen? ⟨w.heap.size + 1, 1, none⟩ = false from frozen_at qb); have q2 := (show w2.cell? ⟨w.heap.size + 1, 2, none⟩ = some (.int .i64 m) from cell_at qb); have qz2 := (show w2.frozen? ⟨w.heap.size + 1, 2, none⟩ = false from frozen_at qb); have q3 := (show w2.cell? ⟨w.heap.size + 1, 3, none⟩ = some (.int .i64 F) from cell_at qb); have qz3 := (show w2.frozen? ⟨w.heap.size + 1, 3, none⟩ = false from frozen_at qb); have q4 := (show w2.cell? ⟨w.heap.size + 1, 4, none⟩ = some (.int .i64 T) from cell_at qb); have qz4 := (show w2.frozen? ⟨w.heap.size + 1, 4, none⟩ = false from frozen_at qb); have ql := lt_of_cell q0; have qb' := Lib.hid qb; clear qb; have yb := hf12.keep hb2'.out (by simp); have y0 := (show w2.cell? ⟨w.heap.size + 2, 0, none⟩ = some (.int .i64 0) from cell_at yb); have yz0 := (show w2.frozen? ⟨w.heap.size + 2, 0, none⟩ = false from frozen_at yb); have y1 := (show w2.cell? ⟨w.heap.size + 2, 1, none⟩ = some (.slice none 0 0) from cell_at yb); have yz1 := (show w2.frozen? ⟨w.heap.size + 2, 1, none⟩ = false from frozen_at yb); have y2 := (show w2.cell? ⟨w.heap.size + 2, 2, none⟩ = some (.slice none 0 0) from cell_at yb); have yz2 := (show w2.frozen? ⟨w.heap.size + 2, 2, none⟩ = false from frozen_at yb); have y3 := (show w2.cell? ⟨w.heap.size + 2, 3, none⟩ = some (.int .i64 0) from cell_at yb); have yz3 := (show w2.frozen? ⟨w.heap.size + 2, 3, none⟩ = false from frozen_at yb); have yl := lt_of_cell y0; have yb' := Lib.hid yb; clear yb; have hz2 := hf12.size; have hc2s' := Lib.hid hc2s; have hc2p' := Lib.hid hc2p; have hf12' := Lib.hid hf12; clear hc2s hc2p hf12 hf2 hcall; unfold aggC))
        have h5 := setCell_at (i := 0) (set4 ub'.out (.int .i64 ep) (.slice a3 sv'.length cap3) (.slice a4 pt'.length cap4) (.int .i64 tb')) (.int .i64 (ep + 1))
        have f5 := (fr_set4 w2 w.heap.size (.int .i64 ep) (.slice a3 sv'.length cap3) (.slice a4 pt'.length cap4) (.int .i64 tb')).setCell ⟨w.heap.size, 0, none⟩ (.int .i64 (ep + 1)) (.inl (by simp))
        have rb5 := f5.keep yb'.out (by simp)
        have h4 := set4 rb5 (.int .i64 (ep + 1)) (.slice a3 sv'.length cap3) (.slice a4 pt'.length cap4) (.int .i64 tb')
        have f4 := fr_set4 ((((((w2.setCell ⟨w.heap.size, 0, none⟩ (.int .i64 ep)).setCell ⟨w.heap.size, 1, none⟩ (.slice a3 sv'.length cap3)).setCell ⟨w.heap.size, 2, none⟩ (.slice a4 pt'.length cap4)).setCell ⟨w.heap.size, 3, none⟩ (.int .i64 tb')).setCell ⟨w.heap.size, 0, none⟩ (.int .i64 (ep + 1)))) (w.heap.size + 2) (.int .i64 (ep + 1)) (.slice a3 sv'.length cap3) (.slice a4 pt'.length cap4) (.int .i64 tb')
        obtain ⟨wf, hwf⟩ : ∃ wf, wf = ((((((((w2.setCell ⟨w.heap.size, 0, none⟩ (.int .i64 ep)).setCell ⟨w.heap.size, 1, none⟩ (.slice a3 sv'.length cap3)).setCell ⟨w.heap.size, 2, none⟩ (.slice a4 pt'.length cap4)).setCell ⟨w.heap.size, 3, none⟩ (.int .i64 tb')).setCell ⟨w.heap.size, 0, none⟩ (.int .i64 (ep + 1))).setCell ⟨w.heap.size + 2, 0, none⟩ (.int .i64 (ep + 1))).setCell ⟨w.heap.size + 2, 1, none⟩ (.slice a3 sv'.length cap3)).setCell ⟨w.heap.size + 2, 2, none⟩ (.slice a4 pt'.length cap4)).setCell ⟨w.heap.size + 2, 3, none⟩ (.int .i64 tb') := ⟨_, rfl⟩
        rw [← hwf] at h4 f4 ⊢
        have p0 := (show wf.cell? ⟨w.heap.size + 2, 0, none⟩ = some (.int .i64 (ep + 1)) from cell_at h4)
        have p1 := (show wf.cell? ⟨w.heap.size + 2, 1, none⟩ = some (.slice a3 sv'.length cap3) from cell_at h4)
        have p2 := (show wf.cell? ⟨w.heap.size + 2, 2, none⟩ = some (.slice a4 pt'.length cap4) from cell_at h4)
        have p3 := (show wf.cell? ⟨w.heap.size + 2, 3, none⟩ = some (.int .i64 tb') from cell_at h4)
        refine bodyPost_ret (v := .tuple #[.agg #[.int .i64 (ep + 1), .slice a3 sv'.length cap3, .slice a4 pt'.length cap4, .int .i64 tb'], .int .i64 0]) (by simp [results, Tryd.results15, go_sem, p0, p1, p2, p3]) rfl ?_
        have hff : Fr [] w wf := (((hFW.trans hf12'.out).andThen f5 (fun t ht => .inr (by simp at ht; omega)))).andThen f4 (fun t ht => .inr (by simp at ht; omega))

        exact ⟨_, _, rfl, hff, (((hc2s'.out).fr f5 (by intro g hg _; rcases hg with hg | hg; · { have := hg.2; simp; omega }; · { simp; omega })).fr f4 (by intro g hg _; rcases hg with hg | hg; · { have := hg.2; simp; omega }; · { simp; omega })).imp (fun g _ h => h.elim (fun h => .inl h.1) (fun h => .inr (by omega))), (((hc2p'.out).fr f5 (by intro g hg _; rcases hg with hg | hg; · { have := hg.2; simp; omega }; · { simp; omega })).fr f4 (by intro g hg _; rcases hg with hg | hg; · { have := hg.2; simp; omega }; · { simp; omega })).imp (fun g _ h => h.elim (fun h => .inl h.1) (fun h => .inr (by omega)))⟩
      · have hzb : (code != 0) = true := by simpa using hz
        simp only [if_neg hz] at hcall0
        rw [if_neg hz]
        unfold zeroCfg at hcall0
        have hcall0 := Lib.hid hcall0
        clear hr hd h2 h3 ho hz
        go_enter Tryd.func15, Tryd.ntmps15
        go_upto_region 1 with (fail)
        rw [← hW'.out]
        go_wp2_with (first | (go_at_call 11; refine hchk.mono ?_; rintro e w1 ⟨rfl, hf1⟩; have sb := hf1.keep hb1'.out (by simp); have s0 := (show w1.cell? ⟨w.heap.size, 0, none⟩ = some (.int .i64 ep) from cell_at sb); have sz0 := (show w1.frozen? ⟨w.heap.size, 0, none⟩ = false from frozen_at sb); have s1 := (show w1.cell? ⟨w.heap.size, 1, none⟩ = some (.slice a1 sv.length cap1) from cell_at sb); have sz1 := (show w1.frozen? ⟨w.heap.size, 1, none⟩ = false from frozen_at sb); have s2 := (show w1.cell? ⟨w.heap.size, 2, none⟩ = some (.slice a2 pt.length cap2) from cell_at sb); have sz2 := (show w1.frozen? ⟨w.heap.size, 2, none⟩ = false from frozen_at sb); have s3 := (show w1.cell? ⟨w.heap.size, 3, none⟩ = some (.int .i64 tb) from cell_at sb); have sz3 := (show w1.frozen? ⟨w.heap.size, 3, none⟩ = false from frozen_at sb); have sl := lt_of_cell s0; have sb' := Lib.hid sb; clear sb; have pb := hf1.keep hb3'.out (by simp); have p0 := (show w1.cell? ⟨w.heap.size + 1, 0, none⟩ = some (.int .i64 1) from cell_at pb); have pz0 := (show w1.frozen? ⟨w.heap.size + 1, 0, none⟩ = false from frozen_at pb); have p1 := (show w1.cell? ⟨w.heap.size + 1, 1, none⟩ = some (.int .i64 n) from cell_at pb); have pz1 := (show w1.frozen? ⟨w.heap.size + 1, 1, none⟩ = false from frozen_at pb); have p2 := (show w1.cell? ⟨w.heap.size + 1, 2, none⟩ = some (.int .i64 m) from cell_at pb); have pz2 := (show w1.frozen? ⟨w.heap.size + 1, 2, none⟩ = false from frozen_at pb); have p3 := (show w1.cell? ⟨w.heap.size + 1, 3, none⟩ = some (.int .i64 F) from cell_at pb); have pz3 := (show w1.frozen? ⟨w.heap.size + 1, 3, none⟩ = false from frozen_at pb); have p4 := (show w1.cell? ⟨w.heap.size + 1, 4, none⟩ = some (.int .i64 T) from cell_at pb); have pz4 := (show w1.frozen? ⟨w.heap.size + 1, 4, none⟩ = false from frozen_at pb); have pl := lt_of_cell p0; have pb' := Lib.hid pb; clear pb; have xb := hf1.keep hb2'.out (by simp); have x0 := (show w1.cell? ⟨w.heap.size + 2, 0, none⟩ = some (.int .i64 0) from cell_at xb); have xz0 := (show w1.frozen? ⟨w.heap.size + 2, 0, none⟩ = false from frozen_at xb); have x1 := (show w1.cell? ⟨w.heap.size + 2, 1, none⟩ = some (.slice none 0 0) from cell_at xb); have xz1 := (show w1.frozen? ⟨w.heap.size + 2, 1, none⟩ = false from frozen_at xb); have x2 := (show w1.cell? ⟨w.heap.size + 2, 2, none⟩ = some (.slice none 0 0) from cell_at xb); have xz2 := (show w1.frozen? ⟨w.heap.size + 2, 2, none⟩ = false from frozen_at xb); have x3 := (show w1.cell? ⟨w.heap.size + 2, 3, none⟩ = some (.int .i64 0) from cell_at xb); have xz3 := (show w1.frozen? ⟨w.heap.size + 2, 3, none⟩ = false from frozen_at xb); have xl := lt_of_cell x0; have xb' := Lib.hid xb; clear xb; have hcall := hcall0.out w1 (hFW.trans hf1); unfold aggC at hcall; dsimp only at hcall; have hf1' := Lib.hid hf1; have hz1 := hf1.size; clear hchk hf1) | (go_at_call 33; refine hcall.mono ?_; rintro e w2 ⟨v1, v2, rfl, hf2, hc2⟩; obtain ⟨hc2s, hc2p⟩ := hc2; dsimp only at hc2s hc2p; obtain ⟨a3, cap3, rfl, _, _, _⟩ := id hc2s; obtain ⟨a4, cap4, rfl, _, _, _⟩ := id hc2p; have hf12 := hf1'.out.trans hf2; have ub := hf12.keep hb1'.out (by simp); have u0 := (show w2.cell? ⟨w.heap.size, 0, none⟩ = some (.int .i64 ep) from cell_at ub); have uz0 := (show w2.frozen? ⟨w.heap.size, 0, none⟩ = false from frozen_at ub); have u1 := (show w2.cell? ⟨w.heap.size, 1, none⟩ = some (.slice a1 sv.length cap1) from cell_at ub); have uz1 := (show w2.frozen? ⟨w.heap.size, 1, none⟩ = false from frozen_at ub); have u2 := (show w2.cell? ⟨w.heap.size, 2, none⟩ = some (.slice a2 pt.length cap2) from cell_at ub); have uz2 := (show w2.frozen? ⟨w.heap.size, 2, none⟩ = false from frozen_at ub); have u3 := (show w2.cell? ⟨w.heap.size, 3, none⟩ = some (.int .i64 tb) from cell_at ub); have uz3 := (show w2.frozen? ⟨w.heap.size, 3, none⟩ = false from frozen_at ub); have ul := lt_of_cell u0; have ub' := Lib.hid ub; clear ub; have qb := hf12.keep hb3'.out (by simp); have q0 := (show w2.cell? ⟨w.heap.size + 1, 0, none⟩ = some (.int .i64 1) from cell_at qb); have qz0 := (show w2.frozen? ⟨w.heap.size + 1, 0, none⟩ = false from frozen_at qb); have q1 := (show w2.cell? ⟨w.heap.size + 1, 1, none⟩ = some (.int .i64 n) from cell_at qb); have qz1 := (show w2.frozen? ⟨w.heap.size + 1, 1, none⟩ = false from frozen_at qb); have q2 := (show w2.cell? ⟨w.heap.size + 1, 2, none⟩ = some (.int .i64 m) from cell_at qb); have qz2 := (show w2.frozen? ⟨w.heap.size + 1, 2, none⟩ = false from frozen_at qb); have q3 := (show w2.cell? ⟨w.heap.size + 1, 3, none⟩ = some (.int .i64 F) from cell_at qb); have qz3 := (show w2.frozen? ⟨w.heap.size + 1, 3, none⟩ = false from frozen_at qb); have q4 := (show w2.cell? ⟨w.heap.size + 1, 4, none⟩ = some (.int .i64 T) from cell_at qb); have qz4 := (show w2.frozen? ⟨w.heap.size + 1, 4, none⟩ = false from frozen_at qb); have ql := lt_of_cell q0; have qb' := Lib.hid qb; clear qb; have yb := hf12.keep hb2'.out (by simp); have y0 := (show w2.cell? ⟨w.heap.size + 2, 0, none⟩ = some (.int .i64 0) from cell_at yb); have yz0 := (show w2.frozen? ⟨w.heap.size + 2, 0, none⟩ = false from frozen_at yb); have y1 := (show w2.cell? ⟨w.heap.size + 2, 1, none⟩ = some (.slice none 0 0) from cell_at yb); have yz1 := (show w2.frozen? ⟨w.heap.size + 2, 1, none⟩ = false from frozen_at yb); have y2 := (show w2.cell? ⟨w.heap.size + 2, 2, none⟩ = some (.slice none 0 0) from cell_at yb); have yz2 := (show w2.frozen? ⟨w.heap.size + 2, 2, none⟩ = false from frozen_at yb); have y3 := (show w2.cell? ⟨w.heap.size + 2, 3, none⟩ = some (.int .i64 0) from cell_at yb); have yz3 := (show w2.frozen? ⟨w.heap.size + 2, 3, none⟩ = false from frozen_at yb); have yl := lt_of_cell y0; have yb' := Lib.hid yb; clear yb; have hz2 := hf12.size; have hc2s' := Lib.hid hc2s; have hc2p' := Lib.hid hc2p; have hf12' := Lib.hid hf12; clear hc2s hc2p hf12 hf2 hcall; unfold aggC))
        have h5 := set4 ub'.out (.int .i64 0) (.slice a3 0 cap3) (.slice a4 0 cap4) (.int .i64 0)
        have f5 := fr_set4 w2 w.heap.size (.int .i64 0) (.slice a3 0 cap3) (.slice a4 0 cap4) (.int .i64 0)
        have rb5 := f5.keep yb'.out (by simp)
        have h4 := set4 rb5 (.int .i64 0) (.slice none 0 0) (.slice none 0 0) (.int .i64 0)
        have f4 := fr_set4 (((((w2.setCell ⟨w.heap.size, 0, none⟩ (.int .i64 0)).setCell ⟨w.heap.size, 1, none⟩ (.slice a3 0 cap3)).setCell ⟨w.heap.size, 2, none⟩ (.slice a4 0 cap4)).setCell ⟨w.heap.size, 3, none⟩ (.int .i64 0))) (w.heap.size + 2) (.int .i64 0) (.slice none 0 0) (.slice none 0 0) (.int .i64 0)
        obtain ⟨wf, hwf⟩ : ∃ wf, wf = (((((((w2.setCell ⟨w.heap.size, 0, none⟩ (.int .i64 0)).setCell ⟨w.heap.size, 1, none⟩ (.slice a3 0 cap3)).setCell ⟨w.heap.size, 2, none⟩ (.slice a4 0 cap4)).setCell ⟨w.heap.size, 3, none⟩ (.int .i64 0)).setCell ⟨w.heap.size + 2, 0, none⟩ (.int .i64 0)).setCell ⟨w.heap.size + 2, 1, none⟩ (.slice none 0 0)).setCell ⟨w.heap.size + 2, 2, none⟩ (.slice none 0 0)).setCell ⟨w.heap.size + 2, 3, none⟩ (.int .i64 0) := ⟨_, rfl⟩
        rw [← hwf] at h4 f4 ⊢
        have p0 := (show wf.cell? ⟨w.heap.size + 2, 0, none⟩ = some (.int .i64 0) from cell_at h4)
        have p1 := (show wf.cell? ⟨w.heap.size + 2, 1, none⟩ = some (.slice none 0 0) from cell_at h4)
        have p2 := (show wf.cell? ⟨w.heap.size + 2, 2, none⟩ = some (.slice none 0 0) from cell_at h4)
        have p3 := (show wf.cell? ⟨w.heap.size + 2, 3, none⟩ = some (.int .i64 0) from cell_at h4)
        refine bodyPost_ret (v := .tuple #[.agg #[.int .i64 0, .slice none 0 0, .slice none 0 0, .int .i64 0], .int .i64 code]) (by simp [results, Tryd.results15, go_sem, p0, p1, p2, p3]) rfl ?_
        have hff : Fr [] w wf := (((hFW.trans hf12'.out).andThen f5 (fun t ht => .inr (by simp at ht; omega)))).andThen f4 (fun t ht => .inr (by simp at ht; omega))
        exact ⟨_, _, rfl, hff, zero_is _⟩
    by_cases e2 : ok = 2
    · subst e2
      have hd : doP ⟨ep, sv, pt, tb⟩ (2, n, m, F, T) = leaveP ⟨ep, sv, pt, tb⟩ n := by unfold doP; rw [if_neg (by simp), if_pos rfl]
      have hcall0 : ∀ X, Fr [] w X → _ := fun X hX => rleave_any _ _ _ n X (hcfg'.out.fr0 hX) ho hs hp
      have hep := do_ep (c := ⟨ep, sv, pt, tb⟩) (o := (2, n, m, F, T))
      rw [hd] at hep ⊢
      obtain ⟨r, hr⟩ : ∃ r, r = leaveP ⟨ep, sv, pt, tb⟩ n := ⟨_, rfl⟩
      simp only [leave_same ho] at hcall0
      simp only [← hr] at hcall0 hep ⊢
      obtain ⟨code, ep', sv', pt', tb'⟩ := r
      dsimp only at hep hcall0 ⊢
      have hep := hep.symm
      subst hep
      by_cases hz : code = 0
      · subst hz
        simp only [if_true] at hcall0
        rw [if_pos rfl]
        have hcall0 := Lib.hid hcall0
        have hep64 : ep < 1099511627776 := by
          have := ((okC_iff _).1 ho).1
          dsimp only at this
          omega
        have hep1 : 1 ≤ ep := by
          have := ((okC_iff _).1 ho).1
          dsimp only at this
          omega
        clear hr hd h2 h3 ho
        go_enter Tryd.func15, Tryd.ntmps15
        go_upto_region 1 with (fail)
        rw [← hW'.out]
        go_wp2_with (first | (go_at_call 11; refine hchk.mono ?_; rintro e w1 ⟨rfl, hf1⟩; have sb := hf1.keep hb1'.out (by simp); have s0 := (show w1.cell? ⟨w.heap.size, 0, none⟩ = some (.int .i64 ep) from cell_at sb); have sz0 := (show w1.frozen? ⟨w.heap.size, 0, none⟩ = false from frozen_at sb); have s1 := (show w1.cell? ⟨w.heap.size, 1, none⟩ = some (.slice a1 sv.length cap1) from cell_at sb); have sz1 := (show w1.frozen? ⟨w.heap.size, 1, none⟩ = false from frozen_at sb); have s2 := (show w1.cell? ⟨w.heap.size, 2, none⟩ = some (.slice a2 pt.length cap2) from cell_at sb); have sz2 := (show w1.frozen? ⟨w.heap.size, 2, none⟩ = false from frozen_at sb); have s3 := (show w1.cell? ⟨w.heap.size, 3, none⟩ = some (.int .i64 tb) from cell_at sb); have sz3 := (show w1.frozen? ⟨w.heap.size, 3, none⟩ = false from frozen_at sb); have sl := lt_of_cell s0; have sb' := Lib.hid sb; clear sb; have pb := hf1.keep hb3'.out (by simp); have p0 := (show w1.cell? ⟨w.heap.size + 1, 0, none⟩ = some (.int .i64 2) from cell_at pb); have pz0 := (show w1.frozen? ⟨w.heap.size + 1, 0, none⟩ = false from frozen_at pb); have p1 := (show w1.cell? ⟨w.heap.size + 1, 1, none⟩ = some (.int .i64 n) from cell_at pb); have pz1 := (show w1.frozen? ⟨w.heap.size + 1, 1, none⟩ = false from frozen_at pb); have p2 := (show w1.cell? ⟨w.heap.size + 1, 2, none⟩ = some (.int .i64 m) from cell_at pb); have pz2 := (show w1.frozen? ⟨w.heap.size + 1, 2, none⟩ = false from frozen_at pb); have p3 := (show w1.cell? ⟨w.heap.size + 1, 3, none⟩ = some (.int .i64 F) from cell_at pb); have pz3 := (show w1.frozen? ⟨w.heap.size + 1, 3, none⟩ = false from frozen_at pb); have p4 := (show w1.cell? ⟨w.heap.size + 1, 4, none⟩ = some (.int .i64 T) from cell_at pb); have pz4 := (show w1.frozen? ⟨w.heap.size + 1, 4, none⟩ = false from frozen_at pb); have pl := lt_of_cell p0; have pb' := Lib.hid pb; clear pb; have xb := hf1.keep hb2'.out (by simp); have x0 := (show w1.cell? ⟨w.heap.size + 2, 0, none⟩ = some (.int .i64 0) from cell_at xb); have xz0 := (show w1.frozen? ⟨w.heap.size + 2, 0, none⟩ = false from frozen_at xb); have x1 := (show w1.cell? ⟨w.heap.size + 2, 1, none⟩ = some (.slice none 0 0) from cell_at xb); have xz1 := (show w1.frozen? ⟨w.heap.size + 2, 1, none⟩ = false from frozen_at xb); have x2 := (show w1.cell? ⟨w.heap.size + 2, 2, none⟩ = some (.slice none 0 0) from cell_at xb); have xz2 := (show w1.frozen? ⟨w.heap.size + 2, 2, none⟩ = false from frozen_at xb); have x3 := (show w1.cell? ⟨w.heap.size + 2, 3, none⟩ = some (.int .i64 0) from cell_at xb); have xz3 := (show w1.frozen? ⟨w.heap.size + 2, 3, none⟩ = false from frozen_at xb); have xl := lt_of_cell x0; have xb' := Lib.hid xb; clear xb; have hcall := hcall0.out w1 (hFW.trans hf1); unfold aggC at hcall; dsimp only at hcall; have hf1' := Lib.hid hf1; have hz1 := hf1.size; clear hchk hf1) | (go_at_call 34; refine hcall.mono ?_; rintro e w2 ⟨v1, v2, rfl, hf2, hc2⟩; obtain ⟨hc2s, hc2p⟩ := hc2; dsimp only at hc2s hc2p; obtain ⟨a3, cap3, rfl, _, _, _⟩ := id hc2s; obtain ⟨a4, cap4, rfl, _, _, _⟩ := id hc2p; have hf12 := hf1'.out.trans hf2; have ub := hf12.keep hb1'.out (by simp); have u0 := (show w2.cell? ⟨w.heap.size, 0, none⟩ = some (.int .i64 ep) from cell_at ub); have uz0 := (show w2.frozen? ⟨w.heap.size, 0, none⟩ = false from frozen_at ub); have u1 := (show w2.cell? ⟨w.heap.size, 1, none⟩ = some (.slice a1 sv.length cap1) from cell_at ub); have uz1 := (show w2.frozen? ⟨w.heap.size, 1, none⟩ = false from frozen_at ub); have u2 := (show w2.cell? ⟨w.heap.size, 2, none⟩ = some (.slice a2 pt.length cap2) from cell_at ub); have uz2 := (show w2.frozen? ⟨w.heap.size, 2, none⟩ = false from frozen_at ub); have u3 := (show w2.cell? ⟨w.heap.size, 3, none⟩ = some (.int .i64 tb) from cell_at ub); have uz3 := (show w2.frozen? ⟨w.heap.size, 3, none⟩ = false from frozen_at ub); have ul := lt_of_cell u0; have ub' := Lib.hid ub; clear ub; have qb := hf12.keep hb3'.out (by simp); have q0 := (show w2.cell? ⟨w.heap.size + 1, 0, none⟩ = some (.int .i64 2) from cell_at qb); have qz0 := (show w2.frozen? ⟨w.heap.size + 1, 0, none⟩ = false from frozen_at qb); have q1 := (show w2.cell? ⟨w.heap.size + 1, 1, none⟩ = some (.int .i64 n) from cell_at qb); have qz1 := (show w2.frozen? ⟨w.heap.size + 1, 1, none⟩ = false from frozen_at qb); have q2 := (show w2.cell? ⟨w.heap.size + 1, 2, none⟩ = some (.int .i64 m) from cell_at qb); have qz2 := (show w2.frozen? ⟨w.heap.size + 1, 2, none⟩ = false from frozen_at qb); have q3 := (show w2.cell? ⟨w.heap.size + 1, 3, none⟩ = some (.int .i64 F) from cell_at qb); have qz3 := (show w2.frozen? ⟨w.heap.size + 1, 3, none⟩ = false from frozen_at qb); have q4 := (show w2.cell? ⟨w.heap.size + 1, 4, none⟩ = some (.int .i64 T) from cell_at qb); have qz4 := (show w2.frozen? ⟨w.heap.size + 1, 4, none⟩ = false from frozen_at qb); have ql := lt_of_cell q0; have qb' := Lib.hid qb; clear qb; have yb := hf12.keep hb2'.out (by simp); have y0 := (show w2.cell? ⟨w.heap.size + 2, 0, none⟩ = some (.int .i64 0) from cell_at yb); have yz0 := (show w2.frozen? ⟨w.heap.size + 2, 0, none⟩ = false from frozen_at yb); have y1 := (show w2.cell? ⟨w.heap.size + 2, 1, none⟩ = some (.slice none 0 0) from cell_at yb); have yz1 := (show w2.frozen? ⟨w.heap.size + 2, 1, none⟩ = false from frozen_at yb); have y2 := (show w2.cell? ⟨w.heap.size + 2, 2, none⟩ = some (.slice none 0 0) from cell_at yb); have yz2 := (show w2.frozen? ⟨w.heap.size + 2, 2, none⟩ = false from frozen_at yb); have y3 := (show w2.cell? ⟨w.heap.size + 2, 3, none⟩ = some (.int .i64 0) from cell_at yb); have yz3 := (show w2.frozen? ⟨w.heap.size + 2, 3, none⟩ = false from frozen_at yb); have yl := lt_of_cell y0; have yb' := Lib.hid yb; clear yb; have hz2 := hf12.size; have hc2s' := Lib.hid hc2s; have hc2p' := Lib.hid hc2p; have hf12' := Lib.hid hf12; clear hc2s hc2p hf12 hf2 hcall; unfold aggC))
        have h5 := setCell_at (i := 0) (set4 ub'.out (.int .i64 ep) (.slice a3 sv'.length cap3) (.slice a4 pt'.length cap4) (.int .i64 tb')) (.int .i64 (ep + 1))
        have f5 := (fr_set4 w2 w.heap.size (.int .i64 ep) (.slice a3 sv'.length cap3) (.slice a4 pt'.length cap4) (.int .i64 tb')).setCell ⟨w.heap.size, 0, none⟩ (.int .i64 (ep + 1)) (.inl (by simp))
        have rb5 := f5.keep yb'.out (by simp)
        have h4 := set4 rb5 (.int .i64 (ep + 1)) (.slice a3 sv'.length cap3) (.slice a4 pt'.length cap4) (.int .i64 tb')
        have f4 := fr_set4 ((((((w2.setCell ⟨w.heap.size, 0, none⟩ (.int .i64 ep)).setCell ⟨w.heap.size, 1, none⟩ (.slice a3 sv'.length cap3)).setCell ⟨w.heap.size, 2, none⟩ (.slice a4 pt'.length cap4)).setCell ⟨w.heap.size, 3, none⟩ (.int .i64 tb')).setCell ⟨w.heap.size, 0, none⟩ (.int .i64 (ep + 1)))) (w.heap.size + 2) (.int .i64 (ep + 1)) (.slice a3 sv'.length cap3) (.slice a4 pt'.length cap4) (.int .i64 tb')
        obtain ⟨wf, hwf⟩ : ∃ wf, wf = ((((((((w2.setCell ⟨w.heap.size, 0, none⟩ (.int .i64 ep)).setCell ⟨w.heap.size, 1, none⟩ (.slice a3 sv'.length cap3)).setCell ⟨w.heap.size, 2, none⟩ (.slice a4 pt'.length cap4)).setCell ⟨w.heap.size, 3, none⟩ (.int .i64 tb')).setCell ⟨w.heap.size, 0, none⟩ (.int .i64 (ep + 1))).setCell ⟨w.heap.size + 2, 0, none⟩ (.int .i64 (ep + 1))).setCell ⟨w.heap.size + 2, 1, none⟩ (.slice a3 sv'.length cap3)).setCell ⟨w.heap.size + 2, 2, none⟩ (.slice a4 pt'.length cap4)).setCell ⟨w.heap.size + 2, 3, none⟩ (.int .i64 tb') := ⟨_, rfl⟩
        rw [← hwf] at h4 f4 ⊢
        have p0 := (show wf.cell? ⟨w.heap.size + 2, 0, none⟩ = some (.int .i64 (ep + 1)) from cell_at h4)
        have p1 := (show wf.cell? ⟨w.heap.size + 2, 1, none⟩ = some (.slice a3 sv'.length cap3) from cell_at h4)
        have p2 := (show wf.cell? ⟨w.heap.size + 2, 2, none⟩ = some (.slice a4 pt'.length cap4) from cell_at h4)
        have p3 := (show wf.cell? ⟨w.heap.size + 2, 3, none⟩ = some (.int .i64 tb') from cell_at h4)
        refine bodyPost_ret (v := .tuple #[.agg #[.int .i64 (ep + 1), .slice a3 sv'.length cap3, .slice a4 pt'.length cap4, .int .i64 tb'], .int .i64 0]) (by simp [results, Tryd.results15, go_sem, p0, p1, p2, p3]) rfl ?_
        have hff : Fr [] w wf := (((hFW.trans hf12'.out).andThen f5 (fun t ht => .inr (by simp at ht; omega)))).andThen f4 (fun t ht => .inr (by simp at ht; omega))

        exact ⟨_, _, rfl, hff, (((hc2s'.out).fr f5 (by intro g hg _; rcases hg with hg | hg; · { have := hg.2; simp; omega }; · { simp; omega })).fr f4 (by intro g hg _; rcases hg with hg | hg; · { have := hg.2; simp; omega }; · { simp; omega })).imp (fun g _ h => h.elim (fun h => .inl h.1) (fun h => .inr (by omega))), (((hc2p'.out).fr f5 (by intro g hg _; rcases hg with hg | hg; · { have := hg.2; simp; omega }; · { simp; omega })).fr f4 (by intro g hg _; rcases hg with hg | hg; · { have := hg.2; simp; omega }; · { simp; omega })).imp (fun g _ h => h.elim (fun h => .inl h.1) (fun h => .inr (by omega)))⟩
      · have hzb : (code != 0) = true := by simpa using hz
        simp only [if_neg hz] at hcall0
        rw [if_neg hz]
        unfold zeroCfg at hcall0
        have hcall0 := Lib.hid hcall0
        clear hr hd h2 h3 ho hz
        go_enter Tryd.func15, Tryd.ntmps15
        go_upto_region 1 with (fail)
        rw [← hW'.out]
        go_wp2_with (first | (go_at_call 11; refine hchk.mono ?_; rintro e w1 ⟨rfl, hf1⟩; have sb := hf1.keep hb1'.out (by simp); have s0 := (show w1.cell? ⟨w.heap.size, 0, none⟩ = some (.int .i64 ep) from cell_at sb); have sz0 := (show w1.frozen? ⟨w.heap.size, 0, none⟩ = false from frozen_at sb); have s1 := (show w1.cell? ⟨w.heap.size, 1, none⟩ = some (.slice a1 sv.length cap1) from cell_at sb); have sz1 := (show w1.frozen? ⟨w.heap.size, 1, none⟩ = false from frozen_at sb); have s2 := (show w1.cell? ⟨w.heap.size, 2, none⟩ = some (.slice a2 pt.length cap2) from cell_at sb); have sz2 := (show w1.frozen? ⟨w.heap.size, 2, none⟩ = false from frozen_at sb); have s3 := (show w1.cell? ⟨w.heap.size, 3, none⟩ = some (.int .i64 tb) from cell_at sb); have sz3 := (show w1.frozen? ⟨w.heap.size, 3, none⟩ = false from frozen_at sb); have sl := lt_of_cell s0; have sb' := Lib.hid sb; clear sb; have pb := hf1.keep hb3'.out (by simp); have p0 := (show w1.cell? ⟨w.heap.size + 1, 0, none⟩ = some (.int .i64 2) from cell_at pb); have pz0 := (show w1.frozen? ⟨w.heap.size + 1, 0, none⟩ = false from frozen_at pb); have p1 := (show w1.cell? ⟨w.heap.size + 1, 1, none⟩ = some (.int .i64 n) from cell_at pb); have pz1 := (show w1.frozen? ⟨w.heap.size + 1, 1, none⟩ = false from frozen_at pb); have p2 := (show w1.cell? ⟨w.heap.size + 1, 2, none⟩ = some (.int .i64 m) from cell_at pb); have pz2 := (show w1.frozen? ⟨w.heap.size + 1, 2, none⟩ = false from frozen_at pb); have p3 := (show w1.cell? ⟨w.heap.size + 1, 3, none⟩ = some (.int .i64 F) from cell_at pb); have pz3 := (show w1.frozen? ⟨w.heap.size + 1, 3, none⟩ = false from frozen_at pb); have p4 := (show w1.cell? ⟨w.heap.size + 1, 4, none⟩ = some (.int .i64 T) from cell_at pb); have pz4 := (show w1.frozen? ⟨w.heap.size + 1, 4, none⟩ = false from frozen_at pb); have pl := lt_of_cell p0; have pb' := Lib.hid pb; clear pb; have xb := hf1.keep hb2'.out (by simp); have x0 := (show w1.cell? ⟨w.heap.size + 2, 0, none⟩ = some (.int .i64 0) from cell_at xb); have xz0 := (show w1.frozen? ⟨w.heap.size + 2, 0, none⟩ = false from frozen_at xb); have x1 := (show w1.cell? ⟨w.heap.size + 2, 1, none⟩ = some (.slice none 0 0) from cell_at xb); have xz1 := (show w1.frozen? ⟨w.heap.size + 2, 1, none⟩ = false from frozen_at xb); have x2 := (show w1.cell? ⟨w.heap.size + 2, 2, none⟩ = some (.slice none 0 0) from cell_at xb); have xz2 := (show w1.frozen? ⟨w.heap.size + 2, 2, none⟩ = false from frozen_at xb); have x3 := (show w1.cell? ⟨w.heap.size + 2, 3, none⟩ = some (.int .i64 0) from cell_at xb); have xz3 := (show w1.frozen? ⟨w.heap.size + 2, 3, none⟩ = false from frozen_at xb); have xl := lt_of_cell x0; have xb' := Lib.hid xb; clear xb; have hcall := hcall0.out w1 (hFW.trans hf1); unfold aggC at hcall; dsimp only at hcall; have hf1' := Lib.hid hf1; have hz1 := hf1.size; clear hchk hf1) | (go_at_call 34; refine hcall.mono ?_; rintro e w2 ⟨v1, v2, rfl, hf2, hc2⟩; obtain ⟨hc2s, hc2p⟩ := hc2; dsimp only at hc2s hc2p; obtain ⟨a3, cap3, rfl, _, _, _⟩ := id hc2s; obtain ⟨a4, cap4, rfl, _, _, _⟩ := id hc2p; have hf12 := hf1'.out.trans hf2; have ub := hf12.keep hb1'.out (by simp); have u0 := (show w2.cell? ⟨w.heap.size, 0, none⟩ = some (.int .i64 ep) from cell_at ub); have uz0 := (show w2.frozen? ⟨w.heap.size, 0, none⟩ = false from frozen_at ub); have u1 := (show w2.cell? ⟨w.heap.size, 1, none⟩ = some (.slice a1 sv.length cap1) from cell_at ub); have uz1 := (show w2.frozen? ⟨w.heap.size, 1, none⟩ = false from frozen_at ub); have u2 := (show w2.cell? ⟨w.heap.size, 2, none⟩ = some (.slice a2 pt.length cap2) from cell_at ub); have uz2 := (show w2.frozen? ⟨w.heap.size, 2, none⟩ = false from frozen_at ub); have u3 := (show w2.cell? ⟨w.heap.size, 3, none⟩ = some (.int .i64 tb) from cell_at ub); have uz3 := (show w2.frozen? ⟨w.heap.size, 3, none⟩ = false from frozen_at ub); have ul := lt_of_cell u0; have ub' := Lib.hid ub; clear ub; have qb := hf12.keep hb3'.out (by simp); have q0 := (show w2.cell? ⟨w.heap.size + 1, 0, none⟩ = some (.int .i64 2) from cell_at qb); have qz0 := (show w2.frozen? ⟨w.heap.size + 1, 0, none⟩ = false from frozen_at qb); have q1 := (show w2.cell? ⟨w.heap.size + 1, 1, none⟩ = some (.int .i64 n) from cell_at qb); have qz1 := (show w2.frozen? ⟨w.heap.size + 1, 1, none⟩ = false from frozen_at qb); have q2 := (show w2.cell? ⟨w.heap.size + 1, 2, none⟩ = some (.int .i64 m) from cell_at qb); have qz2 := (show w2.frozen? ⟨w.heap.size + 1, 2, none⟩ = false from frozen_at qb); have q3 := (show w2.cell? ⟨w.heap.size + 1, 3, none⟩ = some (.int .i64 F) from cell_at qb); have qz3 := (show w2.frozen? ⟨w.heap.size + 1, 3, none⟩ = false from frozen_at qb); have q4 := (show w2.cell? ⟨w.heap.size + 1, 4, none⟩ = some (.int .i64 T) from cell_at qb); have qz4 := (show w2.frozen? ⟨w.heap.size + 1, 4, none⟩ = false from frozen_at qb); have ql := lt_of_cell q0; have qb' := Lib.hid qb; clear qb; have yb := hf12.keep hb2'.out (by simp); have y0 := (show w2.cell? ⟨w.heap.size + 2, 0, none⟩ = some (.int .i64 0) from cell_at yb); have yz0 := (show w2.frozen? ⟨w.heap.size + 2, 0, none⟩ = false from frozen_at yb); have y1 := (show w2.cell? ⟨w.heap.size + 2, 1, none⟩ = some (.slice none 0 0) from cell_at yb); have yz1 := (show w2.frozen? ⟨w.heap.size + 2, 1, none⟩ = false from frozen_at yb); have y2 := (show w2.cell? ⟨w.heap.size + 2, 2, none⟩ = some (.slice none 0 0) from cell_at yb); have yz2 := (show w2.frozen? ⟨w.heap.size + 2, 2, none⟩ = false from frozen_at yb); have y3 := (show w2.cell? ⟨w.heap.size + 2, 3, none⟩ = some (.int .i64 0) from cell_at yb); have yz3 := (show w2.frozen? ⟨w.heap.size + 2, 3, none⟩ = false from frozen_at yb); have yl := lt_of_cell y0; have yb' := Lib.hid yb; clear yb; have hz2 := hf12.size; have hc2s' := Lib.hid hc2s; have hc2p' := Lib.hid hc2p; have hf12' := Lib.hid hf12; clear hc2s hc2p hf12 hf2 hcall; unfold aggC))
        have h5 := set4 ub'.out (.int .i64 0) (.slice a3 0 cap3) (.slice a4 0 cap4) (.int .i64 0)
        have f5 := fr_set4 w2 w.heap.size (.int .i64 0) (.slice a3 0 cap3) (.slice a4 0 cap4) (.int .i64 0)
        have rb5 := f5.keep yb'.out (by simp)
        have h4 := set4 rb5 (.int .i64 0) (.slice none 0 0) (.slice none 0 0) (.int .i64 0)
        have f4 := fr_set4 (((((w2.setCell ⟨w.heap.size, 0, none⟩ (.int .i64 0)).setCell ⟨w.heap.size, 1, none⟩ (.slice a3 0 cap3)).setCell ⟨w.heap.size, 2, none⟩ (.slice a4 0 cap4)).setCell ⟨w.heap.size, 3, none⟩ (.int .i64 0))) (w.heap.size + 2) (.int .i64 0) (.slice none 0 0) (.slice none 0 0) (.int .i64 0)
        obtain ⟨wf, hwf⟩ : ∃ wf, wf = (((((((w2.setCell ⟨w.heap.size, 0, none⟩ (.int .i64 0)).setCell ⟨w.heap.size, 1, none⟩ (.slice a3 0 cap3)).setCell ⟨w.heap.size, 2, none⟩ (.slice a4 0 cap4)).setCell ⟨w.heap.size, 3, none⟩ (.int .i64 0)).setCell ⟨w.heap.size + 2, 0, none⟩ (.int .i64 0)).setCell ⟨w.heap.size + 2, 1, none⟩ (.slice none 0 0)).setCell ⟨w.heap.size + 2, 2, none⟩ (.slice none 0 0)).setCell ⟨w.heap.size + 2, 3, none⟩ (.int .i64 0) := ⟨_, rfl⟩
        rw [← hwf] at h4 f4 ⊢
        have p0 := (show wf.cell? ⟨w.heap.size + 2, 0, none⟩ = some (.int .i64 0) from cell_at h4)
        have p1 := (show wf.cell? ⟨w.heap.size + 2, 1, none⟩ = some (.slice none 0 0) from cell_at h4)
        have p2 := (show wf.cell? ⟨w.heap.size + 2, 2, none⟩ = some (.slice none 0 0) from cell_at h4)
        have p3 := (show wf.cell? ⟨w.heap.size + 2, 3, none⟩ = some (.int .i64 0) from cell_at h4)
        refine bodyPost_ret (v := .tuple #[.agg #[.int .i64 0, .slice none 0 0, .slice none 0 0, .int .i64 0], .int .i64 code]) (by simp [results, Tryd.results15, go_sem, p0, p1, p2, p3]) rfl ?_
        have hff : Fr [] w wf := (((hFW.trans hf12'.out).andThen f5 (fun t ht => .inr (by simp at ht; omega)))).andThen f4 (fun t ht => .inr (by simp at ht; omega))
        exact ⟨_, _, rfl, hff, zero_is _⟩
    by_cases e3 : ok = 3
    · subst e3
      have hd : doP ⟨ep, sv, pt, tb⟩ (3, n, m, F, T) = placeP ⟨ep, sv, pt, tb⟩ n m F T := by unfold doP; rw [if_neg (by simp), if_neg (by simp), if_pos rfl]
      have hcall0 : ∀ X, Fr [] w X → _ := fun X hX => rplace_any _ _ _ (3, n, m, F, T) X (hcfg'.out.fr0 hX) ho hs hp
      have hep := do_ep (c := ⟨ep, sv, pt, tb⟩) (o := (3, n, m, F, T))
      rw [hd] at hep ⊢
      obtain ⟨r, hr⟩ : ∃ r, r = placeP ⟨ep, sv, pt, tb⟩ n m F T := ⟨_, rfl⟩
      simp only [place_same ho] at hcall0
      simp only [← hr] at hcall0 hep ⊢
      obtain ⟨code, ep', sv', pt', tb'⟩ := r
      dsimp only at hep hcall0 ⊢
      have hep := hep.symm
      subst hep
      by_cases hz : code = 0
      · subst hz
        simp only [if_true] at hcall0
        rw [if_pos rfl]
        have hcall0 := Lib.hid hcall0
        have hep64 : ep < 1099511627776 := by
          have := ((okC_iff _).1 ho).1
          dsimp only at this
          omega
        have hep1 : 1 ≤ ep := by
          have := ((okC_iff _).1 ho).1
          dsimp only at this
          omega
        clear hr hd h2 h3 ho
        go_enter Tryd.func15, Tryd.ntmps15
        go_upto_region 1 with (fail)
        rw [← hW'.out]
        go_wp2_with (first | (go_at_call 11; refine hchk.mono ?_; rintro e w1 ⟨rfl, hf1⟩; have sb := hf1.keep hb1'.out (by simp); have s0 := (show w1.cell? ⟨w.heap.size, 0, none⟩ = some (.int .i64 ep) from cell_at sb); have sz0 := (show w1.frozen? ⟨w.heap.size, 0, none⟩ = false from frozen_at sb); have s1 := (show w1.cell? ⟨w.heap.size, 1, none⟩ = some (.slice a1 sv.length cap1) from cell_at sb); have sz1 := (show w1.frozen? ⟨w.heap.size, 1, none⟩ = false from frozen_at sb); have s2 := (show w1.cell? ⟨w.heap.size, 2, none⟩ = some (.slice a2 pt.length cap2) from cell_at sb); have sz2 := (show w1.frozen? ⟨w.heap.size, 2, none⟩ = false from frozen_at sb); have s3 := (show w1.cell? ⟨w.heap.size, 3, none⟩ = some (.int .i64 tb) from cell_at sb); have sz3 := (show w1.frozen? ⟨w.heap.size, 3, none⟩ = false from frozen_at sb); have sl := lt_of_cell s0; have sb' := Lib.hid sb; clear sb; have pb := hf1.keep hb3'.out (by simp); have p0 := (show w1.cell? ⟨w.heap.size + 1, 0, none⟩ = some (.int .i64 3) from cell_at pb); have pz0 := (show w1.frozen? ⟨w.heap.size + 1, 0, none⟩ = false from frozen_at pb); have p1 := (show w1.cell? ⟨w.heap.size + 1, 1, none⟩ = some (.int .i64 n) from cell_at pb); have pz1 := (show w1.frozen? ⟨w.heap.size + 1, 1, none⟩ = false from frozen_at pb); have p2 := (show w1.cell? ⟨w.heap.size + 1, 2, none⟩ = some (.int .i64 m) from cell_at pb); have pz2 := (show w1.frozen? ⟨w.heap.size + 1, 2, none⟩ = false from frozen_at pb); have p3 := (show w1.cell? ⟨w.heap.size + 1, 3, none⟩ = some (.int .i64 F) from cell_at pb); have pz3 := (show w1.frozen? ⟨w.heap.size + 1, 3, none⟩ = false from frozen_at pb); have p4 := (show w1.cell? ⟨w.heap.size + 1, 4, none⟩ = some (.int .i64 T) from cell_at pb); have pz4 := (show w1.frozen? ⟨w.heap.size + 1, 4, none⟩ = false from frozen_at pb); have pl := lt_of_cell p0; have pb' := Lib.hid pb; clear pb; have xb := hf1.keep hb2'.out (by simp); have x0 := (show w1.cell? ⟨w.heap.size + 2, 0, none⟩ = some (.int .i64 0) from cell_at xb); have xz0 := (show w1.frozen? ⟨w.heap.size + 2, 0, none⟩ = false from frozen_at xb); have x1 := (show w1.cell? ⟨w.heap.size + 2, 1, none⟩ = some (.slice none 0 0) from cell_at xb); have xz1 := (show w1.frozen? ⟨w.heap.size + 2, 1, none⟩ = false from frozen_at xb); have x2 := (show w1.cell? ⟨w.heap.size + 2, 2, none⟩ = some (.slice none 0 0) from cell_at xb); have xz2 := (show w1.frozen? ⟨w.heap.size + 2, 2, none⟩ = false from frozen_at xb); have x3 := (show w1.cell? ⟨w.heap.size + 2, 3, none⟩ = some (.int .i64 0) from cell_at xb); have xz3 := (show w1.frozen? ⟨w.heap.size + 2, 3, none⟩ = false from frozen_at xb); have xl := lt_of_cell x0; have xb' := Lib.hid xb; clear xb; have hcall := hcall0.out w1 (hFW.trans hf1); unfold aggC aggO at hcall; dsimp only at hcall; have hf1' := Lib.hid hf1; have hz1 := hf1.size; clear hchk hf1) | (go_at_call 35; refine hcall.mono ?_; rintro e w2 ⟨v1, v2, rfl, hf2, hc2⟩; obtain ⟨hc2s, hc2p⟩ := hc2; dsimp only at hc2s hc2p; obtain ⟨a3, cap3, rfl, _, _, _⟩ := id hc2s; obtain ⟨a4, cap4, rfl, _, _, _⟩ := id hc2p; have hf12 := hf1'.out.trans hf2; have ub := hf12.keep hb1'.out (by simp); have u0 := (show w2.cell? ⟨w.heap.size, 0, none⟩ = some (.int .i64 ep) from cell_at ub); have uz0 := (show w2.frozen? ⟨w.heap.size, 0, none⟩ = false from frozen_at ub); have u1 := (show w2.cell? ⟨w.heap.size, 1, none⟩ = some (.slice a1 sv.length cap1) from cell_at ub); have uz1 := (show w2.frozen? ⟨w.heap.size, 1, none⟩ = false from frozen_at ub); have u2 := (show w2.cell? ⟨w.heap.size, 2, none⟩ = some (.slice a2 pt.length cap2) from cell_at ub); have uz2 := (show w2.frozen? ⟨w.heap.size, 2, none⟩ = false from frozen_at ub); have u3 := (show w2.cell? ⟨w.heap.size, 3, none⟩ = some (.int .i64 tb) from cell_at ub); have uz3 := (show w2.frozen? ⟨w.heap.size, 3, none⟩ = false from frozen_at ub); have ul := lt_of_cell u0; have ub' := Lib.hid ub; clear ub; have qb := hf12.keep hb3'.out (by simp); have q0 := (show w2.cell? ⟨w.heap.size + 1, 0, none⟩ = some (.int .i64 3) from cell_at qb); have qz0 := (show w2.frozen? ⟨w.heap.size + 1, 0, none⟩ = false from frozen_at qb); have q1 := (show w2.cell? ⟨w.heap.size + 1, 1, none⟩ = some (.int .i64 n) from cell_at qb); have qz1 := (show w2.frozen? ⟨w.heap.size + 1, 1, none⟩ = false from frozen_at qb); have q2 := (show w2.cell? ⟨w.heap.size + 1, 2, none⟩ = some (.int .i64 m) from cell_at qb); have qz2 := (show w2.frozen? ⟨w.heap.size + 1, 2, none⟩ = false from frozen_at qb); have q3 := (show w2.cell? ⟨w.heap.size + 1, 3, none⟩ = some (.int .i64 F) from cell_at qb); have qz3 := (show w2.frozen? ⟨w.heap.size + 1, 3, none⟩ = false from frozen_at qb); have q4 := (show w2.cell? ⟨w.heap.size + 1, 4, none⟩ = some (.int .i64 T) from cell_at qb); have qz4 := (show w2.frozen? ⟨w.heap.size + 1, 4, none⟩ = false from frozen_at qb); have ql := lt_of_cell q0; have qb' := Lib.hid qb; clear qb; have yb := hf12.keep hb2'.out (by simp); have y0 := (show w2.cell? ⟨w.heap.size + 2, 0, none⟩ = some (.int .i64 0) from cell_at yb); have yz0 := (show w2.frozen? ⟨w.heap.size + 2, 0, none⟩ = false from frozen_at yb); have y1 := (show w2.cell? ⟨w.heap.size + 2, 1, none⟩ = some (.slice none 0 0) from cell_at yb); have yz1 := (show w2.frozen? ⟨w.heap.size + 2, 1, none⟩ = false from frozen_at yb); have y2 := (show w2.cell? ⟨w.heap.size + 2, 2, none⟩ = some (.slice none 0 0) from cell_at yb); have yz2 := (show w2.frozen? ⟨w.heap.size + 2, 2, none⟩ = false from frozen_at yb); have y3 := (show w2.cell? ⟨w.heap.size + 2, 3, none⟩ = some (.int .i64 0) from cell_at yb); have yz3 := (show w2.frozen? ⟨w.heap.size + 2, 3, none⟩ = false from frozen_at yb); have yl := lt_of_cell y0; have yb' := Lib.hid yb; clear yb; have hz2 := hf12.size; have hc2s' := Lib.hid hc2s; have hc2p' := Lib.hid hc2p; have hf12' := Lib.hid hf12; clear hc2s hc2p hf12 hf2 hcall; unfold aggC))
        have h5 := setCell_at (i := 0) (set4 ub'.out (.int .i64 ep) (.slice a3 sv'.length cap3) (.slice a4 pt'.length cap4) (.int .i64 tb')) (.int .i64 (ep + 1))
        have f5 := (fr_set4 w2 w.heap.size (.int .i64 ep) (.slice a3 sv'.length cap3) (.slice a4 pt'.length cap4) (.int .i64 tb')).setCell ⟨w.heap.size, 0, none⟩ (.int .i64 (ep + 1)) (.inl (by simp))
        have rb5 := f5.keep yb'.out (by simp)
        have h4 := set4 rb5 (.int .i64 (ep + 1)) (.slice a3 sv'.length cap3) (.slice a4 pt'.length cap4) (.int .i64 tb')
        have f4 := fr_set4 ((((((w2.setCell ⟨w.heap.size, 0, none⟩ (.int .i64 ep)).setCell ⟨w.heap.size, 1, none⟩ (.slice a3 sv'.length cap3)).setCell ⟨w.heap.size, 2, none⟩ (.slice a4 pt'.length cap4)).setCell ⟨w.heap.size, 3, none⟩ (.int .i64 tb')).setCell ⟨w.heap.size, 0, none⟩ (.int .i64 (ep + 1)))) (w.heap.size + 2) (.int .i64 (ep + 1)) (.slice a3 sv'.length cap3) (.slice a4 pt'.length cap4) (.int .i64 tb')
        obtain ⟨wf, hwf⟩ : ∃ wf, wf = ((((((((w2.setCell ⟨w.heap.size, 0, none⟩ (.int .i64 ep)).setCell ⟨w.heap.size, 1, none⟩ (.slice a3 sv'.length cap3)).setCell ⟨w.heap.size, 2, none⟩ (.slice a4 pt'.length cap4)).setCell ⟨w.heap.size, 3, none⟩ (.int .i64 tb')).setCell ⟨w.heap.size, 0, none⟩ (.int .i64 (ep + 1))).setCell ⟨w.heap.size + 2, 0, none⟩ (.int .i64 (ep + 1))).setCell ⟨w.heap.size + 2, 1, none⟩ (.slice a3 sv'.length cap3)).setCell ⟨w.heap.size + 2, 2, none⟩ (.slice a4 pt'.length cap4)).setCell ⟨w.heap.size + 2, 3, none⟩ (.int .i64 tb') := ⟨_, rfl⟩
        rw [← hwf] at h4 f4 ⊢
        have p0 := (show wf.cell? ⟨w.heap.size + 2, 0, none⟩ = some (.int .i64 (ep + 1)) from cell_at h4)
        have p1 := (show wf.cell? ⟨w.heap.size + 2, 1, none⟩ = some (.slice a3 sv'.length cap3) from cell_at h4)
        have p2 := (show wf.cell? ⟨w.heap.size + 2, 2, none⟩ = some (.slice a4 pt'.length cap4) from cell_at h4)
        have p3 := (show wf.cell? ⟨w.heap.size + 2, 3, none⟩ = some (.int .i64 tb') from cell_at h4)
        refine bodyPost_ret (v := .tuple #[.agg #[.int .i64 (ep + 1), .slice a3 sv'.length cap3, .slice a4 pt'.length cap4, .int .i64 tb'], .int .i64 0]) (by simp [results, Tryd.results15, go_sem, p0, p1, p2, p3]) rfl ?_
        have hff : Fr [] w wf := (((hFW.trans hf12'.out).andThen f5 (fun t ht => .inr (by simp at ht; omega)))).andThen f4 (fun t ht => .inr (by simp at ht; omega))

        exact ⟨_, _, rfl, hff, (((hc2s'.out).fr f5 (by intro g hg _; rcases hg with hg | hg; · { have := hg.2; simp; omega }; · { simp; omega })).fr f4 (by intro g hg _; rcases hg with hg | hg; · { have := hg.2; simp; omega }; · { simp; omega })).imp (fun g _ h => h.elim (fun h => .inl h.1) (fun h => .inr (by omega))), (((hc2p'.out).fr f5 (by intro g hg _; rcases hg with hg | hg; · { have := hg.2; simp; omega }; · { simp; omega })).fr f4 (by intro g hg _; rcases hg with hg | hg; · { have := hg.2; simp; omega }; · { simp; omega })).imp (fun g _ h => h.elim (fun h => .inl h.1) (fun h => .inr (by omega)))⟩
      · have hzb : (code != 0) = true := by simpa using hz
        simp only [if_neg hz] at hcall0
        rw [if_neg hz]
        unfold zeroCfg at hcall0
        have hcall0 := Lib.hid hcall0
        clear hr hd h2 h3 ho hz
        go_enter Tryd.func15, Tryd.ntmps15
        go_upto_region 1 with (fail)
        rw [← hW'.out]
        go_wp2_with (first | (go_at_call 11; refine hchk.mono ?_; rintro e w1 ⟨rfl, hf1⟩; have sb := hf1.keep hb1'.out (by simp); have s0 := (show w1.cell? ⟨w.heap.size, 0, none⟩ = some (.int .i64 ep) from cell_at sb); have sz0 := (show w1.frozen? ⟨w.heap.size, 0, none⟩ = false from frozen_at sb); have s1 := (show w1.cell? ⟨w.heap.size, 1, none⟩ = some (.slice a1 sv.length cap1) from cell_at sb); have sz1 := (show w1.frozen? ⟨w.heap.size, 1, none⟩ = false from frozen_at sb); have s2 := (show w1.cell? ⟨w.heap.size, 2, none⟩ = some (.slice a2 pt.length cap2) from cell_at sb); have sz2 := (show w1.frozen? ⟨w.heap.size, 2, none⟩ = false from frozen_at sb); have s3 := (show w1.cell? ⟨w.heap.size, 3, none⟩ = some (.int .i64 tb) from cell_at sb); have sz3 := (show w1.frozen? ⟨w.heap.size, 3, none⟩ = false from frozen_at sb); have sl := lt_of_cell s0; have sb' := Lib.hid sb; clear sb; have pb := hf1.keep hb3'.out (by simp); have p0 := (show w1.cell? ⟨w.heap.size + 1, 0, none⟩ = some (.int .i64 3) from cell_at pb); have pz0 := (show w1.frozen? ⟨w.heap.size + 1, 0, none⟩ = false from frozen_at pb); have p1 := (show w1.cell? ⟨w.heap.size + 1, 1, none⟩ = some (.int .i64 n) from cell_at pb); have pz1 := (show w1.frozen? ⟨w.heap.size + 1, 1, none⟩ = false from frozen_at pb); have p2 := (show w1.cell? ⟨w.heap.size + 1, 2, none⟩ = some (.int .i64 m) from cell_at pb); have pz2 := (show w1.frozen? ⟨w.heap.size + 1, 2, none⟩ = false from frozen_at pb); have p3 := (show w1.cell? ⟨w.heap.size + 1, 3, none⟩ = some (.int .i64 F) from cell_at pb); have pz3 := (show w1.frozen? ⟨w.heap.size + 1, 3, none⟩ = false from frozen_at pb); have p4 := (show w1.cell? ⟨w.heap.size + 1, 4, none⟩ = some (.int .i64 T) from cell_at pb); have pz4 := (show w1.frozen? ⟨w.heap.size + 1, 4, none⟩ = false from frozen_at pb); have pl := lt_of_cell p0; have pb' := Lib.hid pb; clear pb; have xb := hf1.keep hb2'.out (by simp); have x0 := (show w1.cell? ⟨w.heap.size + 2, 0, none⟩ = some (.int .i64 0) from cell_at xb); have xz0 := (show w1.frozen? ⟨w.heap.size + 2, 0, none⟩ = false from frozen_at xb); have x1 := (show w1.cell? ⟨w.heap.size + 2, 1, none⟩ = some (.slice none 0 0) from cell_at xb); have xz1 := (show w1.frozen? ⟨w.heap.size + 2, 1, none⟩ = false from frozen_at xb); have x2 := (show w1.cell? ⟨w.heap.size + 2, 2, none⟩ = some (.slice none 0 0) from cell_at xb); have xz2 := (show w1.frozen? ⟨w.heap.size + 2, 2, none⟩ = false from frozen_at xb); have x3 := (show w1.cell? ⟨w.heap.size + 2, 3, none⟩ = some (.int .i64 0) from cell_at xb); have xz3 := (show w1.frozen? ⟨w.heap.size + 2, 3, none⟩ = false from frozen_at xb); have xl := lt_of_cell x0; have xb' := Lib.hid xb; clear xb; have hcall := hcall0.out w1 (hFW.trans hf1); unfold aggC aggO at hcall; dsimp only at hcall; have hf1' := Lib.hid hf1; have hz1 := hf1.size; clear hchk hf1) | (go_at_call 35; refine hcall.mono ?_; rintro e w2 ⟨v1, v2, rfl, hf2, hc2⟩; obtain ⟨hc2s, hc2p⟩ := hc2; dsimp only at hc2s hc2p; obtain ⟨a3, cap3, rfl, _, _, _⟩ := id hc2s; obtain ⟨a4, cap4, rfl, _, _, _⟩ := id hc2p; have hf12 := hf1'.out.trans hf2; have ub := hf12.keep hb1'.out (by simp); have u0 := (show w2.cell? ⟨w.heap.size, 0, none⟩ = some (.int .i64 ep) from cell_at ub); have uz0 := (show w2.frozen? ⟨w.heap.size, 0, none⟩ = false from frozen_at ub); have u1 := (show w2.cell? ⟨w.heap.size, 1, none⟩ = some (.slice a1 sv.length cap1) from cell_at ub); have uz1 := (show w2.frozen? ⟨w.heap.size, 1, none⟩ = false from frozen_at ub); have u2 := (show w2.cell? ⟨w.heap.size, 2, none⟩ = some (.slice a2 pt.length cap2) from cell_at ub); have uz2 := (show w2.frozen? ⟨w.heap.size, 2, none⟩ = false from frozen_at ub); have u3 := (show w2.cell? ⟨w.heap.size, 3, none⟩ = some (.int .i64 tb) from cell_at ub); have uz3 := (show w2.frozen? ⟨w.heap.size, 3, none⟩ = false from frozen_at ub); have ul := lt_of_cell u0; have ub' := Lib.hid ub; clear ub; have qb := hf12.keep hb3'.out (by simp); have q0 := (show w2.cell? ⟨w.heap.size + 1, 0, none⟩ = some (.int .i64 3) from cell_at qb); have qz0 := (show w2.frozen? ⟨w.heap.size + 1, 0, none⟩ = false from frozen_at qb); have q1 := (show w2.cell? ⟨w.heap.size + 1, 1, none⟩ = some (.int .i64 n) from cell_at qb); have qz1 := (show w2.frozen? ⟨w.heap.size + 1, 1, none⟩ = false from frozen_at qb); have q2 := (show w2.cell? ⟨w.heap.size + 1, 2, none⟩ = some (.int .i64 m) from cell_at qb); have qz2 := (show w2.frozen? ⟨w.heap.size + 1, 2, none⟩ = false from frozen_at qb); have q3 := (show w2.cell? ⟨w.heap.size + 1, 3, none⟩ = some (.int .i64 F) from cell_at qb); have qz3 := (show w2.frozen? ⟨w.heap.size + 1, 3, none⟩ = false from frozen_at qb); have q4 := (show w2.cell? ⟨w.heap.size + 1, 4, none⟩ = some (.int .i64 T) from cell_at qb); have qz4 := (show w2.frozen? ⟨w.heap.size + 1, 4, none⟩ = false from frozen_at qb); have ql := lt_of_cell q0; have qb' := Lib.hid qb; clear qb; have yb := hf12.keep hb2'.out (by simp); have y0 := (show w2.cell? ⟨w.heap.size + 2, 0, none⟩ = some (.int .i64 0) from cell_at yb); have yz0 := (show w2.frozen? ⟨w.heap.size + 2, 0, none⟩ = false from frozen_at yb); have y1 := (show w2.cell? ⟨w.heap.size + 2, 1, none⟩ = some (.slice none 0 0) from cell_at yb); have yz1 := (show w2.frozen? ⟨w.heap.size + 2, 1, none⟩ = false from frozen_at yb); have y2 := (show w2.cell? ⟨w.heap.size + 2, 2, none⟩ = some (.slice none 0 0) from cell_at yb); have yz2 := (show w2.frozen? ⟨w.heap.size + 2, 2, none⟩ = false from frozen_at yb); have y3 := (show w2.cell? ⟨w.heap.size + 2, 3, none⟩ = some (.int .i64 0) from cell_at yb); have yz3 := (show w2.frozen? ⟨w.heap.size + 2, 3, none⟩ = false from frozen_at yb); have yl := lt_of_cell y0; have yb' := Lib.hid yb; clear yb; have hz2 := hf12.size; have hc2s' := Lib.hid hc2s; have hc2p' := Lib.hid hc2p; have hf12' := Lib.hid hf12; clear hc2s hc2p hf12 hf2 hcall; unfold aggC))
        have h5 := set4 ub'.out (.int .i64 0) (.slice a3 0 cap3) (.slice a4 0 cap4) (.int .i64 0)
        have f5 := fr_set4 w2 w.heap.size (.int .i64 0) (.slice a3 0 cap3) (.slice a4 0 cap4) (.int .i64 0)
        have rb5 := f5.keep yb'.out (by simp)
        have h4 := set4 rb5 (.int .i64 0) (.slice none 0 0) (.slice none 0 0) (.int .i64 0)
        have f4 := fr_set4 (((((w2.setCell ⟨w.heap.size, 0, none⟩ (.int .i64 0)).setCell ⟨w.heap.size, 1, none⟩ (.slice a3 0 cap3)).setCell ⟨w.heap.size, 2, none⟩ (.slice a4 0 cap4)).setCell ⟨w.heap.size, 3, none⟩ (.int .i64 0))) (w.heap.size + 2) (.int .i64 0) (.slice none 0 0) (.slice none 0 0) (.int .i64 0)
        obtain ⟨wf, hwf⟩ : ∃ wf, wf = (((((((w2.setCell ⟨w.heap.size, 0, none⟩ (.int .i64 0)).setCell ⟨w.heap.size, 1, none⟩ (.slice a3 0 cap3)).setCell ⟨w.heap.size, 2, none⟩ (.slice a4 0 cap4)).setCell ⟨w.heap.size, 3, none⟩ (.int .i64 0)).setCell ⟨w.heap.size + 2, 0, none⟩ (.int .i64 0)).setCell ⟨w.heap.size + 2, 1, none⟩ (.slice none 0 0)).setCell ⟨w.heap.size + 2, 2, none⟩ (.slice none 0 0)).setCell ⟨w.heap.size + 2, 3, none⟩ (.int .i64 0) := ⟨_, rfl⟩
        rw [← hwf] at h4 f4 ⊢
        have p0 := (show wf.cell? ⟨w.heap.size + 2, 0, none⟩ = some (.int .i64 0) from cell_at h4)
        have p1 := (show wf.cell? ⟨w.heap.size + 2, 1, none⟩ = some (.slice none 0 0) from cell_at h4)
        have p2 := (show wf.cell? ⟨w.heap.size + 2, 2, none⟩ = some (.slice none 0 0) from cell_at h4)
        have p3 := (show wf.cell? ⟨w.heap.size + 2, 3, none⟩ = some (.int .i64 0) from cell_at h4)
        refine bodyPost_ret (v := .tuple #[.agg #[.int .i64 0, .slice none 0 0, .slice none 0 0, .int .i64 0], .int .i64 code]) (by simp [results, Tryd.results15, go_sem, p0, p1, p2, p3]) rfl ?_
        have hff : Fr [] w wf := (((hFW.trans hf12'.out).andThen f5 (fun t ht => .inr (by simp at ht; omega)))).andThen f4 (fun t ht => .inr (by simp at ht; omega))
        exact ⟨_, _, rfl, hff, zero_is _⟩
    have e4 : ok = 4 := by omega
    subst e4
    have hd : doP ⟨ep, sv, pt, tb⟩ (4, n, m, F, T) = tablesP ⟨ep, sv, pt, tb⟩ n := by unfold doP; rw [if_neg (by simp), if_neg (by simp), if_neg (by simp)]
    rw [hd]
    have hep64 : ep < 1099511627776 := by
      have := ((okC_iff _).1 ho).1
      dsimp only at this
      omega
    have hep1 : 1 ≤ ep := by
      have := ((okC_iff _).1 ho).1
      dsimp only at this
      omega
    by_cases n1 : n < 1
    · have hv : tablesP ⟨ep, sv, pt, tb⟩ n = (1, ⟨ep, sv, pt, tb⟩) := by unfold tablesP; rw [if_pos (.inl n1)]
      rw [hv, if_neg (by simp)]
      dsimp only
      clear hv hd h2 h3 ho
      go_enter Tryd.func15, Tryd.ntmps15
      go_upto_region 1 with (fail)
      rw [← hW'.out]
      go_wp2_with (first | (go_at_call 11; refine hchk.mono ?_; rintro e w1 ⟨rfl, hf1⟩; have sb := hf1.keep hb1'.out (by simp); have s0 := (show w1.cell? ⟨w.heap.size, 0, none⟩ = some (.int .i64 ep) from cell_at sb); have sz0 := (show w1.frozen? ⟨w.heap.size, 0, none⟩ = false from frozen_at sb); have s1 := (show w1.cell? ⟨w.heap.size, 1, none⟩ = some (.slice a1 sv.length cap1) from cell_at sb); have sz1 := (show w1.frozen? ⟨w.heap.size, 1, none⟩ = false from frozen_at sb); have s2 := (show w1.cell? ⟨w.heap.size, 2, none⟩ = some (.slice a2 pt.length cap2) from cell_at sb); have sz2 := (show w1.frozen? ⟨w.heap.size, 2, none⟩ = false from frozen_at sb); have s3 := (show w1.cell? ⟨w.heap.size, 3, none⟩ = some (.int .i64 tb) from cell_at sb); have sz3 := (show w1.frozen? ⟨w.heap.size, 3, none⟩ = false from frozen_at sb); have sl := lt_of_cell s0; have sb' := Lib.hid sb; clear sb; have pb := hf1.keep hb3'.out (by simp); have p0 := (show w1.cell? ⟨w.heap.size + 1, 0, none⟩ = some (.int .i64 4) from cell_at pb); have pz0 := (show w1.frozen? ⟨w.heap.size + 1, 0, none⟩ = false from frozen_at pb); have p1 := (show w1.cell? ⟨w.heap.size + 1, 1, none⟩ = some (.int .i64 n) from cell_at pb); have pz1 := (show w1.frozen? ⟨w.heap.size + 1, 1, none⟩ = false from frozen_at pb); have p2 := (show w1.cell? ⟨w.heap.size + 1, 2, none⟩ = some (.int .i64 m) from cell_at pb); have pz2 := (show w1.frozen? ⟨w.heap.size + 1, 2, none⟩ = false from frozen_at pb); have p3 := (show w1.cell? ⟨w.heap.size + 1, 3, none⟩ = some (.int .i64 F) from cell_at pb); have pz3 := (show w1.frozen? ⟨w.heap.size + 1, 3, none⟩ = false from frozen_at pb); have p4 := (show w1.cell? ⟨w.heap.size + 1, 4, none⟩ = some (.int .i64 T) from cell_at pb); have pz4 := (show w1.frozen? ⟨w.heap.size + 1, 4, none⟩ = false from frozen_at pb); have pl := lt_of_cell p0; have pb' := Lib.hid pb; clear pb; have xb := hf1.keep hb2'.out (by simp); have x0 := (show w1.cell? ⟨w.heap.size + 2, 0, none⟩ = some (.int .i64 0) from cell_at xb); have xz0 := (show w1.frozen? ⟨w.heap.size + 2, 0, none⟩ = false from frozen_at xb); have x1 := (show w1.cell? ⟨w.heap.size + 2, 1, none⟩ = some (.slice none 0 0) from cell_at xb); have xz1 := (show w1.frozen? ⟨w.heap.size + 2, 1, none⟩ = false from frozen_at xb); have x2 := (show w1.cell? ⟨w.heap.size + 2, 2, none⟩ = some (.slice none 0 0) from cell_at xb); have xz2 := (show w1.frozen? ⟨w.heap.size + 2, 2, none⟩ = false from frozen_at xb); have x3 := (show w1.cell? ⟨w.heap.size + 2, 3, none⟩ = some (.int .i64 0) from cell_at xb); have xz3 := (show w1.frozen? ⟨w.heap.size + 2, 3, none⟩ = false from frozen_at xb); have xl := lt_of_cell x0; have xb' := Lib.hid xb; clear xb; clear hchk))
      have h4 := set4 xb'.out (.int .i64 0) (.slice none 0 0) (.slice none 0 0) (.int .i64 0)
      have f4 := fr_set4 (w1) (w.heap.size + 2) (.int .i64 0) (.slice none 0 0) (.slice none 0 0) (.int .i64 0)
      obtain ⟨wf, hwf⟩ : ∃ wf, wf = (((w1.setCell ⟨w.heap.size + 2, 0, none⟩ (.int .i64 0)).setCell ⟨w.heap.size + 2, 1, none⟩ (.slice none 0 0)).setCell ⟨w.heap.size + 2, 2, none⟩ (.slice none 0 0)).setCell ⟨w.heap.size + 2, 3, none⟩ (.int .i64 0) := ⟨_, rfl⟩
      rw [← hwf] at h4 f4 ⊢
      have p0 := (show wf.cell? ⟨w.heap.size + 2, 0, none⟩ = some (.int .i64 0) from cell_at h4)
      have p1 := (show wf.cell? ⟨w.heap.size + 2, 1, none⟩ = some (.slice none 0 0) from cell_at h4)
      have p2 := (show wf.cell? ⟨w.heap.size + 2, 2, none⟩ = some (.slice none 0 0) from cell_at h4)
      have p3 := (show wf.cell? ⟨w.heap.size + 2, 3, none⟩ = some (.int .i64 0) from cell_at h4)
      refine bodyPost_ret (v := .tuple #[.agg #[.int .i64 0, .slice none 0 0, .slice none 0 0, .int .i64 0], .int .i64 1]) (by simp [results, Tryd.results15, go_sem, p0, p1, p2, p3]) rfl ?_
      have hff : Fr [] w wf := (hFW.trans hf1).andThen f4 (fun t ht => .inr (by simp at ht; omega))
      exact ⟨_, _, rfl, hff, zero_is _⟩
    by_cases n2 : 8 < n
    · have hv : tablesP ⟨ep, sv, pt, tb⟩ n = (1, ⟨ep, sv, pt, tb⟩) := by unfold tablesP; rw [if_pos (.inr n2)]
      rw [hv, if_neg (by simp)]
      dsimp only
      have n1b : decide (n < 1) = false := by simpa using n1
      clear hv hd h2 h3 ho
      go_enter Tryd.func15, Tryd.ntmps15
      go_upto_region 1 with (fail)
      rw [← hW'.out]
      go_wp2_with (first | (go_at_call 11; refine hchk.mono ?_; rintro e w1 ⟨rfl, hf1⟩; have sb := hf1.keep hb1'.out (by simp); have s0 := (show w1.cell? ⟨w.heap.size, 0, none⟩ = some (.int .i64 ep) from cell_at sb); have sz0 := (show w1.frozen? ⟨w.heap.size, 0, none⟩ = false from frozen_at sb); have s1 := (show w1.cell? ⟨w.heap.size, 1, none⟩ = some (.slice a1 sv.length cap1) from cell_at sb); have sz1 := (show w1.frozen? ⟨w.heap.size, 1, none⟩ = false from frozen_at sb); have s2 := (show w1.cell? ⟨w.heap.size, 2, none⟩ = some (.slice a2 pt.length cap2) from cell_at sb); have sz2 := (show w1.frozen? ⟨w.heap.size, 2, none⟩ = false from frozen_at sb); have s3 := (show w1.cell? ⟨w.heap.size, 3, none⟩ = some (.int .i64 tb) from cell_at sb); have sz3 := (show w1.frozen? ⟨w.heap.size, 3, none⟩ = false from frozen_at sb); have sl := lt_of_cell s0; have sb' := Lib.hid sb; clear sb; have pb := hf1.keep hb3'.out (by simp); have p0 := (show w1.cell? ⟨w.heap.size + 1, 0, none⟩ = some (.int .i64 4) from cell_at pb); have pz0 := (show w1.frozen? ⟨w.heap.size + 1, 0, none⟩ = false from frozen_at pb); have p1 := (show w1.cell? ⟨w.heap.size + 1, 1, none⟩ = some (.int .i64 n) from cell_at pb); have pz1 := (show w1.frozen? ⟨w.heap.size + 1, 1, none⟩ = false from frozen_at pb); have p2 := (show w1.cell? ⟨w.heap.size + 1, 2, none⟩ = some (.int .i64 m) from cell_at pb); have pz2 := (show w1.frozen? ⟨w.heap.size + 1, 2, none⟩ = false from frozen_at pb); have p3 := (show w1.cell? ⟨w.heap.size + 1, 3, none⟩ = some (.int .i64 F) from cell_at pb); have pz3 := (show w1.frozen? ⟨w.heap.size + 1, 3, none⟩ = false from frozen_at pb); have p4 := (show w1.cell? ⟨w.heap.size + 1, 4, none⟩ = some (.int .i64 T) from cell_at pb); have pz4 := (show w1.frozen? ⟨w.heap.size + 1, 4, none⟩ = false from frozen_at pb); have pl := lt_of_cell p0; have pb' := Lib.hid pb; clear pb; have xb := hf1.keep hb2'.out (by simp); have x0 := (show w1.cell? ⟨w.heap.size + 2, 0, none⟩ = some (.int .i64 0) from cell_at xb); have xz0 := (show w1.frozen? ⟨w.heap.size + 2, 0, none⟩ = false from frozen_at xb); have x1 := (show w1.cell? ⟨w.heap.size + 2, 1, none⟩ = some (.slice none 0 0) from cell_at xb); have xz1 := (show w1.frozen? ⟨w.heap.size + 2, 1, none⟩ = false from frozen_at xb); have x2 := (show w1.cell? ⟨w.heap.size + 2, 2, none⟩ = some (.slice none 0 0) from cell_at xb); have xz2 := (show w1.frozen? ⟨w.heap.size + 2, 2, none⟩ = false from frozen_at xb); have x3 := (show w1.cell? ⟨w.heap.size + 2, 3, none⟩ = some (.int .i64 0) from cell_at xb); have xz3 := (show w1.frozen? ⟨w.heap.size + 2, 3, none⟩ = false from frozen_at xb); have xl := lt_of_cell x0; have xb' := Lib.hid xb; clear xb; clear hchk))
      have h4 := set4 xb'.out (.int .i64 0) (.slice none 0 0) (.slice none 0 0) (.int .i64 0)
      have f4 := fr_set4 (w1) (w.heap.size + 2) (.int .i64 0) (.slice none 0 0) (.slice none 0 0) (.int .i64 0)
      obtain ⟨wf, hwf⟩ : ∃ wf, wf = (((w1.setCell ⟨w.heap.size + 2, 0, none⟩ (.int .i64 0)).setCell ⟨w.heap.size + 2, 1, none⟩ (.slice none 0 0)).setCell ⟨w.heap.size + 2, 2, none⟩ (.slice none 0 0)).setCell ⟨w.heap.size + 2, 3, none⟩ (.int .i64 0) := ⟨_, rfl⟩
      rw [← hwf] at h4 f4 ⊢
      have p0 := (show wf.cell? ⟨w.heap.size + 2, 0, none⟩ = some (.int .i64 0) from cell_at h4)
      have p1 := (show wf.cell? ⟨w.heap.size + 2, 1, none⟩ = some (.slice none 0 0) from cell_at h4)
      have p2 := (show wf.cell? ⟨w.heap.size + 2, 2, none⟩ = some (.slice none 0 0) from cell_at h4)
      have p3 := (show wf.cell? ⟨w.heap.size + 2, 3, none⟩ = some (.int .i64 0) from cell_at h4)
      refine bodyPost_ret (v := .tuple #[.agg #[.int .i64 0, .slice none 0 0, .slice none 0 0, .int .i64 0], .int .i64 1]) (by simp [results, Tryd.results15, go_sem, p0, p1, p2, p3]) rfl ?_
      have hff : Fr [] w wf := (hFW.trans hf1).andThen f4 (fun t ht => .inr (by simp at ht; omega))
      exact ⟨_, _, rfl, hff, zero_is _⟩
    have hv : tablesP ⟨ep, sv, pt, tb⟩ n = (0, ⟨ep, sv, pt, n⟩) := by unfold tablesP; rw [if_neg (by omega)]
    rw [hv, if_pos rfl]
    dsimp only
    have n1b : decide (n < 1) = false := by simpa using n1
    have n2b : decide (8 < n) = false := by simpa using n2
    clear hv hd h2 h3 ho
    go_enter Tryd.func15, Tryd.ntmps15
    go_upto_region 1 with (fail)
    rw [← hW'.out]
    go_wp2_with (first | (go_at_call 11; refine hchk.mono ?_; rintro e w1 ⟨rfl, hf1⟩; have sb := hf1.keep hb1'.out (by simp); have s0 := (show w1.cell? ⟨w.heap.size, 0, none⟩ = some (.int .i64 ep) from cell_at sb); have sz0 := (show w1.frozen? ⟨w.heap.size, 0, none⟩ = false from frozen_at sb); have s1 := (show w1.cell? ⟨w.heap.size, 1, none⟩ = some (.slice a1 sv.length cap1) from cell_at sb); have sz1 := (show w1.frozen? ⟨w.heap.size, 1, none⟩ = false from frozen_at sb); have s2 := (show w1.cell? ⟨w.heap.size, 2, none⟩ = some (.slice a2 pt.length cap2) from cell_at sb); have sz2 := (show w1.frozen? ⟨w.heap.size, 2, none⟩ = false from frozen_at sb); have s3 := (show w1.cell? ⟨w.heap.size, 3, none⟩ = some (.int .i64 tb) from cell_at sb); have sz3 := (show w1.frozen? ⟨w.heap.size, 3, none⟩ = false from frozen_at sb); have sl := lt_of_cell s0; have sb' := Lib.hid sb; clear sb; have pb := hf1.keep hb3'.out (by simp); have p0 := (show w1.cell? ⟨w.heap.size + 1, 0, none⟩ = some (.int .i64 4) from cell_at pb); have pz0 := (show w1.frozen? ⟨w.heap.size + 1, 0, none⟩ = false from frozen_at pb); have p1 := (show w1.cell? ⟨w.heap.size + 1, 1, none⟩ = some (.int .i64 n) from cell_at pb); have pz1 := (show w1.frozen? ⟨w.heap.size + 1, 1, none⟩ = false from frozen_at pb); have p2 := (show w1.cell? ⟨w.heap.size + 1, 2, none⟩ = some (.int .i64 m) from cell_at pb); have pz2 := (show w1.frozen? ⟨w.heap.size + 1, 2, none⟩ = false from frozen_at pb); have p3 := (show w1.cell? ⟨w.heap.size + 1, 3, none⟩ = some (.int .i64 F) from cell_at pb); have pz3 := (show w1.frozen? ⟨w.heap.size + 1, 3, none⟩ = false from frozen_at pb); have p4 := (show w1.cell? ⟨w.heap.size + 1, 4, none⟩ = some (.int .i64 T) from cell_at pb); have pz4 := (show w1.frozen? ⟨w.heap.size + 1, 4, none⟩ = false from frozen_at pb); have pl := lt_of_cell p0; have pb' := Lib.hid pb; clear pb; have xb := hf1.keep hb2'.out (by simp); have x0 := (show w1.cell? ⟨w.heap.size + 2, 0, none⟩ = some (.int .i64 0) from cell_at xb); have xz0 := (show w1.frozen? ⟨w.heap.size + 2, 0, none⟩ = false from frozen_at xb); have x1 := (show w1.cell? ⟨w.heap.size + 2, 1, none⟩ = some (.slice none 0 0) from cell_at xb); have xz1 := (show w1.frozen? ⟨w.heap.size + 2, 1, none⟩ = false from frozen_at xb); have x2 := (show w1.cell? ⟨w.heap.size + 2, 2, none⟩ = some (.slice none 0 0) from cell_at xb); have xz2 := (show w1.frozen? ⟨w.heap.size + 2, 2, none⟩ = false from frozen_at xb); have x3 := (show w1.cell? ⟨w.heap.size + 2, 3, none⟩ = some (.int .i64 0) from cell_at xb); have xz3 := (show w1.frozen? ⟨w.heap.size + 2, 3, none⟩ = false from frozen_at xb); have xl := lt_of_cell x0; have xb' := Lib.hid xb; clear xb; clear hchk))
    have h5 := setCell_at (i := 0) (setCell_at (i := 3) sb'.out (.int .i64 n)) (.int .i64 (ep + 1))
    have f5 := ((Fr.refl [w.heap.size] w1).setCell ⟨w.heap.size, 3, none⟩ (.int .i64 n) (.inl (by simp))).setCell ⟨w.heap.size, 0, none⟩ (.int .i64 (ep + 1)) (.inl (by simp))
    have rb5 := f5.keep xb'.out (by simp)
    have h4 := set4 rb5 (.int .i64 (ep + 1)) (.slice a1 sv.length cap1) (.slice a2 pt.length cap2) (.int .i64 n)
    have f4 := fr_set4 (((w1.setCell ⟨w.heap.size, 3, none⟩ (.int .i64 n)).setCell ⟨w.heap.size, 0, none⟩ (.int .i64 (ep + 1)))) (w.heap.size + 2) (.int .i64 (ep + 1)) (.slice a1 sv.length cap1) (.slice a2 pt.length cap2) (.int .i64 n)
    obtain ⟨wf, hwf⟩ : ∃ wf, wf = (((((w1.setCell ⟨w.heap.size, 3, none⟩ (.int .i64 n)).setCell ⟨w.heap.size, 0, none⟩ (.int .i64 (ep + 1))).setCell ⟨w.heap.size + 2, 0, none⟩ (.int .i64 (ep + 1))).setCell ⟨w.heap.size + 2, 1, none⟩ (.slice a1 sv.length cap1)).setCell ⟨w.heap.size + 2, 2, none⟩ (.slice a2 pt.length cap2)).setCell ⟨w.heap.size + 2, 3, none⟩ (.int .i64 n) := ⟨_, rfl⟩
    rw [← hwf] at h4 f4 ⊢
    have p0 := (show wf.cell? ⟨w.heap.size + 2, 0, none⟩ = some (.int .i64 (ep + 1)) from cell_at h4)
    have p1 := (show wf.cell? ⟨w.heap.size + 2, 1, none⟩ = some (.slice a1 sv.length cap1) from cell_at h4)
    have p2 := (show wf.cell? ⟨w.heap.size + 2, 2, none⟩ = some (.slice a2 pt.length cap2) from cell_at h4)
    have p3 := (show wf.cell? ⟨w.heap.size + 2, 3, none⟩ = some (.int .i64 n) from cell_at h4)
    refine bodyPost_ret (v := .tuple #[.agg #[.int .i64 (ep + 1), .slice a1 sv.length cap1, .slice a2 pt.length cap2, .int .i64 n], .int .i64 0]) (by simp [results, Tryd.results15, go_sem, p0, p1, p2, p3]) rfl ?_
    have hff : Fr [] w wf := (((hFW.trans hf1).andThen f5 (fun t ht => .inr (by simp at ht; omega)))).andThen f4 (fun t ht => .inr (by simp at ht; omega))
    exact ⟨_, _, rfl, hff, ((((hcfg'.out.1).fr hFW (by simp)).fr hf1 (by simp)).fr f5 (by intro g hg _; have := hg.2; simp; omega)).fr f4 (by intro g hg _; have := hg.2; simp; omega) |>.imp (fun g _ h => .inl h.1), ((((hcfg'.out.2).fr hFW (by simp)).fr hf1 (by simp)).fr f5 (by intro g hg _; have := hg.2; simp; omega)).fr f4 (by intro g hg _; have := hg.2; simp; omega) |>.imp (fun g _ h => .inl h.1)⟩
end Go.Proofs.YthhpamaeibjpaaaDoor
end
