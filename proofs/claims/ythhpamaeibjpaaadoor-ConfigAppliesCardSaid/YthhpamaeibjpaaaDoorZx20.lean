/- Contracts and words, several texts in one. -/
import Derived.Deep.RegionLaw
import Derived.Deep.DrawnRows
import Derived.Deep.DeepCutAuto
import Derived.Deep.CutBlock
import Derived.StillTailTactics
import Derived.BigQuiet
import Derived.Test.YthhpamaeibjpaaaDoorZx19
section
namespace Go.Proofs.YthhpamaeibjpaaaDoor
open Go.RowKit Go.Maps Go.Lib Go.Sort
attribute [local go_sem ↓] Go.wp_at_zero Go.wp_at_succ
theorem box {w : World} {b : Nat} {cs : Array Value} {t : TypeId} (h : w.heap[b]? = some (.cells cs t (0, 0))) : (∀ i, w.cell? ⟨b, i, none⟩ = cs[i]?) ∧ (∀ i, w.frozen? ⟨b, i, none⟩ = false) ∧ b < w.heap.size :=
  ⟨fun _ => cell_at h, fun _ => frozen_at h, (Array.getElem?_eq_some_iff.1 h).1⟩
theorem own_ge {w : World} {base : Nat} {e : TypeId} {k n : Nat} {v : Value} {xs : List Value} (h : w.ownsRow base e k v n xs) : ∀ g ∈ v.ownBlock.toList, base ≤ g := by
  rcases h.2 with ⟨rfl, _⟩ | ⟨g, cap, cur, rfl, hg, _⟩
  · simp [Value.ownBlock]
  · intro x hm
    have : x = g := by simpa [Value.ownBlock] using hm
    omega
theorem rows_ge {w : World} {base cb : Nat} {vs vp : Value} {n1 n2 : Nat} {x1 x2 : List Value} {e1 e2 : TypeId} {k1 k2 : Nat} (h1 : w.ownsRow base e1 k1 vs n1 x1) (h2 : w.ownsRow base e2 k2 vp n2 x2) : ∀ t ∈ rowsOf cb vs vp, t = cb ∨ base ≤ t := by
  intro t ht
  unfold rowsOf at ht
  simp only [List.mem_cons, List.mem_append] at ht
  rcases ht with h | h | h
  · exact .inl h
  · exact .inr (own_ge h1 t h)
  · exact .inr (own_ge h2 t h)
set_option maxRecDepth 100000 in
set_option maxHeartbeats 16000000 in
theorem apply_any {B : Nat → Prop} (c : Cfg) (vs vp : Value) (o : Ord) (w : World) (h : CfgIs w B vs vp c) (hkin : KindsAt w) (hs : c.sv.length < 100000) (hp : c.pt.length < 100000) :
    Calls Tryd.prog 14 #[aggC c vs vp, aggO o] w (OutC B w (applyP c o)) := by
  have hcfg := h.imp (B' := fun g => B g ∧ g < w.heap.size) (fun g hg hb => ⟨hb, hg⟩)
  obtain ⟨ep, sv, pt, tb⟩ := c
  obtain ⟨ok, n, m, F, T⟩ := o
  obtain ⟨hsv, hpt⟩ := h
  dsimp only at hsv hpt hs hp
  have hsv0 := hsv; have hpt0 := hpt
  obtain ⟨a1, cap1, rfl, hs1, hs2, hat1⟩ := hsv.at encI_len
  obtain ⟨a2, cap2, rfl, hp1, hp2, hat2⟩ := hpt.at encPt_len
  have hat1' := Lib.hid hat1; have hat2' := Lib.hid hat2; have hsv' := Lib.hid hsv0; have hpt' := Lib.hid hpt0
  unfold aggC aggO
  dsimp only
  clear hat1 hat2 hsv hpt hsv0 hpt0
  obtain ⟨W, hW⟩ : ∃ W, W = ((w.alloc (.cells #[.int .i64 ep, .slice a1 sv.length cap1, .slice a2 pt.length cap2, .int .i64 tb] 26)).alloc (.cells #[.int .i64 ok, .int .i64 n, .int .i64 m, .int .i64 F, .int .i64 T] 30)).alloc (.cells #[.int .i64 0, .slice none 0 0, .slice none 0 0, .int .i64 0] 26) := ⟨_, rfl⟩
  have hFW : Fr [] w W := by rw [hW]; exact (((Fr.refl _ _).alloc _).alloc _).alloc _
  have hb1 : W.heap[w.heap.size]? = some (.cells #[.int .i64 ep, .slice a1 sv.length cap1, .slice a2 pt.length cap2, .int .i64 tb] 26 (0, 0)) := by
    rw [hW]; exact (((Fr.refl [] _).alloc _).alloc _).keep (heap_alloc_new w _) (by simp)
  have hb3 : W.heap[w.heap.size + 1]? = some (.cells #[.int .i64 ok, .int .i64 n, .int .i64 m, .int .i64 F, .int .i64 T] 30 (0, 0)) := by
    rw [hW]
    have := ((Fr.refl [] _).alloc (.cells #[.int .i64 0, .slice none 0 0, .slice none 0 0, .int .i64 0] 26)).keep (heap_alloc_new (w.alloc (.cells #[.int .i64 ep, .slice a1 sv.length cap1, .slice a2 pt.length cap2, .int .i64 tb] 26)) (.cells #[.int .i64 ok, .int .i64 n, .int .i64 m, .int .i64 F, .int .i64 T] 30)) (by simp)
    simpa using this
  have hb2 : W.heap[w.heap.size + 2]? = some (.cells #[.int .i64 0, .slice none 0 0, .slice none 0 0, .int .i64 0] 26 (0, 0)) := by
    rw [hW]
    have := heap_alloc_new ((w.alloc (.cells #[.int .i64 ep, .slice a1 sv.length cap1, .slice a2 pt.length cap2, .int .i64 tb] 26)).alloc (.cells #[.int .i64 ok, .int .i64 n, .int .i64 m, .int .i64 F, .int .i64 T] 30)) (.cells #[.int .i64 0, .slice none 0 0, .slice none 0 0, .int .i64 0] 26)
    simpa using this
  have hzW : W.heap.size = w.heap.size + 3 := by rw [hW]; simp
  have hb1' := Lib.hid hb1; have hb2' := Lib.hid hb2; have hb3' := Lib.hid hb3; have hW' := Lib.hid hW
  clear hW hb1 hb2 hb3
  have hchk : ∀ X, Fr [] w X → _ := fun X hX => check_any (hcfg.fr0 hX) (by dsimp only; omega) (by dsimp only; omega)
  have hchk := hchk W hFW
  have hcfg' := Lib.hid hcfg; have hkin' := Lib.hid hkin
  clear hkin
  unfold aggC at hchk
  dsimp only at hchk
  clear hcfg
  have kb := (Fr.refl [] W).keep hb1'.out (by simp)
  have k0 := (show W.cell? ⟨w.heap.size, 0, none⟩ = some (.int .i64 ep) from cell_at kb)
  have kz0 := (show W.frozen? ⟨w.heap.size, 0, none⟩ = false from frozen_at kb)
  have k1 := (show W.cell? ⟨w.heap.size, 1, none⟩ = some (.slice a1 sv.length cap1) from cell_at kb)
  have kz1 := (show W.frozen? ⟨w.heap.size, 1, none⟩ = false from frozen_at kb)
  have k2 := (show W.cell? ⟨w.heap.size, 2, none⟩ = some (.slice a2 pt.length cap2) from cell_at kb)
  have kz2 := (show W.frozen? ⟨w.heap.size, 2, none⟩ = false from frozen_at kb)
  have k3 := (show W.cell? ⟨w.heap.size, 3, none⟩ = some (.int .i64 tb) from cell_at kb)
  have kz3 := (show W.frozen? ⟨w.heap.size, 3, none⟩ = false from frozen_at kb)
  have kl := lt_of_cell k0
  have kb' := Lib.hid kb
  clear kb
  have ob := (Fr.refl [] W).keep hb3'.out (by simp)
  have o0 := (show W.cell? ⟨w.heap.size + 1, 0, none⟩ = some (.int .i64 ok) from cell_at ob)
  have oz0 := (show W.frozen? ⟨w.heap.size + 1, 0, none⟩ = false from frozen_at ob)
  have o1 := (show W.cell? ⟨w.heap.size + 1, 1, none⟩ = some (.int .i64 n) from cell_at ob)
  have oz1 := (show W.frozen? ⟨w.heap.size + 1, 1, none⟩ = false from frozen_at ob)
  have o2 := (show W.cell? ⟨w.heap.size + 1, 2, none⟩ = some (.int .i64 m) from cell_at ob)
  have oz2 := (show W.frozen? ⟨w.heap.size + 1, 2, none⟩ = false from frozen_at ob)
  have o3 := (show W.cell? ⟨w.heap.size + 1, 3, none⟩ = some (.int .i64 F) from cell_at ob)
  have oz3 := (show W.frozen? ⟨w.heap.size + 1, 3, none⟩ = false from frozen_at ob)
  have o4 := (show W.cell? ⟨w.heap.size + 1, 4, none⟩ = some (.int .i64 T) from cell_at ob)
  have oz4 := (show W.frozen? ⟨w.heap.size + 1, 4, none⟩ = false from frozen_at ob)
  have ol := lt_of_cell o0
  have ob' := Lib.hid ob
  clear ob
  have rb := (Fr.refl [] W).keep hb2'.out (by simp)
  have r0 := (show W.cell? ⟨w.heap.size + 2, 0, none⟩ = some (.int .i64 0) from cell_at rb)
  have rz0 := (show W.frozen? ⟨w.heap.size + 2, 0, none⟩ = false from frozen_at rb)
  have r1 := (show W.cell? ⟨w.heap.size + 2, 1, none⟩ = some (.slice none 0 0) from cell_at rb)
  have rz1 := (show W.frozen? ⟨w.heap.size + 2, 1, none⟩ = false from frozen_at rb)
  have r2 := (show W.cell? ⟨w.heap.size + 2, 2, none⟩ = some (.slice none 0 0) from cell_at rb)
  have rz2 := (show W.frozen? ⟨w.heap.size + 2, 2, none⟩ = false from frozen_at rb)
  have r3 := (show W.cell? ⟨w.heap.size + 2, 3, none⟩ = some (.int .i64 0) from cell_at rb)
  have rz3 := (show W.frozen? ⟨w.heap.size + 2, 3, none⟩ = false from frozen_at rb)
  have rl := lt_of_cell r0
  have rb' := Lib.hid rb
  clear rb
  cases ho : okC ⟨ep, sv, pt, tb⟩ with
  | false =>
    rw [apply_bad _ ho]
    have he : errC ⟨ep, sv, pt, tb⟩ = 1 := by unfold errC; rw [if_neg (by simp [ho])]
    rw [he] at hchk
    clear he ho
    go_enter Tryd.func14, Tryd.ntmps14
    go_upto_region 1 with (fail)
    rw [← hW'.out]
    go_wp2_with (first | (go_at_call 10; refine hchk.mono ?_; rintro e w1 ⟨rfl, hf1⟩; have sb := hf1.keep hb1'.out (by simp); have s0 := (show w1.cell? ⟨w.heap.size, 0, none⟩ = some (.int .i64 ep) from cell_at sb); have sz0 := (show w1.frozen? ⟨w.heap.size, 0, none⟩ = false from frozen_at sb); have s1 := (show w1.cell? ⟨w.heap.size, 1, none⟩ = some (.slice a1 sv.length cap1) from cell_at sb); have sz1 := (show w1.frozen? ⟨w.heap.size, 1, none⟩ = false from frozen_at sb); have s2 := (show w1.cell? ⟨w.heap.size, 2, none⟩ = some (.slice a2 pt.length cap2) from cell_at sb); have sz2 := (show w1.frozen? ⟨w.heap.size, 2, none⟩ = false from frozen_at sb); have s3 := (show w1.cell? ⟨w.heap.size, 3, none⟩ = some (.int .i64 tb) from cell_at sb); have sz3 := (show w1.frozen? ⟨w.heap.size, 3, none⟩ = false from frozen_at sb); have sl := lt_of_cell s0; have sb' := Lib.hid sb; clear sb; have pb := hf1.keep hb3'.out (by simp); have p0 := (show w1.cell? ⟨w.heap.size + 1, 0, none⟩ = some (.int .i64 ok) from cell_at pb); have pz0 := (show w1.frozen? ⟨w.heap.size + 1, 0, none⟩ = false from frozen_at pb); have p1 := (show w1.cell? ⟨w.heap.size + 1, 1, none⟩ = some (.int .i64 n) from cell_at pb); have pz1 := (show w1.frozen? ⟨w.heap.size + 1, 1, none⟩ = false from frozen_at pb); have p2 := (show w1.cell? ⟨w.heap.size + 1, 2, none⟩ = some (.int .i64 m) from cell_at pb); have pz2 := (show w1.frozen? ⟨w.heap.size + 1, 2, none⟩ = false from frozen_at pb); have p3 := (show w1.cell? ⟨w.heap.size + 1, 3, none⟩ = some (.int .i64 F) from cell_at pb); have pz3 := (show w1.frozen? ⟨w.heap.size + 1, 3, none⟩ = false from frozen_at pb); have p4 := (show w1.cell? ⟨w.heap.size + 1, 4, none⟩ = some (.int .i64 T) from cell_at pb); have pz4 := (show w1.frozen? ⟨w.heap.size + 1, 4, none⟩ = false from frozen_at pb); have pl := lt_of_cell p0; have pb' := Lib.hid pb; clear pb; have xb := hf1.keep hb2'.out (by simp); have x0 := (show w1.cell? ⟨w.heap.size + 2, 0, none⟩ = some (.int .i64 0) from cell_at xb); have xz0 := (show w1.frozen? ⟨w.heap.size + 2, 0, none⟩ = false from frozen_at xb); have x1 := (show w1.cell? ⟨w.heap.size + 2, 1, none⟩ = some (.slice none 0 0) from cell_at xb); have xz1 := (show w1.frozen? ⟨w.heap.size + 2, 1, none⟩ = false from frozen_at xb); have x2 := (show w1.cell? ⟨w.heap.size + 2, 2, none⟩ = some (.slice none 0 0) from cell_at xb); have xz2 := (show w1.frozen? ⟨w.heap.size + 2, 2, none⟩ = false from frozen_at xb); have x3 := (show w1.cell? ⟨w.heap.size + 2, 3, none⟩ = some (.int .i64 0) from cell_at xb); have xz3 := (show w1.frozen? ⟨w.heap.size + 2, 3, none⟩ = false from frozen_at xb); have xl := lt_of_cell x0; have xb' := Lib.hid xb; clear xb; clear hchk))
    have h4 := set4 xb'.out (.int .i64 0) (.slice none 0 0) (.slice none 0 0) (.int .i64 0)
    have f4 := fr_set4 (w1) (w.heap.size + 2) (.int .i64 0) (.slice none 0 0) (.slice none 0 0) (.int .i64 0)
    obtain ⟨wf, hwf⟩ : ∃ wf, wf = (((w1.setCell ⟨w.heap.size + 2, 0, none⟩ (.int .i64 0)).setCell ⟨w.heap.size + 2, 1, none⟩ (.slice none 0 0)).setCell ⟨w.heap.size + 2, 2, none⟩ (.slice none 0 0)).setCell ⟨w.heap.size + 2, 3, none⟩ (.int .i64 0) := ⟨_, rfl⟩
    rw [← hwf] at h4 f4 ⊢
    have p0 := (show wf.cell? ⟨w.heap.size + 2, 0, none⟩ = some (.int .i64 0) from cell_at h4)
    have p1 := (show wf.cell? ⟨w.heap.size + 2, 1, none⟩ = some (.slice none 0 0) from cell_at h4)
    have p2 := (show wf.cell? ⟨w.heap.size + 2, 2, none⟩ = some (.slice none 0 0) from cell_at h4)
    have p3 := (show wf.cell? ⟨w.heap.size + 2, 3, none⟩ = some (.int .i64 0) from cell_at h4)
    refine bodyPost_ret (v := .tuple #[.agg #[.int .i64 0, .slice none 0 0, .slice none 0 0, .int .i64 0], .int .i64 1]) (by simp [results, Tryd.results14, go_sem, p0, p1, p2, p3]) rfl ?_
    have hff : Fr [] w wf := (hFW.trans hf1).andThen f4 (fun t ht => .inr (by simp at ht; omega))
    exact ⟨_, _, rfl, hff, zero_is _⟩
  | true =>
    have he : errC ⟨ep, sv, pt, tb⟩ = 0 := by unfold errC; rw [if_pos ho]
    rw [he] at hchk
    clear he
    by_cases h2 : ep = 1099511627776
    · rw [apply_max _ ho h2]
      have h2b : (ep == 1099511627776) = true := by simpa using h2
      clear h2 ho
      go_enter Tryd.func14, Tryd.ntmps14
      go_upto_region 1 with (fail)
      rw [← hW'.out]
      go_wp2_with (first | (go_at_call 10; refine hchk.mono ?_; rintro e w1 ⟨rfl, hf1⟩; have sb := hf1.keep hb1'.out (by simp); have s0 := (show w1.cell? ⟨w.heap.size, 0, none⟩ = some (.int .i64 ep) from cell_at sb); have sz0 := (show w1.frozen? ⟨w.heap.size, 0, none⟩ = false from frozen_at sb); have s1 := (show w1.cell? ⟨w.heap.size, 1, none⟩ = some (.slice a1 sv.length cap1) from cell_at sb); have sz1 := (show w1.frozen? ⟨w.heap.size, 1, none⟩ = false from frozen_at sb); have s2 := (show w1.cell? ⟨w.heap.size, 2, none⟩ = some (.slice a2 pt.length cap2) from cell_at sb); have sz2 := (show w1.frozen? ⟨w.heap.size, 2, none⟩ = false from frozen_at sb); have s3 := (show w1.cell? ⟨w.heap.size, 3, none⟩ = some (.int .i64 tb) from cell_at sb); have sz3 := (show w1.frozen? ⟨w.heap.size, 3, none⟩ = false from frozen_at sb); have sl := lt_of_cell s0; have sb' := Lib.hid sb; clear sb; have pb := hf1.keep hb3'.out (by simp); have p0 := (show w1.cell? ⟨w.heap.size + 1, 0, none⟩ = some (.int .i64 ok) from cell_at pb); have pz0 := (show w1.frozen? ⟨w.heap.size + 1, 0, none⟩ = false from frozen_at pb); have p1 := (show w1.cell? ⟨w.heap.size + 1, 1, none⟩ = some (.int .i64 n) from cell_at pb); have pz1 := (show w1.frozen? ⟨w.heap.size + 1, 1, none⟩ = false from frozen_at pb); have p2 := (show w1.cell? ⟨w.heap.size + 1, 2, none⟩ = some (.int .i64 m) from cell_at pb); have pz2 := (show w1.frozen? ⟨w.heap.size + 1, 2, none⟩ = false from frozen_at pb); have p3 := (show w1.cell? ⟨w.heap.size + 1, 3, none⟩ = some (.int .i64 F) from cell_at pb); have pz3 := (show w1.frozen? ⟨w.heap.size + 1, 3, none⟩ = false from frozen_at pb); have p4 := (show w1.cell? ⟨w.heap.size + 1, 4, none⟩ = some (.int .i64 T) from cell_at pb); have pz4 := (show w1.frozen? ⟨w.heap.size + 1, 4, none⟩ = false from frozen_at pb); have pl := lt_of_cell p0; have pb' := Lib.hid pb; clear pb; have xb := hf1.keep hb2'.out (by simp); have x0 := (show w1.cell? ⟨w.heap.size + 2, 0, none⟩ = some (.int .i64 0) from cell_at xb); have xz0 := (show w1.frozen? ⟨w.heap.size + 2, 0, none⟩ = false from frozen_at xb); have x1 := (show w1.cell? ⟨w.heap.size + 2, 1, none⟩ = some (.slice none 0 0) from cell_at xb); have xz1 := (show w1.frozen? ⟨w.heap.size + 2, 1, none⟩ = false from frozen_at xb); have x2 := (show w1.cell? ⟨w.heap.size + 2, 2, none⟩ = some (.slice none 0 0) from cell_at xb); have xz2 := (show w1.frozen? ⟨w.heap.size + 2, 2, none⟩ = false from frozen_at xb); have x3 := (show w1.cell? ⟨w.heap.size + 2, 3, none⟩ = some (.int .i64 0) from cell_at xb); have xz3 := (show w1.frozen? ⟨w.heap.size + 2, 3, none⟩ = false from frozen_at xb); have xl := lt_of_cell x0; have xb' := Lib.hid xb; clear xb; clear hchk))
      have h4 := set4 xb'.out (.int .i64 0) (.slice none 0 0) (.slice none 0 0) (.int .i64 0)
      have f4 := fr_set4 (w1) (w.heap.size + 2) (.int .i64 0) (.slice none 0 0) (.slice none 0 0) (.int .i64 0)
      obtain ⟨wf, hwf⟩ : ∃ wf, wf = (((w1.setCell ⟨w.heap.size + 2, 0, none⟩ (.int .i64 0)).setCell ⟨w.heap.size + 2, 1, none⟩ (.slice none 0 0)).setCell ⟨w.heap.size + 2, 2, none⟩ (.slice none 0 0)).setCell ⟨w.heap.size + 2, 3, none⟩ (.int .i64 0) := ⟨_, rfl⟩
      rw [← hwf] at h4 f4 ⊢
      have p0 := (show wf.cell? ⟨w.heap.size + 2, 0, none⟩ = some (.int .i64 0) from cell_at h4)
      have p1 := (show wf.cell? ⟨w.heap.size + 2, 1, none⟩ = some (.slice none 0 0) from cell_at h4)
      have p2 := (show wf.cell? ⟨w.heap.size + 2, 2, none⟩ = some (.slice none 0 0) from cell_at h4)
      have p3 := (show wf.cell? ⟨w.heap.size + 2, 3, none⟩ = some (.int .i64 0) from cell_at h4)
      refine bodyPost_ret (v := .tuple #[.agg #[.int .i64 0, .slice none 0 0, .slice none 0 0, .int .i64 0], .int .i64 6]) (by simp [results, Tryd.results14, go_sem, p0, p1, p2, p3]) rfl ?_
      have hff : Fr [] w wf := (hFW.trans hf1).andThen f4 (fun t ht => .inr (by simp at ht; omega))
      exact ⟨_, _, rfl, hff, zero_is _⟩
    have h2b : (ep == 1099511627776) = false := by simpa using h2
    by_cases h3 : ok < 1 ∨ 4 < ok
    · rw [apply_kind _ ho h2 h3]
      have hwi : ∀ X, _ := fun X => within_any ok 1 4 X
      rw [show decide (1 ≤ ok ∧ ok ≤ 4) = false by simp; omega] at hwi
      clear h2 h3 ho
      go_enter Tryd.func14, Tryd.ntmps14
      go_upto_region 1 with (fail)
      rw [← hW'.out]
      go_wp2_with (first | (go_at_call 10; refine hchk.mono ?_; rintro e w1 ⟨rfl, hf1⟩; have sb := hf1.keep hb1'.out (by simp); have s0 := (show w1.cell? ⟨w.heap.size, 0, none⟩ = some (.int .i64 ep) from cell_at sb); have sz0 := (show w1.frozen? ⟨w.heap.size, 0, none⟩ = false from frozen_at sb); have s1 := (show w1.cell? ⟨w.heap.size, 1, none⟩ = some (.slice a1 sv.length cap1) from cell_at sb); have sz1 := (show w1.frozen? ⟨w.heap.size, 1, none⟩ = false from frozen_at sb); have s2 := (show w1.cell? ⟨w.heap.size, 2, none⟩ = some (.slice a2 pt.length cap2) from cell_at sb); have sz2 := (show w1.frozen? ⟨w.heap.size, 2, none⟩ = false from frozen_at sb); have s3 := (show w1.cell? ⟨w.heap.size, 3, none⟩ = some (.int .i64 tb) from cell_at sb); have sz3 := (show w1.frozen? ⟨w.heap.size, 3, none⟩ = false from frozen_at sb); have sl := lt_of_cell s0; have sb' := Lib.hid sb; clear sb; have pb := hf1.keep hb3'.out (by simp); have p0 := (show w1.cell? ⟨w.heap.size + 1, 0, none⟩ = some (.int .i64 ok) from cell_at pb); have pz0 := (show w1.frozen? ⟨w.heap.size + 1, 0, none⟩ = false from frozen_at pb); have p1 := (show w1.cell? ⟨w.heap.size + 1, 1, none⟩ = some (.int .i64 n) from cell_at pb); have pz1 := (show w1.frozen? ⟨w.heap.size + 1, 1, none⟩ = false from frozen_at pb); have p2 := (show w1.cell? ⟨w.heap.size + 1, 2, none⟩ = some (.int .i64 m) from cell_at pb); have pz2 := (show w1.frozen? ⟨w.heap.size + 1, 2, none⟩ = false from frozen_at pb); have p3 := (show w1.cell? ⟨w.heap.size + 1, 3, none⟩ = some (.int .i64 F) from cell_at pb); have pz3 := (show w1.frozen? ⟨w.heap.size + 1, 3, none⟩ = false from frozen_at pb); have p4 := (show w1.cell? ⟨w.heap.size + 1, 4, none⟩ = some (.int .i64 T) from cell_at pb); have pz4 := (show w1.frozen? ⟨w.heap.size + 1, 4, none⟩ = false from frozen_at pb); have pl := lt_of_cell p0; have pb' := Lib.hid pb; clear pb; have xb := hf1.keep hb2'.out (by simp); have x0 := (show w1.cell? ⟨w.heap.size + 2, 0, none⟩ = some (.int .i64 0) from cell_at xb); have xz0 := (show w1.frozen? ⟨w.heap.size + 2, 0, none⟩ = false from frozen_at xb); have x1 := (show w1.cell? ⟨w.heap.size + 2, 1, none⟩ = some (.slice none 0 0) from cell_at xb); have xz1 := (show w1.frozen? ⟨w.heap.size + 2, 1, none⟩ = false from frozen_at xb); have x2 := (show w1.cell? ⟨w.heap.size + 2, 2, none⟩ = some (.slice none 0 0) from cell_at xb); have xz2 := (show w1.frozen? ⟨w.heap.size + 2, 2, none⟩ = false from frozen_at xb); have x3 := (show w1.cell? ⟨w.heap.size + 2, 3, none⟩ = some (.int .i64 0) from cell_at xb); have xz3 := (show w1.frozen? ⟨w.heap.size + 2, 3, none⟩ = false from frozen_at xb); have xl := lt_of_cell x0; have xb' := Lib.hid xb; clear xb; clear hchk) | (go_at_call 29; refine (hwi _).mono ?_; rintro e wk ⟨rfl, hfk⟩; have xc := hfk.keep xb'.out (by simp); have xc0 := (show wk.cell? ⟨w.heap.size + 2, 0, none⟩ = some (.int .i64 0) from cell_at xc); have xcz0 := (show wk.frozen? ⟨w.heap.size + 2, 0, none⟩ = false from frozen_at xc); have xc1 := (show wk.cell? ⟨w.heap.size + 2, 1, none⟩ = some (.slice none 0 0) from cell_at xc); have xcz1 := (show wk.frozen? ⟨w.heap.size + 2, 1, none⟩ = false from frozen_at xc); have xc2 := (show wk.cell? ⟨w.heap.size + 2, 2, none⟩ = some (.slice none 0 0) from cell_at xc); have xcz2 := (show wk.frozen? ⟨w.heap.size + 2, 2, none⟩ = false from frozen_at xc); have xc3 := (show wk.cell? ⟨w.heap.size + 2, 3, none⟩ = some (.int .i64 0) from cell_at xc); have xcz3 := (show wk.frozen? ⟨w.heap.size + 2, 3, none⟩ = false from frozen_at xc); have xcl := lt_of_cell xc0; have xc' := Lib.hid xc; clear xc))
      have h4 := set4 xc'.out (.int .i64 0) (.slice none 0 0) (.slice none 0 0) (.int .i64 0)
      have f4 := fr_set4 (wk) (w.heap.size + 2) (.int .i64 0) (.slice none 0 0) (.slice none 0 0) (.int .i64 0)
      obtain ⟨wf, hwf⟩ : ∃ wf, wf = (((wk.setCell ⟨w.heap.size + 2, 0, none⟩ (.int .i64 0)).setCell ⟨w.heap.size + 2, 1, none⟩ (.slice none 0 0)).setCell ⟨w.heap.size + 2, 2, none⟩ (.slice none 0 0)).setCell ⟨w.heap.size + 2, 3, none⟩ (.int .i64 0) := ⟨_, rfl⟩
      rw [← hwf] at h4 f4 ⊢
      have p0 := (show wf.cell? ⟨w.heap.size + 2, 0, none⟩ = some (.int .i64 0) from cell_at h4)
      have p1 := (show wf.cell? ⟨w.heap.size + 2, 1, none⟩ = some (.slice none 0 0) from cell_at h4)
      have p2 := (show wf.cell? ⟨w.heap.size + 2, 2, none⟩ = some (.slice none 0 0) from cell_at h4)
      have p3 := (show wf.cell? ⟨w.heap.size + 2, 3, none⟩ = some (.int .i64 0) from cell_at h4)
      refine bodyPost_ret (v := .tuple #[.agg #[.int .i64 0, .slice none 0 0, .slice none 0 0, .int .i64 0], .int .i64 1]) (by simp [results, Tryd.results14, go_sem, p0, p1, p2, p3]) rfl ?_
      have hff : Fr [] w wf := ((hFW.trans hf1).trans hfk).andThen f4 (fun t ht => .inr (by simp at ht; omega))
      exact ⟨_, _, rfl, hff, zero_is _⟩
    have hwi : ∀ X, _ := fun X => within_any ok 1 4 X
    rw [show decide (1 ≤ ok ∧ ok ≤ 4) = true by simp; omega] at hwi
    have h2' := Lib.hid h2; have h3' := Lib.hid h3; have ho' := Lib.hid ho
    clear h2 h3 ho
    go_enter Tryd.func14, Tryd.ntmps14
    go_upto_region 1 with (fail)
    rw [← hW'.out]
    go_upto_region 8 with (first | (go_at_call 10; refine hchk.mono ?_; rintro e w1 ⟨rfl, hf1⟩; have sb := hf1.keep hb1'.out (by simp); have s0 := (show w1.cell? ⟨w.heap.size, 0, none⟩ = some (.int .i64 ep) from cell_at sb); have sz0 := (show w1.frozen? ⟨w.heap.size, 0, none⟩ = false from frozen_at sb); have s1 := (show w1.cell? ⟨w.heap.size, 1, none⟩ = some (.slice a1 sv.length cap1) from cell_at sb); have sz1 := (show w1.frozen? ⟨w.heap.size, 1, none⟩ = false from frozen_at sb); have s2 := (show w1.cell? ⟨w.heap.size, 2, none⟩ = some (.slice a2 pt.length cap2) from cell_at sb); have sz2 := (show w1.frozen? ⟨w.heap.size, 2, none⟩ = false from frozen_at sb); have s3 := (show w1.cell? ⟨w.heap.size, 3, none⟩ = some (.int .i64 tb) from cell_at sb); have sz3 := (show w1.frozen? ⟨w.heap.size, 3, none⟩ = false from frozen_at sb); have sl := lt_of_cell s0; have sb' := Lib.hid sb; clear sb; have pb := hf1.keep hb3'.out (by simp); have p0 := (show w1.cell? ⟨w.heap.size + 1, 0, none⟩ = some (.int .i64 ok) from cell_at pb); have pz0 := (show w1.frozen? ⟨w.heap.size + 1, 0, none⟩ = false from frozen_at pb); have p1 := (show w1.cell? ⟨w.heap.size + 1, 1, none⟩ = some (.int .i64 n) from cell_at pb); have pz1 := (show w1.frozen? ⟨w.heap.size + 1, 1, none⟩ = false from frozen_at pb); have p2 := (show w1.cell? ⟨w.heap.size + 1, 2, none⟩ = some (.int .i64 m) from cell_at pb); have pz2 := (show w1.frozen? ⟨w.heap.size + 1, 2, none⟩ = false from frozen_at pb); have p3 := (show w1.cell? ⟨w.heap.size + 1, 3, none⟩ = some (.int .i64 F) from cell_at pb); have pz3 := (show w1.frozen? ⟨w.heap.size + 1, 3, none⟩ = false from frozen_at pb); have p4 := (show w1.cell? ⟨w.heap.size + 1, 4, none⟩ = some (.int .i64 T) from cell_at pb); have pz4 := (show w1.frozen? ⟨w.heap.size + 1, 4, none⟩ = false from frozen_at pb); have pl := lt_of_cell p0; have pb' := Lib.hid pb; clear pb; have xb := hf1.keep hb2'.out (by simp); have x0 := (show w1.cell? ⟨w.heap.size + 2, 0, none⟩ = some (.int .i64 0) from cell_at xb); have xz0 := (show w1.frozen? ⟨w.heap.size + 2, 0, none⟩ = false from frozen_at xb); have x1 := (show w1.cell? ⟨w.heap.size + 2, 1, none⟩ = some (.slice none 0 0) from cell_at xb); have xz1 := (show w1.frozen? ⟨w.heap.size + 2, 1, none⟩ = false from frozen_at xb); have x2 := (show w1.cell? ⟨w.heap.size + 2, 2, none⟩ = some (.slice none 0 0) from cell_at xb); have xz2 := (show w1.frozen? ⟨w.heap.size + 2, 2, none⟩ = false from frozen_at xb); have x3 := (show w1.cell? ⟨w.heap.size + 2, 3, none⟩ = some (.int .i64 0) from cell_at xb); have xz3 := (show w1.frozen? ⟨w.heap.size + 2, 3, none⟩ = false from frozen_at xb); have xl := lt_of_cell x0; have xb' := Lib.hid xb; clear xb; clear hchk) | (go_at_call 29; refine (hwi _).mono ?_; rintro e wk ⟨rfl, hfk⟩; have kc := hfk.keep sb'.out (by simp); have kc0 := (show wk.cell? ⟨w.heap.size, 0, none⟩ = some (.int .i64 ep) from cell_at kc); have kcz0 := (show wk.frozen? ⟨w.heap.size, 0, none⟩ = false from frozen_at kc); have kc1 := (show wk.cell? ⟨w.heap.size, 1, none⟩ = some (.slice a1 sv.length cap1) from cell_at kc); have kcz1 := (show wk.frozen? ⟨w.heap.size, 1, none⟩ = false from frozen_at kc); have kc2 := (show wk.cell? ⟨w.heap.size, 2, none⟩ = some (.slice a2 pt.length cap2) from cell_at kc); have kcz2 := (show wk.frozen? ⟨w.heap.size, 2, none⟩ = false from frozen_at kc); have kc3 := (show wk.cell? ⟨w.heap.size, 3, none⟩ = some (.int .i64 tb) from cell_at kc); have kcz3 := (show wk.frozen? ⟨w.heap.size, 3, none⟩ = false from frozen_at kc); have kcl := lt_of_cell kc0; have kc' := Lib.hid kc; clear kc))
    have hFk : Fr [] w wk := (hFW.trans hf1).trans hfk
    have hcl1 : ∀ X, Fr [] wk X → _ := fun X hX => clone_int _ _ X (hsv'.out.fr (hFk.trans hX) (by simp)) (by omega)
    have hcl2 : ∀ X, Fr [] wk X → _ := fun X hX => clone_pt _ _ X (hpt'.out.fr (hFk.trans hX) (by simp)) (by omega)
    have hcl1' := Lib.hid hcl1; have hcl2' := Lib.hid hcl2
    clear hcl1 hcl2 hwi hchk
    go_cut [28] (fun s28 wx => ∃ vs vp : Value, wx.heap[w.heap.size]? = some (.cells #[.int .i64 ep, vs, vp, .int .i64 tb] 26 (0, 0)) ∧ wx.ownsRow (w.heap.size + 3) 3 1 vs sv.length (sv.flatMap encI) ∧ wx.ownsRow (w.heap.size + 3) 71 4 vp pt.length (pt.flatMap encPt) ∧ Fr [w.heap.size] wk wx)
    case first =>
      have hzk := hFk.size
      have hzf := hfk.size
      have hz1 := hf1.size
      go_region_with (first | (go_at_call 31; (first | refine (hcl1'.out _ (Fr.refl [] wk).drew).mono ?_ | refine (hcl1'.out _ ((Fr.refl [] wk).drew.trans hfB)).mono ?_); rintro e wA ⟨vA, rfl, hfA, hownA⟩; obtain ⟨aA, capA, rfl, -, -, -⟩ := SliceIs.of_owns hownA rfl; have hownA' := Lib.hid hownA; clear hownA; (first | have hFA : Fr [] wk wA := ((Fr.refl [] wk).drew.trans hfB).trans hfA | have hFA : Fr [] wk wA := (Fr.refl [] wk).drew.trans hfA); have cA := hFA.keep kc'.out (by simp); have cA0 := (show wA.cell? ⟨w.heap.size, 0, none⟩ = some (.int .i64 ep) from cell_at cA); have cAz0 := (show wA.frozen? ⟨w.heap.size, 0, none⟩ = false from frozen_at cA); have cA1 := (show wA.cell? ⟨w.heap.size, 1, none⟩ = some (.slice a1 sv.length cap1) from cell_at cA); have cAz1 := (show wA.frozen? ⟨w.heap.size, 1, none⟩ = false from frozen_at cA); have cA2 := (show wA.cell? ⟨w.heap.size, 2, none⟩ = some (.slice a2 pt.length cap2) from cell_at cA); have cAz2 := (show wA.frozen? ⟨w.heap.size, 2, none⟩ = false from frozen_at cA); have cA3 := (show wA.cell? ⟨w.heap.size, 3, none⟩ = some (.int .i64 tb) from cell_at cA); have cAz3 := (show wA.frozen? ⟨w.heap.size, 3, none⟩ = false from frozen_at cA); have cAl := lt_of_cell cA0; have cA' := Lib.hid cA; clear cA) | (go_at_call 32; (first | refine (hcl2'.out _ (Fr.refl [] wk).drew).mono ?_ | refine (hcl2'.out _ ((Fr.refl [] wk).drew.trans hfA)).mono ?_); rintro e wB ⟨vB, rfl, hfB, hownB⟩; obtain ⟨aB, capB, rfl, -, -, -⟩ := SliceIs.of_owns hownB rfl; have hownB' := Lib.hid hownB; clear hownB; (first | have hFB : Fr [] wk wB := ((Fr.refl [] wk).drew.trans hfA).trans hfB | have hFB : Fr [] wk wB := (Fr.refl [] wk).drew.trans hfB); have cB := hFB.keep kc'.out (by simp); have cB0 := (show wB.cell? ⟨w.heap.size, 0, none⟩ = some (.int .i64 ep) from cell_at cB); have cBz0 := (show wB.frozen? ⟨w.heap.size, 0, none⟩ = false from frozen_at cB); have cB1 := (show wB.cell? ⟨w.heap.size, 1, none⟩ = some (.slice a1 sv.length cap1) from cell_at cB); have cBz1 := (show wB.frozen? ⟨w.heap.size, 1, none⟩ = false from frozen_at cB); have cB2 := (show wB.cell? ⟨w.heap.size, 2, none⟩ = some (.slice a2 pt.length cap2) from cell_at cB); have cBz2 := (show wB.frozen? ⟨w.heap.size, 2, none⟩ = false from frozen_at cB); have cB3 := (show wB.cell? ⟨w.heap.size, 3, none⟩ = some (.int .i64 tb) from cell_at cB); have cBz3 := (show wB.frozen? ⟨w.heap.size, 3, none⟩ = false from frozen_at cB); have cBl := lt_of_cell cB0; have cB' := Lib.hid cB; clear cB))
      all_goals (go_wp2_with fail; go_meet)
      all_goals (
        have hz5 := hFA.size
        have hz6 := hFB.size
        have hA9 : wB.ownsRow (w.heap.size + 3) 3 1 (.slice aA sv.length capA) sv.length (sv.flatMap encI) := owns_base (by first | exact owns_fr hownA'.out hfB (by simp) | exact owns_fr hownA'.out ((Fr.refl [] _).drew.trans hfB) (by simp)) (by first | omega | (simp; omega))
        have hB9 : wB.ownsRow (w.heap.size + 3) 71 4 (.slice aB pt.length capB) pt.length (pt.flatMap encPt) := owns_base hownB'.out (by first | omega | (simp; omega))
        have f9 : Fr [w.heap.size] wB ((wB.setCell ⟨w.heap.size, 1, none⟩ (.slice aA sv.length capA)).setCell ⟨w.heap.size, 2, none⟩ (.slice aB pt.length capB)) := ((Fr.refl [w.heap.size] wB).setCell _ _ (.inl (by simp))).setCell _ _ (.inl (by simp))
        refine ⟨.slice aA sv.length capA, .slice aB pt.length capB, setCell_at (i := 2) (setCell_at (i := 1) cB'.out _) _, owns_fr2 hA9 f9 (fun g hg hm => by have := hA9.lt g hg; simp at hm; omega), owns_fr2 hB9 f9 (fun g hg hm => by have := hB9.lt g hg; simp at hm; omega), (hFB.mono (by simp)).trans f9⟩)
    case rest =>
      obtain ⟨vs, vp, hbx, hrs, hrp, hfx⟩ := hcut
      rcases (by have := h3'.out; omega : ok = 1 ∨ ok = 2 ∨ ok = 3 ∨ ok = 4) with rfl | rfl | rfl | rfl
      · have h0w : 0 < w.heap.size := lt_of_cell (hkin'.out 1 (by omega) (by omega))
        have hkc := ((hkin'.out.fr hFk (by simp)).fr hfx (by simp; omega)) 1 (by omega) (by omega)
        replace hkc : wc.cell? ⟨0, 1, none⟩ = some (.func (.func 80) #[] #[]) := hkc
        have hob := hfx.keep ((hf1.trans hfk).keep hb3'.out (by simp)) (by simp)
        have hzk := hFk.size
        have hzf := hfk.size
        have hz1 := hf1.size
        have hzx := hfx.size
        have hdo := fun X (hX : Fr [] wc X) => do_any (base := w.heap.size + 3) (cb := w.heap.size) ⟨ep, sv, pt, tb⟩ vs vp (1, n, m, F, T) X ⟨hX.keep hbx (by simp), owns_fr hrs hX (by simp), owns_fr hrp hX (by simp)⟩ (by have := hX.size; omega) ((okC_iff _).1 ho'.out).2.1 hs hp (by dsimp only; omega) (by dsimp only; omega)
        have g0 := (show wc.cell? ⟨w.heap.size + 1, 0, none⟩ = some (.int .i64 1) from cell_at hob)
        have g1 := (show wc.cell? ⟨w.heap.size + 1, 1, none⟩ = some (.int .i64 n) from cell_at hob)
        have g2 := (show wc.cell? ⟨w.heap.size + 1, 2, none⟩ = some (.int .i64 m) from cell_at hob)
        have g3 := (show wc.cell? ⟨w.heap.size + 1, 3, none⟩ = some (.int .i64 F) from cell_at hob)
        have g4 := (show wc.cell? ⟨w.heap.size + 1, 4, none⟩ = some (.int .i64 T) from cell_at hob)
        have lk := lt_of_cell hkc
        have lg := lt_of_cell g0
        dsimp only at hdo
        unfold aggO at hdo
        dsimp only at hdo
        have hdo' := Lib.hid hdo
        clear hdo
        have hep := do_ep (c := ⟨ep, sv, pt, tb⟩) (o := (1, n, m, F, T))
        have hep1 := (((okC_iff _).1 ho'.out).1).1
        have hep2 := (((okC_iff _).1 ho'.out).1).2.1
        dsimp only at hep hep1 hep2
        obtain ⟨D, hD⟩ : ∃ D, D = doP ⟨ep, sv, pt, tb⟩ (1, n, m, F, T) := ⟨_, rfl⟩
        have hdo := hdo'.out
        rw [← hD] at hep hdo
        have hD' := Lib.hid hD
        clear hdo' hD
        obtain ⟨r, ep', sv', pt', tb'⟩ := D
        dsimp only at hep hdo
        subst hep
        have hdo' := Lib.hid hdo
        clear hdo
        have hxb := hfx.keep ((hf1.trans hfk).keep hb2'.out (by simp)) (by simp)
        obtain ⟨v0, v1, v2⟩ := box hxb
        have hrows := rows_ge (cb := w.heap.size) hrs hrp
        have hrows' := Lib.hid hrows; have hxb' := Lib.hid hxb; have hfx' := Lib.hid hfx; have hFk' := Lib.hid hFk
        clear hrows hxb hfx hFk hbx hrs hrp hob
        by_cases hr : r = 0
        · subst hr
          go_upto_region 9 with (fail)
          refine wp_region_still_tail 6 (by kernel_rfl) (by kernel_rfl) ?_
          simp only [List.take_succ_cons, List.take_zero, List.drop_succ_cons, List.drop_zero]
          change wpStill Tryd.prog _ (World.drew _) _ _ _
          repeat still_step
          refine wpStill_nil ?_
          change wpList _ _ _ _ _ (World.drew _)
          go_wp2_with (first | (go_at_call 80; refine (hdo'.out _ (Fr.refl [] wc).drew).mono ?_; rintro e wd ⟨rfl, hfd, hcd⟩; obtain ⟨vs', vp', hb', hs', hp'⟩ := hcd rfl; obtain ⟨av, cv, rfl, -, -, -⟩ := SliceIs.of_owns hs' rfl; obtain ⟨ap, cp, rfl, -, -, -⟩ := SliceIs.of_owns hp' rfl; obtain ⟨c0, c1, c2⟩ := box hb'; have hx' := hfd.keep (b := wd) hxb'.out (fun hm => by have := hrows'.out _ hm; omega); obtain ⟨x0, x1, x2⟩ := box hx'; have hq' := Lib.hid hx'; have hb8 := Lib.hid hb'; have hs8 := Lib.hid hs'; have hp8 := Lib.hid hp'; have hfd' := Lib.hid hfd; clear hx' hb' hs' hp' hfd hcd v0 v1 v2))
          obtain ⟨w5, hw5⟩ : ∃ w5, w5 = wd.setCell ⟨w.heap.size, 0, none⟩ (.int .i64 (ep' + 1)) := ⟨_, rfl⟩
          have f5 : Fr [w.heap.size] wd w5 := by rw [hw5]; exact (Fr.refl _ _).setCell _ _ (.inl (by simp))
          have hq5 := f5.keep hq'.out (by simp)
          rw [← hw5]
          have h4 := set4 hq5 (.int .i64 (ep' + 1)) (.slice av sv'.length cv) (.slice ap pt'.length cp) (.int .i64 tb')
          have f4 := fr_set4 w5 (w.heap.size + 2) (.int .i64 (ep' + 1)) (.slice av sv'.length cv) (.slice ap pt'.length cp) (.int .i64 tb')
          obtain ⟨wf, hwf⟩ : ∃ wf, wf = (((w5.setCell ⟨w.heap.size + 2, 0, none⟩ (.int .i64 (ep' + 1))).setCell ⟨w.heap.size + 2, 1, none⟩ (.slice av sv'.length cv)).setCell ⟨w.heap.size + 2, 2, none⟩ (.slice ap pt'.length cp)).setCell ⟨w.heap.size + 2, 3, none⟩ (.int .i64 tb') := ⟨_, rfl⟩
          rw [← hwf] at h4 f4 ⊢
          obtain ⟨p0, -, -⟩ := box h4
          refine bodyPost_ret (v := .tuple #[.agg #[.int .i64 (ep' + 1), .slice av sv'.length cv, .slice ap pt'.length cp, .int .i64 tb'], .int .i64 0]) (by simp [results, Tryd.results14, go_sem, p0]) rfl ?_
          rw [apply_do _ ho'.out h2'.out h3'.out, ← hD'.out]
          dsimp only
          rw [if_pos rfl]
          have q1 : Fr [] w wc := hFk'.out.andThen hfx'.out (fun t ht => .inr (by simp at ht; omega))
          have q2 : Fr [] w wd := q1.drew.andThen hfd'.out (fun t ht => .inr (by have := hrows'.out t ht; omega))
          have q3 : Fr [] w wf := (q2.andThen f5 (fun t ht => .inr (by simp at ht; omega))).andThen f4 (fun t ht => .inr (by simp at ht; omega))
          exact ⟨_, _, rfl, q3, (SliceIs.of_owns (owns_fr (owns_fr hs8.out f5 (by simp)) f4 (by simp)) rfl).imp (fun g _ hb => .inr (by omega)), (SliceIs.of_owns (owns_fr (owns_fr hp8.out f5 (by simp)) f4 (by simp)) rfl).imp (fun g _ hb => .inr (by omega))⟩
        · have hrb : (r == 0) = false := by simpa using hr
          go_upto_region 9 with (fail)
          refine wp_region_still_tail 6 (by kernel_rfl) (by kernel_rfl) ?_
          simp only [List.take_succ_cons, List.take_zero, List.drop_succ_cons, List.drop_zero]
          change wpStill Tryd.prog _ (World.drew _) _ _ _
          repeat still_step
          refine wpStill_nil ?_
          change wpList _ _ _ _ _ (World.drew _)
          go_wp2_with (first | (go_at_call 80; refine (hdo'.out _ (Fr.refl [] wc).drew).mono ?_; rintro e wd ⟨rfl, hfd, hcd⟩; have hx' := hfd.keep (b := wd) hxb'.out (fun hm => by have := hrows'.out _ hm; omega); obtain ⟨x0, x1, x2⟩ := box hx'; have hq' := Lib.hid hx'; have hfd' := Lib.hid hfd; clear hx' hfd hcd v0 v1 v2))
          have h4 := set4 hq'.out (.int .i64 0) (.slice none 0 0) (.slice none 0 0) (.int .i64 0)
          have f4 := fr_set4 wd (w.heap.size + 2) (.int .i64 0) (.slice none 0 0) (.slice none 0 0) (.int .i64 0)
          obtain ⟨wf, hwf⟩ : ∃ wf, wf = (((wd.setCell ⟨w.heap.size + 2, 0, none⟩ (.int .i64 0)).setCell ⟨w.heap.size + 2, 1, none⟩ (.slice none 0 0)).setCell ⟨w.heap.size + 2, 2, none⟩ (.slice none 0 0)).setCell ⟨w.heap.size + 2, 3, none⟩ (.int .i64 0) := ⟨_, rfl⟩
          rw [← hwf] at h4 f4 ⊢
          obtain ⟨p0, -, -⟩ := box h4
          refine bodyPost_ret (v := .tuple #[.agg #[.int .i64 0, .slice none 0 0, .slice none 0 0, .int .i64 0], .int .i64 r]) (by simp [results, Tryd.results14, go_sem, p0]) rfl ?_
          rw [apply_do _ ho'.out h2'.out h3'.out, ← hD'.out]
          dsimp only
          rw [if_neg hr]
          have q1 : Fr [] w wc := hFk'.out.andThen hfx'.out (fun t ht => .inr (by simp at ht; omega))
          have q2 : Fr [] w wd := q1.drew.andThen hfd'.out (fun t ht => .inr (by have := hrows'.out t ht; omega))
          have q3 : Fr [] w wf := q2.andThen f4 (fun t ht => .inr (by simp at ht; omega))
          exact ⟨_, _, rfl, q3, zero_is _⟩
      · have h0w : 0 < w.heap.size := lt_of_cell (hkin'.out 2 (by omega) (by omega))
        have hkc := ((hkin'.out.fr hFk (by simp)).fr hfx (by simp; omega)) 2 (by omega) (by omega)
        replace hkc : wc.cell? ⟨0, 2, none⟩ = some (.func (.func 81) #[] #[]) := hkc
        have hob := hfx.keep ((hf1.trans hfk).keep hb3'.out (by simp)) (by simp)
        have hzk := hFk.size
        have hzf := hfk.size
        have hz1 := hf1.size
        have hzx := hfx.size
        have hdo := fun X (hX : Fr [] wc X) => do_any (base := w.heap.size + 3) (cb := w.heap.size) ⟨ep, sv, pt, tb⟩ vs vp (2, n, m, F, T) X ⟨hX.keep hbx (by simp), owns_fr hrs hX (by simp), owns_fr hrp hX (by simp)⟩ (by have := hX.size; omega) ((okC_iff _).1 ho'.out).2.1 hs hp (by dsimp only; omega) (by dsimp only; omega)
        have g0 := (show wc.cell? ⟨w.heap.size + 1, 0, none⟩ = some (.int .i64 2) from cell_at hob)
        have g1 := (show wc.cell? ⟨w.heap.size + 1, 1, none⟩ = some (.int .i64 n) from cell_at hob)
        have g2 := (show wc.cell? ⟨w.heap.size + 1, 2, none⟩ = some (.int .i64 m) from cell_at hob)
        have g3 := (show wc.cell? ⟨w.heap.size + 1, 3, none⟩ = some (.int .i64 F) from cell_at hob)
        have g4 := (show wc.cell? ⟨w.heap.size + 1, 4, none⟩ = some (.int .i64 T) from cell_at hob)
        have lk := lt_of_cell hkc
        have lg := lt_of_cell g0
        dsimp only at hdo
        unfold aggO at hdo
        dsimp only at hdo
        have hdo' := Lib.hid hdo
        clear hdo
        have hep := do_ep (c := ⟨ep, sv, pt, tb⟩) (o := (2, n, m, F, T))
        have hep1 := (((okC_iff _).1 ho'.out).1).1
        have hep2 := (((okC_iff _).1 ho'.out).1).2.1
        dsimp only at hep hep1 hep2
        obtain ⟨D, hD⟩ : ∃ D, D = doP ⟨ep, sv, pt, tb⟩ (2, n, m, F, T) := ⟨_, rfl⟩
        have hdo := hdo'.out
        rw [← hD] at hep hdo
        have hD' := Lib.hid hD
        clear hdo' hD
        obtain ⟨r, ep', sv', pt', tb'⟩ := D
        dsimp only at hep hdo
        subst hep
        have hdo' := Lib.hid hdo
        clear hdo
        have hxb := hfx.keep ((hf1.trans hfk).keep hb2'.out (by simp)) (by simp)
        obtain ⟨v0, v1, v2⟩ := box hxb
        have hrows := rows_ge (cb := w.heap.size) hrs hrp
        have hrows' := Lib.hid hrows; have hxb' := Lib.hid hxb; have hfx' := Lib.hid hfx; have hFk' := Lib.hid hFk
        clear hrows hxb hfx hFk hbx hrs hrp hob
        by_cases hr : r = 0
        · subst hr
          go_upto_region 9 with (fail)
          refine wp_region_still_tail 6 (by kernel_rfl) (by kernel_rfl) ?_
          simp only [List.take_succ_cons, List.take_zero, List.drop_succ_cons, List.drop_zero]
          change wpStill Tryd.prog _ (World.drew _) _ _ _
          repeat still_step
          refine wpStill_nil ?_
          change wpList _ _ _ _ _ (World.drew _)
          go_wp2_with (first | (go_at_call 81; refine (hdo'.out _ (Fr.refl [] wc).drew).mono ?_; rintro e wd ⟨rfl, hfd, hcd⟩; obtain ⟨vs', vp', hb', hs', hp'⟩ := hcd rfl; obtain ⟨av, cv, rfl, -, -, -⟩ := SliceIs.of_owns hs' rfl; obtain ⟨ap, cp, rfl, -, -, -⟩ := SliceIs.of_owns hp' rfl; obtain ⟨c0, c1, c2⟩ := box hb'; have hx' := hfd.keep (b := wd) hxb'.out (fun hm => by have := hrows'.out _ hm; omega); obtain ⟨x0, x1, x2⟩ := box hx'; have hq' := Lib.hid hx'; have hb8 := Lib.hid hb'; have hs8 := Lib.hid hs'; have hp8 := Lib.hid hp'; have hfd' := Lib.hid hfd; clear hx' hb' hs' hp' hfd hcd v0 v1 v2))
          obtain ⟨w5, hw5⟩ : ∃ w5, w5 = wd.setCell ⟨w.heap.size, 0, none⟩ (.int .i64 (ep' + 1)) := ⟨_, rfl⟩
          have f5 : Fr [w.heap.size] wd w5 := by rw [hw5]; exact (Fr.refl _ _).setCell _ _ (.inl (by simp))
          have hq5 := f5.keep hq'.out (by simp)
          rw [← hw5]
          have h4 := set4 hq5 (.int .i64 (ep' + 1)) (.slice av sv'.length cv) (.slice ap pt'.length cp) (.int .i64 tb')
          have f4 := fr_set4 w5 (w.heap.size + 2) (.int .i64 (ep' + 1)) (.slice av sv'.length cv) (.slice ap pt'.length cp) (.int .i64 tb')
          obtain ⟨wf, hwf⟩ : ∃ wf, wf = (((w5.setCell ⟨w.heap.size + 2, 0, none⟩ (.int .i64 (ep' + 1))).setCell ⟨w.heap.size + 2, 1, none⟩ (.slice av sv'.length cv)).setCell ⟨w.heap.size + 2, 2, none⟩ (.slice ap pt'.length cp)).setCell ⟨w.heap.size + 2, 3, none⟩ (.int .i64 tb') := ⟨_, rfl⟩
          rw [← hwf] at h4 f4 ⊢
          obtain ⟨p0, -, -⟩ := box h4
          refine bodyPost_ret (v := .tuple #[.agg #[.int .i64 (ep' + 1), .slice av sv'.length cv, .slice ap pt'.length cp, .int .i64 tb'], .int .i64 0]) (by simp [results, Tryd.results14, go_sem, p0]) rfl ?_
          rw [apply_do _ ho'.out h2'.out h3'.out, ← hD'.out]
          dsimp only
          rw [if_pos rfl]
          have q1 : Fr [] w wc := hFk'.out.andThen hfx'.out (fun t ht => .inr (by simp at ht; omega))
          have q2 : Fr [] w wd := q1.drew.andThen hfd'.out (fun t ht => .inr (by have := hrows'.out t ht; omega))
          have q3 : Fr [] w wf := (q2.andThen f5 (fun t ht => .inr (by simp at ht; omega))).andThen f4 (fun t ht => .inr (by simp at ht; omega))
          exact ⟨_, _, rfl, q3, (SliceIs.of_owns (owns_fr (owns_fr hs8.out f5 (by simp)) f4 (by simp)) rfl).imp (fun g _ hb => .inr (by omega)), (SliceIs.of_owns (owns_fr (owns_fr hp8.out f5 (by simp)) f4 (by simp)) rfl).imp (fun g _ hb => .inr (by omega))⟩
        · have hrb : (r == 0) = false := by simpa using hr
          go_upto_region 9 with (fail)
          refine wp_region_still_tail 6 (by kernel_rfl) (by kernel_rfl) ?_
          simp only [List.take_succ_cons, List.take_zero, List.drop_succ_cons, List.drop_zero]
          change wpStill Tryd.prog _ (World.drew _) _ _ _
          repeat still_step
          refine wpStill_nil ?_
          change wpList _ _ _ _ _ (World.drew _)
          go_wp2_with (first | (go_at_call 81; refine (hdo'.out _ (Fr.refl [] wc).drew).mono ?_; rintro e wd ⟨rfl, hfd, hcd⟩; have hx' := hfd.keep (b := wd) hxb'.out (fun hm => by have := hrows'.out _ hm; omega); obtain ⟨x0, x1, x2⟩ := box hx'; have hq' := Lib.hid hx'; have hfd' := Lib.hid hfd; clear hx' hfd hcd v0 v1 v2))
          have h4 := set4 hq'.out (.int .i64 0) (.slice none 0 0) (.slice none 0 0) (.int .i64 0)
          have f4 := fr_set4 wd (w.heap.size + 2) (.int .i64 0) (.slice none 0 0) (.slice none 0 0) (.int .i64 0)
          obtain ⟨wf, hwf⟩ : ∃ wf, wf = (((wd.setCell ⟨w.heap.size + 2, 0, none⟩ (.int .i64 0)).setCell ⟨w.heap.size + 2, 1, none⟩ (.slice none 0 0)).setCell ⟨w.heap.size + 2, 2, none⟩ (.slice none 0 0)).setCell ⟨w.heap.size + 2, 3, none⟩ (.int .i64 0) := ⟨_, rfl⟩
          rw [← hwf] at h4 f4 ⊢
          obtain ⟨p0, -, -⟩ := box h4
          refine bodyPost_ret (v := .tuple #[.agg #[.int .i64 0, .slice none 0 0, .slice none 0 0, .int .i64 0], .int .i64 r]) (by simp [results, Tryd.results14, go_sem, p0]) rfl ?_
          rw [apply_do _ ho'.out h2'.out h3'.out, ← hD'.out]
          dsimp only
          rw [if_neg hr]
          have q1 : Fr [] w wc := hFk'.out.andThen hfx'.out (fun t ht => .inr (by simp at ht; omega))
          have q2 : Fr [] w wd := q1.drew.andThen hfd'.out (fun t ht => .inr (by have := hrows'.out t ht; omega))
          have q3 : Fr [] w wf := q2.andThen f4 (fun t ht => .inr (by simp at ht; omega))
          exact ⟨_, _, rfl, q3, zero_is _⟩
      · have h0w : 0 < w.heap.size := lt_of_cell (hkin'.out 3 (by omega) (by omega))
        have hkc := ((hkin'.out.fr hFk (by simp)).fr hfx (by simp; omega)) 3 (by omega) (by omega)
        replace hkc : wc.cell? ⟨0, 3, none⟩ = some (.func (.func 82) #[] #[]) := hkc
        have hob := hfx.keep ((hf1.trans hfk).keep hb3'.out (by simp)) (by simp)
        have hzk := hFk.size
        have hzf := hfk.size
        have hz1 := hf1.size
        have hzx := hfx.size
        have hdo := fun X (hX : Fr [] wc X) => do_any (base := w.heap.size + 3) (cb := w.heap.size) ⟨ep, sv, pt, tb⟩ vs vp (3, n, m, F, T) X ⟨hX.keep hbx (by simp), owns_fr hrs hX (by simp), owns_fr hrp hX (by simp)⟩ (by have := hX.size; omega) ((okC_iff _).1 ho'.out).2.1 hs hp (by dsimp only; omega) (by dsimp only; omega)
        have g0 := (show wc.cell? ⟨w.heap.size + 1, 0, none⟩ = some (.int .i64 3) from cell_at hob)
        have g1 := (show wc.cell? ⟨w.heap.size + 1, 1, none⟩ = some (.int .i64 n) from cell_at hob)
        have g2 := (show wc.cell? ⟨w.heap.size + 1, 2, none⟩ = some (.int .i64 m) from cell_at hob)
        have g3 := (show wc.cell? ⟨w.heap.size + 1, 3, none⟩ = some (.int .i64 F) from cell_at hob)
        have g4 := (show wc.cell? ⟨w.heap.size + 1, 4, none⟩ = some (.int .i64 T) from cell_at hob)
        have lk := lt_of_cell hkc
        have lg := lt_of_cell g0
        dsimp only at hdo
        unfold aggO at hdo
        dsimp only at hdo
        have hdo' := Lib.hid hdo
        clear hdo
        have hep := do_ep (c := ⟨ep, sv, pt, tb⟩) (o := (3, n, m, F, T))
        have hep1 := (((okC_iff _).1 ho'.out).1).1
        have hep2 := (((okC_iff _).1 ho'.out).1).2.1
        dsimp only at hep hep1 hep2
        obtain ⟨D, hD⟩ : ∃ D, D = doP ⟨ep, sv, pt, tb⟩ (3, n, m, F, T) := ⟨_, rfl⟩
        have hdo := hdo'.out
        rw [← hD] at hep hdo
        have hD' := Lib.hid hD
        clear hdo' hD
        obtain ⟨r, ep', sv', pt', tb'⟩ := D
        dsimp only at hep hdo
        subst hep
        have hdo' := Lib.hid hdo
        clear hdo
        have hxb := hfx.keep ((hf1.trans hfk).keep hb2'.out (by simp)) (by simp)
        obtain ⟨v0, v1, v2⟩ := box hxb
        have hrows := rows_ge (cb := w.heap.size) hrs hrp
        have hrows' := Lib.hid hrows; have hxb' := Lib.hid hxb; have hfx' := Lib.hid hfx; have hFk' := Lib.hid hFk
        clear hrows hxb hfx hFk hbx hrs hrp hob
        by_cases hr : r = 0
        · subst hr
          go_upto_region 9 with (fail)
          refine wp_region_still_tail 6 (by kernel_rfl) (by kernel_rfl) ?_
          simp only [List.take_succ_cons, List.take_zero, List.drop_succ_cons, List.drop_zero]
          change wpStill Tryd.prog _ (World.drew _) _ _ _
          repeat still_step
          refine wpStill_nil ?_
          change wpList _ _ _ _ _ (World.drew _)
          go_wp2_with (first | (go_at_call 82; refine (hdo'.out _ (Fr.refl [] wc).drew).mono ?_; rintro e wd ⟨rfl, hfd, hcd⟩; obtain ⟨vs', vp', hb', hs', hp'⟩ := hcd rfl; obtain ⟨av, cv, rfl, -, -, -⟩ := SliceIs.of_owns hs' rfl; obtain ⟨ap, cp, rfl, -, -, -⟩ := SliceIs.of_owns hp' rfl; obtain ⟨c0, c1, c2⟩ := box hb'; have hx' := hfd.keep (b := wd) hxb'.out (fun hm => by have := hrows'.out _ hm; omega); obtain ⟨x0, x1, x2⟩ := box hx'; have hq' := Lib.hid hx'; have hb8 := Lib.hid hb'; have hs8 := Lib.hid hs'; have hp8 := Lib.hid hp'; have hfd' := Lib.hid hfd; clear hx' hb' hs' hp' hfd hcd v0 v1 v2))
          obtain ⟨w5, hw5⟩ : ∃ w5, w5 = wd.setCell ⟨w.heap.size, 0, none⟩ (.int .i64 (ep' + 1)) := ⟨_, rfl⟩
          have f5 : Fr [w.heap.size] wd w5 := by rw [hw5]; exact (Fr.refl _ _).setCell _ _ (.inl (by simp))
          have hq5 := f5.keep hq'.out (by simp)
          rw [← hw5]
          have h4 := set4 hq5 (.int .i64 (ep' + 1)) (.slice av sv'.length cv) (.slice ap pt'.length cp) (.int .i64 tb')
          have f4 := fr_set4 w5 (w.heap.size + 2) (.int .i64 (ep' + 1)) (.slice av sv'.length cv) (.slice ap pt'.length cp) (.int .i64 tb')
          obtain ⟨wf, hwf⟩ : ∃ wf, wf = (((w5.setCell ⟨w.heap.size + 2, 0, none⟩ (.int .i64 (ep' + 1))).setCell ⟨w.heap.size + 2, 1, none⟩ (.slice av sv'.length cv)).setCell ⟨w.heap.size + 2, 2, none⟩ (.slice ap pt'.length cp)).setCell ⟨w.heap.size + 2, 3, none⟩ (.int .i64 tb') := ⟨_, rfl⟩
          rw [← hwf] at h4 f4 ⊢
          obtain ⟨p0, -, -⟩ := box h4
          refine bodyPost_ret (v := .tuple #[.agg #[.int .i64 (ep' + 1), .slice av sv'.length cv, .slice ap pt'.length cp, .int .i64 tb'], .int .i64 0]) (by simp [results, Tryd.results14, go_sem, p0]) rfl ?_
          rw [apply_do _ ho'.out h2'.out h3'.out, ← hD'.out]
          dsimp only
          rw [if_pos rfl]
          have q1 : Fr [] w wc := hFk'.out.andThen hfx'.out (fun t ht => .inr (by simp at ht; omega))
          have q2 : Fr [] w wd := q1.drew.andThen hfd'.out (fun t ht => .inr (by have := hrows'.out t ht; omega))
          have q3 : Fr [] w wf := (q2.andThen f5 (fun t ht => .inr (by simp at ht; omega))).andThen f4 (fun t ht => .inr (by simp at ht; omega))
          exact ⟨_, _, rfl, q3, (SliceIs.of_owns (owns_fr (owns_fr hs8.out f5 (by simp)) f4 (by simp)) rfl).imp (fun g _ hb => .inr (by omega)), (SliceIs.of_owns (owns_fr (owns_fr hp8.out f5 (by simp)) f4 (by simp)) rfl).imp (fun g _ hb => .inr (by omega))⟩
        · have hrb : (r == 0) = false := by simpa using hr
          go_upto_region 9 with (fail)
          refine wp_region_still_tail 6 (by kernel_rfl) (by kernel_rfl) ?_
          simp only [List.take_succ_cons, List.take_zero, List.drop_succ_cons, List.drop_zero]
          change wpStill Tryd.prog _ (World.drew _) _ _ _
          repeat still_step
          refine wpStill_nil ?_
          change wpList _ _ _ _ _ (World.drew _)
          go_wp2_with (first | (go_at_call 82; refine (hdo'.out _ (Fr.refl [] wc).drew).mono ?_; rintro e wd ⟨rfl, hfd, hcd⟩; have hx' := hfd.keep (b := wd) hxb'.out (fun hm => by have := hrows'.out _ hm; omega); obtain ⟨x0, x1, x2⟩ := box hx'; have hq' := Lib.hid hx'; have hfd' := Lib.hid hfd; clear hx' hfd hcd v0 v1 v2))
          have h4 := set4 hq'.out (.int .i64 0) (.slice none 0 0) (.slice none 0 0) (.int .i64 0)
          have f4 := fr_set4 wd (w.heap.size + 2) (.int .i64 0) (.slice none 0 0) (.slice none 0 0) (.int .i64 0)
          obtain ⟨wf, hwf⟩ : ∃ wf, wf = (((wd.setCell ⟨w.heap.size + 2, 0, none⟩ (.int .i64 0)).setCell ⟨w.heap.size + 2, 1, none⟩ (.slice none 0 0)).setCell ⟨w.heap.size + 2, 2, none⟩ (.slice none 0 0)).setCell ⟨w.heap.size + 2, 3, none⟩ (.int .i64 0) := ⟨_, rfl⟩
          rw [← hwf] at h4 f4 ⊢
          obtain ⟨p0, -, -⟩ := box h4
          refine bodyPost_ret (v := .tuple #[.agg #[.int .i64 0, .slice none 0 0, .slice none 0 0, .int .i64 0], .int .i64 r]) (by simp [results, Tryd.results14, go_sem, p0]) rfl ?_
          rw [apply_do _ ho'.out h2'.out h3'.out, ← hD'.out]
          dsimp only
          rw [if_neg hr]
          have q1 : Fr [] w wc := hFk'.out.andThen hfx'.out (fun t ht => .inr (by simp at ht; omega))
          have q2 : Fr [] w wd := q1.drew.andThen hfd'.out (fun t ht => .inr (by have := hrows'.out t ht; omega))
          have q3 : Fr [] w wf := q2.andThen f4 (fun t ht => .inr (by simp at ht; omega))
          exact ⟨_, _, rfl, q3, zero_is _⟩
      · have h0w : 0 < w.heap.size := lt_of_cell (hkin'.out 4 (by omega) (by omega))
        have hkc := ((hkin'.out.fr hFk (by simp)).fr hfx (by simp; omega)) 4 (by omega) (by omega)
        replace hkc : wc.cell? ⟨0, 4, none⟩ = some (.func (.func 83) #[] #[]) := hkc
        have hob := hfx.keep ((hf1.trans hfk).keep hb3'.out (by simp)) (by simp)
        have hzk := hFk.size
        have hzf := hfk.size
        have hz1 := hf1.size
        have hzx := hfx.size
        have hdo := fun X (hX : Fr [] wc X) => do_any (base := w.heap.size + 3) (cb := w.heap.size) ⟨ep, sv, pt, tb⟩ vs vp (4, n, m, F, T) X ⟨hX.keep hbx (by simp), owns_fr hrs hX (by simp), owns_fr hrp hX (by simp)⟩ (by have := hX.size; omega) ((okC_iff _).1 ho'.out).2.1 hs hp (by dsimp only; omega) (by dsimp only; omega)
        have g0 := (show wc.cell? ⟨w.heap.size + 1, 0, none⟩ = some (.int .i64 4) from cell_at hob)
        have g1 := (show wc.cell? ⟨w.heap.size + 1, 1, none⟩ = some (.int .i64 n) from cell_at hob)
        have g2 := (show wc.cell? ⟨w.heap.size + 1, 2, none⟩ = some (.int .i64 m) from cell_at hob)
        have g3 := (show wc.cell? ⟨w.heap.size + 1, 3, none⟩ = some (.int .i64 F) from cell_at hob)
        have g4 := (show wc.cell? ⟨w.heap.size + 1, 4, none⟩ = some (.int .i64 T) from cell_at hob)
        have lk := lt_of_cell hkc
        have lg := lt_of_cell g0
        dsimp only at hdo
        unfold aggO at hdo
        dsimp only at hdo
        have hdo' := Lib.hid hdo
        clear hdo
        have hep := do_ep (c := ⟨ep, sv, pt, tb⟩) (o := (4, n, m, F, T))
        have hep1 := (((okC_iff _).1 ho'.out).1).1
        have hep2 := (((okC_iff _).1 ho'.out).1).2.1
        dsimp only at hep hep1 hep2
        obtain ⟨D, hD⟩ : ∃ D, D = doP ⟨ep, sv, pt, tb⟩ (4, n, m, F, T) := ⟨_, rfl⟩
        have hdo := hdo'.out
        rw [← hD] at hep hdo
        have hD' := Lib.hid hD
        clear hdo' hD
        obtain ⟨r, ep', sv', pt', tb'⟩ := D
        dsimp only at hep hdo
        subst hep
        have hdo' := Lib.hid hdo
        clear hdo
        have hxb := hfx.keep ((hf1.trans hfk).keep hb2'.out (by simp)) (by simp)
        obtain ⟨v0, v1, v2⟩ := box hxb
        have hrows := rows_ge (cb := w.heap.size) hrs hrp
        have hrows' := Lib.hid hrows; have hxb' := Lib.hid hxb; have hfx' := Lib.hid hfx; have hFk' := Lib.hid hFk
        clear hrows hxb hfx hFk hbx hrs hrp hob
        by_cases hr : r = 0
        · subst hr
          go_upto_region 9 with (fail)
          refine wp_region_still_tail 6 (by kernel_rfl) (by kernel_rfl) ?_
          simp only [List.take_succ_cons, List.take_zero, List.drop_succ_cons, List.drop_zero]
          change wpStill Tryd.prog _ (World.drew _) _ _ _
          repeat still_step
          refine wpStill_nil ?_
          change wpList _ _ _ _ _ (World.drew _)
          go_wp2_with (first | (go_at_call 83; refine (hdo'.out _ (Fr.refl [] wc).drew).mono ?_; rintro e wd ⟨rfl, hfd, hcd⟩; obtain ⟨vs', vp', hb', hs', hp'⟩ := hcd rfl; obtain ⟨av, cv, rfl, -, -, -⟩ := SliceIs.of_owns hs' rfl; obtain ⟨ap, cp, rfl, -, -, -⟩ := SliceIs.of_owns hp' rfl; obtain ⟨c0, c1, c2⟩ := box hb'; have hx' := hfd.keep (b := wd) hxb'.out (fun hm => by have := hrows'.out _ hm; omega); obtain ⟨x0, x1, x2⟩ := box hx'; have hq' := Lib.hid hx'; have hb8 := Lib.hid hb'; have hs8 := Lib.hid hs'; have hp8 := Lib.hid hp'; have hfd' := Lib.hid hfd; clear hx' hb' hs' hp' hfd hcd v0 v1 v2))
          obtain ⟨w5, hw5⟩ : ∃ w5, w5 = wd.setCell ⟨w.heap.size, 0, none⟩ (.int .i64 (ep' + 1)) := ⟨_, rfl⟩
          have f5 : Fr [w.heap.size] wd w5 := by rw [hw5]; exact (Fr.refl _ _).setCell _ _ (.inl (by simp))
          have hq5 := f5.keep hq'.out (by simp)
          rw [← hw5]
          have h4 := set4 hq5 (.int .i64 (ep' + 1)) (.slice av sv'.length cv) (.slice ap pt'.length cp) (.int .i64 tb')
          have f4 := fr_set4 w5 (w.heap.size + 2) (.int .i64 (ep' + 1)) (.slice av sv'.length cv) (.slice ap pt'.length cp) (.int .i64 tb')
          obtain ⟨wf, hwf⟩ : ∃ wf, wf = (((w5.setCell ⟨w.heap.size + 2, 0, none⟩ (.int .i64 (ep' + 1))).setCell ⟨w.heap.size + 2, 1, none⟩ (.slice av sv'.length cv)).setCell ⟨w.heap.size + 2, 2, none⟩ (.slice ap pt'.length cp)).setCell ⟨w.heap.size + 2, 3, none⟩ (.int .i64 tb') := ⟨_, rfl⟩
          rw [← hwf] at h4 f4 ⊢
          obtain ⟨p0, -, -⟩ := box h4
          refine bodyPost_ret (v := .tuple #[.agg #[.int .i64 (ep' + 1), .slice av sv'.length cv, .slice ap pt'.length cp, .int .i64 tb'], .int .i64 0]) (by simp [results, Tryd.results14, go_sem, p0]) rfl ?_
          rw [apply_do _ ho'.out h2'.out h3'.out, ← hD'.out]
          dsimp only
          rw [if_pos rfl]
          have q1 : Fr [] w wc := hFk'.out.andThen hfx'.out (fun t ht => .inr (by simp at ht; omega))
          have q2 : Fr [] w wd := q1.drew.andThen hfd'.out (fun t ht => .inr (by have := hrows'.out t ht; omega))
          have q3 : Fr [] w wf := (q2.andThen f5 (fun t ht => .inr (by simp at ht; omega))).andThen f4 (fun t ht => .inr (by simp at ht; omega))
          exact ⟨_, _, rfl, q3, (SliceIs.of_owns (owns_fr (owns_fr hs8.out f5 (by simp)) f4 (by simp)) rfl).imp (fun g _ hb => .inr (by omega)), (SliceIs.of_owns (owns_fr (owns_fr hp8.out f5 (by simp)) f4 (by simp)) rfl).imp (fun g _ hb => .inr (by omega))⟩
        · have hrb : (r == 0) = false := by simpa using hr
          go_upto_region 9 with (fail)
          refine wp_region_still_tail 6 (by kernel_rfl) (by kernel_rfl) ?_
          simp only [List.take_succ_cons, List.take_zero, List.drop_succ_cons, List.drop_zero]
          change wpStill Tryd.prog _ (World.drew _) _ _ _
          repeat still_step
          refine wpStill_nil ?_
          change wpList _ _ _ _ _ (World.drew _)
          go_wp2_with (first | (go_at_call 83; refine (hdo'.out _ (Fr.refl [] wc).drew).mono ?_; rintro e wd ⟨rfl, hfd, hcd⟩; have hx' := hfd.keep (b := wd) hxb'.out (fun hm => by have := hrows'.out _ hm; omega); obtain ⟨x0, x1, x2⟩ := box hx'; have hq' := Lib.hid hx'; have hfd' := Lib.hid hfd; clear hx' hfd hcd v0 v1 v2))
          have h4 := set4 hq'.out (.int .i64 0) (.slice none 0 0) (.slice none 0 0) (.int .i64 0)
          have f4 := fr_set4 wd (w.heap.size + 2) (.int .i64 0) (.slice none 0 0) (.slice none 0 0) (.int .i64 0)
          obtain ⟨wf, hwf⟩ : ∃ wf, wf = (((wd.setCell ⟨w.heap.size + 2, 0, none⟩ (.int .i64 0)).setCell ⟨w.heap.size + 2, 1, none⟩ (.slice none 0 0)).setCell ⟨w.heap.size + 2, 2, none⟩ (.slice none 0 0)).setCell ⟨w.heap.size + 2, 3, none⟩ (.int .i64 0) := ⟨_, rfl⟩
          rw [← hwf] at h4 f4 ⊢
          obtain ⟨p0, -, -⟩ := box h4
          refine bodyPost_ret (v := .tuple #[.agg #[.int .i64 0, .slice none 0 0, .slice none 0 0, .int .i64 0], .int .i64 r]) (by simp [results, Tryd.results14, go_sem, p0]) rfl ?_
          rw [apply_do _ ho'.out h2'.out h3'.out, ← hD'.out]
          dsimp only
          rw [if_neg hr]
          have q1 : Fr [] w wc := hFk'.out.andThen hfx'.out (fun t ht => .inr (by simp at ht; omega))
          have q2 : Fr [] w wd := q1.drew.andThen hfd'.out (fun t ht => .inr (by have := hrows'.out t ht; omega))
          have q3 : Fr [] w wf := q2.andThen f4 (fun t ht => .inr (by simp at ht; omega))
          exact ⟨_, _, rfl, q3, zero_is _⟩
end Go.Proofs.YthhpamaeibjpaaaDoor
end
section
namespace Go.Proofs.YthhpamaeibjpaaaDoor
open Go.RowKit Go.Maps Go.Lib Go.Sort Go.Proofs.YthhpamaeibjpaaaDoorW.PrintWords K
theorem ris_len : ∀ (l : List Int) (k : Int), risB k l = true → l.length ≤ (7 - k).toNat
  | [], k, _ => by simp
  | n :: l, k, h => by
    rw [ris_cons] at h
    simp only [Bool.and_eq_true, decide_eq_true_eq] at h
    have := ris_len l n h.2
    rw [List.length_cons]; omega
theorem ok_small {c : Cfg} (h : okC c = true) : c.sv.length ≤ 8 ∧ c.pt.length ≤ 256 := by
  refine ⟨ris_len _ _ ((okC_iff c).1 h).2.1, ?_⟩
  have := (til_bound _ _ ((okC_iff c).1 h).2.2 (by omega)).2
  simpa using this
set_option linter.unusedVariables false
theorem new_any (w : World) : Calls Tryd.prog 28 #[] w fun e w' => ∃ vs vp, e = .returned (aggC newCfg vs vp) ∧ Fr [] w w' ∧ CfgIs w' (w.heap.size ≤ ·) vs vp newCfg :=
  (config_New.calls _ _ _ _ w rfl).mono fun e w' ⟨v1, v2, he, h1, h2, hb⟩ => ⟨v1, v2, he, Fr.of_below hb [], SliceIs.ofR (S := newCfg.sv) (enc := encI) id h1 kI_M (fun _ => rfl), SliceIs.ofR (S := newCfg.pt) (enc := encPt) toP h2 kP_M (fun _ => rfl)⟩
def tableP (c : Cfg) (b : Int) : Int := if c.tb < 1 then 0 else if b < 1 then 0 else Int.tmod b c.tb
section
variable {w : World} {B : Nat → Prop} {vs vp : Value} {c : Cfg}
theorem table_any (h : CfgIs w B vs vp c) (b : Int) : Calls Tryd.prog 19 #[aggC c vs vp, .int .i64 b] w fun e w' => e = .returned (.int .i64 (tableP c b)) ∧ Fr [] w w' := by
  obtain ⟨A1, c1, A2, c2, rfl, rfl, h1, l1, h2, l2⟩ := h.toP
  have hk : config_Table.f c.ep c.sv (c.pt.map toP) c.tb b = some (tableP c b) := by
    unfold config_Table.f tableP
    by_cases h1 : c.tb < 1
    · rw [if_pos h1, if_pos h1]
    · rw [if_neg h1, if_neg h1]
      by_cases h2 : b < 1
      · rw [if_pos h2, if_pos h2]
      · rw [if_neg h2, if_neg h2, if_neg (by omega)]
  exact (config_Table.calls _ A1 c1 c.sv A2 c2 _ _ _ _ w h1 l1 h2 l2 hk).mono fun e w' ⟨he, hb⟩ => ⟨he, Fr.of_below hb []⟩
end
set_option maxRecDepth 100000 in
set_option maxHeartbeats 4000000 in
theorem shown_any (w : World) : Calls Tryd.prog 9 #[] w fun e w' => e = .returned (.bool true) ∧ Fr [] w w' := by
  have hfd : ∀ (x y z t : Value) (w : World), (Instr.field 26 (.agg #[x, y, z, t]) 0).run Tryd.prog w = .ok x w := fun _ _ _ _ _ => by kernel_rfl
  have hF : Fr [] w w := Fr.refl _ _
  go_enter Tryd.func9, Tryd.ntmps9
  go_wp2_with (first | (go_at_call 28; refine (new_any _).mono ?_; rintro e w1 ⟨vs, vp, rfl, hf1, hc1⟩; replace hF := hF.trans hf1; clear hf1; have hcc := hc1; obtain ⟨⟨a1, q1, rfl, -⟩, ⟨a2, q2, rfl, -⟩⟩ := hcc; have hck := check_any hc1 (by decide) (by decide); rw [show errC newCfg = 0 from by decide] at hck; unfold aggC newCfg at hck ⊢; dsimp only at hck ⊢) | (go_at_call 10; refine hck.mono ?_; rintro e w2 ⟨rfl, hf2⟩; replace hF := hF.trans hf2; clear hf2 hck))
  go_ret
  exact ⟨rfl, hF⟩
end Go.Proofs.YthhpamaeibjpaaaDoor
end
section
namespace Go.Proofs.YthhpamaeibjpaaaDoor
open Go.RowKit Go.Maps Go.Lib Go.Sort
set_option linter.unusedVariables false
def encO (o : Ord) : List Value := [.int .i64 o.1, .int .i64 o.2.1, .int .i64 o.2.2.1, .int .i64 o.2.2.2.1, .int .i64 o.2.2.2.2]
theorem encO_len (o : Ord) : (encO o).length = 5 := rfl
def stepA (c : Cfg) (o : Ord) : Cfg := if (applyP c o).2 = 0 then (applyP c o).1 else c
def afterP (L : List Ord) (i : Nat) : Cfg := (L.take i).foldl stepA newCfg
theorem after_step {L : List Ord} {i : Nat} {o : Ord} (h : L[i]? = some o) : afterP L (i + 1) = stepA (afterP L i) o := by
  unfold afterP
  rw [List.take_add_one, h, List.foldl_append]; rfl
theorem step_ok {c : Cfg} (h : okC c = true) (o : Ord) : okC (stepA c o) = true := by
  unfold stepA
  split
  · rename_i e; exact (apply_ok e).2.1
  · exact h
theorem after_ok (L : List Ord) (i : Nat) : okC (afterP L i) = true := by
  unfold afterP
  have : ∀ (l : List Ord) (c : Cfg), okC c = true → okC (l.foldl stepA c) = true := by
    intro l
    induction l with
    | nil => exact fun c h => h
    | cons o l ih => exact fun c h => ih _ (step_ok h o)
  exact this _ _ new_ok
theorem after_end {L : List Ord} {i : Nat} (hi : i ≤ 60) (h : L.length ≤ i ∨ 60 ≤ i) : afterP L i = afterP L 60 := by
  unfold afterP
  rcases h with h | h
  · rw [List.take_of_length_le h, List.take_of_length_le (by omega)]
  · rw [show i = 60 by omega]
theorem CfgIs.frT {w w' : World} {B : Nat → Prop} {vs vp : Value} {c : Cfg} {T : List Nat} (h : CfgIs w B vs vp c) (hf : Fr T w w') (hT : ∀ g, B g → g ∉ T) : CfgIs w' B vs vp c := ⟨h.1.fr hf (fun g hg _ => hT g hg), h.2.fr hf (fun g hg _ => hT g hg)⟩
theorem le_of_up {a b X g d : Nat} (h : ((a < g ∧ g ≠ d) ∧ g < b) ∨ X ≤ g) (hX : a < X) (hd : d < X) : a < g ∧ g ≠ d := by omega
def boxC (c : Cfg) (vs vp : Value) : Array Value := #[.int .i64 c.ep, vs, vp, .int .i64 c.tb]
attribute [local go_sem ↓] Go.wp_at_zero Go.wp_at_succ
set_option maxRecDepth 100000 in
set_option maxHeartbeats 8000000 in
theorem after_any {B : Nat → Prop} (L : List Ord) (v : Value) (w : World) (h : SliceIs w B encO v L) (hkin : KindsAt w) :
    Calls Tryd.prog 13 #[v] w fun e w' => ∃ vs vp, e = .returned (aggC (afterP L 60) vs vp) ∧ Fr [] w w' ∧ CfgIs w' (w.heap.size ≤ ·) vs vp (afterP L 60) := by
  obtain ⟨a0, cap0, rfl, hl1, hl2, hat⟩ := h.at encO_len
  unfold maxLen at hl2
  have hat' := Lib.hid hat; have hkin' := Lib.hid hkin
  clear hat hkin h
  have h0w : 0 < w.heap.size := lt_of_cell (hkin'.out 1 (by omega) (by omega))
  obtain ⟨W, hW⟩ : ∃ W, W = w.alloc (.cells #[.int .i64 0, .slice none 0 0, .slice none 0 0, .int .i64 0] 26) := ⟨_, rfl⟩
  have hFW : Fr [] w W := by rw [hW]; exact (Fr.refl _ _).alloc _
  have hbW : W.heap[w.heap.size]? = some (.cells #[.int .i64 0, .slice none 0 0, .slice none 0 0, .int .i64 0] 26 (0, 0)) := by rw [hW]; exact heap_alloc_new w _
  have hzW : W.heap.size = w.heap.size + 1 := by rw [hW]; simp
  have hW' := Lib.hid hW; have hbW' := Lib.hid hbW
  clear hW hbW
  have hnew := new_any W
  go_enter Tryd.func13, Tryd.ntmps13
  go_upto_region 1 with (fail)
  rw [← hW'.out]
  go_wp2_with (first | (go_at_call 28; refine hnew.mono ?_; rintro e w1 ⟨vs, vp, rfl, hf1, hc1⟩; have hcc := hc1; obtain ⟨⟨a1, q1, rfl, -⟩, ⟨a2, q2, rfl, -⟩⟩ := hcc; have hc1' := Lib.hid hc1; unfold aggC newCfg; dsimp only; clear hc1 hnew))
  obtain ⟨W1, hW1⟩ : ∃ W1, W1 = w1.alloc (.cells #[.int .i64 1, .slice a1 2 q1, .slice a2 1 q2, .int .i64 1] 26) := ⟨_, rfl⟩
  have hb1 : W1.heap[w1.heap.size]? = some (.cells (boxC (afterP L 0) (.slice a1 2 q1) (.slice a2 1 q2)) 26 (0, 0)) := by rw [hW1]; exact heap_alloc_new w1 _
  have hF1 : Fr [] W W1 := by rw [hW1]; exact hf1.alloc _
  have hc2 : CfgIs W1 (fun g => w.heap.size < g ∧ g ≠ w1.heap.size) (.slice a1 2 q1) (.slice a2 1 q2) (afterP L 0) := by
    refine CfgIs.fr0 (hc1'.out.imp (fun g h1 hg => ⟨by omega, by omega⟩)) ?_
    rw [hW1]; exact (Fr.refl _ _).alloc _
  have hz1 := hf1.size
  rw [← hW1]
  clear hW1 hf1 hc1'
  have hb1' := Lib.hid hb1; have hc2' := Lib.hid hc2
  clear hb1 hc2
  go_loopg [4] 60 (fun gk iv wr => ∃ (i : Nat) (vs vp : Value), i ≤ 60 ∧ gk = 60 - i ∧ iv = .int .i64 i ∧ wr.heap[w1.heap.size]? = some (.cells (boxC (afterP L i) vs vp) 26 (0, 0)) ∧ CfgIs wr (fun g => w.heap.size < g ∧ g ≠ w1.heap.size) vs vp (afterP L i) ∧ Fr [w1.heap.size] W1 wr)
  case atStart => exact ⟨0, _, _, Nat.zero_le _, rfl, rfl, hb1'.out, hc2'.out, Fr.refl _ _⟩
  case round =>
    obtain ⟨i, vs, vp, hi, hgk, rfl, hbx, hcf, hfr⟩ := hrel
    have hgk' := Lib.hid hgk
    clear hgk
    have hzr := hfr.size
    have hz2 := hF1.size
    have hok := after_ok L i
    obtain ⟨C, hC⟩ : ∃ C, C = afterP L i := ⟨_, rfl⟩
    rw [← hC] at hbx hcf hok
    have hC' := Lib.hid hC; have hok' := Lib.hid hok
    clear hC hok
    obtain ⟨ep, sv, pt, tb⟩ := C
    have hcc := hcf
    obtain ⟨⟨a1, q1, rfl, -⟩, ⟨a2, q2, rfl, -⟩⟩ := hcc
    unfold boxC at hbx
    dsimp only at hbx
    obtain ⟨k0, kz, kl⟩ := box hbx
    have hbx' := Lib.hid hbx; have hcf' := Lib.hid hcf
    clear hbx hcf
    by_cases hlt : i < L.length
    · by_cases h60 : i < 60
      · obtain ⟨g, off, rfl, _, hg2, hcells⟩ := hat'.out (by rintro rfl; simp at hlt)
        obtain ⟨x, hx⟩ : ∃ x, L[i]? = some x := ⟨_, List.getElem?_eq_getElem hlt⟩
        have hc : ∀ j u, (encO x)[j]? = some u → wr.cell? ⟨g, off + i * 5 + j, none⟩ = some u := fun j u hj => by rw [hfr.cell (p := ⟨g, _, none⟩) (by show g < _; omega) (by simp; omega), hF1.cell (p := ⟨g, _, none⟩) (by show g < _; omega) (by simp), hFW.cell (p := ⟨g, _, none⟩) hg2 (by simp), Nat.add_assoc]; exact hcells i x j u hx hj
        have z0 := hc 0 _ rfl
        have z1 := hc 1 _ rfl
        have z2 := hc 2 _ rfl
        have z3 := hc 3 _ rfl
        have z4 := hc 4 _ rfl
        rw [Nat.add_zero] at z0
        have lz := lt_of_cell z0
        have hkr : KindsAt wr := (hkin'.out.fr hFW (by simp)).fr (hF1.trans (Fr.refl _ _)) (by simp) |>.fr hfr (by simp; omega)
        have hsm := ok_small hok'.out
        have hap := fun X (hX : Fr [] wr X) => apply_any _ _ _ x X ((hcf'.out.imp (B' := fun g => (w.heap.size < g ∧ g ≠ w1.heap.size) ∧ g < wr.heap.size) (fun g h1 h2 => ⟨h2, h1⟩)).fr0 hX) (hkr.fr hX (by simp)) (by omega) (by omega)
        have hst := after_step hx
        rw [← hC'.out] at hst
        unfold stepA at hst
        obtain ⟨D, hD⟩ : ∃ D, D = applyP ⟨ep, sv, pt, tb⟩ x := ⟨_, rfl⟩
        rw [← hD] at hap hst
        obtain ⟨⟨ep2, sv2, pt2, tb2⟩, r⟩ := D
        unfold aggC aggO at hap
        dsimp only at hap hst
        have hap' := Lib.hid hap; have hst' := Lib.hid hst; have hx' := Lib.hid hx; have hD' := Lib.hid hD
        clear hap hst hx hD hc hcells hkr hsm
        go_upto_region 5 with (fail)
        go_cut [5, 6] (fun s5 s6 wx => ∃ (g5 : Nat) (vs' vp' : Value), s5 = .pointer (some ⟨g5, 0, none⟩) ∧ s6 = .int .i64 r ∧ wr.heap.size ≤ g5 ∧ wx.heap[g5]? = some (.cells #[.int .i64 ep2, vs', vp', .int .i64 tb2] 26 (0, 0)) ∧ CfgIs wx (fun g => w.heap.size < g ∧ g ≠ w1.heap.size) vs' vp' ⟨ep2, sv2, pt2, tb2⟩ ∧ Fr [] wr wx)
        case first =>
          go_region_with (first | (go_at_call 14; (first | refine (hap'.out _ (Fr.refl [] wr).drew).mono ?_ | refine (hap'.out _ ((Fr.refl [] wr).drew.alloc _)).mono ?_ | refine (hap'.out _ ((Fr.refl [] wr).alloc _).drew).mono ?_); rintro e wA ⟨vs', vp', rfl, hfA, hcA⟩; unfold aggC; dsimp only; have hcc := hcA; obtain ⟨⟨b1, p1, rfl, -⟩, ⟨b2, p2, rfl, -⟩⟩ := hcc; dsimp only; (first | (have hx5 := hfA.keep (b := wA) (show (wr.drew.alloc _).heap[wr.heap.size]? = _ from heap_alloc_new wr.drew _) (by simp); obtain ⟨y0, yz, yl⟩ := box hx5; have hx5' := Lib.hid hx5; clear hx5) | (have hx5 := hfA.keep (b := wA) (show ((wr.alloc _).drew).heap[wr.heap.size]? = _ from heap_alloc_new wr _) (by simp); obtain ⟨y0, yz, yl⟩ := box hx5; have hx5' := Lib.hid hx5; clear hx5) | skip); have hfA' := Lib.hid hfA; have hcA' := Lib.hid hcA; clear hfA hcA))
          all_goals (go_wp2_with fail; go_meet)
          all_goals (
            have q1 := hfA'.out.size
            first
            | (have qf : Fr [] wr wA := (Fr.refl [] wr).drew.trans hfA'.out; exact ⟨wA.heap.size, _, _, rfl, rfl, qf.size, heap_alloc_new wA _, (hcA'.out.imp (B' := fun g => w.heap.size < g ∧ g ≠ w1.heap.size) (fun g _ hg => le_of_up hg (by first | (show w.heap.size < wr.heap.size; omega) | (simp; omega)) (by first | (show w1.heap.size < wr.heap.size; omega) | (simp; omega)))).fr0 ((Fr.refl [] wA).alloc _), qf.alloc _⟩)
            | (have qf : Fr [] wr wA := ((Fr.refl [] wr).drew.alloc _).trans hfA'.out; have q4 := fr_set4 wA wr.heap.size (.int .i64 ep2) (.slice b1 sv2.length p1) (.slice b2 pt2.length p2) (.int .i64 tb2); have q5 := set4 hx5'.out (.int .i64 ep2) (.slice b1 sv2.length p1) (.slice b2 pt2.length p2) (.int .i64 tb2); have q6 := CfgIs.frT hcA'.out q4 (fun g hg hm => by simp at hm hg; omega); exact ⟨wr.heap.size, _, _, rfl, rfl, Nat.le_refl _, q5, q6.imp (fun g _ hg => le_of_up hg (by first | (show w.heap.size < wr.heap.size; omega) | (simp; omega)) (by first | (show w1.heap.size < wr.heap.size; omega) | (simp; omega))), qf.andThen q4 (fun t ht => .inr (by simp at ht; omega))⟩)
            | (trace_state; sorry))
        case rest =>
          obtain ⟨g5, vs', vp', rfl, rfl, hg5, hb5, hc5, hf5⟩ := hcut
          have hcc := hc5
          obtain ⟨⟨b1, p1, rfl, -⟩, ⟨b2, p2, rfl, -⟩⟩ := hcc
          dsimp only at hb5
          obtain ⟨y0, yz, yl⟩ := box hb5
          have hbk := hf5.keep hbx'.out (by simp)
          obtain ⟨x0, xz, xl⟩ := box hbk
          have hb5' := Lib.hid hb5; have hc5' := Lib.hid hc5; have hbk' := Lib.hid hbk; have hf5' := Lib.hid hf5
          clear hb5 hc5 hbk hf5
          by_cases hr : r = 0
          · subst hr
            rw [if_pos rfl] at hst'
            have q4 := fr_set4 wc w1.heap.size (.int .i64 ep2) (.slice b1 sv2.length p1) (.slice b2 pt2.length p2) (.int .i64 tb2)
            have q5 := set4 hbk'.out (.int .i64 ep2) (.slice b1 sv2.length p1) (.slice b2 pt2.length p2) (.int .i64 tb2)
            have q4' := Lib.hid q4; have q5' := Lib.hid q5
            clear q4 q5
            go_wp2
            go_roundg (60 - (i + 1))
            case rel => exact ⟨i + 1, _, _, by omega, rfl, by go_num, by rw [hst'.out]; exact q5'.out, by rw [hst'.out]; exact hc5'.out.frT q4'.out (fun g hg hm => by simp at hm; exact hg.2 hm), (hfr.trans (hf5'.out.mono (by simp))).trans q4'.out⟩
            case measure => rw [hgk'.out]; omega
          · have hrb : (r == 0) = false := by simpa using hr
            rw [if_neg hr] at hst'
            have hf6 := Lib.hid ((hfr.trans (hf5'.out.mono (by simp))))
            go_wp2
            go_roundg (60 - (i + 1))
            case rel => exact ⟨i + 1, _, _, by omega, rfl, by go_num, by rw [hst'.out]; exact hbk'.out, by rw [hst'.out]; exact hcf'.out.fr0 hf5'.out, hf6.out⟩
            case measure => rw [hgk'.out]; omega
      · have he := after_end (L := L) hi (.inr (by omega))
        rw [← hC'.out] at he
        have hrb := hfr.keep (hF1.keep hbW'.out (by simp)) (by simp; omega)
        obtain ⟨y0, yz, yl⟩ := box hrb
        have hrb' := Lib.hid hrb; have he' := Lib.hid he
        clear hrb he
        go_wp2
        have h4 := set4 hrb'.out (.int .i64 ep) (.slice a1 sv.length q1) (.slice a2 pt.length q2) (.int .i64 tb)
        have f4 := fr_set4 wr w.heap.size (.int .i64 ep) (.slice a1 sv.length q1) (.slice a2 pt.length q2) (.int .i64 tb)
        obtain ⟨wf, hwf⟩ : ∃ wf, wf = (((wr.setCell ⟨w.heap.size, 0, none⟩ (.int .i64 ep)).setCell ⟨w.heap.size, 1, none⟩ (.slice a1 sv.length q1)).setCell ⟨w.heap.size, 2, none⟩ (.slice a2 pt.length q2)).setCell ⟨w.heap.size, 3, none⟩ (.int .i64 tb) := ⟨_, rfl⟩
        rw [← hwf] at h4 f4 ⊢
        obtain ⟨p0, -, -⟩ := box h4
        refine bodyPost_ret (v := .agg #[.int .i64 ep, .slice a1 sv.length q1, .slice a2 pt.length q2, .int .i64 tb]) (by simp [results, Tryd.results13, go_sem, p0]) rfl ?_
        rw [← he'.out]
        refine ⟨_, _, rfl, ((hFW.trans hF1).andThen hfr (fun t ht => .inr (by simp at ht; omega))).andThen f4 (fun t ht => .inr (by simp at ht; omega)), ?_⟩
        exact ((hcf'.out.imp (B' := fun g => w.heap.size ≤ g ∧ g ≠ w.heap.size) (fun g _ hg => ⟨Nat.le_of_lt hg.1, by have := hg.1; omega⟩)).frT f4 (fun g hg hm => by simp at hm; exact hg.2 hm)).imp (fun g _ hg => hg.1)
    · have he := after_end (L := L) hi (.inl (by omega))
      rw [← hC'.out] at he
      have hrb := hfr.keep (hF1.keep hbW'.out (by simp)) (by simp; omega)
      obtain ⟨y0, yz, yl⟩ := box hrb
      have hrb' := Lib.hid hrb; have he' := Lib.hid he
      clear hrb he
      go_wp2
      have h4 := set4 hrb'.out (.int .i64 ep) (.slice a1 sv.length q1) (.slice a2 pt.length q2) (.int .i64 tb)
      have f4 := fr_set4 wr w.heap.size (.int .i64 ep) (.slice a1 sv.length q1) (.slice a2 pt.length q2) (.int .i64 tb)
      obtain ⟨wf, hwf⟩ : ∃ wf, wf = (((wr.setCell ⟨w.heap.size, 0, none⟩ (.int .i64 ep)).setCell ⟨w.heap.size, 1, none⟩ (.slice a1 sv.length q1)).setCell ⟨w.heap.size, 2, none⟩ (.slice a2 pt.length q2)).setCell ⟨w.heap.size, 3, none⟩ (.int .i64 tb) := ⟨_, rfl⟩
      rw [← hwf] at h4 f4 ⊢
      obtain ⟨p0, -, -⟩ := box h4
      refine bodyPost_ret (v := .agg #[.int .i64 ep, .slice a1 sv.length q1, .slice a2 pt.length q2, .int .i64 tb]) (by simp [results, Tryd.results13, go_sem, p0]) rfl ?_
      rw [← he'.out]
      refine ⟨_, _, rfl, ((hFW.trans hF1).andThen hfr (fun t ht => .inr (by simp at ht; omega))).andThen f4 (fun t ht => .inr (by simp at ht; omega)), ?_⟩
      exact ((hcf'.out.imp (B' := fun g => w.heap.size ≤ g ∧ g ≠ w.heap.size) (fun g _ hg => ⟨Nat.le_of_lt hg.1, by have := hg.1; omega⟩)).frT f4 (fun g hg hm => by simp at hm; exact hg.2 hm)).imp (fun g _ hg => hg.1)
end Go.Proofs.YthhpamaeibjpaaaDoor
end
section
namespace Go.Proofs.YthhpamaeibjpaaaDoor
open Go.RowKit Go.Maps Go.Lib Go.Sort
set_option linter.unusedVariables false
def AllB : Nat → Prop := fun _ => True
theorem CfgIs.all {w : World} {B : Nat → Prop} {vs vp : Value} {c : Cfg} (h : CfgIs w B vs vp c) : CfgIs w AllB vs vp c := h.imp (fun _ _ _ => trivial)
theorem CfgIs.two {w : World} {B : Nat → Prop} {vs vp vp' : Value} {c : Cfg} {base : Nat} {e : TypeId} (h : CfgIs w B vs vp c) (ho : w.ownsRow base e 4 vp' c.pt.length (c.pt.flatMap encPt)) : CfgIs w AllB vs vp' c :=
  ⟨h.1.imp (fun _ _ _ => trivial), (SliceIs.of_owns ho rfl).imp (fun _ _ _ => trivial)⟩
section
variable {w : World} {B : Nat → Prop} {ep tb : Int} {sv : List Int} {pt : List Pt} {a1 a2 : Option Addr} {q1 q2 : Nat}
theorem where_at {b x y r : Int} (h : CfgIs w B (.slice a1 sv.length q1) (.slice a2 pt.length q2) ⟨ep, sv, pt, tb⟩) (ho : okC ⟨ep, sv, pt, tb⟩ = true) (hD : whereP ⟨ep, sv, pt, tb⟩ b = (x, y, r)) : Calls Tryd.prog 17 #[.agg #[.int .i64 ep, .slice a1 sv.length q1, .slice a2 pt.length q2, .int .i64 tb], .int .i64 b] w fun e w' => e = .returned (.tuple #[.int .i64 x, .int .i64 y, .int .i64 r]) ∧ Fr [] w w' := by
  have := where_any _ _ _ b w h ho (by have := (ok_small ho).2; omega)
  rw [hD] at this; exact this
theorem table_at {b t : Int} (h : CfgIs w B (.slice a1 sv.length q1) (.slice a2 pt.length q2) ⟨ep, sv, pt, tb⟩) (hD : tableP ⟨ep, sv, pt, tb⟩ b = t) : Calls Tryd.prog 19 #[.agg #[.int .i64 ep, .slice a1 sv.length q1, .slice a2 pt.length q2, .int .i64 tb], .int .i64 b] w fun e w' => e = .returned (.int .i64 t) ∧ Fr [] w w' := by
  have := table_any h b
  rw [hD] at this; exact this
theorem check_at {e0 : Int} (h : CfgIs w B (.slice a1 sv.length q1) (.slice a2 pt.length q2) ⟨ep, sv, pt, tb⟩) (hs : sv.length < 4398046511104) (hp : pt.length < 4398046511104) (he : errC ⟨ep, sv, pt, tb⟩ = e0) : Calls Tryd.prog 10 #[.agg #[.int .i64 ep, .slice a1 sv.length q1, .slice a2 pt.length q2, .int .i64 tb]] w fun e w' => e = .returned (.int .i64 e0) ∧ Fr [] w w' := by
  have := check_any h hs hp
  rw [he] at this; exact this
theorem rcheck_at {e0 : Int} (h : CfgIs w B (.slice a1 sv.length q1) (.slice a2 pt.length q2) ⟨ep, sv, pt, tb⟩) (hs : sv.length < 4398046511104) (hp : pt.length < 4398046511104) (he : errC ⟨ep, sv, pt, tb⟩ = e0) : Calls Tryd.prog 11 #[.agg #[.int .i64 ep, .slice a1 sv.length q1, .slice a2 pt.length q2, .int .i64 tb]] w fun e w' => e = .returned (.int .i64 e0) ∧ Fr [] w w' := by
  have := rcheck_any h hs hp
  rw [he] at this; exact this
theorem CfgIs.svs (h : CfgIs w B (.slice a1 sv.length q1) (.slice a2 pt.length q2) ⟨ep, sv, pt, tb⟩) : SliceIs w B encI (.slice a1 sv.length q1) sv := h.1
theorem theirs_at (h : CfgIs w B (.slice a1 sv.length q1) (.slice a2 pt.length q2) ⟨ep, sv, pt, tb⟩) (ho : pt.length < 1000000) : Calls Tryd.prog 12 #[.agg #[.int .i64 ep, .slice a1 sv.length q1, .slice a2 pt.length q2, .int .i64 tb]] w fun e w' => ∃ (a : Option Addr) (q : Nat), e = .returned (.agg #[.int .i64 ep, .slice a1 sv.length q1, .slice a pt.length q, .int .i64 tb]) ∧ Fr [] w w' ∧ CfgIs w' AllB (.slice a1 sv.length q1) (.slice a pt.length q) ⟨ep, sv, pt, tb⟩ := by
  refine (theirs_any ⟨ep, sv, pt, tb⟩ _ _ w h ho).mono ?_
  rintro e w' ⟨vp', rfl, hf, hown⟩
  have hs := CfgIs.two (h.fr0 hf) hown
  have hcc := hs
  obtain ⟨-, ⟨a, q, rfl, -⟩⟩ := hcc
  exact ⟨a, q, rfl, hf, hs⟩
theorem after_at {L : List Ord} {v : Value} (h : SliceIs w B encO v L) (hkin : KindsAt w) (hC : ⟨ep, sv, pt, tb⟩ = afterP L 60) : Calls Tryd.prog 13 #[v] w fun e w' => ∃ (a1 : Option Addr) (q1 : Nat) (a2 : Option Addr) (q2 : Nat), e = .returned (.agg #[.int .i64 ep, .slice a1 sv.length q1, .slice a2 pt.length q2, .int .i64 tb]) ∧ Fr [] w w' ∧ CfgIs w' AllB (.slice a1 sv.length q1) (.slice a2 pt.length q2) ⟨ep, sv, pt, tb⟩ := by
  have := after_any L v w h hkin
  rw [← hC] at this
  refine this.mono ?_
  rintro e w' ⟨vs, vp, rfl, hf, hcf⟩
  have hcc := hcf
  obtain ⟨⟨a1, q1, rfl, -⟩, ⟨a2, q2, rfl, -⟩⟩ := hcc
  exact ⟨a1, q1, a2, q2, rfl, hf, hcf.all⟩
theorem apply_at {o : Ord} {r : Cfg × Int} {ok n m F T : Int} (h : CfgIs w B (.slice a1 sv.length q1) (.slice a2 pt.length q2) ⟨ep, sv, pt, tb⟩) (hkin : KindsAt w) (hs : sv.length < 100000) (hp : pt.length < 100000) (hr : applyP ⟨ep, sv, pt, tb⟩ (ok, n, m, F, T) = r) : Calls Tryd.prog 14 #[.agg #[.int .i64 ep, .slice a1 sv.length q1, .slice a2 pt.length q2, .int .i64 tb], .agg #[.int .i64 ok, .int .i64 n, .int .i64 m, .int .i64 F, .int .i64 T]] w fun e w' => ∃ (b1 : Option Addr) (p1 : Nat) (b2 : Option Addr) (p2 : Nat), e = .returned (.tuple #[.agg #[.int .i64 r.1.ep, .slice b1 r.1.sv.length p1, .slice b2 r.1.pt.length p2, .int .i64 r.1.tb], .int .i64 r.2]) ∧ Fr [] w w' ∧ CfgIs w' AllB (.slice b1 r.1.sv.length p1) (.slice b2 r.1.pt.length p2) r.1 := by
  have := apply_any _ _ _ (ok, n, m, F, T) w h hkin hs hp
  rw [hr] at this
  refine this.mono ?_
  rintro e w' ⟨vs, vp, rfl, hf, hcf⟩
  have hcc := hcf
  obtain ⟨⟨a1, q1, rfl, -⟩, ⟨a2, q2, rfl, -⟩⟩ := hcc
  exact ⟨a1, q1, a2, q2, rfl, hf, hcf.all⟩
theorem rapply_at {o : Ord} {r : Cfg × Int} {ok n m F T : Int} (h : CfgIs w B (.slice a1 sv.length q1) (.slice a2 pt.length q2) ⟨ep, sv, pt, tb⟩) (hs : sv.length < 100000) (hp : pt.length < 100000) (hr : applyP ⟨ep, sv, pt, tb⟩ (ok, n, m, F, T) = r) : Calls Tryd.prog 15 #[.agg #[.int .i64 ep, .slice a1 sv.length q1, .slice a2 pt.length q2, .int .i64 tb], .agg #[.int .i64 ok, .int .i64 n, .int .i64 m, .int .i64 F, .int .i64 T]] w fun e w' => ∃ (b1 : Option Addr) (p1 : Nat) (b2 : Option Addr) (p2 : Nat), e = .returned (.tuple #[.agg #[.int .i64 r.1.ep, .slice b1 r.1.sv.length p1, .slice b2 r.1.pt.length p2, .int .i64 r.1.tb], .int .i64 r.2]) ∧ Fr [] w w' ∧ CfgIs w' AllB (.slice b1 r.1.sv.length p1) (.slice b2 r.1.pt.length p2) r.1 := by
  have := rapply_any _ _ _ (ok, n, m, F, T) w h (by dsimp only; omega) (by dsimp only; omega)
  rw [hr] at this
  refine this.mono ?_
  rintro e w' ⟨vs, vp, rfl, hf, hcf⟩
  have hcc := hcf
  obtain ⟨⟨a1, q1, rfl, -⟩, ⟨a2, q2, rfl, -⟩⟩ := hcc
  exact ⟨a1, q1, a2, q2, rfl, hf, hcf.all⟩
theorem same_at {B' : Nat → Prop} {a3 a4 : Option Addr} {q3 q4 : Nat} (h : CfgIs w B (.slice a1 sv.length q1) (.slice a2 pt.length q2) ⟨ep, sv, pt, tb⟩) (h' : CfgIs w B' (.slice a3 sv.length q3) (.slice a4 pt.length q4) ⟨ep, sv, pt, tb⟩) (hs : sv.length < 4398046511104) (hp : pt.length < 4398046511104) : Calls Tryd.prog 16 #[.agg #[.int .i64 ep, .slice a1 sv.length q1, .slice a2 pt.length q2, .int .i64 tb], .agg #[.int .i64 ep, .slice a3 sv.length q3, .slice a4 pt.length q4, .int .i64 tb]] w fun e w' => e = .returned (.bool true) ∧ Fr [] w w' :=
  by exact same_any (c := ⟨ep, sv, pt, tb⟩) h h' hs hp
end
end Go.Proofs.YthhpamaeibjpaaaDoor
end
