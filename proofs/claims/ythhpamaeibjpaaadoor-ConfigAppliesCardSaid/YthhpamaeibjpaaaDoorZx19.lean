/- Contracts and words, several texts in one. -/
import Derived.Deep.RegionLaw
import Derived.Deep.DrawnRows
import Derived.Deep.DeepCutAuto
import Derived.Deep.CutBlock
import Derived.Test.YthhpamaeibjpaaaDoorZx17
import Derived.Test.YthhpamaeibjpaaaDoorZx18
section
namespace Go.Proofs.YthhpamaeibjpaaaDoor
open Go.RowKit Go.Maps Go.Lib Go.Sort
theorem flatI (S : List Int) : S.flatMap encI = S.map (Value.int .i64) := by
  induction S with
  | nil => rfl
  | cons x S ih => rw [List.flatMap_cons, ih]; rfl
theorem owns_holds {w : World} {base g cap : Nat} {e : TypeId} {S : List Int} (h : w.ownsRow base e 1 (.slice (some ⟨g, 0, none⟩) S.length cap) S.length (S.flatMap encI)) (hS : S ≠ []) : Holds (Value.int .i64) w g 0 S.toArray ∧ g < w.heap.size ∧ S.length ≤ cap := by
  obtain ⟨g', cap', hv, _, h2, h3, h4, h5⟩ := owns_cell h encI_len hS
  cases hv
  refine ⟨fun j hj => ⟨?_, h4 _⟩, h2, h3⟩
  have hj' : j < S.length := by simpa using hj
  have := h5 j S[j] 0 _ (List.getElem?_eq_getElem hj') rfl
  rw [Nat.mul_one, Nat.add_zero] at this
  rw [Nat.zero_add, this, getElem!_pos S.toArray j hj]
  simp
theorem owns_putRow {w : World} {base g cap : Nat} {e : TypeId} {S : List Int} (h : w.ownsRow base e 1 (.slice (some ⟨g, 0, none⟩) S.length cap) S.length (S.flatMap encI)) (d : List Int) (hd : d.length = S.length) (m : Nat) (hm : m ≤ d.length) (q : Nat) (os : Array Obj) :
    (grow (putRow (Value.int .i64) (Sort.ahead w q) g 0 d.toArray) os).ownsRow base e 1 (.slice (some ⟨g, 0, none⟩) m cap) (d.take m).length ((d.take m).flatMap encI) := by
  have hml : (d.take m).length = m := by rw [List.length_take]; omega
  rcases h.2 with ⟨hv, _⟩ | ⟨g', cap', cur, hv, hb, hg, hnc, hcm, hcs, htake⟩
  · cases hv
  · cases hv
    refine ⟨by rw [flatI, List.length_map]; omega, .inr ⟨g, cap, putCells (Value.int .i64) 0 d.toArray cur, by rw [hml], hb, ?_, by omega, hcm, by unfold putCells; simpa using hcs, ?_⟩⟩
    · have hlt := lt_of_block hg
      unfold grow putRow mapBlock Sort.ahead
      simp only [Array.getElem?_append, Array.size_modify, if_pos hlt, Array.getElem?_modify, hg, if_true, Option.map_some, onCells]
    · rw [flatI, hml, Nat.mul_one]
      unfold putCells
      apply List.ext_getElem?
      intro i
      rw [List.getElem?_take]
      by_cases hi : i < m
      · have hic : i < cur.size := by omega
        have hid : i < d.length := by omega
        rw [if_pos hi, List.getElem?_map, List.getElem?_take, if_pos hi, List.getElem?_eq_getElem hid]
        simp only [Array.getElem?_toList, Array.getElem?_mapIdx, Array.getElem?_eq_getElem hic, Option.map_some]
        rw [if_pos ⟨by omega, by simpa using hid⟩]
        simp [hid]
      · rw [if_neg hi, List.getElem?_eq_none (by rw [List.length_map]; omega)]
theorem fr_putRow (w : World) (g : Nat) (d : Array Int) (q : Nat) (os : Array Obj) : Fr [g] w (grow (putRow (Value.int .i64) (Sort.ahead w q) g 0 d) os) := by
  refine Fr.trans (b := putRow (Value.int .i64) (Sort.ahead w q) g 0 d) ?_ (fr_grow _ _ _)
  have h1 : Fr [g] w (Sort.ahead w q) := ⟨rfl, rfl, rfl, Nat.le_refl _, fun _ _ _ => rfl⟩
  exact h1.trans (fr_mapBlock _ _ _)
theorem sort_any {base : Nat} {v : Value} {S : List Int} {w : World} (h : w.ownsRow base 3 1 v S.length (S.flatMap encI)) (hl : S.length < 1000000) (hS : S ≠ []) :
    Calls Tryd.prog 84 #[v] w fun e w' => e = .returned (.tuple #[]) ∧ Fr v.ownBlock.toList w w' ∧ w'.ownsRow base 3 1 v S.length ((S.mergeSort fun x y => decide (x ≤ y)).flatMap encI) := by
  obtain ⟨g, cap, rfl, _, _, _, _, _⟩ := owns_cell h encI_len hS
  obtain ⟨hH, hg, hc⟩ := owns_holds h hS
  refine (Any.slices_Sort_int Tryd.sortL g 0 cap S w hH hg (by omega)).mono ?_
  rintro e w' ⟨rfl, n, os, rfl⟩
  refine ⟨rfl, fr_putRow w g _ n os, ?_⟩
  have hlen : (S.mergeSort fun x y => decide (x ≤ y)).length = S.length := List.length_mergeSort _
  have := owns_putRow h (S.mergeSort fun x y => decide (x ≤ y)) hlen S.length (by omega) n os
  rw [List.take_of_length_le (by omega), hlen] at this
  exact this
theorem del_any {base : Nat} {v : Value} {S : List Int} {w : World} (h : w.ownsRow base 3 1 v S.length (S.flatMap encI)) (hl : S.length < 1000000) (hS : S ≠ []) (p : Int → Bool) (g0 : Nat) (lb : Array Value) (eg : ∀ args w, (callFunc g0 args).run Tryd.prog w = .ok (.enter g0 args) w)
    (hp : ∀ X, Fr v.ownBlock.toList w X → ∀ x, Calls Tryd.prog g0 (#[.int .i64 x] ++ lb) X fun e w' => e = .returned (.bool (p x)) ∧ w' = X) :
    Calls Tryd.prog 85 #[v, .func (.func g0) #[] lb] w fun e w' => ∃ v', e = .returned v' ∧ v'.ownBlock = v.ownBlock ∧ Fr v.ownBlock.toList w w' ∧ w'.ownsRow base 3 1 v' (S.filter fun x => !p x).length ((S.filter fun x => !p x).flatMap encI) := by
  obtain ⟨g, cap, rfl, _, _, _, _, _⟩ := owns_cell h encI_len hS
  obtain ⟨hH, hg, hc⟩ := owns_holds h hS
  have hpa : PredAt Tryd.prog g0 lb (Value.int .i64) p w := fun W x hb => (hp W (Fr.of_below hb _) x).mono fun e w' ⟨he, hw⟩ => ⟨he, 0, hw⟩
  have hpo : PredOver Tryd.prog g0 lb (Value.int .i64) p g 0 S.toArray.size w := fun n os dk x _ => by
    refine (hp _ ?_ x).mono fun e w' ⟨he, hw⟩ => ⟨he, 0, hw⟩
    have hh : Fr [g] w (sortWorld (Value.int .i64) w g 0 n dk os) := by unfold sortWorld; exact fr_putRow w g dk n os
    simpa [Value.ownBlock] using hh
  refine (AnyE.slices_DeleteFunc Tryd.delL (Value.int .i64) (fun _ => rfl) p g0 lb eg 0 (fun _ => by kernel_rfl) g 0 cap S.toArray w hpa hpo hH (by simp; omega) (by simpa using hc)).mono ?_
  rintro e w' ⟨rfl, q, rfl⟩
  have hfl : (S.filter fun x => !p x).length ≤ S.length := List.length_filter_le _ _
  have hdl : ((S.filter fun x => !p x) ++ List.replicate (S.length - (S.filter fun x => !p x).length) 0).length = S.length := by simp; omega
  refine ⟨_, rfl, rfl, ?_, ?_⟩
  · have := fr_putRow w g ((S.filter fun x => !p x) ++ List.replicate (S.length - (S.filter fun x => !p x).length) 0).toArray q #[]
    rw [grow_empty] at this
    simpa [Value.ownBlock] using this
  · have := owns_putRow h _ hdl (S.filter fun x => !p x).length (by omega) q #[]
    rw [grow_empty, List.take_left] at this
    simpa using this
end Go.Proofs.YthhpamaeibjpaaaDoor
end
section
namespace Go.Proofs.YthhpamaeibjpaaaDoor
open Go.RowKit Go.Maps Go.Lib Go.Sort
theorem owns_apart {w : World} {v : Value} {base : Nat} {e t : TypeId} {k n b : Nat} {xs : List Value} {cs : Array Value} (h : w.ownsRow base e k v n xs) (hb : w.heap[b]? = some (.cells cs t (0, 0))) (hne : e ≠ t) : b ∉ v.ownBlock.toList := by
  rcases h.2 with ⟨rfl, _⟩ | ⟨g, cap, cur, rfl, _, hg, _⟩
  · simp [Value.ownBlock]
  · intro hm
    have : b = g := by simpa [Value.ownBlock] using hm
    subst this
    rw [hb] at hg
    injection hg with hg
    injection hg with _ ht
    exact hne ht.symm
def CAt (base : Nat) (w : World) (cb : Nat) (vs vp : Value) (c : Cfg) : Prop := w.heap[cb]? = some (.cells #[.int .i64 c.ep, vs, vp, .int .i64 c.tb] 26 (0, 0)) ∧ w.ownsRow base 3 1 vs c.sv.length (c.sv.flatMap encI) ∧ w.ownsRow base 71 4 vp c.pt.length (c.pt.flatMap encPt)
def rowsOf (cb : Nat) (vs vp : Value) : List Nat := cb :: (vs.ownBlock.toList ++ vp.ownBlock.toList)
def OutK (base : Nat) (cb : Nat) (vs vp : Value) (r : Int × Cfg) (w : World) (e : Ending) (w' : World) : Prop := e = .returned (.int .i64 r.1) ∧ Fr (rowsOf cb vs vp) w w' ∧ (r.1 = 0 → ∃ vs' vp', CAt base w' cb vs' vp' r.2)
theorem own_block_at {w : World} {v : Value} {base : Nat} {e : TypeId} {k n g : Nat} {xs : List Value} (h : w.ownsRow base e k v n xs) (hg : v.ownBlock = some g) : ∃ cs, w.heap[g]? = some (.cells cs e (0, 0)) := by
  rcases h.2 with ⟨rfl, _⟩ | ⟨g', cap, cur, rfl, _, hh, _⟩
  · simp [Value.ownBlock] at hg
  · have : g' = g := by simpa [Value.ownBlock] using hg
    subst this
    exact ⟨cur, hh⟩
theorem rows_apart {w : World} {v u : Value} {base base' : Nat} {e t : TypeId} {k n k' n' : Nat} {xs ys : List Value} (h : w.ownsRow base e k v n xs) (h' : w.ownsRow base' t k' u n' ys) (hne : e ≠ t) : ∀ g, u.ownBlock = some g → g ∉ v.ownBlock.toList := fun g hg => by
  obtain ⟨cs, hc⟩ := own_block_at h' hg
  exact owns_apart h hc hne
attribute [local go_sem ↓] Go.wp_at_zero Go.wp_at_succ
set_option maxRecDepth 100000 in
set_option maxHeartbeats 8000000 in
theorem come_any {base cb : Nat} (c : Cfg) (vs vp : Value) (o : Ord) (w : World) (h : CAt base w cb vs vp c) (hb : base ≤ w.heap.size) (hr : risB (-1) c.sv = true) (hs : c.sv.length < 100000) (hp : c.pt.length < 100000) :
    Calls Tryd.prog 80 #[.pointer (some ⟨cb, 0, none⟩), aggO o] w (OutK base cb vs vp (comeP c o.2.1) w) := by
  obtain ⟨ep, sv, pt, tb⟩ := c
  obtain ⟨ok, n, m, F, T⟩ := o
  obtain ⟨hcb, hos, hop⟩ := h
  dsimp only at hcb hos hop hs hp
  obtain ⟨a1, cap1, rfl, _, _, _⟩ := SliceIs.of_owns hos rfl
  obtain ⟨a2, cap2, rfl, _, _, _⟩ := SliceIs.of_owns hop rfl
  obtain ⟨W, hW⟩ : ∃ W, W = w.alloc (.cells #[.int .i64 ok, .int .i64 n, .int .i64 m, .int .i64 F, .int .i64 T] 30) := ⟨_, rfl⟩
  have hFW : Fr [] w W := by rw [hW]; exact (Fr.refl _ _).alloc _
  have hob : W.heap[w.heap.size]? = some (.cells #[.int .i64 ok, .int .i64 n, .int .i64 m, .int .i64 F, .int .i64 T] 30 (0, 0)) := by rw [hW]; exact heap_alloc_new w _
  have hzW : W.heap.size = w.heap.size + 1 := by rw [hW]; simp
  have hcW := hFW.keep hcb (by simp)
  have hosW := owns_fr hos hFW (by simp)
  have hopW := owns_fr hop hFW (by simp)
  have hcl := lt_of_block hcb
  have hW' := Lib.hid hW
  have o0 := (show W.cell? ⟨w.heap.size, 0, none⟩ = some (.int .i64 ok) from cell_at hob)
  have o1 := (show W.cell? ⟨w.heap.size, 1, none⟩ = some (.int .i64 n) from cell_at hob)
  have o2 := (show W.cell? ⟨w.heap.size, 2, none⟩ = some (.int .i64 m) from cell_at hob)
  have o3 := (show W.cell? ⟨w.heap.size, 3, none⟩ = some (.int .i64 F) from cell_at hob)
  have o4 := (show W.cell? ⟨w.heap.size, 4, none⟩ = some (.int .i64 T) from cell_at hob)
  have k0 := (show W.cell? ⟨cb, 0, none⟩ = some (.int .i64 ep) from cell_at hcW)
  have k1 := (show W.cell? ⟨cb, 1, none⟩ = some (.slice a1 sv.length cap1) from cell_at hcW)
  have k2 := (show W.cell? ⟨cb, 2, none⟩ = some (.slice a2 pt.length cap2) from cell_at hcW)
  have k3 := (show W.cell? ⟨cb, 3, none⟩ = some (.int .i64 tb) from cell_at hcW)
  have kz0 := (show W.frozen? ⟨cb, 0, none⟩ = false from frozen_at hcW)
  have kz1 := (show W.frozen? ⟨cb, 1, none⟩ = false from frozen_at hcW)
  have kz2 := (show W.frozen? ⟨cb, 2, none⟩ = false from frozen_at hcW)
  have kz3 := (show W.frozen? ⟨cb, 3, none⟩ = false from frozen_at hcW)
  have kl := lt_of_cell k0
  have ol := lt_of_cell o0
  have hob' := Lib.hid hob; have hcW' := Lib.hid hcW; have hosW' := Lib.hid hosW; have hopW' := Lib.hid hopW; have hcb' := Lib.hid hcb
  unfold aggO
  dsimp only
  clear hW hob hcW hosW hopW hcb hos hop
  dsimp only at hr
  by_cases h1 : n < 0 ∨ 7 < n
  · have hv : comeP ⟨ep, sv, pt, tb⟩ n = (1, ⟨ep, sv, pt, tb⟩) := by unfold comeP; rw [if_pos h1]
    rw [hv]
    have hwi := within_any n 0 7 W
    have e1 : decide (0 ≤ n ∧ n ≤ 7) = false := by simp; omega
    rw [e1] at hwi
    clear h1 hv e1 hr
    go_enter Tryd.func80, Tryd.ntmps80
    go_upto_region 1 with (fail)
    rw [← hW'.out]
    go_wp2_with (go_at_call 29; refine hwi.mono ?_; rintro e w1 ⟨rfl, hf1⟩; have sb := hf1.keep hcW'.out (by simp); have s0 := (show w1.cell? ⟨cb, 0, none⟩ = some (.int .i64 ep) from cell_at sb); have s1 := (show w1.cell? ⟨cb, 1, none⟩ = some (.slice a1 sv.length cap1) from cell_at sb); have s2 := (show w1.cell? ⟨cb, 2, none⟩ = some (.slice a2 pt.length cap2) from cell_at sb); have s3 := (show w1.cell? ⟨cb, 3, none⟩ = some (.int .i64 tb) from cell_at sb); have sz0 := (show w1.frozen? ⟨cb, 0, none⟩ = false from frozen_at sb); have sz1 := (show w1.frozen? ⟨cb, 1, none⟩ = false from frozen_at sb); have sz2 := (show w1.frozen? ⟨cb, 2, none⟩ = false from frozen_at sb); have sz3 := (show w1.frozen? ⟨cb, 3, none⟩ = false from frozen_at sb); have sl := lt_of_cell s0; have pb := hf1.keep hob'.out (by simp); have p0 := (show w1.cell? ⟨w.heap.size, 0, none⟩ = some (.int .i64 ok) from cell_at pb); have p1 := (show w1.cell? ⟨w.heap.size, 1, none⟩ = some (.int .i64 n) from cell_at pb); have p2 := (show w1.cell? ⟨w.heap.size, 2, none⟩ = some (.int .i64 m) from cell_at pb); have p3 := (show w1.cell? ⟨w.heap.size, 3, none⟩ = some (.int .i64 F) from cell_at pb); have p4 := (show w1.cell? ⟨w.heap.size, 4, none⟩ = some (.int .i64 T) from cell_at pb); have pl := lt_of_cell p0; have sb' := Lib.hid sb; have pb' := Lib.hid pb; clear sb pb)
    go_ret
    exact ⟨rfl, (hFW.trans hf1).mono (by simp), fun h => by simp at h⟩
  have hn0 : 0 ≤ n := by omega
  have hn7 : n ≤ 7 := by omega
  have hwi := within_any n 0 7 W
  rw [decide_eq_true (show 0 ≤ n ∧ n ≤ 7 from ⟨hn0, hn7⟩)] at hwi
  have hsl : SliceIs W (base ≤ ·) encI (.slice a1 sv.length cap1) sv := SliceIs.of_owns hosW'.out rfl
  have hpl : SliceIs W (base ≤ ·) encPt (.slice a2 pt.length cap2) pt := SliceIs.of_owns hopW'.out rfl
  have hhas0 : ∀ X, Fr [] W X → _ := fun X hX => has_any (c := ⟨ep, sv, pt, tb⟩) ⟨hsl.fr hX (by simp), hpl.fr hX (by simp)⟩ (by dsimp only; omega) n
  unfold aggC at hhas0
  dsimp only at hhas0
  cases hcn : sv.contains n with
  | true =>
    have hv : comeP ⟨ep, sv, pt, tb⟩ n = (4, ⟨ep, sv, pt, tb⟩) := by unfold comeP; rw [if_neg h1, if_pos (List.contains_iff_mem.1 hcn)]
    rw [hv]
    rw [hcn] at hhas0
    have hhas0' := Lib.hid hhas0
    clear hsl hpl hhas0 h1 hv hcn hr
    go_enter Tryd.func80, Tryd.ntmps80
    go_upto_region 1 with (fail)
    rw [← hW'.out]
    go_wp2_with (go_at_call 29; refine hwi.mono ?_; rintro e w1 ⟨rfl, hf1⟩; have sb := hf1.keep hcW'.out (by simp); have s0 := (show w1.cell? ⟨cb, 0, none⟩ = some (.int .i64 ep) from cell_at sb); have s1 := (show w1.cell? ⟨cb, 1, none⟩ = some (.slice a1 sv.length cap1) from cell_at sb); have s2 := (show w1.cell? ⟨cb, 2, none⟩ = some (.slice a2 pt.length cap2) from cell_at sb); have s3 := (show w1.cell? ⟨cb, 3, none⟩ = some (.int .i64 tb) from cell_at sb); have sz0 := (show w1.frozen? ⟨cb, 0, none⟩ = false from frozen_at sb); have sz1 := (show w1.frozen? ⟨cb, 1, none⟩ = false from frozen_at sb); have sz2 := (show w1.frozen? ⟨cb, 2, none⟩ = false from frozen_at sb); have sz3 := (show w1.frozen? ⟨cb, 3, none⟩ = false from frozen_at sb); have sl := lt_of_cell s0; have pb := hf1.keep hob'.out (by simp); have p0 := (show w1.cell? ⟨w.heap.size, 0, none⟩ = some (.int .i64 ok) from cell_at pb); have p1 := (show w1.cell? ⟨w.heap.size, 1, none⟩ = some (.int .i64 n) from cell_at pb); have p2 := (show w1.cell? ⟨w.heap.size, 2, none⟩ = some (.int .i64 m) from cell_at pb); have p3 := (show w1.cell? ⟨w.heap.size, 3, none⟩ = some (.int .i64 F) from cell_at pb); have p4 := (show w1.cell? ⟨w.heap.size, 4, none⟩ = some (.int .i64 T) from cell_at pb); have pl := lt_of_cell p0; have sb' := Lib.hid sb; have pb' := Lib.hid pb; clear sb pb)
    have Ls0 : ∀ p : Later w1, _ := fun p => p.cell s0
    have Ls1 : ∀ p : Later w1, _ := fun p => p.cell s1
    have Ls2 : ∀ p : Later w1, _ := fun p => p.cell s2
    have Ls3 : ∀ p : Later w1, _ := fun p => p.cell s3
    have Lp0 : ∀ p : Later w1, _ := fun p => p.cell p0
    have Lp1 : ∀ p : Later w1, _ := fun p => p.cell p1
    have Lp2 : ∀ p : Later w1, _ := fun p => p.cell p2
    have Lp3 : ∀ p : Later w1, _ := fun p => p.cell p3
    have Lp4 : ∀ p : Later w1, _ := fun p => p.cell p4
    have hhas' := Lib.hid (fun p : Later w1 => hhas0'.out p.world (hf1.trans p.fr))
    refine wp_region_later (by kernel_rfl) (by kernel_rfl) ?_
    repeat (go_big_quiet_step ((go_at_call 30; refine Calls.later_of0 (hhas'.out _))))
    refine wpQuiet_nil ?_
    intro w2 hw'
    have hf8 : Fr [] w1 w2 := by
      obtain ⟨p, rfl⟩ := hw'
      exact p.fr
    clear hw'
    go_wp2
    go_ret
    exact ⟨rfl, ((hFW.trans hf1).trans hf8).mono (by simp), fun h => by simp at h⟩
  | false =>
    have hnm : n ∉ sv := fun hm => by rw [List.contains_iff_mem.2 hm] at hcn; cases hcn
    have hv : comeP ⟨ep, sv, pt, tb⟩ n = (0, ⟨ep, comeL sv n, pt, tb⟩) := by unfold comeP; rw [if_neg h1, if_neg hnm]
    rw [hv]
    rw [hcn] at hhas0
    have hhas0' := Lib.hid hhas0
    have hcome := fun l h1 h2 => come_is (l := l) hr hn0 hn7 hnm h1 h2
    have hcome' := Lib.hid hcome
    clear hsl hpl hhas0 h1 hv hcn hr hnm hcome
    go_enter Tryd.func80, Tryd.ntmps80
    go_upto_region 1 with (fail)
    rw [← hW'.out]
    go_wp2_with (go_at_call 29; refine hwi.mono ?_; rintro e w1 ⟨rfl, hf1⟩; have sb := hf1.keep hcW'.out (by simp); have s0 := (show w1.cell? ⟨cb, 0, none⟩ = some (.int .i64 ep) from cell_at sb); have s1 := (show w1.cell? ⟨cb, 1, none⟩ = some (.slice a1 sv.length cap1) from cell_at sb); have s2 := (show w1.cell? ⟨cb, 2, none⟩ = some (.slice a2 pt.length cap2) from cell_at sb); have s3 := (show w1.cell? ⟨cb, 3, none⟩ = some (.int .i64 tb) from cell_at sb); have sz0 := (show w1.frozen? ⟨cb, 0, none⟩ = false from frozen_at sb); have sz1 := (show w1.frozen? ⟨cb, 1, none⟩ = false from frozen_at sb); have sz2 := (show w1.frozen? ⟨cb, 2, none⟩ = false from frozen_at sb); have sz3 := (show w1.frozen? ⟨cb, 3, none⟩ = false from frozen_at sb); have sl := lt_of_cell s0; have pb := hf1.keep hob'.out (by simp); have p0 := (show w1.cell? ⟨w.heap.size, 0, none⟩ = some (.int .i64 ok) from cell_at pb); have p1 := (show w1.cell? ⟨w.heap.size, 1, none⟩ = some (.int .i64 n) from cell_at pb); have p2 := (show w1.cell? ⟨w.heap.size, 2, none⟩ = some (.int .i64 m) from cell_at pb); have p3 := (show w1.cell? ⟨w.heap.size, 3, none⟩ = some (.int .i64 F) from cell_at pb); have p4 := (show w1.cell? ⟨w.heap.size, 4, none⟩ = some (.int .i64 T) from cell_at pb); have pl := lt_of_cell p0; have sb' := Lib.hid sb; have pb' := Lib.hid pb; clear sb pb)
    have Ls0 : ∀ p : Later w1, _ := fun p => p.cell s0
    have Ls1 : ∀ p : Later w1, _ := fun p => p.cell s1
    have Ls2 : ∀ p : Later w1, _ := fun p => p.cell s2
    have Ls3 : ∀ p : Later w1, _ := fun p => p.cell s3
    have Lp0 : ∀ p : Later w1, _ := fun p => p.cell p0
    have Lp1 : ∀ p : Later w1, _ := fun p => p.cell p1
    have Lp2 : ∀ p : Later w1, _ := fun p => p.cell p2
    have Lp3 : ∀ p : Later w1, _ := fun p => p.cell p3
    have Lp4 : ∀ p : Later w1, _ := fun p => p.cell p4
    have hhas' := Lib.hid (fun p : Later w1 => hhas0'.out p.world (hf1.trans p.fr))
    refine wp_region_later (by kernel_rfl) (by kernel_rfl) ?_
    repeat (go_big_quiet_step ((go_at_call 30; refine Calls.later_of0 (hhas'.out _))))
    refine wpQuiet_nil ?_
    intro w2 hw'
    have hf8 : Fr [] w1 w2 := by
      obtain ⟨p, rfl⟩ := hw'
      exact p.fr
    clear hw'
    clear Ls0 Ls1 Ls2 Ls3 Lp0 Lp1 Lp2 Lp3 Lp4
    have hf2 := hf1.trans hf8
    have ub := hf2.keep hcW'.out (by simp)
    have u0 := (show w2.cell? ⟨cb, 0, none⟩ = some (.int .i64 ep) from cell_at ub)
    have u1 := (show w2.cell? ⟨cb, 1, none⟩ = some (.slice a1 sv.length cap1) from cell_at ub)
    have u2 := (show w2.cell? ⟨cb, 2, none⟩ = some (.slice a2 pt.length cap2) from cell_at ub)
    have u3 := (show w2.cell? ⟨cb, 3, none⟩ = some (.int .i64 tb) from cell_at ub)
    have uz0 := (show w2.frozen? ⟨cb, 0, none⟩ = false from frozen_at ub)
    have uz1 := (show w2.frozen? ⟨cb, 1, none⟩ = false from frozen_at ub)
    have uz2 := (show w2.frozen? ⟨cb, 2, none⟩ = false from frozen_at ub)
    have uz3 := (show w2.frozen? ⟨cb, 3, none⟩ = false from frozen_at ub)
    have ul := lt_of_cell u0
    have qb := hf2.keep hob'.out (by simp)
    have q0 := (show w2.cell? ⟨w.heap.size, 0, none⟩ = some (.int .i64 ok) from cell_at qb)
    have q1 := (show w2.cell? ⟨w.heap.size, 1, none⟩ = some (.int .i64 n) from cell_at qb)
    have q2 := (show w2.cell? ⟨w.heap.size, 2, none⟩ = some (.int .i64 m) from cell_at qb)
    have q3 := (show w2.cell? ⟨w.heap.size, 3, none⟩ = some (.int .i64 F) from cell_at qb)
    have q4 := (show w2.cell? ⟨w.heap.size, 4, none⟩ = some (.int .i64 T) from cell_at qb)
    have ql := lt_of_cell q0
    have ub' := Lib.hid ub; have qb' := Lib.hid qb
    clear ub qb
    have hos2 := owns_fr hosW'.out hf2 (by simp)
    have hbl2 := hos2.lt
    have hos2' := Lib.hid hos2
    have hz2 := hf2.size
    have hf2' := Lib.hid hf2
    clear hos2 hf2 hf8 hf1
    go_wp2
    go_region_law
      ((refine step_push _ w2.heap.size #[.int .i64 n] 3 (by rfl) _ _ 23 (by rfl) base 3 Tryd.underlying23 infoI rfl (by omega) (.slice a1 sv.length cap1) sv (by rfl) (by first | exact owns_fr hos2'.out ((Fr.refl [] w2).alloc _).drew (by simp) | exact owns_fr hos2'.out ((Fr.refl [] w2).drew.alloc _) (by simp)) n (by exact heap_alloc_new w2 _) rfl encI_len (enc1I _) (by rfl) (by omega) (by omega) (by simp; omega) ?_; intro g7 cap7 w7 hown7 hf7 hat7 hlt7; have hf7' := Lib.hid hf7; have hown7' := Lib.hid hown7; have h37 := hf7.keep ((((Fr.refl [] w2).alloc _).drew).keep ub'.out (by simp)) (owns_apart hos2'.out ub'.out (by decide)); have n7 := (show w7.frozen? ⟨cb, 1, none⟩ = false from frozen_at h37); have m7 := (show w7.cell? ⟨cb, 1, none⟩ = some (.slice a1 sv.length cap1) from cell_at h37); have h37' := Lib.hid h37; have hf27 := ((((Fr.refl [] w2).alloc _).drew).mono (T := (Value.slice a1 sv.length cap1).ownBlock.toList) (by simp)).trans hf7; have hf27' := Lib.hid hf27; clear hf7 hown7 h37 hf27))
    all_goals
      have f9 : Fr [cb] w7 (w7.setCell ⟨cb, 1, none⟩ (.slice (some ⟨g7, 0, none⟩) (sv.length + 1) cap7)) := (Fr.refl [cb] w7).setCell _ _ (.inl (by simp))
      have hc9 := setCell_at (i := 1) h37'.out (.slice (some ⟨g7, 0, none⟩) (sv.length + 1) cap7)
      have hg7 : g7 ≠ cb := fun e => owns_apart hown7'.out h37'.out (by decide) (by simp [Value.ownBlock, e])
      have hown9 := owns_fr2 hown7'.out f9 (fun g hg hm => by
        have e1 : g7 = g := by simpa [Value.ownBlock] using hg
        have e2 : g = cb := by simpa using hm
        exact hg7 (e1.trans e2))
      have hop2 := owns_fr2 hopW'.out hf2'.out (by simp)
      have hop7 := owns_fr2 hop2 hf27'.out (rows_apart hos2'.out hop2 (by decide))
      have hop9 := owns_fr2 hop7 f9 (fun g hg hm => by
        have e2 : g = cb := by simpa using hm
        subst e2
        exact owns_apart hop7 h37'.out (by decide) (by simp [hg]))
      obtain ⟨w9, hw9⟩ : ∃ w9, w9 = w7.setCell ⟨cb, 1, none⟩ (.slice (some ⟨g7, 0, none⟩) (sv.length + 1) cap7) := ⟨_, rfl⟩
      rw [← hw9] at f9 hc9 hown9 hop9 ⊢
      have hln : (sv ++ [n]).length = sv.length + 1 := by simp
      have hsrt := sort_any hown9 (by rw [hln]; omega) (by simp)
      have hpm := List.mergeSort_perm (sv ++ [n]) (fun x y => decide (x ≤ y))
      have hps : ((sv ++ [n]).mergeSort fun x y => decide (x ≤ y)).Pairwise (· ≤ ·) := by
        refine (List.pairwise_mergeSort (fun a b c h1 h2 => ?_) (fun a b => ?_) (sv ++ [n])).imp (fun h => by simpa using h)
        · simp at h1 h2 ⊢; omega
        · simp; omega
      have hce := hcome'.out _ hpm hps
      rw [hce] at hsrt
      have hcl2 : (comeL sv n).length = (sv ++ [n]).length := by rw [← hce]; exact List.length_mergeSort _
      rw [← hcl2] at hsrt
      have x1 := (show w9.cell? ⟨cb, 1, none⟩ = some (.slice (some ⟨g7, 0, none⟩) (sv.length + 1) cap7) from cell_at hc9)
      have xl := lt_of_cell x1
      have hc9' := Lib.hid hc9; have hown9' := Lib.hid hown9; have hop9' := Lib.hid hop9; have f9' := Lib.hid f9
      clear hc9 hown9 hop9 hop7 hop2 hw9 hpm hps hce hcl2 hln f9 m7 n7
      go_wp2_with (first | (go_at_call 84; refine hsrt.mono ?_; rintro e w10 ⟨rfl, hf10, hown10⟩))
      go_ret
      refine ⟨rfl, ?_, fun _ => ⟨.slice (some ⟨g7, 0, none⟩) (sv.length + 1) cap7, .slice a2 pt.length cap2, ?_, hown10, ?_⟩⟩
      · have q1 : Fr (rowsOf cb (.slice a1 sv.length cap1) (.slice a2 pt.length cap2)) w w2 := (hFW.trans hf2'.out).mono (by simp)
        have q2 := q1.andThen hf27'.out (fun t ht => .inl (by unfold rowsOf; simp only [List.mem_cons, List.mem_append]; exact .inr (.inl ht)))
        have q3 := q2.andThen f9'.out (fun t ht => .inl (by unfold rowsOf; simp only [List.mem_singleton] at ht; subst ht; simp))
        refine q3.andThen hf10 (fun t ht => ?_)
        have e1 : t = g7 := by simpa [Value.ownBlock] using ht
        subst e1
        rcases hat7 with hh | hh
        · left; unfold rowsOf; simp only [List.mem_cons, List.mem_append]; exact .inr (.inl (by simp [hh]))
        · right; rw [hh]; simp; omega
      · exact hf10.keep hc9'.out (fun hm => hg7 (by have e2 : cb = g7 := (by simpa [Value.ownBlock] using hm); exact e2.symm))
      · exact owns_fr2 hop9'.out hf10 (rows_apart hown9'.out hop9'.out (by decide))
end Go.Proofs.YthhpamaeibjpaaaDoor
end
section
namespace Go.Proofs.YthhpamaeibjpaaaDoor
open Go.RowKit Go.Maps Go.Lib Go.Sort
theorem leave1_any (gb : Nat) (x n : Int) (w : World) (h : w.cell? ⟨gb, 1, none⟩ = some (.int .i64 n)) : Calls Tryd.prog 86 #[.int .i64 x, .pointer (some ⟨gb, 0, none⟩)] w fun e w' => e = .returned (.bool (x == n)) ∧ w' = w := by
  have hl := lt_of_cell h
  go_enter Tryd.func86, Tryd.ntmps86
  go_wp2
  go_ret
  exact ⟨rfl, rfl⟩
theorem leave2_any (gb g o : Nat) (x n : Int) (w : World) (h : w.cell? ⟨gb, 1, none⟩ = some (.pointer (some ⟨g, o, none⟩))) (h2 : w.cell? ⟨g, o, none⟩ = some (.int .i64 n)) : Calls Tryd.prog 88 #[.int .i64 x, .pointer (some ⟨gb, 0, none⟩)] w fun e w' => e = .returned (.bool (x != n)) ∧ w' = w := by
  have hl := lt_of_cell h
  have hl2 := lt_of_cell h2
  go_enter Tryd.func88, Tryd.ntmps88
  go_wp2
  go_ret
  exact ⟨rfl, rfl⟩
attribute [local go_sem ↓] Go.wp_at_zero Go.wp_at_succ
set_option maxRecDepth 100000 in
set_option maxHeartbeats 8000000 in
theorem tables_any {base cb : Nat} (c : Cfg) (vs vp : Value) (o : Ord) (w : World) (h : CAt base w cb vs vp c) (hs : c.sv.length < 100000) (hp : c.pt.length < 100000) :
    Calls Tryd.prog 83 #[.pointer (some ⟨cb, 0, none⟩), aggO o] w (OutK base cb vs vp (tablesP c o.2.1) w) := by
  obtain ⟨ep, sv, pt, tb⟩ := c
  obtain ⟨ok, n, m, F, T⟩ := o
  obtain ⟨hcb, hos, hop⟩ := h
  dsimp only at hcb hos hop hs hp
  obtain ⟨a1, cap1, rfl, _, _, _⟩ := SliceIs.of_owns hos rfl
  obtain ⟨a2, cap2, rfl, _, _, _⟩ := SliceIs.of_owns hop rfl
  obtain ⟨W, hW⟩ : ∃ W, W = w.alloc (.cells #[.int .i64 ok, .int .i64 n, .int .i64 m, .int .i64 F, .int .i64 T] 30) := ⟨_, rfl⟩
  have hFW : Fr [] w W := by rw [hW]; exact (Fr.refl _ _).alloc _
  have hob : W.heap[w.heap.size]? = some (.cells #[.int .i64 ok, .int .i64 n, .int .i64 m, .int .i64 F, .int .i64 T] 30 (0, 0)) := by rw [hW]; exact heap_alloc_new w _
  have hzW : W.heap.size = w.heap.size + 1 := by rw [hW]; simp
  have hcW := hFW.keep hcb (by simp)
  have hosW := owns_fr hos hFW (by simp)
  have hopW := owns_fr hop hFW (by simp)
  have hcl := lt_of_block hcb
  have hW' := Lib.hid hW
  have o0 := (show W.cell? ⟨w.heap.size, 0, none⟩ = some (.int .i64 ok) from cell_at hob)
  have o1 := (show W.cell? ⟨w.heap.size, 1, none⟩ = some (.int .i64 n) from cell_at hob)
  have o2 := (show W.cell? ⟨w.heap.size, 2, none⟩ = some (.int .i64 m) from cell_at hob)
  have o3 := (show W.cell? ⟨w.heap.size, 3, none⟩ = some (.int .i64 F) from cell_at hob)
  have o4 := (show W.cell? ⟨w.heap.size, 4, none⟩ = some (.int .i64 T) from cell_at hob)
  have k0 := (show W.cell? ⟨cb, 0, none⟩ = some (.int .i64 ep) from cell_at hcW)
  have k1 := (show W.cell? ⟨cb, 1, none⟩ = some (.slice a1 sv.length cap1) from cell_at hcW)
  have k2 := (show W.cell? ⟨cb, 2, none⟩ = some (.slice a2 pt.length cap2) from cell_at hcW)
  have k3 := (show W.cell? ⟨cb, 3, none⟩ = some (.int .i64 tb) from cell_at hcW)
  have kz0 := (show W.frozen? ⟨cb, 0, none⟩ = false from frozen_at hcW)
  have kz1 := (show W.frozen? ⟨cb, 1, none⟩ = false from frozen_at hcW)
  have kz2 := (show W.frozen? ⟨cb, 2, none⟩ = false from frozen_at hcW)
  have kz3 := (show W.frozen? ⟨cb, 3, none⟩ = false from frozen_at hcW)
  have kl := lt_of_cell k0
  have ol := lt_of_cell o0
  have hob' := Lib.hid hob; have hcW' := Lib.hid hcW; have hosW' := Lib.hid hosW; have hopW' := Lib.hid hopW; have hcb' := Lib.hid hcb
  unfold aggO
  dsimp only
  clear hW hob hcW hosW hopW hcb hos hop
  by_cases h1 : n < 1 ∨ 8 < n
  · have hv : tablesP ⟨ep, sv, pt, tb⟩ n = (1, ⟨ep, sv, pt, tb⟩) := by unfold tablesP; rw [if_pos h1]
    rw [hv]
    have hwi := within_any n 1 8 W
    have e1 : decide (1 ≤ n ∧ n ≤ 8) = false := by simp; omega
    rw [e1] at hwi
    clear h1 hv e1
    go_enter Tryd.func83, Tryd.ntmps83
    go_upto_region 1 with (fail)
    rw [← hW'.out]
    go_wp2_with (go_at_call 29; refine hwi.mono ?_; rintro e w1 ⟨rfl, hf1⟩; have sb := hf1.keep hcW'.out (by simp); have s3 := (show w1.cell? ⟨cb, 3, none⟩ = some (.int .i64 tb) from cell_at sb); have sz3 := (show w1.frozen? ⟨cb, 3, none⟩ = false from frozen_at sb); have sl := lt_of_cell s3; have pb := hf1.keep hob'.out (by simp); have p1 := (show w1.cell? ⟨w.heap.size, 1, none⟩ = some (.int .i64 n) from cell_at pb); have pl := lt_of_cell p1; have sb' := Lib.hid sb; clear sb pb)
    go_ret
    exact ⟨rfl, (hFW.trans hf1).mono (by simp), fun h => by simp at h⟩
  · have hv : tablesP ⟨ep, sv, pt, tb⟩ n = (0, ⟨ep, sv, pt, n⟩) := by unfold tablesP; rw [if_neg h1]
    rw [hv]
    have hwi := within_any n 1 8 W
    have e1 : decide (1 ≤ n ∧ n ≤ 8) = true := by simp; omega
    rw [e1] at hwi
    clear h1 hv e1
    go_enter Tryd.func83, Tryd.ntmps83
    go_upto_region 1 with (fail)
    rw [← hW'.out]
    go_wp2_with (go_at_call 29; refine hwi.mono ?_; rintro e w1 ⟨rfl, hf1⟩; have sb := hf1.keep hcW'.out (by simp); have s3 := (show w1.cell? ⟨cb, 3, none⟩ = some (.int .i64 tb) from cell_at sb); have sz3 := (show w1.frozen? ⟨cb, 3, none⟩ = false from frozen_at sb); have sl := lt_of_cell s3; have pb := hf1.keep hob'.out (by simp); have p1 := (show w1.cell? ⟨w.heap.size, 1, none⟩ = some (.int .i64 n) from cell_at pb); have pl := lt_of_cell p1; have sb' := Lib.hid sb; clear sb pb)
    go_ret
    have hFW1 := hFW.trans hf1
    have hos1 := owns_fr hosW'.out hf1 (by simp)
    have hop1 := owns_fr hopW'.out hf1 (by simp)
    have hap : ∀ {v : Value} {base' k' n' : Nat} {xs : List Value} {e' : TypeId}, w1.ownsRow base' e' k' v n' xs → e' ≠ 26 → ∀ g, v.ownBlock = some g → g ∉ [cb] := fun ho hne g hg hm => by
      have e2 : g = cb := by simpa using hm
      subst e2
      exact owns_apart ho sb'.out hne (by simp [hg])
    refine ⟨rfl, (hFW1.mono (by simp)).setCell _ _ (.inl (by simp [rowsOf])), fun _ => ⟨_, _, setCell_at (i := 3) sb'.out _, owns_fr2 hos1 ((Fr.refl [cb] w1).setCell _ _ (.inl (by simp))) (hap hos1 (by decide)), owns_fr2 hop1 ((Fr.refl [cb] w1).setCell _ _ (.inl (by simp))) (hap hop1 (by decide))⟩⟩
end Go.Proofs.YthhpamaeibjpaaaDoor
end
section
namespace Go.Proofs.YthhpamaeibjpaaaDoor
open Go.RowKit Go.Maps Go.Lib Go.Sort
theorem owns_putP {w : World} {base g n cap : Nat} {e : TypeId} {S : List Pt} (h : w.ownsRow base e 4 (.slice (some ⟨g, 0, none⟩) n cap) S.length (S.flatMap encPt)) {i : Nat} {f t a b : Int} (hx : S[i]? = some (f, t, a, b)) (a' b' : Int) :
    ((((w.setCell ⟨g, i * 4, none⟩ (.int .i64 f)).setCell ⟨g, i * 4 + 1, none⟩ (.int .i64 t)).setCell ⟨g, i * 4 + 2, none⟩ (.int .i64 a')).setCell ⟨g, i * 4 + 3, none⟩ (.int .i64 b')).ownsRow base e 4 (.slice (some ⟨g, 0, none⟩) n cap) (S.set i (f, t, a', b')).length ((S.set i (f, t, a', b')).flatMap encPt) := by
  have hi := (List.getElem?_eq_some_iff.1 hx).1
  have e0 : S.set i (f, t, a, b) = S := by
    obtain ⟨h1, h2⟩ := List.getElem?_eq_some_iff.1 hx
    rw [← h2]; exact List.set_getElem_self h1
  have h0 := owns_setAt h encPt_len i (f, t, a, b) (f, t, a, b) 0 (.int .i64 f) hx (by omega) rfl
  rw [e0] at h0
  have h1 := owns_setAt h0 encPt_len i (f, t, a, b) (f, t, a, b) 1 (.int .i64 t) hx (by omega) rfl
  rw [e0] at h1
  have h2 := owns_setAt h1 encPt_len i (f, t, a, b) (f, t, a', b) 2 (.int .i64 a') hx (by omega) rfl
  have h3 := owns_setAt h2 encPt_len i (f, t, a', b) (f, t, a', b') 3 (.int .i64 b') (by rw [List.getElem?_set]; simp [hi]) (by omega) rfl
  rw [List.set_set] at h3
  simpa using h3
def srun (N : List Int) (n : Int) (S : List Pt) (i : Nat) : List Pt := (S.take i).map (swapT N n) ++ S.drop i
theorem srun_len (N : List Int) (n : Int) (S : List Pt) (i : Nat) : (srun N n S i).length = S.length := by
  unfold srun; simp; omega
theorem srun_zero (N : List Int) (n : Int) (S : List Pt) : srun N n S 0 = S := by unfold srun; simp
theorem srun_all (N : List Int) (n : Int) (S : List Pt) : srun N n S S.length = S.map (swapT N n) := by unfold srun; simp
theorem srun_at {N : List Int} {n : Int} {S : List Pt} {i : Nat} (h : i < S.length) : (srun N n S i)[i]? = S[i]? := by
  unfold srun
  rw [List.getElem?_append_right (by simp only [List.length_map, List.length_take]; omega), List.getElem?_drop]
  congr 1; simp only [List.length_map, List.length_take]; omega
theorem srun_step {N : List Int} {n : Int} {S : List Pt} {i : Nat} {p : Pt} (h : S[i]? = some p) : srun N n S (i + 1) = (srun N n S i).set i (swapT N n p) := by
  obtain ⟨hi, hp⟩ := List.getElem?_eq_some_iff.1 h
  unfold srun
  have e1 : i - ((S.take i).map (swapT N n)).length = 0 := by simp only [List.length_map, List.length_take]; omega
  have e2 : ((S.take i).map (swapT N n)).length ≤ i := by simp only [List.length_map, List.length_take]; omega
  rw [List.set_append_right _ _ e2, e1, List.take_add_one, h, List.drop_eq_getElem_cons hi, hp]
  simp
theorem ix0 (p q r s : Value) (w : World) : (Instr.index 151 (.agg #[p, q, r, s]) (.int .i64 0)).run Tryd.prog w = .ok (.agg #[p, q]) w := by kernel_rfl
theorem ix1 (p q r s : Value) (w : World) : (Instr.index 151 (.agg #[p, q, r, s]) (.int .i64 1)).run Tryd.prog w = .ok (.agg #[r, s]) w := by kernel_rfl
attribute [local go_sem] ix0 ix1
def sw (N : List Int) (n a b : Int) : Nat → Int × Int
  | 0 => (a, b)
  | 1 => (if a = n then pickP N b else a, b)
  | _ => swapP N n (a, b)
attribute [local go_sem ↓] Go.wp_at_zero Go.wp_at_succ
set_option maxRecDepth 100000 in
set_option maxHeartbeats 8000000 in
theorem leave_any {base cb : Nat} (c : Cfg) (vs vp : Value) (o : Ord) (w : World) (h : CAt base w cb vs vp c) (hb : base ≤ w.heap.size) (hr : risB (-1) c.sv = true) (hs : c.sv.length < 100000) (hp : c.pt.length < 100000) :
    Calls Tryd.prog 81 #[.pointer (some ⟨cb, 0, none⟩), aggO o] w (OutK base cb vs vp (leaveP c o.2.1) w) := by
  obtain ⟨ep, sv, pt, tb⟩ := c
  obtain ⟨ok, n, m, F, T⟩ := o
  obtain ⟨hcb, hos, hop⟩ := h
  dsimp only at hcb hos hop hs hp
  obtain ⟨a1, cap1, rfl, _, _, _⟩ := SliceIs.of_owns hos rfl
  obtain ⟨a2, cap2, rfl, _, _, _⟩ := SliceIs.of_owns hop rfl
  obtain ⟨W, hW⟩ : ∃ W, W = w.alloc (.cells #[.int .i64 ok, .int .i64 n, .int .i64 m, .int .i64 F, .int .i64 T] 30) := ⟨_, rfl⟩
  have hFW : Fr [] w W := by rw [hW]; exact (Fr.refl _ _).alloc _
  have hob : W.heap[w.heap.size]? = some (.cells #[.int .i64 ok, .int .i64 n, .int .i64 m, .int .i64 F, .int .i64 T] 30 (0, 0)) := by rw [hW]; exact heap_alloc_new w _
  have hzW : W.heap.size = w.heap.size + 1 := by rw [hW]; simp
  have hcW := hFW.keep hcb (by simp)
  have hosW := owns_fr hos hFW (by simp)
  have hopW := owns_fr hop hFW (by simp)
  have hcl := lt_of_block hcb
  have hW' := Lib.hid hW
  have o0 := (show W.cell? ⟨w.heap.size, 0, none⟩ = some (.int .i64 ok) from cell_at hob)
  have o1 := (show W.cell? ⟨w.heap.size, 1, none⟩ = some (.int .i64 n) from cell_at hob)
  have o2 := (show W.cell? ⟨w.heap.size, 2, none⟩ = some (.int .i64 m) from cell_at hob)
  have o3 := (show W.cell? ⟨w.heap.size, 3, none⟩ = some (.int .i64 F) from cell_at hob)
  have o4 := (show W.cell? ⟨w.heap.size, 4, none⟩ = some (.int .i64 T) from cell_at hob)
  have k0 := (show W.cell? ⟨cb, 0, none⟩ = some (.int .i64 ep) from cell_at hcW)
  have k1 := (show W.cell? ⟨cb, 1, none⟩ = some (.slice a1 sv.length cap1) from cell_at hcW)
  have k2 := (show W.cell? ⟨cb, 2, none⟩ = some (.slice a2 pt.length cap2) from cell_at hcW)
  have k3 := (show W.cell? ⟨cb, 3, none⟩ = some (.int .i64 tb) from cell_at hcW)
  have kz0 := (show W.frozen? ⟨cb, 0, none⟩ = false from frozen_at hcW)
  have kz1 := (show W.frozen? ⟨cb, 1, none⟩ = false from frozen_at hcW)
  have kz2 := (show W.frozen? ⟨cb, 2, none⟩ = false from frozen_at hcW)
  have kz3 := (show W.frozen? ⟨cb, 3, none⟩ = false from frozen_at hcW)
  have kl := lt_of_cell k0
  have ol := lt_of_cell o0
  have hob' := Lib.hid hob; have hcW' := Lib.hid hcW; have hosW' := Lib.hid hosW; have hopW' := Lib.hid hopW; have hcb' := Lib.hid hcb
  unfold aggO
  dsimp only
  clear hW hob hcW hosW hopW hcb hos hop
  dsimp only at hr
  have hsl : SliceIs W (base ≤ ·) encI (.slice a1 sv.length cap1) sv := SliceIs.of_owns hosW'.out rfl
  have hpl : SliceIs W (base ≤ ·) encPt (.slice a2 pt.length cap2) pt := SliceIs.of_owns hopW'.out rfl
  have hhas0 : ∀ (X : World) (i : Int), Fr [] W X → _ := fun X i hX => has_any (c := ⟨ep, sv, pt, tb⟩) ⟨hsl.fr hX (by simp), hpl.fr hX (by simp)⟩ (by dsimp only; omega) i
  unfold aggC at hhas0
  dsimp only at hhas0
  have hA := fun p : Later W => hhas0 p.world n p.fr
  have hsv0 := hs; have hpt0 := hp
  clear hsl hpl hhas0
  have Lo0 : ∀ p : Later W, _ := fun p => p.cell o0
  have Lo1 : ∀ p : Later W, _ := fun p => p.cell o1
  have Lo2 : ∀ p : Later W, _ := fun p => p.cell o2
  have Lo3 : ∀ p : Later W, _ := fun p => p.cell o3
  have Lo4 : ∀ p : Later W, _ := fun p => p.cell o4
  have Lk0 : ∀ p : Later W, _ := fun p => p.cell k0
  have Lk1 : ∀ p : Later W, _ := fun p => p.cell k1
  have Lk2 : ∀ p : Later W, _ := fun p => p.cell k2
  have Lk3 : ∀ p : Later W, _ := fun p => p.cell k3
  have hris := ris_mem _ _ hr
  cases hcn : sv.contains n with
  | false =>
    have hnm : n ∉ sv := fun hm => by rw [List.contains_iff_mem.2 hm] at hcn; cases hcn
    have hv : leaveP ⟨ep, sv, pt, tb⟩ n = (3, ⟨ep, sv, pt, tb⟩) := by unfold leaveP; rw [if_pos hnm]
    rw [hv]
    rw [hcn] at hA
    have hA' := Lib.hid hA
    clear hA hv hnm hcn hris hr
    go_enter Tryd.func81, Tryd.ntmps81
    go_upto_region 1 with (fail)
    rw [← hW'.out]
    refine wp_region_later (by kernel_rfl) (by kernel_rfl) ?_
    repeat (go_big_quiet_step ((go_at_call 30; refine Calls.later_of0 (hA'.out _))))
    refine wpQuiet_nil ?_
    intro w2 hw'
    have hf2 : Fr [] W w2 := by
      obtain ⟨p, rfl⟩ := hw'
      exact p.fr
    clear hw'
    go_wp2
    go_ret
    exact ⟨rfl, (hFW.trans hf2).mono (by simp), fun h => by simp at h⟩
  | true =>
  have hnm : n ∈ sv := List.contains_iff_mem.1 hcn
  by_cases hl2 : sv.length ≤ 2
  · have hv : leaveP ⟨ep, sv, pt, tb⟩ n = (110, ⟨ep, sv, pt, tb⟩) := by unfold leaveP; rw [if_neg (fun h => h hnm), if_pos hl2]
    rw [hv]
    rw [hcn] at hA
    have hA' := Lib.hid hA
    have hl2b : decide ((sv.length : Int) ≤ 2) = true := by simp; omega
    clear hA hv hnm hcn hris hr hl2
    go_enter Tryd.func81, Tryd.ntmps81
    go_upto_region 1 with (fail)
    rw [← hW'.out]
    refine wp_region_later (by kernel_rfl) (by kernel_rfl) ?_
    repeat (go_big_quiet_step ((go_at_call 30; refine Calls.later_of0 (hA'.out _))))
    refine wpQuiet_nil ?_
    intro w2 hw'
    have hf2 : Fr [] W w2 := by
      obtain ⟨p, rfl⟩ := hw'
      exact p.fr
    clear hw'
    have q1 := hf2.at0 o1
    have r0 := hf2.at0 k0
    have r1 := hf2.at0 k1
    have r2 := hf2.at0 k2
    have lq := lt_of_cell q1
    have lr := lt_of_cell r0
    have hc2 := hf2.keep hcW'.out (by simp)
    have rz1 := (show w2.frozen? ⟨cb, 1, none⟩ = false from frozen_at hc2)
    have hc2' := Lib.hid hc2
    clear hc2
    clear Lo0 Lo1 Lo2 Lo3 Lo4 Lk0 Lk1 Lk2 Lk3 o0 o1 o2 o3 o4 k0 k1 k2 k3 kz0 kz1 kz2 kz3 kl ol
    go_wp2
    go_ret
    exact ⟨rfl, (hFW.trans hf2).mono (by simp), fun h => by simp at h⟩
  · have hv : leaveP ⟨ep, sv, pt, tb⟩ n = (0, ⟨ep, sv.filter (fun m => m != n), joinP (pt.map (swapT (sv.filter (fun m => m != n)) n)), tb⟩) := by unfold leaveP; rw [if_neg (fun h => h hnm), if_neg hl2]
    rw [hv]
    rw [hcn] at hA
    have hA' := Lib.hid hA
    have hl2b : decide ((sv.length : Int) ≤ 2) = false := by simp; omega
    obtain ⟨N, hN⟩ : ∃ N, N = sv.filter (fun m => m != n) := ⟨_, rfl⟩
    have hNp : N.Pairwise (· < ·) := by rw [hN]; exact hris.2.filter _
    have hNl : 2 ≤ N.length := by have := filter_ne_len hris.2 hnm; rw [hN]; omega
    have hNu : N.length ≤ sv.length := by rw [hN]; exact List.length_filter_le _ _
    have hsv1 : sv ≠ [] := by rintro rfl; simp at hnm
    have hN' := Lib.hid hN; have hNp' := Lib.hid hNp; have hsv1' := Lib.hid hsv1
    have hris' := Lib.hid hris
    clear hA hv hnm hcn hris hr hl2 hN hNp hsv1
    go_enter Tryd.func81, Tryd.ntmps81
    go_upto_region 1 with (fail)
    rw [← hW'.out]
    refine wp_region_later (by kernel_rfl) (by kernel_rfl) ?_
    repeat (go_big_quiet_step ((go_at_call 30; refine Calls.later_of0 (hA'.out _))))
    refine wpQuiet_nil ?_
    intro w2 hw'
    have hf2 : Fr [] W w2 := by
      obtain ⟨p, rfl⟩ := hw'
      exact p.fr
    clear hw'
    have q1 := hf2.at0 o1
    have r0 := hf2.at0 k0
    have r1 := hf2.at0 k1
    have r2 := hf2.at0 k2
    have lq := lt_of_cell q1
    have lr := lt_of_cell r0
    have hc2 := hf2.keep hcW'.out (by simp)
    have rz1 := (show w2.frozen? ⟨cb, 1, none⟩ = false from frozen_at hc2)
    have hc2' := Lib.hid hc2
    clear hc2
    clear Lo0 Lo1 Lo2 Lo3 Lo4 Lk0 Lk1 Lk2 Lk3 o0 o1 o2 o3 o4 k0 k1 k2 k3 kz0 kz1 kz2 kz3 kl ol
    have hos2 := owns_fr hosW'.out hf2 (by simp)
    have hop2 := owns_fr hopW'.out hf2 (by simp)
    obtain ⟨g1, cap1, hv1, hg1b, hg1, _, _, _⟩ := owns_cell (enc := encI) hos2 encI_len hsv1'.out
    cases hv1
    have hdel := del_any hos2 (by omega) hsv1'.out (fun x => x == n) 86 #[.pointer (some ⟨w.heap.size, 0, none⟩)] (fun _ _ => rfl) (fun X hX x => leave1_any w.heap.size x n X (by
      rw [hX.cell (p := ⟨w.heap.size, 1, none⟩) lq (by
        intro hm
        have e2 : w.heap.size = g1 := by simpa [Value.ownBlock] using hm
        have hob2 := hf2.keep hob'.out (by simp)
        exact owns_apart hos2 hob2 (by decide) (by simp [Value.ownBlock, e2]))]
      exact q1))
    have hos2' := Lib.hid hos2; have hop2' := Lib.hid hop2; have hf2' := Lib.hid hf2
    have hz2 := hf2.size
    clear hos2 hop2 hf2
    have ef : sv.filter (fun x => !(x == n)) = N := hN'.out.symm
    rw [ef] at hdel
    have hNn' := Lib.hid (show N ≠ [] by rintro rfl; simp at hNl)
    clear ef
    go_upto_region 6 with (first | (go_at_call 85; refine hdel.mono ?_; rintro e w3 ⟨v3, rfl, hv3, hf3, hown3⟩; have hc3 := hf3.keep hc2'.out (fun hm => owns_apart hos2'.out hc2'.out (by decide) hm); have s1 := (show w3.cell? ⟨cb, 1, none⟩ = some (.slice (some ⟨g1, 0, none⟩) sv.length cap1) from cell_at hc3); have sz1 := (show w3.frozen? ⟨cb, 1, none⟩ = false from frozen_at hc3); have ls := lt_of_cell s1; have hc3' := Lib.hid hc3; obtain ⟨g3, cap3, rfl, -, -, -, -, -⟩ := owns_cell (enc := encI) hown3 encI_len hNn'.out; have e3 : g3 = g1 := (by simpa [Value.ownBlock] using hv3); subst e3; clear hv3; have hown3' := Lib.hid hown3; have hf3' := Lib.hid hf3; clear hc3 hown3 hf3))
    have hosP := rows_apart hos2'.out hop2'.out (by decide)
    have hcbP : cb ∉ (Value.slice a2 pt.length cap2).ownBlock.toList := owns_apart hop2'.out hc2'.out (by decide)
    have hobP : w.heap.size ∉ (Value.slice a2 pt.length cap2).ownBlock.toList := owns_apart hop2'.out (hf2'.out.keep hob'.out (by simp)) (by decide)
    have hcb1 : cb ∉ (Value.slice (some ⟨g3, 0, none⟩) sv.length cap1).ownBlock.toList := owns_apart hos2'.out hc2'.out (by decide)
    have hob1 : w.heap.size ∉ (Value.slice (some ⟨g3, 0, none⟩) sv.length cap1).ownBlock.toList := owns_apart hos2'.out (hf2'.out.keep hob'.out (by simp)) (by decide)
    have hop3 := owns_fr2 hop2'.out hf3'.out hosP
    have hb3 := hf3'.out.keep (hf2'.out.keep hob'.out (by simp)) hob1
    obtain ⟨W4, hW4⟩ : ∃ W, W = w3.setCell ⟨cb, 1, none⟩ (.slice (some ⟨g3, 0, none⟩) N.length cap3) := ⟨_, rfl⟩
    have f4 : Fr [cb] w3 W4 := by rw [hW4]; exact (Fr.refl [cb] w3).setCell _ _ (.inl (by simp))
    have hc4 : W4.heap[cb]? = some (.cells #[.int .i64 ep, .slice (some ⟨g3, 0, none⟩) N.length cap3, .slice a2 pt.length cap2, .int .i64 tb] 26 (0, 0)) := by rw [hW4]; exact setCell_at (i := 1) hc3'.out _
    have hwc : w.heap.size ≠ cb := by omega
    have hb4 := f4.keep hb3 (by simpa using hwc)
    have hos4 := owns_fr2 hown3'.out f4 (fun g hg hm => by
      have e2 : g = cb := by simpa using hm
      subst e2
      exact owns_apart hown3'.out hc3'.out (by decide) (by simp [hg]))
    have hop4 := owns_fr2 hop3 f4 (fun g hg hm => by
      have e2 : g = cb := by simpa using hm
      subst e2
      exact hcbP (by simp [hg]))
    rw [← hW4]
    have hz3 := hf3'.out.size
    have hz4 := f4.size
    have hg3P : g3 ∉ (Value.slice a2 pt.length cap2).ownBlock.toList := fun hm => by
      obtain ⟨cs, hcs⟩ := own_block_at hos4 (rfl)
      exact owns_apart hop4 hcs (by decide) hm
    have j1 := (show W4.cell? ⟨w.heap.size, 1, none⟩ = some (.int .i64 n) from cell_at hb4)
    have j2 := (show W4.cell? ⟨cb, 2, none⟩ = some (.slice a2 pt.length cap2) from cell_at hc4)
    have lj1 := lt_of_cell j1
    have lj2 := lt_of_cell j2
    have f4' := Lib.hid f4; have hc4' := Lib.hid hc4; have hb4' := Lib.hid hb4; have hos4' := Lib.hid hos4; have hop4' := Lib.hid hop4
    have hcbP' := Lib.hid hcbP; have hobP' := Lib.hid hobP; have hg3P' := Lib.hid hg3P
    clear hW4 f4 hc4 hb4 hos4 hop4 hop3 hb3 hosP hcbP hobP hg3P hcb1 hob1 q1 r0 r1 r2 rz1 s1 sz1
    go_wp2
    go_loopg [38] pt.length (fun gk iv wr => ∃ i : Nat, i ≤ pt.length ∧ gk = pt.length - i ∧ iv = .int .i64 i ∧ wr.ownsRow base 71 4 (.slice a2 pt.length cap2) (srun N n pt i).length ((srun N n pt i).flatMap encPt) ∧ Fr (Value.slice a2 pt.length cap2).ownBlock.toList W4 wr)
    case atStart => exact ⟨0, Nat.zero_le _, rfl, rfl, by rw [srun_zero]; exact hop4'.out, Fr.refl _ _⟩
    case round =>
      obtain ⟨i, hi, hgk, rfl, hown, hfr⟩ := hrel
      have hgk' := Lib.hid hgk
      clear hgk
      have hzr := hfr.size
      have hcr := hfr.keep hc4'.out hcbP'.out
      have hbr := hfr.keep hb4'.out hobP'.out
      have hosr := owns_fr2 hos4'.out hfr (fun g hg hm => by
        have e2 : g = g3 := by simpa [Value.ownBlock] using hg.symm
        subst e2
        exact hg3P'.out hm)
      have lcb := lt_of_block hcr
      have lob := lt_of_block hbr
      have hcr' := Lib.hid hcr; have hbr' := Lib.hid hbr; have hosr' := Lib.hid hosr; have hfr' := Lib.hid hfr
      clear hcr hbr hosr hfr j1 j2
      by_cases hlt : i < pt.length
      · obtain ⟨x, hx⟩ : ∃ x, pt[i]? = some x := ⟨_, List.getElem?_eq_getElem hlt⟩
        have hxs : (srun N n pt i)[i]? = some x := by rw [srun_at hlt]; exact hx
        have hsl := srun_len N n pt i
        obtain ⟨gp, capp, hvp, hgb, hgl, _, hnf, hcL⟩ := owns_cell (enc := encPt) hown encPt_len (by rintro e; rw [e] at hsl; simp at hsl; omega)
        rw [hsl] at hvp
        cases hvp
        have k0 := hcL i _ 0 _ hxs rfl
        have k1 := hcL i _ 1 _ hxs rfl
        have k2 := hcL i _ 2 _ hxs rfl
        have k3 := hcL i _ 3 _ hxs rfl
        rw [Nat.add_zero] at k0
        have z0 := hnf (i * 4)
        have z1 := hnf (i * 4 + 1)
        have z2 := hnf (i * 4 + 2)
        have z3 := hnf (i * 4 + 3)
        have hst := srun_step (N := N) (n := n) hx
        obtain ⟨f, t, a, b⟩ := x
        have hput := owns_putP hown hxs
        have hst' := Lib.hid hst; have hxs' := Lib.hid hxs; have hown' := Lib.hid hown
        dsimp only at k0 k1 k2 k3
        clear hput hst hxs hx hown hnf hcL hsl
        go_upto_block 3 with (fail)
        obtain ⟨W1, hW1⟩ : ∃ W, W = wr.alloc (.cells #[.int .i64 f, .int .i64 t, .int .i64 a, .int .i64 b] 71) := ⟨_, rfl⟩
        have hF1 : Fr [] wr W1 := by rw [hW1]; exact (Fr.refl _ _).alloc _
        have hbx : W1.heap[wr.heap.size]? = some (.cells #[.int .i64 f, .int .i64 t, .int .i64 a, .int .i64 b] 71 (0, 0)) := by rw [hW1]; exact heap_alloc_new wr _
        have hz1 : W1.heap.size = wr.heap.size + 1 := by rw [hW1]; simp
        rw [← hW1]
        have hbx' := Lib.hid hbx; have hF1' := Lib.hid hF1
        clear hW1 hbx hF1 k0 k1 k2 k3 z0 z1 z2 z3 hdel hA'
        obtain ⟨pb, hpb⟩ : ∃ pb, pb = wr.heap.size := ⟨_, rfl⟩
        rw [← hpb] at hbx' hz1 lcb lob hgl ⊢
        have hpb' := Lib.hid hpb
        clear hpb
        go_cut [50] (fun s50 wx => ∃ a' b' : Int, (a', b') = swapP N n (a, b) ∧ wx.heap[pb]? = some (.cells #[.int .i64 f, .int .i64 t, .int .i64 a', .int .i64 b'] 71 (0, 0)) ∧ Fr [pb] W1 wx)
        case first =>
          go_wp2
          go_loopg [50] 2 (fun gk iv wi => ∃ k : Nat, k ≤ 2 ∧ gk = 2 - k ∧ iv = .int .i64 k ∧ wi.heap[pb]? = some (.cells #[.int .i64 f, .int .i64 t, .int .i64 (sw N n a b k).1, .int .i64 (sw N n a b k).2] 71 (0, 0)) ∧ Fr [pb] W1 wi)
          case atStart => exact ⟨0, by omega, rfl, rfl, hbx'.out, Fr.refl _ _⟩
          case round =>
            obtain ⟨k, hk, hgk, rfl, hbi, hfi⟩ := hrel
            have hgk2' := Lib.hid hgk
            clear hgk
            have hzi := hfi.size
            have hpbN : cb ∉ [pb] := by simp; omega
            have hpbO : w.heap.size ∉ [pb] := by simp; omega
            have hci := hfi.keep (hF1'.out.keep hcr'.out (by simp)) hpbN
            have hoi := hfi.keep (hF1'.out.keep hbr'.out (by simp)) hpbO
            have hosi := owns_fr2 (owns_fr hosr'.out hF1'.out (by simp)) hfi (fun g hg hm => by
              have e2 : g = pb := by simpa using hm
              have := hosr'.out.lt g hg
              have := hpb'.out
              omega)
            have d1 := (show wr.cell? ⟨cb, 1, none⟩ = some (.slice (some ⟨g3, 0, none⟩) N.length cap3) from cell_at hci)
            have d2 := (show wr.cell? ⟨w.heap.size, 1, none⟩ = some (.int .i64 n) from cell_at hoi)
            have ld1 := lt_of_cell d1
            have ld2 := lt_of_cell d2
            have hosi' := Lib.hid hosi; have hfi' := Lib.hid hfi; have hbi' := Lib.hid hbi
            clear hci hoi hosi hfi hbi
            by_cases hk2 : k < 2
            · obtain rfl | rfl : k = 0 ∨ k = 1 := by omega
              · have hbk := hbi'.out
                dsimp only [sw] at hbk
                have hbk' := Lib.hid hbk
                clear hbk
                go_upto_region 12 with (fail)
                obtain ⟨Wx, hWx⟩ : ∃ W, W = wr.alloc (.cells #[.pointer (some ⟨pb, 2, none⟩), .pointer (some ⟨pb, 3, none⟩)] 150) := ⟨_, rfl⟩
                have hFx : Fr [] wr Wx := by rw [hWx]; exact (Fr.refl _ _).alloc _
                have hxb : Wx.heap[wr.heap.size]? = some (.cells #[.pointer (some ⟨pb, 2, none⟩), .pointer (some ⟨pb, 3, none⟩)] 150 (0, 0)) := by rw [hWx]; exact heap_alloc_new wr _
                have hzx : Wx.heap.size = wr.heap.size + 1 := by rw [hWx]; simp
                rw [← hWx]
                obtain ⟨xb, hxbe⟩ : ∃ xb, xb = wr.heap.size := ⟨_, rfl⟩
                rw [← hxbe] at hxb hzx ⊢
                have hxbe' := Lib.hid hxbe
                have hpx := hFx.keep hbk'.out (by simp)
                have v0 := (show Wx.cell? ⟨xb, 0, none⟩ = some (.pointer (some ⟨pb, 2, none⟩)) from cell_at hxb)
                have v1 := (show Wx.cell? ⟨xb, 1, none⟩ = some (.pointer (some ⟨pb, 3, none⟩)) from cell_at hxb)
                have p2 := (show Wx.cell? ⟨pb, 2, none⟩ = some (.int .i64 a) from cell_at hpx)
                have p3 := (show Wx.cell? ⟨pb, 3, none⟩ = some (.int .i64 b) from cell_at hpx)
                have o1 := hFx.at0 d2
                have lv := lt_of_cell v0
                have lp := lt_of_cell p2
                have lo := lt_of_cell o1
                have hxb' := Lib.hid hxb; have hpx' := Lib.hid hpx; have hFx' := Lib.hid hFx
                clear hWx hxb hpx hFx hxbe
                go_quiet (fail)
                obtain ⟨wq, hwq⟩ : ∃ wq, wq = Wx.drewN nq := ⟨_, rfl⟩
                have hfq : Fr [] Wx wq := by rw [hwq]; exact (Fr.refl [] Wx).drewN nq
                have hFq : Fr [] wr wq := hFx'.out.trans hfq
                have hpq := hfq.keep hpx'.out (by simp)
                rw [← hwq]
                have hfq' := Lib.hid hfq; have hFq' := Lib.hid hFq
                clear hwq hfq hFq o1
                by_cases e : a = n
                case neg =>
                  have eb : (a == n) = false := by simpa using e
                  have hsw : sw N n a b 1 = sw N n a b 0 := by simp [sw, e]
                  have hsw' := Lib.hid hsw; have hpq' := Lib.hid hpq
                  clear e hsw hpq v0 v1 p2 p3
                  go_wp2
                  go_roundg (2 - 1)
                  case rel => exact ⟨1, by omega, rfl, rfl, by rw [hsw'.out]; exact hFq'.out.keep hbi'.out (by simp), hfi'.out.trans (hFq'.out.mono (by simp))⟩
                  case measure => rw [hgk2'.out]; omega
                case pos =>
                  have eb : (a == n) = true := by simpa using e
                  obtain ⟨j, hj1, hj2, -, -⟩ := pick_some hNp'.out hNl b
                  have hjl : j < N.length := (List.getElem?_eq_some_iff.1 hj2).1
                  have hidx : idxI N (fun m => m != b) = (j : Int) := by unfold idxI; rw [hj1]
                  have hosq := owns_fr hosi'.out hFq'.out (by simp)
                  have hcall : ∀ V, Fr [] wq V → _ := fun V hV => idx_int (p := fun m => m != b) (g := 88) (cbv := #[.pointer (some ⟨xb, 0, none⟩)]) (SliceIs.of_owns (owns_fr hosq hV (by simp)) rfl) (by omega) (fun _ _ => rfl) (fun Z hZ m _ => (leave2_any xb pb 3 m b Z (hZ.at0 (hV.at0 (hfq'.out.at0 v1))) (hZ.at0 (hV.at0 (cell_at hpq)))).mono (fun _ _ h => ⟨h.1, by rw [h.2]; exact Fr.refl _ _⟩))
                  rw [hidx] at hcall
                  obtain ⟨_, _, hrv, _, _, _, _, hcN⟩ := owns_cell (enc := encI) hosq encI_len hNn'.out
                  cases hrv
                  have y0 := hcN j _ 0 _ hj2 rfl
                  rw [Nat.mul_one, Nat.add_zero] at y0
                  have y1 := hfq'.out.at0 v0
                  have y2 := hFq'.out.at0 d1
                  have ly0 := lt_of_cell y0
                  have ly1 := lt_of_cell y1
                  have ly2 := lt_of_cell y2
                  have hjn : (j : Int) < (N.length : Int) := by omega
                  have hj0 : (0 : Int) ≤ (j : Int) := by omega
                  have hcall' := Lib.hid hcall; have hpq' := Lib.hid hpq; have hj2' := Lib.hid hj2; have e' := Lib.hid e
                  clear hcall hpq hj1 hj2 hidx hosq hcN v0 v1 p2 p3 e d1 d2
                  have nx : pb ≠ xb := by have := hxbe'.out; omega
                  have nc : pb ≠ cb := by omega
                  have ng : pb ≠ g3 := by have := hpb'.out; omega
                  go_upto_region 13 with (fail)
                  go_region_held3 (fun w' => w'.cell? ⟨xb, 0, none⟩ = some (.pointer (some ⟨pb, 2, none⟩)) ∧ w'.cell? ⟨cb, 1, none⟩ = some (.slice (some ⟨g3, 0, none⟩) N.length cap3) ∧ w'.cell? ⟨g3, j, none⟩ = some (.int .i64 (pickP N b))) (first | go_keep | exact ⟨u0, u1, u2⟩ | exact ⟨(set_other (.inl nx)).trans u0, (set_other (.inl nc)).trans u1, (set_other (.inl ng)).trans u2⟩) (first | (go_at_call 87; refine (hcall'.out _ (Fr.refl [] wq).drew).mono ?_; rintro e wz ⟨rfl, hfz⟩; have hFz : Fr [] wq wz := (Fr.refl [] wq).drew.trans hfz; have hpz := hFz.keep hpq'.out (by simp); have u0 := hFz.at0 y1; have u1 := hFz.at0 y2; have u2 := hFz.at0 y0; have m2 := (show wz.cell? ⟨pb, 2, none⟩ = some (.int .i64 a) from cell_at hpz); have m3 := (show wz.cell? ⟨pb, 3, none⟩ = some (.int .i64 b) from cell_at hpz); have mz2 := (show wz.frozen? ⟨pb, 2, none⟩ = false from frozen_at hpz); have mz3 := (show wz.frozen? ⟨pb, 3, none⟩ = false from frozen_at hpz); have lm := lt_of_cell m2; have hpz' := Lib.hid hpz; clear hpz))
                  all_goals (
                    go_wp2
                    go_roundg (2 - 1))
                  case rel =>
                    have hsw : sw N n a b 1 = (pickP N b, b) := by have := e'.out; simp [sw, this]
                    exact ⟨1, by omega, rfl, rfl, by rw [hsw]; exact setCell_at (i := 2) hpz'.out _, (hfi'.out.trans ((hFq'.out.trans hFz).mono (by simp))).setCell _ _ (.inl (by simp))⟩
                  case measure => rw [hgk2'.out]; omega
              · have hbk := hbi'.out
                dsimp only [sw] at hbk
                obtain ⟨a1, ha1⟩ : ∃ a1, a1 = (if a = n then pickP N b else a) := ⟨_, rfl⟩
                rw [← ha1] at hbk
                have ha1' := Lib.hid ha1
                clear ha1
                have hbk' := Lib.hid hbk
                clear hbk
                go_upto_region 12 with (fail)
                obtain ⟨Wx, hWx⟩ : ∃ W, W = wr.alloc (.cells #[.pointer (some ⟨pb, 3, none⟩), .pointer (some ⟨pb, 2, none⟩)] 150) := ⟨_, rfl⟩
                have hFx : Fr [] wr Wx := by rw [hWx]; exact (Fr.refl _ _).alloc _
                have hxb : Wx.heap[wr.heap.size]? = some (.cells #[.pointer (some ⟨pb, 3, none⟩), .pointer (some ⟨pb, 2, none⟩)] 150 (0, 0)) := by rw [hWx]; exact heap_alloc_new wr _
                have hzx : Wx.heap.size = wr.heap.size + 1 := by rw [hWx]; simp
                rw [← hWx]
                obtain ⟨xb, hxbe⟩ : ∃ xb, xb = wr.heap.size := ⟨_, rfl⟩
                rw [← hxbe] at hxb hzx ⊢
                have hxbe' := Lib.hid hxbe
                have hpx := hFx.keep hbk'.out (by simp)
                have v0 := (show Wx.cell? ⟨xb, 0, none⟩ = some (.pointer (some ⟨pb, 3, none⟩)) from cell_at hxb)
                have v1 := (show Wx.cell? ⟨xb, 1, none⟩ = some (.pointer (some ⟨pb, 2, none⟩)) from cell_at hxb)
                have p2 := (show Wx.cell? ⟨pb, 2, none⟩ = some (.int .i64 a1) from cell_at hpx)
                have p3 := (show Wx.cell? ⟨pb, 3, none⟩ = some (.int .i64 b) from cell_at hpx)
                have o1 := hFx.at0 d2
                have lv := lt_of_cell v0
                have lp := lt_of_cell p2
                have lo := lt_of_cell o1
                have hxb' := Lib.hid hxb; have hpx' := Lib.hid hpx; have hFx' := Lib.hid hFx
                clear hWx hxb hpx hFx hxbe
                go_quiet (fail)
                obtain ⟨wq, hwq⟩ : ∃ wq, wq = Wx.drewN nq := ⟨_, rfl⟩
                have hfq : Fr [] Wx wq := by rw [hwq]; exact (Fr.refl [] Wx).drewN nq
                have hFq : Fr [] wr wq := hFx'.out.trans hfq
                have hpq := hfq.keep hpx'.out (by simp)
                rw [← hwq]
                have hfq' := Lib.hid hfq; have hFq' := Lib.hid hFq
                clear hwq hfq hFq o1
                by_cases e : b = n
                case neg =>
                  have eb : (b == n) = false := by simpa using e
                  have hsw : sw N n a b 2 = sw N n a b 1 := by simp [sw, swapP, e]
                  have hsw' := Lib.hid hsw; have hpq' := Lib.hid hpq
                  clear e hsw hpq v0 v1 p2 p3
                  go_wp2
                  go_roundg (2 - 2)
                  case rel => exact ⟨2, by omega, rfl, rfl, by rw [hsw'.out]; exact hFq'.out.keep hbi'.out (by simp), hfi'.out.trans (hFq'.out.mono (by simp))⟩
                  case measure => rw [hgk2'.out]; omega
                case pos =>
                  have eb : (b == n) = true := by simpa using e
                  obtain ⟨j, hj1, hj2, -, -⟩ := pick_some hNp'.out hNl a1
                  have hjl : j < N.length := (List.getElem?_eq_some_iff.1 hj2).1
                  have hidx : idxI N (fun m => m != a1) = (j : Int) := by unfold idxI; rw [hj1]
                  have hosq := owns_fr hosi'.out hFq'.out (by simp)
                  have hcall : ∀ V, Fr [] wq V → _ := fun V hV => idx_int (p := fun m => m != a1) (g := 88) (cbv := #[.pointer (some ⟨xb, 0, none⟩)]) (SliceIs.of_owns (owns_fr hosq hV (by simp)) rfl) (by omega) (fun _ _ => rfl) (fun Z hZ m _ => (leave2_any xb pb 2 m a1 Z (hZ.at0 (hV.at0 (hfq'.out.at0 v1))) (hZ.at0 (hV.at0 (cell_at hpq)))).mono (fun _ _ h => ⟨h.1, by rw [h.2]; exact Fr.refl _ _⟩))
                  rw [hidx] at hcall
                  obtain ⟨_, _, hrv, _, _, _, _, hcN⟩ := owns_cell (enc := encI) hosq encI_len hNn'.out
                  cases hrv
                  have y0 := hcN j _ 0 _ hj2 rfl
                  rw [Nat.mul_one, Nat.add_zero] at y0
                  have y1 := hfq'.out.at0 v0
                  have y2 := hFq'.out.at0 d1
                  have ly0 := lt_of_cell y0
                  have ly1 := lt_of_cell y1
                  have ly2 := lt_of_cell y2
                  have hjn : (j : Int) < (N.length : Int) := by omega
                  have hj0 : (0 : Int) ≤ (j : Int) := by omega
                  have hcall' := Lib.hid hcall; have hpq' := Lib.hid hpq; have hj2' := Lib.hid hj2; have e' := Lib.hid e
                  clear hcall hpq hj1 hj2 hidx hosq hcN v0 v1 p2 p3 e d1 d2
                  have nx : pb ≠ xb := by have := hxbe'.out; omega
                  have nc : pb ≠ cb := by omega
                  have ng : pb ≠ g3 := by have := hpb'.out; omega
                  go_upto_region 13 with (fail)
                  go_region_held3 (fun w' => w'.cell? ⟨xb, 0, none⟩ = some (.pointer (some ⟨pb, 3, none⟩)) ∧ w'.cell? ⟨cb, 1, none⟩ = some (.slice (some ⟨g3, 0, none⟩) N.length cap3) ∧ w'.cell? ⟨g3, j, none⟩ = some (.int .i64 (pickP N a1))) (first | go_keep | exact ⟨u0, u1, u2⟩ | exact ⟨(set_other (.inl nx)).trans u0, (set_other (.inl nc)).trans u1, (set_other (.inl ng)).trans u2⟩) (first | (go_at_call 87; refine (hcall'.out _ (Fr.refl [] wq).drew).mono ?_; rintro e wz ⟨rfl, hfz⟩; have hFz : Fr [] wq wz := (Fr.refl [] wq).drew.trans hfz; have hpz := hFz.keep hpq'.out (by simp); have u0 := hFz.at0 y1; have u1 := hFz.at0 y2; have u2 := hFz.at0 y0; have m2 := (show wz.cell? ⟨pb, 2, none⟩ = some (.int .i64 a1) from cell_at hpz); have m3 := (show wz.cell? ⟨pb, 3, none⟩ = some (.int .i64 b) from cell_at hpz); have mz2 := (show wz.frozen? ⟨pb, 2, none⟩ = false from frozen_at hpz); have mz3 := (show wz.frozen? ⟨pb, 3, none⟩ = false from frozen_at hpz); have lm := lt_of_cell m2; have hpz' := Lib.hid hpz; clear hpz))
                  all_goals (
                    go_wp2
                    go_roundg (2 - 2))
                  case rel =>
                    have hsw : sw N n a b 2 = (a1, pickP N a1) := by have := e'.out; rw [ha1'.out]; simp [sw, swapP, this]
                    exact ⟨2, by omega, rfl, rfl, by rw [hsw]; exact setCell_at (i := 3) hpz'.out _, (hfi'.out.trans ((hFq'.out.trans hFz).mono (by simp))).setCell _ _ (.inl (by simp))⟩
                  case measure => rw [hgk2'.out]; omega
            · have he : k = 2 := by omega
              subst he
              go_wp2
              go_meet
              exact ⟨(sw N n a b 2).1, (sw N n a b 2).2, rfl, hbi'.out, hfi'.out⟩
        case rest =>
          obtain ⟨a', b', hab, hbc, hfc⟩ := hcut
          have hzc := hfc.size
          have hcc := hfc.keep (hF1'.out.keep hcr'.out (by simp)) (by simp; omega)
          have hown1 := owns_fr hown'.out hF1'.out (by simp)
          have hownc := owns_fr2 hown1 hfc (fun g hg hm => by
            have e2 : g = pb := by simpa using hm
            have e3 : g = gp := by simpa [Value.ownBlock] using hg.symm
            have := hpb'.out
            omega)
          obtain ⟨_, _, hvc, _, _, _, hnf, hcL⟩ := owns_cell (enc := encPt) hownc encPt_len (by have hsl := srun_len N n pt i; rintro e; rw [e] at hsl; simp at hsl; omega)
          rw [srun_len] at hvc
          cases hvc
          have k0 := hcL i _ 0 _ hxs'.out rfl
          have k1 := hcL i _ 1 _ hxs'.out rfl
          have k2 := hcL i _ 2 _ hxs'.out rfl
          have k3 := hcL i _ 3 _ hxs'.out rfl
          rw [Nat.add_zero] at k0
          have z0 := hnf (i * 4)
          have z1 := hnf (i * 4 + 1)
          have z2 := hnf (i * 4 + 2)
          have z3 := hnf (i * 4 + 3)
          have p0 := (show wc.cell? ⟨pb, 0, none⟩ = some (.int .i64 f) from cell_at hbc)
          have p1 := (show wc.cell? ⟨pb, 1, none⟩ = some (.int .i64 t) from cell_at hbc)
          have p2 := (show wc.cell? ⟨pb, 2, none⟩ = some (.int .i64 a') from cell_at hbc)
          have p3 := (show wc.cell? ⟨pb, 3, none⟩ = some (.int .i64 b') from cell_at hbc)
          have c2 := (show wc.cell? ⟨cb, 2, none⟩ = some (.slice (some ⟨gp, 0, none⟩) pt.length cap2) from cell_at hcc)
          have lp := lt_of_cell p0
          have lc := lt_of_cell c2
          have lk := lt_of_cell k0
          dsimp only at k2 k3
          have hput := owns_putP hownc hxs'.out a' b'
          have hput' := Lib.hid hput; have hab' := Lib.hid hab; have hfc' := Lib.hid hfc; have hcc' := Lib.hid hcc; have hownc' := Lib.hid hownc; have hbc' := Lib.hid hbc
          have nc : gp ≠ cb := fun e => by
            have := hcbP'.out
            simp [Value.ownBlock, e] at this
          have np : gp ≠ pb := by omega
          clear hput hab hfc hcc hownc hbc hnf hcL hown1
          go_upto_region 15 with (fail)
          go_region_held3 (fun w' => w'.cell? ⟨cb, 2, none⟩ = some (.slice (some ⟨gp, 0, none⟩) pt.length cap2) ∧ w'.cell? ⟨pb, 0, none⟩ = some (.int .i64 f) ∧ w'.cell? ⟨pb, 1, none⟩ = some (.int .i64 t) ∧ w'.cell? ⟨pb, 2, none⟩ = some (.int .i64 a') ∧ w'.cell? ⟨pb, 3, none⟩ = some (.int .i64 b')) (first | go_keep | exact ⟨(set_other (.inl nc)).trans c2, (set_other (.inl np)).trans p0, (set_other (.inl np)).trans p1, (set_other (.inl np)).trans p2, (set_other (.inl np)).trans p3⟩) (fail)
          all_goals (
            go_wp2
            go_roundg (pt.length - (i + 1)))
          case rel => exact ⟨i + 1, by omega, rfl, by go_num, by rw [hst'.out]; unfold swapT; dsimp only; rw [← hab'.out]; exact owns_fr hput'.out (Fr.refl [] _).drew (by simp), ((((((hfr'.out.trans (hF1'.out.mono (by simp))).andThen hfc'.out (fun t ht => .inr (by have := hpb'.out; simp at ht; omega))).setCell _ _ (.inl (by simp [Value.ownBlock]))).setCell _ _ (.inl (by simp [Value.ownBlock]))).setCell _ _ (.inl (by simp [Value.ownBlock]))).setCell _ _ (.inl (by simp [Value.ownBlock]))).drew⟩
          case measure => rw [hgk'.out]; omega
      · have he : i = pt.length := by omega
        subst he
        rw [srun_all] at hown
        obtain ⟨L, hL⟩ : ∃ L, L = pt.map (swapT N n) := ⟨_, rfl⟩
        rw [← hL] at hown
        have hLl : L.length = pt.length := by rw [hL]; simp
        have hL' := Lib.hid hL
        clear hL
        have hsl := SliceIs.of_owns hown rfl
        have hj := joined_any _ _ wr hsl (by omega)
        have v2 := (show wr.cell? ⟨cb, 2, none⟩ = some (.slice a2 pt.length cap2) from cell_at hcr'.out)
        have vz2 := (show wr.frozen? ⟨cb, 2, none⟩ = false from frozen_at hcr'.out)
        have lv2 := lt_of_cell v2
        have hLl' := Lib.hid hLl
        have hown' := Lib.hid hown
        clear hown hsl hLl hdel hA'
        go_wp2_with (first | (go_at_call 89; refine hj.mono ?_; rintro e w8 ⟨vj, rfl, hf8, hownj⟩; have hc8 := hf8.keep hcr'.out (by simp); have y2 := (show w8.cell? ⟨cb, 2, none⟩ = some (.slice a2 pt.length cap2) from cell_at hc8); have yz2 := (show w8.frozen? ⟨cb, 2, none⟩ = false from frozen_at hc8); have ly := lt_of_cell y2; have hc8' := Lib.hid hc8; clear hc8; obtain ⟨aj, capj, rfl, -, -, -⟩ := SliceIs.of_owns hownj rfl; have hownj' := Lib.hid hownj; clear hownj))
        go_ret
        obtain rfl := hL'.out
        obtain rfl := hN'.out
        have hz8 := hf8.size
        have q1 := ((hFW.trans hf2'.out).mono (T := rowsOf cb (.slice (some ⟨g3, 0, none⟩) sv.length cap1) (.slice a2 pt.length cap2)) (by simp)).andThen hf3'.out (fun t ht => .inl (by unfold rowsOf; simp only [List.mem_cons, List.mem_append]; exact .inr (.inl ht)))
        have q2 := q1.andThen f4'.out (fun t ht => .inl (by unfold rowsOf; simp only [List.mem_singleton] at ht; subst ht; simp))
        have q3 := q2.andThen hfr'.out (fun t ht => .inl (by unfold rowsOf; simp only [List.mem_cons, List.mem_append]; exact .inr (.inr ht)))
        have q4 := q3.andThen hf8 (fun t ht => by simp at ht)
        have hos8 := owns_fr hosr'.out hf8 (by simp)
        have hap : ∀ {v : Value} {base' k' n' : Nat} {xs : List Value} {e' : TypeId}, w8.ownsRow base' e' k' v n' xs → e' ≠ 26 → ∀ g, v.ownBlock = some g → g ∉ [cb] := fun ho hne g hg hm => by
          have e2 : g = cb := by simpa using hm
          subst e2
          exact owns_apart ho hc8'.out hne (by simp [hg])
        refine ⟨rfl, q4.setCell _ _ (.inl (by simp [rowsOf])), fun _ => ⟨.slice (some ⟨g3, 0, none⟩) (sv.filter (fun m => m != n)).length cap3, .slice aj (joinP (pt.map (swapT (sv.filter (fun m => m != n)) n))).length capj, setCell_at (i := 2) hc8'.out _, ?_, ?_⟩⟩
        · exact owns_fr2 hos8 ((Fr.refl [cb] w8).setCell _ _ (.inl (by simp))) (hap hos8 (by decide))
        · have ho9 := owns_base hownj'.out (show base ≤ wr.heap.size by omega)
          exact owns_fr2 ho9 ((Fr.refl [cb] w8).setCell _ _ (.inl (by simp))) (hap ho9 (by decide))
end Go.Proofs.YthhpamaeibjpaaaDoor
end
section
namespace Go.Proofs.YthhpamaeibjpaaaDoor
open Go.RowKit Go.Maps Go.Lib Go.Sort
theorem wpList_pushN {α : Type} {enc : α → List Value} {k : Nat} {P : Program} {ops : Array Oper} {rest : List Oper} {o : Oper} {a : Act} {Q : Exit → Act → World → Prop} (w0 : World) (cs : Array Value) (e' : TypeId) (hgd : o.guard = none) (s x : Operand) (t : TypeId)
    (ho : o.op = .call { callee := .builtin .append, args := #[s, x], argTypes := #[t, t] })
    (base : Nat) (e : TypeId) {z : Value} {bytes : Nat} (ht : P.underlying t = some (.slice e)) (hinfo : (P.info? e).map (fun i => (i.zero, i.size, i.bytes)) = some (some z, k, bytes)) (hzs : z.cells.size = k) (hk0 : 0 < k)
    (v : Value) (S : List α) (hs : a.eval s = v) (hown : w0.ownsRow base e k v S.length (S.flatMap enc))
    (ys : List α) (n : Nat) (hny : ys.length = n) (hcs : cs.toList = ys.flatMap enc) (hk : ∀ x, (enc x).length = k) (hone : ∀ u ∈ ys.flatMap enc, u.oneCell' = true) (hx : a.eval x = .slice (some ⟨w0.heap.size, 0, none⟩) n n) (hn9 : n < 100)
    (hn : S.length < 1099511627776) (hb : bytes ≤ 100) (hbase : base ≤ w0.heap.size)
    (h : ∀ v' w', w'.ownsRow base e k v' (S ++ ys).length ((S ++ ys).flatMap enc) → Fr v.ownBlock.toList w0 w' → wpList P ops Q rest (a.put o.dst v') w') : wpList P ops Q (o :: rest) a (w0.alloc (.cells cs e')) := by
  obtain ⟨i, hi, hz0, hz1, hz2⟩ := info_parts hinfo
  subst hny
  have hfl : ∀ l : List α, (l.flatMap enc).length = l.length * k := by
    intro l; induction l with
    | nil => simp
    | cons y l ih => rw [List.flatMap_cons, List.length_append, ih, hk, List.length_cons, Nat.succ_mul]; omega
  refine wpList_append_own _ hgd s x t ho base e i z k bytes ht hi hz0 hz1 hz2 hzs hk0 v S.length (S.flatMap enc) hs (hown.alloc _) ⟨w0.heap.size, 0, none⟩ ys.length ys.length (ys.flatMap enc) hx (hfl ys) ?_ hone (by unfold maxLen; omega) ?_ (by simp; omega) ?_
  · intro j u hj
    rw [← hcs] at hj
    exact cells_new w0 cs e' j u hj
  · have : (S.length + ys.length) * bytes ≤ (1099511627776 + 100) * 100 := Nat.mul_le_mul (by omega) hb
    omega
  · intro v' w' h1 h2 _
    refine h v' w' ?_ (((Fr.refl _ w0).alloc _).trans (Fr.of_grown h2)) 
    rw [List.flatMap_append, List.length_append]
    exact h1
theorem keep_alloc {w : World} {g o : Nat} {v : Value} {ob : Obj} (h : w.cell? ⟨g, o, none⟩ = some v) : (w.alloc ob).cell? ⟨g, o, none⟩ = some v := ((Fr.refl [] w).alloc ob).at0 h
theorem keep_drew {w : World} {g o : Nat} {v : Value} (h : w.cell? ⟨g, o, none⟩ = some v) : (w.drew).cell? ⟨g, o, none⟩ = some v := ((Fr.refl [] w).drew).at0 h
theorem three_new (W : World) {s : Nat} (hs : W.heap.size = s) (A B C : Array Value) (t : TypeId) : Fr [] W ((((W.alloc (.cells A t)).alloc (.cells B t)).alloc (.cells C t)).drew) ∧ ((((W.alloc (.cells A t)).alloc (.cells B t)).alloc (.cells C t)).drew).heap[s]? = some (.cells A t (0, 0)) ∧ ((((W.alloc (.cells A t)).alloc (.cells B t)).alloc (.cells C t)).drew).heap[s + 1]? = some (.cells B t (0, 0)) ∧ ((((W.alloc (.cells A t)).alloc (.cells B t)).alloc (.cells C t)).drew).heap[s + 1 + 1]? = some (.cells C t (0, 0)) := by
  subst hs
  have h1 := heap_alloc_new W (.cells A t)
  have h2 := heap_alloc_new (W.alloc (.cells A t)) (.cells B t)
  have h3 := heap_alloc_new ((W.alloc (.cells A t)).alloc (.cells B t)) (.cells C t)
  have e2 : (W.alloc (.cells A t)).heap.size = W.heap.size + 1 := by simp
  have e3 : ((W.alloc (.cells A t)).alloc (.cells B t)).heap.size = W.heap.size + 1 + 1 := by simp
  rw [e2] at h2; rw [e3] at h3
  refine ⟨(((Fr.refl [] W).alloc _).alloc _).alloc _ |>.drew, ?_, ?_, ?_⟩
  · exact ((((Fr.refl [] _).alloc _).alloc _).drew).keep h1 (by simp)
  · exact (((Fr.refl [] _).alloc _).drew).keep h2 (by simp)
  · exact ((Fr.refl [] _).drew).keep h3 (by simp)
theorem keep_blk {w : World} {g b j : Nat} {x : Obj} {v : Value} (h : w.heap[g]? = some x) (hne : g ≠ b) : (w.setCell ⟨b, j, none⟩ v).heap[g]? = some x := ((Fr.refl [b] w).setCell _ _ (.inl (by simp))).keep h (by simpa using hne)
def plrun (F T n m : Int) (S : List Pt) (i : Nat) : List Pt := (S.take i).flatMap (pcs F T n m)
theorem plrun_step {F T n m : Int} {S : List Pt} {i : Nat} {p : Pt} (h : S[i]? = some p) : plrun F T n m S (i + 1) = plrun F T n m S i ++ pcs F T n m p := by
  unfold plrun
  rw [List.take_add_one, h]; simp
theorem plrun_len (F T n m : Int) (S : List Pt) (i : Nat) : (plrun F T n m S i).length ≤ 3 * S.length := by
  have : ∀ l : List Pt, (l.flatMap (pcs F T n m)).length = 3 * l.length := by
    intro l; induction l with
    | nil => rfl
    | cons y l ih => rw [List.flatMap_cons, List.length_append, ih, List.length_cons]; simp [pcs]; omega
  unfold plrun
  rw [this, List.length_take]
  omega
theorem plrun_all (F T n m : Int) (S : List Pt) : plrun F T n m S S.length = S.flatMap (pcs F T n m) := by unfold plrun; rw [List.take_length]
attribute [local go_sem ↓] Go.wp_at_zero Go.wp_at_succ
set_option maxRecDepth 100000 in
set_option maxHeartbeats 8000000 in
theorem place_any {base cb : Nat} (c : Cfg) (vs vp : Value) (o : Ord) (w : World) (h : CAt base w cb vs vp c) (hb : base ≤ w.heap.size) (hs : c.sv.length < 100000) (hp : c.pt.length < 100000) :
    Calls Tryd.prog 82 #[.pointer (some ⟨cb, 0, none⟩), aggO o] w (OutK base cb vs vp (placeP c o.2.1 o.2.2.1 o.2.2.2.1 o.2.2.2.2) w) := by
  obtain ⟨ep, sv, pt, tb⟩ := c
  obtain ⟨ok, n, m, F, T⟩ := o
  obtain ⟨hcb, hos, hop⟩ := h
  dsimp only at hcb hos hop hs hp
  obtain ⟨a1, cap1, rfl, _, _, _⟩ := SliceIs.of_owns hos rfl
  obtain ⟨a2, cap2, rfl, _, _, _⟩ := SliceIs.of_owns hop rfl
  obtain ⟨W, hW⟩ : ∃ W, W = w.alloc (.cells #[.int .i64 ok, .int .i64 n, .int .i64 m, .int .i64 F, .int .i64 T] 30) := ⟨_, rfl⟩
  have hFW : Fr [] w W := by rw [hW]; exact (Fr.refl _ _).alloc _
  have hob : W.heap[w.heap.size]? = some (.cells #[.int .i64 ok, .int .i64 n, .int .i64 m, .int .i64 F, .int .i64 T] 30 (0, 0)) := by rw [hW]; exact heap_alloc_new w _
  have hzW : W.heap.size = w.heap.size + 1 := by rw [hW]; simp
  have hcW := hFW.keep hcb (by simp)
  have hosW := owns_fr hos hFW (by simp)
  have hopW := owns_fr hop hFW (by simp)
  have hcl := lt_of_block hcb
  have hW' := Lib.hid hW
  have o0 := (show W.cell? ⟨w.heap.size, 0, none⟩ = some (.int .i64 ok) from cell_at hob)
  have o1 := (show W.cell? ⟨w.heap.size, 1, none⟩ = some (.int .i64 n) from cell_at hob)
  have o2 := (show W.cell? ⟨w.heap.size, 2, none⟩ = some (.int .i64 m) from cell_at hob)
  have o3 := (show W.cell? ⟨w.heap.size, 3, none⟩ = some (.int .i64 F) from cell_at hob)
  have o4 := (show W.cell? ⟨w.heap.size, 4, none⟩ = some (.int .i64 T) from cell_at hob)
  have k0 := (show W.cell? ⟨cb, 0, none⟩ = some (.int .i64 ep) from cell_at hcW)
  have k1 := (show W.cell? ⟨cb, 1, none⟩ = some (.slice a1 sv.length cap1) from cell_at hcW)
  have k2 := (show W.cell? ⟨cb, 2, none⟩ = some (.slice a2 pt.length cap2) from cell_at hcW)
  have k3 := (show W.cell? ⟨cb, 3, none⟩ = some (.int .i64 tb) from cell_at hcW)
  have kz0 := (show W.frozen? ⟨cb, 0, none⟩ = false from frozen_at hcW)
  have kz1 := (show W.frozen? ⟨cb, 1, none⟩ = false from frozen_at hcW)
  have kz2 := (show W.frozen? ⟨cb, 2, none⟩ = false from frozen_at hcW)
  have kz3 := (show W.frozen? ⟨cb, 3, none⟩ = false from frozen_at hcW)
  have kl := lt_of_cell k0
  have ol := lt_of_cell o0
  have hob' := Lib.hid hob; have hcW' := Lib.hid hcW; have hosW' := Lib.hid hosW; have hopW' := Lib.hid hopW; have hcb' := Lib.hid hcb
  unfold aggO
  dsimp only
  clear hW hob hcW hosW hopW hcb hos hop
  have hsl : SliceIs W (base ≤ ·) encI (.slice a1 sv.length cap1) sv := SliceIs.of_owns hosW'.out rfl
  have hpl : SliceIs W (base ≤ ·) encPt (.slice a2 pt.length cap2) pt := SliceIs.of_owns hopW'.out rfl
  have hhas0 : ∀ (X : World) (i : Int), Fr [] W X → _ := fun X i hX => has_any (c := ⟨ep, sv, pt, tb⟩) ⟨hsl.fr hX (by simp), hpl.fr hX (by simp)⟩ (by dsimp only; omega) i
  unfold aggC at hhas0
  dsimp only at hhas0
  by_cases h1 : F < 0
  · have h1b : decide (F < 0) = true := by simpa using h1
    have hv : placeP ⟨ep, sv, pt, tb⟩ n m F T = (71, ⟨ep, sv, pt, tb⟩) := by unfold placeP; rw [if_pos (.inl h1)]
    rw [hv]
    clear hv
    have ho0 := o0
    go_enter Tryd.func82, Tryd.ntmps82
    go_upto_region 1 with (fail)
    rw [← hW'.out]
    go_wp2
    go_ret
    exact ⟨rfl, hFW.mono (by simp), fun h => by simp at h⟩
  have h1b : decide (F < 0) = false := by simpa using h1
  by_cases h2 : T ≤ F
  · have h2b : decide (T ≤ F) = true := by simpa using h2
    have hv : placeP ⟨ep, sv, pt, tb⟩ n m F T = (71, ⟨ep, sv, pt, tb⟩) := by unfold placeP; rw [if_pos (.inr (.inl h2))]
    rw [hv]
    clear hv
    have ho0 := o0
    go_enter Tryd.func82, Tryd.ntmps82
    go_upto_region 1 with (fail)
    rw [← hW'.out]
    go_wp2
    go_ret
    exact ⟨rfl, hFW.mono (by simp), fun h => by simp at h⟩
  have h2b : decide (T ≤ F) = false := by simpa using h2
  by_cases h3 : 256 < T
  · have h3b : decide (256 < T) = true := by simpa using h3
    have hv : placeP ⟨ep, sv, pt, tb⟩ n m F T = (71, ⟨ep, sv, pt, tb⟩) := by unfold placeP; rw [if_pos (.inr (.inr h3))]
    rw [hv]
    clear hv
    have ho0 := o0
    go_enter Tryd.func82, Tryd.ntmps82
    go_upto_region 1 with (fail)
    rw [← hW'.out]
    go_wp2
    go_ret
    exact ⟨rfl, hFW.mono (by simp), fun h => by simp at h⟩
  have h3b : decide (256 < T) = false := by simpa using h3
  by_cases h4 : n = m
  · have hv : placeP ⟨ep, sv, pt, tb⟩ n m F T = (1, ⟨ep, sv, pt, tb⟩) := by unfold placeP; rw [if_neg (by omega), if_pos h4]
    rw [hv]
    clear hv
    subst h4
    go_enter Tryd.func82, Tryd.ntmps82
    go_upto_region 1 with (fail)
    rw [← hW'.out]
    go_wp2
    go_ret
    exact ⟨rfl, hFW.mono (by simp), fun h => by simp at h⟩
  have h4b : (n == m) = false := by simpa using h4
  have hA := fun p : Later W => hhas0 p.world n p.fr
  have hB := fun p : Later W => hhas0 p.world m p.fr
  have hsv0 := hs; have hpt0 := hp
  clear hsl hpl hhas0
  have Lo0 : ∀ p : Later W, _ := fun p => p.cell o0
  have Lo1 : ∀ p : Later W, _ := fun p => p.cell o1
  have Lo2 : ∀ p : Later W, _ := fun p => p.cell o2
  have Lo3 : ∀ p : Later W, _ := fun p => p.cell o3
  have Lo4 : ∀ p : Later W, _ := fun p => p.cell o4
  have Lk0 : ∀ p : Later W, _ := fun p => p.cell k0
  have Lk1 : ∀ p : Later W, _ := fun p => p.cell k1
  have Lk2 : ∀ p : Later W, _ := fun p => p.cell k2
  have Lk3 : ∀ p : Later W, _ := fun p => p.cell k3
  cases hcn : sv.contains n with
  | false =>
    have hnm : n ∉ sv := fun hm => by rw [List.contains_iff_mem.2 hm] at hcn; cases hcn
    have hv : placeP ⟨ep, sv, pt, tb⟩ n m F T = (3, ⟨ep, sv, pt, tb⟩) := by unfold placeP; rw [if_neg (by omega), if_neg h4, if_pos (.inl hnm)]
    rw [hv]
    rw [hcn] at hA
    have hA' := Lib.hid hA; have hB' := Lib.hid hB
    clear hA hB hv hnm hcn
    go_enter Tryd.func82, Tryd.ntmps82
    go_upto_region 1 with (fail)
    rw [← hW'.out]
    go_wp2
    refine wp_region_later (by kernel_rfl) (by kernel_rfl) ?_
    repeat (go_big_quiet_step ((first | (go_at_call 30; refine Calls.later_of0 (hA'.out _)) | (go_at_call 30; refine Calls.later_of0 (hB'.out _)))))
    refine wpQuiet_nil ?_
    intro w2 hw'
    have hf2 : Fr [] W w2 := by
      obtain ⟨p, rfl⟩ := hw'
      exact p.fr
    clear hw'
    go_wp2
    go_ret
    exact ⟨rfl, (hFW.trans hf2).mono (by simp), fun h => by simp at h⟩
  | true =>
  cases hcm : sv.contains m with
  | false =>
    have hnm : m ∉ sv := fun hm => by rw [List.contains_iff_mem.2 hm] at hcm; cases hcm
    have hv : placeP ⟨ep, sv, pt, tb⟩ n m F T = (3, ⟨ep, sv, pt, tb⟩) := by unfold placeP; rw [if_neg (by omega), if_neg h4, if_pos (.inr hnm)]
    rw [hv]
    rw [hcn] at hA; rw [hcm] at hB
    have hA' := Lib.hid hA; have hB' := Lib.hid hB
    clear hA hB hv hnm hcn hcm
    go_enter Tryd.func82, Tryd.ntmps82
    go_upto_region 1 with (fail)
    rw [← hW'.out]
    go_wp2
    refine wp_region_later (by kernel_rfl) (by kernel_rfl) ?_
    repeat (go_big_quiet_step ((first | (go_at_call 30; refine Calls.later_of0 (hA'.out _)) | (go_at_call 30; refine Calls.later_of0 (hB'.out _)))))
    refine wpQuiet_nil ?_
    intro w2 hw'
    have hf2 : Fr [] W w2 := by
      obtain ⟨p, rfl⟩ := hw'
      exact p.fr
    clear hw'
    go_wp2
    go_ret
    exact ⟨rfl, (hFW.trans hf2).mono (by simp), fun h => by simp at h⟩
  | true =>
    have hv : placeP ⟨ep, sv, pt, tb⟩ n m F T = (0, ⟨ep, sv, joinP (pt.flatMap (pcs F T n m)), tb⟩) := by unfold placeP; rw [if_neg (by omega), if_neg h4, if_neg (by rw [not_or, Classical.not_not, Classical.not_not]; exact ⟨List.contains_iff_mem.1 hcn, List.contains_iff_mem.1 hcm⟩)]
    rw [hv]
    rw [hcn] at hA; rw [hcm] at hB
    have hA' := Lib.hid hA; have hB' := Lib.hid hB
    have h1' := Lib.hid h1; have h2' := Lib.hid h2; have h3' := Lib.hid h3
    clear hA hB hv hcn hcm h1 h2 h3 h4
    go_enter Tryd.func82, Tryd.ntmps82
    go_upto_region 1 with (fail)
    rw [← hW'.out]
    go_wp2
    refine wp_region_later (by kernel_rfl) (by kernel_rfl) ?_
    repeat (go_big_quiet_step ((first | (go_at_call 30; refine Calls.later_of0 (hA'.out _)) | (go_at_call 30; refine Calls.later_of0 (hB'.out _)))))
    refine wpQuiet_nil ?_
    intro w2 hw'
    have hf2 : Fr [] W w2 := by
      obtain ⟨p, rfl⟩ := hw'
      exact p.fr
    clear hw'
    have q0 := hf2.at0 o0
    have q1 := hf2.at0 o1
    have q2 := hf2.at0 o2
    have q3 := hf2.at0 o3
    have q4 := hf2.at0 o4
    have r0 := hf2.at0 k0
    have r2 := hf2.at0 k2
    have hop2 := owns_fr hopW'.out hf2 (by simp)
    have hpl2 : SliceIs w2 (base ≤ ·) encPt (.slice a2 pt.length cap2) pt := SliceIs.of_owns hop2 rfl
    obtain ⟨aa, capp, he, hc1, hc2, hat⟩ := hpl2.at encPt_len
    cases he
    have hat' := Lib.hid hat
    have hz2 := hf2.size
    have lq := lt_of_cell q0
    have lr := lt_of_cell r0
    have hop2' := Lib.hid hop2; have hf2' := Lib.hid hf2
    clear hat hpl2 hop2 Lo0 Lo1 Lo2 Lo3 Lo4 Lk0 Lk1 Lk2 Lk3 o0 o1 o2 o3 o4 k0 k1 k2 k3 kz0 kz1 kz2 kz3 kl ol hA' hB' hW' hf2 h1b h2b h3b h4b
    go_wp2
    go_loopg [5, 59] pt.length (fun gk lv iv wr => ∃ i : Nat, i ≤ pt.length ∧ gk = pt.length - i ∧ iv = .int .i64 i ∧ wr.ownsRow w2.heap.size 71 4 lv (plrun F T n m pt i).length ((plrun F T n m pt i).flatMap encPt) ∧ Fr [] w2 wr)
    case atStart => exact ⟨0, Nat.zero_le _, rfl, rfl, ⟨by simp [plrun], .inl ⟨rfl, by simp [plrun]⟩⟩, Fr.refl _ _⟩
    case round =>
      obtain ⟨i, hi, hgk, rfl, hown, hfr⟩ := hrel
      have hgk' := Lib.hid hgk
      clear hgk
      have hzr := hfr.size
      have t0 := hfr.at0 q0
      have t1 := hfr.at0 q1
      have t2 := hfr.at0 q2
      have t3 := hfr.at0 q3
      have t4 := hfr.at0 q4
      by_cases hlt : i < pt.length
      · obtain ⟨g, off, rfl, _, hg2, hcells⟩ := hat'.out (by rintro rfl; simp at hlt)
        obtain ⟨x, hx⟩ : ∃ x, pt[i]? = some x := ⟨_, List.getElem?_eq_getElem hlt⟩
        have hc : ∀ j u, (encPt x)[j]? = some u → wr.cell? ⟨g, off + i * 4 + j, none⟩ = some u := fun j u hj => by rw [hfr.cell (p := ⟨g, _, none⟩) hg2 (by simp), Nat.add_assoc]; exact hcells i x j u hx hj
        have k0 := hc 0 _ rfl
        have k1 := hc 1 _ rfl
        have k2 := hc 2 _ rfl
        have k3 := hc 3 _ rfl
        rw [Nat.add_zero] at k0
        have hst := plrun_step (F := F) (T := T) (n := n) (m := m) hx
        have hjl := plrun_len F T n m pt i
        have hst' := Lib.hid hst
        obtain ⟨J, hJ⟩ : ∃ J, J = plrun F T n m pt i := ⟨_, rfl⟩
        rw [← hJ] at hown hst' hjl
        obtain ⟨f, t, a, b⟩ := x
        dsimp only at k0 k1 k2 k3
        clear hcells hx hc hst hJ
        go_upto_region 11 with (fail)
        obtain ⟨W1, hW1⟩ : ∃ W, W = wr.alloc (.cells #[.int .i64 f, .int .i64 t, .int .i64 a, .int .i64 b] 71) := ⟨_, rfl⟩
        have hF1 : Fr [] wr W1 := by rw [hW1]; exact (Fr.refl _ _).alloc _
        have hbx : W1.heap[wr.heap.size]? = some (.cells #[.int .i64 f, .int .i64 t, .int .i64 a, .int .i64 b] 71 (0, 0)) := by rw [hW1]; exact heap_alloc_new wr _
        have hz1 : W1.heap.size = wr.heap.size + 1 := by rw [hW1]; simp
        rw [← hW1]
        have b0 := (show W1.cell? ⟨wr.heap.size, 0, none⟩ = some (.int .i64 f) from cell_at hbx)
        have b1 := (show W1.cell? ⟨wr.heap.size, 1, none⟩ = some (.int .i64 t) from cell_at hbx)
        have b2 := (show W1.cell? ⟨wr.heap.size, 2, none⟩ = some (.int .i64 a) from cell_at hbx)
        have b3 := (show W1.cell? ⟨wr.heap.size, 3, none⟩ = some (.int .i64 b) from cell_at hbx)
        have s1 := hF1.at0 t1
        have s2 := hF1.at0 t2
        have s3 := hF1.at0 t3
        have s4 := hF1.at0 t4
        have hob := hown.lt
        have hown1 := owns_fr hown hF1 (by simp)
        have hFr1 := hfr.trans hF1
        have hbx' := Lib.hid hbx; have hown1' := Lib.hid hown1; have hFr1' := Lib.hid hFr1; have hF1' := Lib.hid hF1
        clear hW1 hbx hown1 hFr1 hF1 t0 t1 t2 t3 t4 k0 k1 k2 k3 hown q0 q1 q2 q3 q4 r0 r2
        go_cut [8, 9, 10] (fun x8 x9 x10 wx => ∃ b8 b9 b10 : Nat, x8 = .pointer (some ⟨b8, 0, none⟩) ∧ x9 = .pointer (some ⟨b9, 0, none⟩) ∧ x10 = .pointer (some ⟨b10, 0, none⟩) ∧ W1.heap.size ≤ b8 ∧ W1.heap.size ≤ b9 ∧ W1.heap.size ≤ b10 ∧ b8 ≠ b9 ∧ b8 ≠ b10 ∧ b9 ≠ b10 ∧ Fr [] W1 wx ∧
          wx.heap[b8]? = some (.cells #[.int .i64 f, .int .i64 t, .int .i64 a, .int .i64 b] 71 (0, 0)) ∧ wx.heap[b9]? = some (.cells #[.int .i64 f, .int .i64 t, .int .i64 a, .int .i64 b] 71 (0, 0)) ∧ wx.heap[b10]? = some (.cells #[.int .i64 F, .int .i64 T, .int .i64 n, .int .i64 m] 71 (0, 0)))
        case first =>
          have n1 := World.new_ne W1 _ b0
          have n2 := World.new_ne W1 _ s3
          go_region_held3 (fun w' => w'.cell? ⟨wr.heap.size, 0, none⟩ = some (.int .i64 f) ∧ w'.cell? ⟨wr.heap.size, 1, none⟩ = some (.int .i64 t) ∧ w'.cell? ⟨wr.heap.size, 2, none⟩ = some (.int .i64 a) ∧ w'.cell? ⟨wr.heap.size, 3, none⟩ = some (.int .i64 b) ∧ w'.cell? ⟨w.heap.size, 1, none⟩ = some (.int .i64 n) ∧ w'.cell? ⟨w.heap.size, 2, none⟩ = some (.int .i64 m) ∧ w'.cell? ⟨w.heap.size, 3, none⟩ = some (.int .i64 F) ∧ w'.cell? ⟨w.heap.size, 4, none⟩ = some (.int .i64 T)) (refine ⟨?_, ?_, ?_, ?_, ?_, ?_, ?_, ?_⟩ <;> (repeat (first | assumption | with_reducible refine keep_drew ?_ | with_reducible refine keep_alloc ?_ | with_reducible refine keep_set ?_ (by simp; omega)))) (fail)
          all_goals (go_wp2_with fail; go_meet)
          all_goals (refine ⟨_, _, _, rfl, rfl, rfl, by omega, by omega, by omega, by omega, by omega, by omega, (three_new W1 hz1 _ _ _ _).1, ?_, ?_, ?_⟩ <;> first | exact (three_new W1 hz1 _ _ _ _).2.1 | exact (three_new W1 hz1 _ _ _ _).2.2.1 | exact (three_new W1 hz1 _ _ _ _).2.2.2)
        case rest =>
          obtain ⟨b8, b9, b10, rfl, rfl, rfl, l8, l9, l10, d89, d810, d910, hFx, hx8, hx9, hx10⟩ := hcut
          have d98 : b9 ≠ b8 := Ne.symm d89
          have d108 : b10 ≠ b8 := Ne.symm d810
          have d109 : b10 ≠ b9 := Ne.symm d910
          have hzx := hFx.size
          have p0 := hFx.at0 b0
          have p1 := hFx.at0 b1
          have p2 := hFx.at0 b2
          have p3 := hFx.at0 b3
          have y1 := hFx.at0 s1
          have y2 := hFx.at0 s2
          have y3 := hFx.at0 s3
          have y4 := hFx.at0 s4
          have c8_0 := (show wc.cell? ⟨b8, 0, none⟩ = some (.int .i64 f) from cell_at hx8)
          have z8_0 := (show wc.frozen? ⟨b8, 0, none⟩ = false from frozen_at hx8)
          have c8_1 := (show wc.cell? ⟨b8, 1, none⟩ = some (.int .i64 t) from cell_at hx8)
          have z8_1 := (show wc.frozen? ⟨b8, 1, none⟩ = false from frozen_at hx8)
          have c8_2 := (show wc.cell? ⟨b8, 2, none⟩ = some (.int .i64 a) from cell_at hx8)
          have z8_2 := (show wc.frozen? ⟨b8, 2, none⟩ = false from frozen_at hx8)
          have c8_3 := (show wc.cell? ⟨b8, 3, none⟩ = some (.int .i64 b) from cell_at hx8)
          have z8_3 := (show wc.frozen? ⟨b8, 3, none⟩ = false from frozen_at hx8)
          have lt8 := lt_of_cell c8_0
          have c9_0 := (show wc.cell? ⟨b9, 0, none⟩ = some (.int .i64 f) from cell_at hx9)
          have z9_0 := (show wc.frozen? ⟨b9, 0, none⟩ = false from frozen_at hx9)
          have c9_1 := (show wc.cell? ⟨b9, 1, none⟩ = some (.int .i64 t) from cell_at hx9)
          have z9_1 := (show wc.frozen? ⟨b9, 1, none⟩ = false from frozen_at hx9)
          have c9_2 := (show wc.cell? ⟨b9, 2, none⟩ = some (.int .i64 a) from cell_at hx9)
          have z9_2 := (show wc.frozen? ⟨b9, 2, none⟩ = false from frozen_at hx9)
          have c9_3 := (show wc.cell? ⟨b9, 3, none⟩ = some (.int .i64 b) from cell_at hx9)
          have z9_3 := (show wc.frozen? ⟨b9, 3, none⟩ = false from frozen_at hx9)
          have lt9 := lt_of_cell c9_0
          have c10_0 := (show wc.cell? ⟨b10, 0, none⟩ = some (.int .i64 F) from cell_at hx10)
          have z10_0 := (show wc.frozen? ⟨b10, 0, none⟩ = false from frozen_at hx10)
          have c10_1 := (show wc.cell? ⟨b10, 1, none⟩ = some (.int .i64 T) from cell_at hx10)
          have z10_1 := (show wc.frozen? ⟨b10, 1, none⟩ = false from frozen_at hx10)
          have c10_2 := (show wc.cell? ⟨b10, 2, none⟩ = some (.int .i64 n) from cell_at hx10)
          have z10_2 := (show wc.frozen? ⟨b10, 2, none⟩ = false from frozen_at hx10)
          have c10_3 := (show wc.cell? ⟨b10, 3, none⟩ = some (.int .i64 m) from cell_at hx10)
          have z10_3 := (show wc.frozen? ⟨b10, 3, none⟩ = false from frozen_at hx10)
          have lt10 := lt_of_cell c10_0
          have e8p : wr.heap.size ≠ b8 := by omega
          have e9p : wr.heap.size ≠ b9 := by omega
          have e10p : wr.heap.size ≠ b10 := by omega
          have e8o : w.heap.size ≠ b8 := by omega
          have e9o : w.heap.size ≠ b9 := by omega
          have e10o : w.heap.size ≠ b10 := by omega
          have hx8' := Lib.hid hx8; have hx9' := Lib.hid hx9; have hx10' := Lib.hid hx10; have hFx' := Lib.hid hFx
          clear hx8 hx9 hx10 hFx b0 b1 b2 b3 s1 s2 s3 s4
          go_upto_region 15 with (fail)
          obtain ⟨W5, hW5⟩ : ∃ W5, W5 = ((((wc.setCell ⟨b8, 1, none⟩ (.int .i64 (min t F))).setCell ⟨b9, 0, none⟩ (.int .i64 (max f T))).setCell ⟨b10, 0, none⟩ (.int .i64 (max f F))).setCell ⟨b10, 1, none⟩ (.int .i64 (min t T))) := ⟨_, rfl⟩
          have f5 : Fr [b8, b9, b10] wc W5 := by rw [hW5]; exact ((((Fr.refl _ wc).setCell _ _ (.inl (by simp))).setCell _ _ (.inl (by simp))).setCell _ _ (.inl (by simp))).setCell _ _ (.inl (by simp))
          have m8 : W5.heap[b8]? = some (.cells #[.int .i64 f, .int .i64 (min t F), .int .i64 a, .int .i64 b] 71 (0, 0)) := by
            rw [hW5]; exact keep_blk (keep_blk (keep_blk (setCell_at (i := 1) hx8'.out _) d89) d810) d810
          have m9 : W5.heap[b9]? = some (.cells #[.int .i64 (max f T), .int .i64 t, .int .i64 a, .int .i64 b] 71 (0, 0)) := by
            rw [hW5]; exact keep_blk (keep_blk (setCell_at (i := 0) (keep_blk hx9'.out d98) _) d910) d910
          have m10 : W5.heap[b10]? = some (.cells #[.int .i64 (max f F), .int .i64 (min t T), .int .i64 n, .int .i64 m] 71 (0, 0)) := by
            rw [hW5]; exact setCell_at (i := 1) (setCell_at (i := 0) (keep_blk (keep_blk hx10'.out d108) d109) _) _
          rw [← hW5]
          have hz5 := f5.size
          clear c8_0 z8_0 c8_1 z8_1 c8_2 z8_2 c8_3 z8_3 c9_0 z9_0 c9_1 z9_1 c9_2 z9_2 c9_3 z9_3 c10_0 z10_0 c10_1 z10_1 c10_2 z10_2 c10_3 z10_3 p0 p1 p2 p3 y1 y2 y3 y4
          have g8_0 := (show W5.cell? ⟨b8, 0, none⟩ = some (.int .i64 f) from cell_at m8)
          have g8_1 := (show W5.cell? ⟨b8, 1, none⟩ = some (.int .i64 (min t F)) from cell_at m8)
          have g8_2 := (show W5.cell? ⟨b8, 2, none⟩ = some (.int .i64 a) from cell_at m8)
          have g8_3 := (show W5.cell? ⟨b8, 3, none⟩ = some (.int .i64 b) from cell_at m8)
          have lg8 := lt_of_cell g8_0
          have g9_0 := (show W5.cell? ⟨b9, 0, none⟩ = some (.int .i64 (max f T)) from cell_at m9)
          have g9_1 := (show W5.cell? ⟨b9, 1, none⟩ = some (.int .i64 t) from cell_at m9)
          have g9_2 := (show W5.cell? ⟨b9, 2, none⟩ = some (.int .i64 a) from cell_at m9)
          have g9_3 := (show W5.cell? ⟨b9, 3, none⟩ = some (.int .i64 b) from cell_at m9)
          have lg9 := lt_of_cell g9_0
          have g10_0 := (show W5.cell? ⟨b10, 0, none⟩ = some (.int .i64 (max f F)) from cell_at m10)
          have g10_1 := (show W5.cell? ⟨b10, 1, none⟩ = some (.int .i64 (min t T)) from cell_at m10)
          have g10_2 := (show W5.cell? ⟨b10, 2, none⟩ = some (.int .i64 n) from cell_at m10)
          have g10_3 := (show W5.cell? ⟨b10, 3, none⟩ = some (.int .i64 m) from cell_at m10)
          have lg10 := lt_of_cell g10_0
          have hown5 := owns_fr2 (owns_fr hown1'.out hFx'.out (by simp)) f5 (fun g hg hm => by
            have := hob g hg
            simp only [List.mem_cons, List.not_mem_nil, or_false] at hm
            omega)
          obtain ⟨a5, cap5, rfl, -, -, -⟩ := SliceIs.of_owns hown5 rfl
          have f5' := Lib.hid f5
          clear hW5 m8 m9 m10 f5
          go_wp2_with (first | (at_builtin; (refine wpList_pushN W5 _ _ rfl _ _ 24 rfl w2.heap.size 71 Tryd.underlying24 infoPt rfl (by omega) (.slice a5 J.length cap5) J rfl hown5 (pcs F T n m (f, t, a, b)) 3 rfl rfl encPt_len (fun u hu => by obtain ⟨p, _, hp⟩ := List.mem_flatMap.1 hu; exact enc1Pt p u hp) rfl (by omega) (by omega) (by omega) (by omega) ?_; intro v' w7 hown7 hf7)))
          go_roundg (pt.length - (i + 1))
          case rel => exact ⟨i + 1, by omega, by omega, by go_num, by rw [hst'.out]; exact hown7, (((hFr1'.out.trans hFx'.out).andThen f5'.out (fun t ht => .inr (by simp only [List.mem_cons, List.not_mem_nil, or_false] at ht; omega))).andThen hf7 (fun t ht => .inr (by have := hob t (by simpa using ht); omega)))⟩
          case measure => rw [hgk'.out]; omega
      · have he : i = pt.length := by omega
        subst he
        have hjl := plrun_len F T n m pt pt.length
        rw [plrun_all] at hown hjl
        obtain ⟨L, hL⟩ : ∃ L, L = pt.flatMap (pcs F T n m) := ⟨_, rfl⟩
        rw [← hL] at hown hjl
        have hL' := Lib.hid hL
        clear hL
        have hsl := SliceIs.of_owns hown rfl
        have hj := joined_any _ _ wr hsl (by omega)
        obtain ⟨a5, cap5, rfl, -, -, -⟩ := id hsl
        have hcr := (hf2'.out.trans hfr).keep hcW'.out (by simp)
        have v2 := (show wr.cell? ⟨cb, 2, none⟩ = some (.slice a2 pt.length cap2) from cell_at hcr)
        have lv2 := lt_of_cell v2
        have hcr' := Lib.hid hcr
        have hown' := Lib.hid hown
        clear hcr hown hsl r0 r2 t0 t1 t2 t3 t4 q0 q1 q2 q3 q4 hjl
        go_wp2_with (first | (go_at_call 89; refine hj.mono ?_; rintro e w8 ⟨vj, rfl, hf8, hownj⟩; have hc8 := hf8.keep hcr'.out (by simp); have y2 := (show w8.cell? ⟨cb, 2, none⟩ = some (.slice a2 pt.length cap2) from cell_at hc8); have z2 := (show w8.frozen? ⟨cb, 2, none⟩ = false from frozen_at hc8); have ly := lt_of_cell y2; have hc8' := Lib.hid hc8; clear hc8; obtain ⟨aj, capj, rfl, -, -, -⟩ := SliceIs.of_owns hownj rfl; have hownj' := Lib.hid hownj; clear hownj))
        go_ret
        obtain rfl := hL'.out
        have hz8 := hf8.size
        have hFw : Fr [] w w8 := ((hFW.trans hf2'.out).trans hfr).trans hf8
        have hFW8 : Fr [] W w8 := (hf2'.out.trans hfr).trans hf8
        have hos8 := owns_fr hosW'.out hFW8 (by simp)
        have hap : ∀ {v : Value} {base' k' n' : Nat} {xs : List Value} {e' : TypeId}, w8.ownsRow base' e' k' v n' xs → e' ≠ 26 → ∀ g, v.ownBlock = some g → g ∉ [cb] := fun ho hne g hg hm => by
          have e2 : g = cb := by simpa using hm
          subst e2
          exact owns_apart ho hc8'.out hne (by simp [hg])
        refine ⟨rfl, (hFw.mono (by simp)).setCell _ _ (.inl (by simp [rowsOf])), fun _ => ⟨.slice a1 sv.length cap1, .slice aj (joinP (pt.flatMap (pcs F T n m))).length capj, setCell_at (i := 2) hc8'.out _, ?_, ?_⟩⟩
        · exact owns_fr2 hos8 ((Fr.refl [cb] w8).setCell _ _ (.inl (by simp))) (hap hos8 (by decide))
        · have ho9 := owns_base hownj'.out (show base ≤ wr.heap.size by omega)
          exact owns_fr2 ho9 ((Fr.refl [cb] w8).setCell _ _ (.inl (by simp))) (hap ho9 (by decide))
end Go.Proofs.YthhpamaeibjpaaaDoor
end
section
namespace Go.Proofs.YthhpamaeibjpaaaDoor
open Go.RowKit Go.Maps Go.Lib Go.Sort
def kindF (k : Int) : FuncId := if k = 1 then 80 else if k = 2 then 81 else if k = 3 then 82 else 83
def KindsAt (w : World) : Prop := ∀ k : Nat, 1 ≤ k → k ≤ 4 → w.cell? ⟨0, k, none⟩ = some (.func (.func (kindF k)) #[] #[])
theorem KindsAt.fr {w w' : World} {T : List Nat} (h : KindsAt w) (hf : Fr T w w') (h0 : 0 ∉ T) : KindsAt w' := fun k h1 h2 => by
  have hc := h k h1 h2
  rw [hf.cell (p := ⟨0, k, none⟩) (lt_of_cell hc) h0]; exact hc
theorem do_any {base cb : Nat} (c : Cfg) (vs vp : Value) (o : Ord) (w : World) (h : CAt base w cb vs vp c) (hb : base ≤ w.heap.size) (hr : risB (-1) c.sv = true) (hs : c.sv.length < 100000) (hp : c.pt.length < 100000) (h1 : 1 ≤ o.1) (h4 : o.1 ≤ 4) :
    Calls Tryd.prog (kindF o.1) #[.pointer (some ⟨cb, 0, none⟩), aggO o] w (OutK base cb vs vp (doP c o) w) := by
  obtain ⟨k, n, m, F, T⟩ := o
  dsimp only at h1 h4
  unfold kindF doP
  dsimp only
  by_cases e1 : k = 1
  · rw [if_pos e1, if_pos e1]; exact come_any c vs vp (k, n, m, F, T) w h hb hr hs hp
  rw [if_neg e1, if_neg e1]
  by_cases e2 : k = 2
  · rw [if_pos e2, if_pos e2]; exact leave_any c vs vp (k, n, m, F, T) w h hb hr hs hp
  rw [if_neg e2, if_neg e2]
  by_cases e3 : k = 3
  · rw [if_pos e3, if_pos e3]; exact place_any c vs vp (k, n, m, F, T) w h hb hs hp
  rw [if_neg e3, if_neg e3]
  exact tables_any c vs vp (k, n, m, F, T) w h hs hp
end Go.Proofs.YthhpamaeibjpaaaDoor
end
