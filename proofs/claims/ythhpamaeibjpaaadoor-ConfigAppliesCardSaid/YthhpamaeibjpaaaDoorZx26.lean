/- Contracts and words, several texts in one. -/
import Derived.BigQuiet
import Derived.Deep.DeepCutAuto
import Derived.Deep.CutBlock
import Derived.Deep.RegionWith
import Derived.Test.YthhpamaeibjpaaaDoorZx23
section
namespace Go.Proofs.YthhpamaeibjpaaaDoor
open Go.RowKit Go.Maps Go.Lib Go.Sort
set_option linter.unusedVariables false
section
variable {w : World} {B : Nat → Prop} {ep tb : Int} {sv : List Int} {pt : List Pt} {a1 a2 : Option Addr} {q1 q2 g : Nat}
theorem theirs_ne (hg : g < w.heap.size) (h : CfgIs w (· ≠ g) (.slice a1 sv.length q1) (.slice a2 pt.length q2) ⟨ep, sv, pt, tb⟩) (ho : pt.length < 1000000) : Calls Tryd.prog 12 #[.agg #[.int .i64 ep, .slice a1 sv.length q1, .slice a2 pt.length q2, .int .i64 tb]] w fun e w' => ∃ (a : Option Addr) (q : Nat), e = .returned (.agg #[.int .i64 ep, .slice a1 sv.length q1, .slice a pt.length q, .int .i64 tb]) ∧ Fr [] w w' ∧ CfgIs w' (· ≠ g) (.slice a1 sv.length q1) (.slice a pt.length q) ⟨ep, sv, pt, tb⟩ := by
  refine (theirs_any ⟨ep, sv, pt, tb⟩ _ _ w h ho).mono ?_
  rintro e w' ⟨vp', rfl, hf, hown⟩
  have hs : CfgIs w' (· ≠ g) (.slice a1 sv.length q1) vp' ⟨ep, sv, pt, tb⟩ := ⟨(h.fr0 hf).1, (SliceIs.of_owns hown rfl).imp (fun k _ hk => by show k ≠ g; omega)⟩
  have hcc := hs
  obtain ⟨-, ⟨a, q, rfl, -⟩⟩ := hcc
  exact ⟨a, q, rfl, hf, hs⟩
theorem rapply_ne {r : Cfg × Int} {ok n m F T : Int} (hg : g < w.heap.size) (h : CfgIs w (· ≠ g) (.slice a1 sv.length q1) (.slice a2 pt.length q2) ⟨ep, sv, pt, tb⟩) (hs : sv.length < 100000) (hp : pt.length < 100000) (hr : applyP ⟨ep, sv, pt, tb⟩ (ok, n, m, F, T) = r) : Calls Tryd.prog 15 #[.agg #[.int .i64 ep, .slice a1 sv.length q1, .slice a2 pt.length q2, .int .i64 tb], .agg #[.int .i64 ok, .int .i64 n, .int .i64 m, .int .i64 F, .int .i64 T]] w fun e w' => ∃ (b1 : Option Addr) (p1 : Nat) (b2 : Option Addr) (p2 : Nat), e = .returned (.tuple #[.agg #[.int .i64 r.1.ep, .slice b1 r.1.sv.length p1, .slice b2 r.1.pt.length p2, .int .i64 r.1.tb], .int .i64 r.2]) ∧ Fr [] w w' ∧ CfgIs w' (· ≠ g) (.slice b1 r.1.sv.length p1) (.slice b2 r.1.pt.length p2) r.1 := by
  have := rapply_any _ _ _ (ok, n, m, F, T) w h (by dsimp only; omega) (by dsimp only; omega)
  rw [hr] at this
  refine this.mono ?_
  rintro e w' ⟨vs, vp, rfl, hf, hcf⟩
  have hcf := hcf.imp (B' := (· ≠ g)) (fun k _ hk => hk.elim id (fun hk => by show k ≠ g; omega))
  have hcc := hcf
  obtain ⟨⟨a1, q1, rfl, -⟩, ⟨a2, q2, rfl, -⟩⟩ := hcc
  exact ⟨a1, q1, a2, q2, rfl, hf, hcf⟩
end
theorem apply_zero {c : Cfg} {o : Ord} (h : (applyP c o).2 ≠ 0) : (applyP c o).1 = zeroCfg := by
  unfold applyP at h ⊢
  split
  · rfl
  · split
    · rfl
    · split
      · rfl
      · rename_i h1 h2 h3
        rw [if_neg h1, if_neg h2, if_neg h3] at h
        split
        · rename_i h4; rw [if_pos h4] at h; simp at h
        · rfl
theorem apply_small {c : Cfg} {o : Ord} {r : Cfg} {e : Int} (h : okC c = true) (hr : applyP c o = (r, e)) : r.sv.length < 100000 ∧ r.pt.length < 1000000 := by
  by_cases he : e = 0
  · have := ok_small (apply_ok (c := c) (o := o) (by rw [hr]; exact he)).2.1
    rw [hr] at this; dsimp only at this; omega
  · have := apply_zero (c := c) (o := o) (by rw [hr]; exact he)
    rw [hr] at this
    dsimp only at this
    rw [this]; exact ⟨by decide, by decide⟩
theorem apply_small2 {c : Cfg} {o : Ord} {r : Cfg} {e : Int} (h1 : c.sv.length < 1000) (h2 : c.pt.length < 1000) (hr : applyP c o = (r, e)) : r.sv.length < 100000 ∧ r.pt.length < 1000000 := by
  by_cases he : okC c = true
  · exact apply_small he hr
  · rw [apply_bad o (by simpa using he)] at hr
    simp only [Prod.mk.injEq] at hr
    rw [← hr.1]; exact ⟨by decide, by decide⟩
attribute [local go_sem ↓] Go.wp_at_zero Go.wp_at_succ
set_option maxRecDepth 100000 in
set_option maxHeartbeats 16000000 in
theorem applies_walk {B B0 : Nat → Prop} (v : Value) (L : List Ord) (c : Cfg) (vs vp : Value) (o : Ord) (w : World) (h : SliceIs w B encO v L) (hc : CfgIs w B0 vs vp c) (hkin : KindsAt w) :
    Calls Tryd.prog 3 #[v, aggC c vs vp, .agg #[.int .i64 o.1, .int .i64 o.2.1, .int .i64 o.2.2.1, .int .i64 o.2.2.2.1, .int .i64 o.2.2.2.2]] w fun e w' => e = .returned (.bool true) ∧ Fr [] w w' := by
  obtain ⟨k, n, m, F, T⟩ := o
  obtain ⟨ep, sv, pt, tb⟩ := c
  have hcc := hc
  obtain ⟨⟨a1, q1, rfl, hq1, hq1m, -⟩, ⟨a2, q2, rfl, hq2, hq2m, -⟩⟩ := hcc
  unfold maxLen at hq1m hq2m
  have hok := after_ok L 60
  obtain ⟨C, hC⟩ : ∃ C, C = afterP L 60 := ⟨_, rfl⟩
  rw [← hC] at hok
  obtain ⟨epd, svd, ptd, tbd⟩ := C
  unfold aggC
  dsimp only at hq1 hq2 ⊢
  obtain ⟨W0, hW0⟩ : ∃ W0, W0 = (w.alloc (.cells #[.int .i64 ep, .slice a1 sv.length q1, .slice a2 pt.length q2, .int .i64 tb] 26)).alloc (.cells #[.int .i64 k, .int .i64 n, .int .i64 m, .int .i64 F, .int .i64 T] 30) := ⟨_, rfl⟩
  have hF0 : Fr [] w W0 := by rw [hW0]; exact ((Fr.refl _ _).alloc _).alloc _
  have hcb' : Hid (W0.heap[w.heap.size]? = some (.cells #[.int .i64 ep, .slice a1 sv.length q1, .slice a2 pt.length q2, .int .i64 tb] 26 (0, 0))) := Lib.hid (by rw [hW0]; exact ((Fr.refl [] _).alloc _).keep (heap_alloc_new w _) (by simp))
  have hob' : Hid (W0.heap[w.heap.size + 1]? = some (.cells #[.int .i64 k, .int .i64 n, .int .i64 m, .int .i64 F, .int .i64 T] 30 (0, 0))) := Lib.hid (by rw [hW0]; have := heap_alloc_new (w.alloc (.cells #[.int .i64 ep, .slice a1 sv.length q1, .slice a2 pt.length q2, .int .i64 tb] 26)) (.cells #[.int .i64 k, .int .i64 n, .int .i64 m, .int .i64 F, .int .i64 T] 30); simpa using this)
  have haf := fun X (hX : Fr [] w X) => after_at (h.fr hX (by simp)) (hkin.fr hX (by simp)) hC
  obtain ⟨a0, cap0, rfl, -⟩ := h
  have hsm := ok_small hok
  dsimp only at hsm
  have hsh := shown_any
  have hok' := Lib.hid hok; have haf' := Lib.hid haf; have hkin' := Lib.hid hkin; have hW0' := Lib.hid hW0
  have hF' : Hid (Fr [] w W0) := Lib.hid hF0
  have hcc' := Lib.hid (hc.fr0 hF0).all
  obtain ⟨rd, hrd⟩ : ∃ r, applyP ⟨epd, svd, ptd, tbd⟩ (k, n, m, F, T) = r := ⟨_, rfl⟩
  have hrd' := Lib.hid hrd
  obtain ⟨⟨epx, svx, ptx, tbx⟩, ex⟩ := rd
  obtain ⟨rz, hrz⟩ : ∃ r, applyP ⟨ep, sv, pt, tb⟩ (k, n, m, F, T) = r := ⟨_, rfl⟩
  have hrz' := Lib.hid hrz
  obtain ⟨⟨epz, svz, ptz, tbz⟩, ez⟩ := rz
  obtain ⟨e0, he0⟩ : ∃ e, errC ⟨ep, sv, pt, tb⟩ = e := ⟨_, rfl⟩
  have he0' := Lib.hid he0
  have hchk' : Hid (errC ⟨epd, svd, ptd, tbd⟩ = 0) := Lib.hid (by unfold errC; rw [if_pos hok])
  clear hC hkin hok haf hW0 hF0 hc he0
  by_cases h20 : 20 < sv.length
  · clear hrz hrd
    go_enter Tryd.func3, Tryd.ntmps3
    go_upto_region 1 with (fail)
    rw [← hW0'.out]
    obtain ⟨c0, cz, cl⟩ := box hcb'.out
    obtain ⟨o0, oz, ol⟩ := box hob'.out
    go_wp2_with (first | (go_at_call 9; (with_reducible refine Calls.mono (hsh _) ?_); rintro e wX ⟨rfl, hf⟩; replace hF' := Lib.hid (hF'.out.trans hf); replace hcc' := Lib.hid (hcc'.out.fr0 hf); replace hcb' := Lib.hid (hf.keep hcb'.out (by simp)); obtain ⟨c0, cz, cl⟩ := box hcb'.out; replace hob' := Lib.hid (hf.keep hob'.out (by simp)); obtain ⟨o0, oz, ol⟩ := box hob'.out; clear hf))
    all_goals (go_ret; exact ⟨rfl, hF'.out⟩)
  by_cases h300 : 300 < pt.length
  · clear hrz hrd
    go_enter Tryd.func3, Tryd.ntmps3
    go_upto_region 1 with (fail)
    rw [← hW0'.out]
    obtain ⟨c0, cz, cl⟩ := box hcb'.out
    obtain ⟨o0, oz, ol⟩ := box hob'.out
    go_wp2_with (first | (go_at_call 9; (with_reducible refine Calls.mono (hsh _) ?_); rintro e wX ⟨rfl, hf⟩; replace hF' := Lib.hid (hF'.out.trans hf); replace hcc' := Lib.hid (hcc'.out.fr0 hf); replace hcb' := Lib.hid (hf.keep hcb'.out (by simp)); obtain ⟨c0, cz, cl⟩ := box hcb'.out; replace hob' := Lib.hid (hf.keep hob'.out (by simp)); obtain ⟨o0, oz, ol⟩ := box hob'.out; clear hf))
    all_goals (go_ret; exact ⟨rfl, hF'.out⟩)
  have hszx : svx.length < 100000 ∧ ptx.length < 1000000 := apply_small hok'.out hrd
  have hszz : svz.length < 100000 ∧ ptz.length < 1000000 := apply_small2 (by dsimp only; omega) (by dsimp only; omega) hrz
  have hxx : ex = 0 → epx = epd + 1 ∧ errC ⟨epx, svx, ptx, tbx⟩ = 0 := fun h => by
    have := apply_ok (c := ⟨epd, svd, ptd, tbd⟩) (o := (k, n, m, F, T)) (by rw [hrd]; exact h)
    rw [hrd] at this
    exact ⟨this.2.2.1, by unfold errC; rw [if_pos this.2.1]⟩
  have hbd1 : 1 ≤ epd := ((okC_iff _).1 hok'.out).1.1
  have hbd2 : epd ≤ 1099511627776 := ((okC_iff _).1 hok'.out).1.2.1
  clear hrd
  clear hrz
  go_enter Tryd.func3, Tryd.ntmps3
  go_upto_region 1 with (fail)
  rw [← hW0'.out]
  obtain ⟨c0, cz, cl⟩ := box hcb'.out
  obtain ⟨o0, oz, ol⟩ := box hob'.out
  go_upto_region 3 with (first | (go_at_call 9; (with_reducible refine Calls.mono (hsh _) ?_); rintro e wX ⟨rfl, hf⟩; replace hF' := Lib.hid (hF'.out.trans hf); replace hcc' := Lib.hid (hcc'.out.fr0 hf); replace hcb' := Lib.hid (hf.keep hcb'.out (by simp)); obtain ⟨c0, cz, cl⟩ := box hcb'.out; replace hob' := Lib.hid (hf.keep hob'.out (by simp)); obtain ⟨o0, oz, ol⟩ := box hob'.out; clear hf))
  go_cut [36] (fun sQ wx => sQ = .bool false ∧ Fr [] wX wx)
  case first =>
    have hG' : Hid (Fr [] wX wX) := Lib.hid (Fr.refl _ _)
    go_region_with (first | (go_at_call 10; (first | ((with_reducible refine Calls.mono (check_at (hcc'.out.fr0 (Fr.refl [] _).drew) (by omega) (by omega) he0'.out) ?_); rintro e wX ⟨rfl, hf0⟩; have hf := ((Fr.refl [] _).drew).trans hf0; clear hf0; replace hG' := Lib.hid (hG'.out.trans hf); replace hF' := Lib.hid (hF'.out.trans hf); replace hcc' := Lib.hid (hcc'.out.fr0 hf); replace hcb' := Lib.hid (hf.keep hcb'.out (by simp)); obtain ⟨c0, cz, cl⟩ := box hcb'.out; replace hob' := Lib.hid (hf.keep hob'.out (by simp)); obtain ⟨o0, oz, ol⟩ := box hob'.out; clear hf))) | (go_at_call 12; (first | ((with_reducible refine Calls.mono (theirs_at hcc'.out (by omega)) ?_); rintro e wX ⟨a5, q5, rfl, hf0, hct⟩; have hf := hf0; have hct' := Lib.hid hct; clear hf0 hct; replace hG' := Lib.hid (hG'.out.trans hf); replace hF' := Lib.hid (hF'.out.trans hf); replace hcc' := Lib.hid (hcc'.out.fr0 hf); replace hcb' := Lib.hid (hf.keep hcb'.out (by simp)); obtain ⟨c0, cz, cl⟩ := box hcb'.out; replace hob' := Lib.hid (hf.keep hob'.out (by simp)); obtain ⟨o0, oz, ol⟩ := box hob'.out; clear hf))) | (go_at_call 11; (first | ((with_reducible refine Calls.mono (rcheck_at hct'.out (by omega) (by omega) he0'.out) ?_); rintro e wX ⟨rfl, hf0⟩; have hf := hf0; clear hf0; replace hG' := Lib.hid (hG'.out.trans hf); replace hF' := Lib.hid (hF'.out.trans hf); replace hcc' := Lib.hid (hcc'.out.fr0 hf); replace hcb' := Lib.hid (hf.keep hcb'.out (by simp)); obtain ⟨c0, cz, cl⟩ := box hcb'.out; replace hob' := Lib.hid (hf.keep hob'.out (by simp)); obtain ⟨o0, oz, ol⟩ := box hob'.out; clear hf))))
    all_goals (go_wp2_with fail; go_meet)
    all_goals exact ⟨by first | rfl | kernel_rfl, hG'.out⟩
  case rest =>
    obtain ⟨rfl, hf⟩ := hcut
    replace hF' := Lib.hid (hF'.out.trans hf)
    replace hcc' := Lib.hid (hcc'.out.fr0 hf)
    replace hcb' := Lib.hid (hf.keep hcb'.out (by simp))
    obtain ⟨c0, cz, cl⟩ := box hcb'.out
    replace hob' := Lib.hid (hf.keep hob'.out (by simp))
    obtain ⟨o0, oz, ol⟩ := box hob'.out
    clear hf
    go_upto_region 6 with (first | (go_at_call 13; (with_reducible refine Calls.mono (haf'.out _ hF'.out) ?_); rintro e wX ⟨d1, e1, d2, e2, rfl, hf, hcd⟩; have hcd' := Lib.hid hcd; replace hF' := Lib.hid (hF'.out.trans hf); replace hcc' := Lib.hid (hcc'.out.fr0 hf); replace hcb' := Lib.hid (hf.keep hcb'.out (by simp)); obtain ⟨c0, cz, cl⟩ := box hcb'.out; replace hob' := Lib.hid (hf.keep hob'.out (by simp)); obtain ⟨o0, oz, ol⟩ := box hob'.out; clear hf; clear hcd))
    obtain ⟨W1, hW1⟩ : ∃ W1, W1 = wX.alloc (.cells #[.int .i64 epd, .slice d1 svd.length e1, .slice d2 ptd.length e2, .int .i64 tbd] 26) := ⟨_, rfl⟩
    rw [← hW1]
    have hf : Fr [] wX W1 := by rw [hW1]; exact (Fr.refl _ _).alloc _
    have hdx' : Hid (W1.heap[wX.heap.size]? = some (.cells #[.int .i64 epd, .slice d1 svd.length e1, .slice d2 ptd.length e2, .int .i64 tbd] 26 (0, 0))) := Lib.hid (by rw [hW1]; exact heap_alloc_new wX _)
    clear hW1
    obtain ⟨d0, dz, dl⟩ := box hdx'.out
    replace hF' := Lib.hid (hF'.out.trans hf)
    replace hcc' := Lib.hid (hcc'.out.fr0 hf)
    replace hcd' := Lib.hid (hcd'.out.fr0 hf)
    replace hcb' := Lib.hid (hf.keep hcb'.out (by simp))
    obtain ⟨c0, cz, cl⟩ := box hcb'.out
    replace hob' := Lib.hid (hf.keep hob'.out (by simp))
    obtain ⟨o0, oz, ol⟩ := box hob'.out
    clear hf
    go_upto_region 7 with (first | (go_at_call 14; (with_reducible refine Calls.mono (apply_at (o := (0, 0, 0, 0, 0)) hcd'.out (hkin'.out.fr hF'.out (by simp)) (by omega) (by omega) hrd'.out) ?_); rintro e wX ⟨b1, p1, b2, p2, rfl, hf, hcx⟩; dsimp only; have hcx' := Lib.hid hcx; replace hF' := Lib.hid (hF'.out.trans hf); replace hcc' := Lib.hid (hcc'.out.fr0 hf); replace hcd' := Lib.hid (hcd'.out.fr0 hf); replace hcb' := Lib.hid (hf.keep hcb'.out (by simp)); obtain ⟨c0, cz, cl⟩ := box hcb'.out; replace hob' := Lib.hid (hf.keep hob'.out (by simp)); obtain ⟨o0, oz, ol⟩ := box hob'.out; replace hdx' := Lib.hid (hf.keep hdx'.out (by simp)); obtain ⟨d0, dz, dl⟩ := box hdx'.out; clear hf; clear hcx))
    obtain ⟨W2, hW2⟩ : ∃ W2, W2 = wX.alloc (.cells #[.int .i64 epx, .slice b1 svx.length p1, .slice b2 ptx.length p2, .int .i64 tbx] 26) := ⟨_, rfl⟩
    rw [← hW2]
    have hf : Fr [] wX W2 := by rw [hW2]; exact (Fr.refl _ _).alloc _
    have hxx' : Hid (W2.heap[wX.heap.size]? = some (.cells #[.int .i64 epx, .slice b1 svx.length p1, .slice b2 ptx.length p2, .int .i64 tbx] 26 (0, 0))) := Lib.hid (by rw [hW2]; exact heap_alloc_new wX _)
    clear hW2
    obtain ⟨x0, xz, xl⟩ := box hxx'.out
    replace hF' := Lib.hid (hF'.out.trans hf)
    replace hcc' := Lib.hid (hcc'.out.fr0 hf)
    replace hcd' := Lib.hid (hcd'.out.fr0 hf)
    replace hcx' := Lib.hid (hcx'.out.fr0 hf)
    replace hcb' := Lib.hid (hf.keep hcb'.out (by simp))
    obtain ⟨c0, cz, cl⟩ := box hcb'.out
    replace hob' := Lib.hid (hf.keep hob'.out (by simp))
    obtain ⟨o0, oz, ol⟩ := box hob'.out
    replace hdx' := Lib.hid (hf.keep hdx'.out (by simp))
    obtain ⟨d0, dz, dl⟩ := box hdx'.out
    clear hf
    have hne' := Lib.hid (hcd'.out.imp (B' := (· ≠ W2.heap.size)) (fun g hg _ => Nat.ne_of_lt hg))
    go_cut [10, 11] (fun sP sE wx => ∃ (g : Nat) (y1 : Option Addr) (r1 : Nat) (y2 : Option Addr) (r2 : Nat), sP = .pointer (some ⟨g, 0, none⟩) ∧ sE = .int .i64 ex ∧ wx.heap[g]? = some (.cells #[.int .i64 epx, .slice y1 svx.length r1, .slice y2 ptx.length r2, .int .i64 tbx] 37 (0, 0)) ∧ CfgIs wx AllB (.slice y1 svx.length r1) (.slice y2 ptx.length r2) ⟨epx, svx, ptx, tbx⟩ ∧ Fr [] W2 wx)
    case first =>
      have hG' : Hid (Fr [] W2 W2) := Lib.hid (Fr.refl _ _)
      go_region_with (first | (go_at_call 12; (first | ((with_reducible refine Calls.mono (theirs_ne (g := W2.heap.size) (by simp) (hne'.out.fr0 ((Fr.refl [] _).drew.alloc _)) (by omega)) ?_); rintro e wX ⟨a5, q5, rfl, hf0, hct⟩; have hf := ((Fr.refl [] _).drew.alloc _).trans hf0; have hlt7 : W2.heap.size < wX.heap.size := (Nat.lt_of_lt_of_le (by simp) hf0.size); have hq9 := hf0.keep (heap_alloc_new _ _) (by simp); have hq9 : wX.heap[W2.heap.size]? = _ := hq9; have hq9' := Lib.hid hq9; obtain ⟨y0, yz, yl⟩ := box hq9'.out; have hgle := Nat.le_refl W2.heap.size; have hct' := Lib.hid hct; clear hf0 hct hq9; replace hG' := Lib.hid (hG'.out.trans hf); replace hF' := Lib.hid (hF'.out.trans hf); replace hcc' := Lib.hid (hcc'.out.fr0 hf); replace hcd' := Lib.hid (hcd'.out.fr0 hf); replace hcx' := Lib.hid (hcx'.out.fr0 hf); replace hcb' := Lib.hid (hf.keep hcb'.out (by simp)); obtain ⟨c0, cz, cl⟩ := box hcb'.out; replace hob' := Lib.hid (hf.keep hob'.out (by simp)); obtain ⟨o0, oz, ol⟩ := box hob'.out; replace hdx' := Lib.hid (hf.keep hdx'.out (by simp)); obtain ⟨d0, dz, dl⟩ := box hdx'.out; replace hxx' := Lib.hid (hf.keep hxx'.out (by simp)); obtain ⟨x0, xz, xl⟩ := box hxx'.out; clear hf) | ((with_reducible refine Calls.mono (theirs_at (hcd'.out.fr0 (Fr.refl [] _).drew) (by omega)) ?_); rintro e wX ⟨a5, q5, rfl, hf0, hct⟩; have hf := ((Fr.refl [] _).drew).trans hf0; have hct' := Lib.hid hct; clear hf0 hct; replace hG' := Lib.hid (hG'.out.trans hf); replace hF' := Lib.hid (hF'.out.trans hf); replace hcc' := Lib.hid (hcc'.out.fr0 hf); replace hcd' := Lib.hid (hcd'.out.fr0 hf); replace hcx' := Lib.hid (hcx'.out.fr0 hf); replace hcb' := Lib.hid (hf.keep hcb'.out (by simp)); obtain ⟨c0, cz, cl⟩ := box hcb'.out; replace hob' := Lib.hid (hf.keep hob'.out (by simp)); obtain ⟨o0, oz, ol⟩ := box hob'.out; replace hdx' := Lib.hid (hf.keep hdx'.out (by simp)); obtain ⟨d0, dz, dl⟩ := box hdx'.out; replace hxx' := Lib.hid (hf.keep hxx'.out (by simp)); obtain ⟨x0, xz, xl⟩ := box hxx'.out; clear hf))) | (go_at_call 15; (first | ((with_reducible refine Calls.mono (rapply_ne (g := W2.heap.size) hlt7 hct'.out (by omega) (by omega) hrd'.out) ?_); rintro e wX ⟨c5, u5, c6, u6, rfl, hf0, hcq⟩; have hf := hf0; dsimp only; have hcq' := Lib.hid hcq; replace hq9' := Lib.hid (hf.keep hq9'.out (by simp)); obtain ⟨y0, yz, yl⟩ := box hq9'.out; clear hf0 hcq; replace hG' := Lib.hid (hG'.out.trans hf); replace hF' := Lib.hid (hF'.out.trans hf); replace hcc' := Lib.hid (hcc'.out.fr0 hf); replace hcd' := Lib.hid (hcd'.out.fr0 hf); replace hcx' := Lib.hid (hcx'.out.fr0 hf); replace hcb' := Lib.hid (hf.keep hcb'.out (by simp)); obtain ⟨c0, cz, cl⟩ := box hcb'.out; replace hob' := Lib.hid (hf.keep hob'.out (by simp)); obtain ⟨o0, oz, ol⟩ := box hob'.out; replace hdx' := Lib.hid (hf.keep hdx'.out (by simp)); obtain ⟨d0, dz, dl⟩ := box hdx'.out; replace hxx' := Lib.hid (hf.keep hxx'.out (by simp)); obtain ⟨x0, xz, xl⟩ := box hxx'.out; clear hf) | ((with_reducible refine Calls.mono (rapply_ne (g := wX.heap.size) (by simp) ((hct'.out.imp (B' := (· ≠ wX.heap.size)) (fun g hg _ => Nat.ne_of_lt hg)).fr0 ((Fr.refl [] _).alloc _)) (by omega) (by omega) hrd'.out) ?_); rintro e wX ⟨c5, u5, c6, u6, rfl, hf0, hcq⟩; have hf := ((Fr.refl [] _).alloc _).trans hf0; dsimp only; have hgle := hG'.out.size; have hq9 := hf0.keep (heap_alloc_new _ _) (by simp); have hq9' := Lib.hid hq9; obtain ⟨y0, yz, yl⟩ := box hq9'.out; have hcq' := Lib.hid hcq; clear hf0 hcq hq9; replace hG' := Lib.hid (hG'.out.trans hf); replace hF' := Lib.hid (hF'.out.trans hf); replace hcc' := Lib.hid (hcc'.out.fr0 hf); replace hcd' := Lib.hid (hcd'.out.fr0 hf); replace hcx' := Lib.hid (hcx'.out.fr0 hf); replace hcb' := Lib.hid (hf.keep hcb'.out (by simp)); obtain ⟨c0, cz, cl⟩ := box hcb'.out; replace hob' := Lib.hid (hf.keep hob'.out (by simp)); obtain ⟨o0, oz, ol⟩ := box hob'.out; replace hdx' := Lib.hid (hf.keep hdx'.out (by simp)); obtain ⟨d0, dz, dl⟩ := box hdx'.out; replace hxx' := Lib.hid (hf.keep hxx'.out (by simp)); obtain ⟨x0, xz, xl⟩ := box hxx'.out; clear hf) | ((with_reducible refine Calls.mono (rapply_at (o := (0, 0, 0, 0, 0)) hct'.out (by omega) (by omega) hrd'.out) ?_); rintro e wX ⟨c5, u5, c6, u6, rfl, hf0, hcq⟩; have hf := hf0; dsimp only; have hcq' := Lib.hid hcq; clear hf0 hcq; replace hG' := Lib.hid (hG'.out.trans hf); replace hF' := Lib.hid (hF'.out.trans hf); replace hcc' := Lib.hid (hcc'.out.fr0 hf); replace hcd' := Lib.hid (hcd'.out.fr0 hf); replace hcx' := Lib.hid (hcx'.out.fr0 hf); replace hcb' := Lib.hid (hf.keep hcb'.out (by simp)); obtain ⟨c0, cz, cl⟩ := box hcb'.out; replace hob' := Lib.hid (hf.keep hob'.out (by simp)); obtain ⟨o0, oz, ol⟩ := box hob'.out; replace hdx' := Lib.hid (hf.keep hdx'.out (by simp)); obtain ⟨d0, dz, dl⟩ := box hdx'.out; replace hxx' := Lib.hid (hf.keep hxx'.out (by simp)); obtain ⟨x0, xz, xl⟩ := box hxx'.out; clear hf))))
      all_goals (go_wp2_with fail; go_meet)
      all_goals (first
        | exact ⟨_, _, _, _, _, rfl, rfl, set4 hq9'.out _ _ _ _, (CfgIs.frT hcq'.out (fr_set4 _ _ _ _ _ _) (fun g h hm => h (by simpa using hm))).all, hG'.out.andThen (fr_set4 _ _ _ _ _ _) (fun t ht => .inr (by simp only [List.mem_singleton] at ht; subst ht; exact hgle))⟩
        | exact ⟨_, _, _, _, _, rfl, rfl, heap_alloc_new _ _, (hcq'.out.fr0 ((Fr.refl [] _).alloc _)), hG'.out.alloc _⟩
        | (trace_state; sorry))
    case rest =>
      obtain ⟨g7, v7, s7, x7, t7, rfl, rfl, hyb, hcy, hf⟩ := hcut
      have hyb7' := Lib.hid hyb; have hcy' := Lib.hid hcy
      obtain ⟨g70, g7z, g7l⟩ := box hyb7'.out
      clear hyb hcy
      replace hF' := Lib.hid (hF'.out.trans hf)
      replace hcc' := Lib.hid (hcc'.out.fr0 hf)
      replace hcd' := Lib.hid (hcd'.out.fr0 hf)
      replace hcx' := Lib.hid (hcx'.out.fr0 hf)
      replace hcb' := Lib.hid (hf.keep hcb'.out (by simp))
      obtain ⟨c0, cz, cl⟩ := box hcb'.out
      replace hob' := Lib.hid (hf.keep hob'.out (by simp))
      obtain ⟨o0, oz, ol⟩ := box hob'.out
      replace hdx' := Lib.hid (hf.keep hdx'.out (by simp))
      obtain ⟨d0, dz, dl⟩ := box hdx'.out
      replace hxx' := Lib.hid (hf.keep hxx'.out (by simp))
      obtain ⟨x0, xz, xl⟩ := box hxx'.out
      clear hf
      go_upto_region 8 with (fail)
      go_cut [66] (fun sQ wx => sQ = .bool false ∧ Fr [] wc wx)
      case first =>
        have hG' : Hid (Fr [] wc wc) := Lib.hid (Fr.refl _ _)
        go_region_with (first | (go_at_call 12; (first | ((with_reducible refine Calls.mono (theirs_at (hcx'.out.fr0 (Fr.refl [] _).drew) (by omega)) ?_); rintro e wX ⟨a5, q5, rfl, hf0, hct⟩; have hf := ((Fr.refl [] _).drew).trans hf0; have hct' := Lib.hid hct; clear hf0 hct; replace hG' := Lib.hid (hG'.out.trans hf); replace hF' := Lib.hid (hF'.out.trans hf); replace hcc' := Lib.hid (hcc'.out.fr0 hf); replace hcd' := Lib.hid (hcd'.out.fr0 hf); replace hcx' := Lib.hid (hcx'.out.fr0 hf); replace hcy' := Lib.hid (hcy'.out.fr0 hf); replace hcb' := Lib.hid (hf.keep hcb'.out (by simp)); obtain ⟨c0, cz, cl⟩ := box hcb'.out; replace hob' := Lib.hid (hf.keep hob'.out (by simp)); obtain ⟨o0, oz, ol⟩ := box hob'.out; replace hdx' := Lib.hid (hf.keep hdx'.out (by simp)); obtain ⟨d0, dz, dl⟩ := box hdx'.out; replace hxx' := Lib.hid (hf.keep hxx'.out (by simp)); obtain ⟨x0, xz, xl⟩ := box hxx'.out; replace hyb7' := Lib.hid (hf.keep hyb7'.out (by simp)); obtain ⟨y70, y7z, y7l⟩ := box hyb7'.out; clear hf))) | (go_at_call 16; (first | ((with_reducible refine Calls.mono (same_at hct'.out hcy'.out (by omega) (by omega)) ?_); rintro e wX ⟨rfl, hf0⟩; have hf := hf0; clear hf0; replace hG' := Lib.hid (hG'.out.trans hf); replace hF' := Lib.hid (hF'.out.trans hf); replace hcc' := Lib.hid (hcc'.out.fr0 hf); replace hcd' := Lib.hid (hcd'.out.fr0 hf); replace hcx' := Lib.hid (hcx'.out.fr0 hf); replace hcy' := Lib.hid (hcy'.out.fr0 hf); replace hcb' := Lib.hid (hf.keep hcb'.out (by simp)); obtain ⟨c0, cz, cl⟩ := box hcb'.out; replace hob' := Lib.hid (hf.keep hob'.out (by simp)); obtain ⟨o0, oz, ol⟩ := box hob'.out; replace hdx' := Lib.hid (hf.keep hdx'.out (by simp)); obtain ⟨d0, dz, dl⟩ := box hdx'.out; replace hxx' := Lib.hid (hf.keep hxx'.out (by simp)); obtain ⟨x0, xz, xl⟩ := box hxx'.out; replace hyb7' := Lib.hid (hf.keep hyb7'.out (by simp)); obtain ⟨y70, y7z, y7l⟩ := box hyb7'.out; clear hf))) | (go_at_call 10; (first | ((with_reducible refine Calls.mono (check_at hcd'.out (by omega) (by omega) hchk'.out) ?_); rintro e wX ⟨rfl, hf0⟩; have hf := hf0; clear hf0; replace hG' := Lib.hid (hG'.out.trans hf); replace hF' := Lib.hid (hF'.out.trans hf); replace hcc' := Lib.hid (hcc'.out.fr0 hf); replace hcd' := Lib.hid (hcd'.out.fr0 hf); replace hcx' := Lib.hid (hcx'.out.fr0 hf); replace hcy' := Lib.hid (hcy'.out.fr0 hf); replace hcb' := Lib.hid (hf.keep hcb'.out (by simp)); obtain ⟨c0, cz, cl⟩ := box hcb'.out; replace hob' := Lib.hid (hf.keep hob'.out (by simp)); obtain ⟨o0, oz, ol⟩ := box hob'.out; replace hdx' := Lib.hid (hf.keep hdx'.out (by simp)); obtain ⟨d0, dz, dl⟩ := box hdx'.out; replace hxx' := Lib.hid (hf.keep hxx'.out (by simp)); obtain ⟨x0, xz, xl⟩ := box hxx'.out; replace hyb7' := Lib.hid (hf.keep hyb7'.out (by simp)); obtain ⟨y70, y7z, y7l⟩ := box hyb7'.out; clear hf))))
        all_goals (go_wp2_with fail; go_meet)
        all_goals exact ⟨by first | rfl | kernel_rfl, hG'.out⟩
      case rest =>
        obtain ⟨rfl, hf⟩ := hcut
        replace hF' := Lib.hid (hF'.out.trans hf)
        replace hcc' := Lib.hid (hcc'.out.fr0 hf)
        replace hcd' := Lib.hid (hcd'.out.fr0 hf)
        replace hcx' := Lib.hid (hcx'.out.fr0 hf)
        replace hcy' := Lib.hid (hcy'.out.fr0 hf)
        replace hcb' := Lib.hid (hf.keep hcb'.out (by simp))
        obtain ⟨c0, cz, cl⟩ := box hcb'.out
        replace hob' := Lib.hid (hf.keep hob'.out (by simp))
        obtain ⟨o0, oz, ol⟩ := box hob'.out
        replace hdx' := Lib.hid (hf.keep hdx'.out (by simp))
        obtain ⟨d0, dz, dl⟩ := box hdx'.out
        replace hxx' := Lib.hid (hf.keep hxx'.out (by simp))
        obtain ⟨x0, xz, xl⟩ := box hxx'.out
        replace hyb7' := Lib.hid (hf.keep hyb7'.out (by simp))
        obtain ⟨y70, y7z, y7l⟩ := box hyb7'.out
        clear hf
        go_upto_region 10 with (fail)
        go_cut [81] (fun sQ wx => sQ = .bool false ∧ Fr [] wc wx)
        case first =>
          have hG' : Hid (Fr [] wc wc) := Lib.hid (Fr.refl _ _)
          by_cases hx : ex = 0
          · subst hx
            obtain ⟨hep, hex⟩ := hxx rfl
            have hex' := Lib.hid hex
            subst hep
            clear hex
            go_wp2_with (first | (go_at_call 10; (with_reducible refine Calls.mono (check_at hcx'.out (by omega) (by omega) hex'.out) ?_); rintro e wX ⟨rfl, hf⟩; replace hG' := Lib.hid (hG'.out.trans hf); replace hF' := Lib.hid (hF'.out.trans hf); replace hcc' := Lib.hid (hcc'.out.fr0 hf); replace hcd' := Lib.hid (hcd'.out.fr0 hf); replace hcx' := Lib.hid (hcx'.out.fr0 hf); replace hcy' := Lib.hid (hcy'.out.fr0 hf); replace hcb' := Lib.hid (hf.keep hcb'.out (by simp)); obtain ⟨c0, cz, cl⟩ := box hcb'.out; replace hob' := Lib.hid (hf.keep hob'.out (by simp)); obtain ⟨o0, oz, ol⟩ := box hob'.out; replace hdx' := Lib.hid (hf.keep hdx'.out (by simp)); obtain ⟨d0, dz, dl⟩ := box hdx'.out; replace hxx' := Lib.hid (hf.keep hxx'.out (by simp)); obtain ⟨x0, xz, xl⟩ := box hxx'.out; replace hyb7' := Lib.hid (hf.keep hyb7'.out (by simp)); obtain ⟨y70, y7z, y7l⟩ := box hyb7'.out; clear hf))
            go_meet
            exact ⟨rfl, hG'.out⟩
          · have hxb : (ex == 0) = false := by simpa using hx
            go_wp2
            go_meet
            exact ⟨rfl, hG'.out⟩
        case rest =>
          obtain ⟨rfl, hf⟩ := hcut
          replace hF' := Lib.hid (hF'.out.trans hf)
          replace hcc' := Lib.hid (hcc'.out.fr0 hf)
          replace hcd' := Lib.hid (hcd'.out.fr0 hf)
          replace hcx' := Lib.hid (hcx'.out.fr0 hf)
          replace hcy' := Lib.hid (hcy'.out.fr0 hf)
          replace hcb' := Lib.hid (hf.keep hcb'.out (by simp))
          obtain ⟨c0, cz, cl⟩ := box hcb'.out
          replace hob' := Lib.hid (hf.keep hob'.out (by simp))
          obtain ⟨o0, oz, ol⟩ := box hob'.out
          replace hdx' := Lib.hid (hf.keep hdx'.out (by simp))
          obtain ⟨d0, dz, dl⟩ := box hdx'.out
          replace hxx' := Lib.hid (hf.keep hxx'.out (by simp))
          obtain ⟨x0, xz, xl⟩ := box hxx'.out
          replace hyb7' := Lib.hid (hf.keep hyb7'.out (by simp))
          obtain ⟨y70, y7z, y7l⟩ := box hyb7'.out
          clear hf
          go_upto_region 13 with (first | (go_at_call 14; (with_reducible refine Calls.mono (apply_at (o := (0, 0, 0, 0, 0)) hcc'.out (hkin'.out.fr hF'.out (by simp)) (by omega) (by omega) hrz'.out) ?_); rintro e wX ⟨z1, u1, z2, u2, rfl, hf, hcz⟩; dsimp only; have hcz' := Lib.hid hcz; replace hF' := Lib.hid (hF'.out.trans hf); replace hcc' := Lib.hid (hcc'.out.fr0 hf); replace hcd' := Lib.hid (hcd'.out.fr0 hf); replace hcx' := Lib.hid (hcx'.out.fr0 hf); replace hcy' := Lib.hid (hcy'.out.fr0 hf); replace hcb' := Lib.hid (hf.keep hcb'.out (by simp)); obtain ⟨c0, cz, cl⟩ := box hcb'.out; replace hob' := Lib.hid (hf.keep hob'.out (by simp)); obtain ⟨o0, oz, ol⟩ := box hob'.out; replace hdx' := Lib.hid (hf.keep hdx'.out (by simp)); obtain ⟨d0, dz, dl⟩ := box hdx'.out; replace hxx' := Lib.hid (hf.keep hxx'.out (by simp)); obtain ⟨x0, xz, xl⟩ := box hxx'.out; replace hyb7' := Lib.hid (hf.keep hyb7'.out (by simp)); obtain ⟨y70, y7z, y7l⟩ := box hyb7'.out; clear hf; clear hcz))
          obtain ⟨W3, hW3⟩ : ∃ W3, W3 = wX.alloc (.cells #[.int .i64 epz, .slice z1 svz.length u1, .slice z2 ptz.length u2, .int .i64 tbz] 26) := ⟨_, rfl⟩
          rw [← hW3]
          have hf : Fr [] wX W3 := by rw [hW3]; exact (Fr.refl _ _).alloc _
          have hzx' : Hid (W3.heap[wX.heap.size]? = some (.cells #[.int .i64 epz, .slice z1 svz.length u1, .slice z2 ptz.length u2, .int .i64 tbz] 26 (0, 0))) := Lib.hid (by rw [hW3]; exact heap_alloc_new wX _)
          clear hW3
          obtain ⟨zz0, zzz, zzl⟩ := box hzx'.out
          replace hF' := Lib.hid (hF'.out.trans hf)
          replace hcc' := Lib.hid (hcc'.out.fr0 hf)
          replace hcd' := Lib.hid (hcd'.out.fr0 hf)
          replace hcx' := Lib.hid (hcx'.out.fr0 hf)
          replace hcy' := Lib.hid (hcy'.out.fr0 hf)
          replace hcz' := Lib.hid (hcz'.out.fr0 hf)
          replace hcb' := Lib.hid (hf.keep hcb'.out (by simp))
          obtain ⟨c0, cz, cl⟩ := box hcb'.out
          replace hob' := Lib.hid (hf.keep hob'.out (by simp))
          obtain ⟨o0, oz, ol⟩ := box hob'.out
          replace hdx' := Lib.hid (hf.keep hdx'.out (by simp))
          obtain ⟨d0, dz, dl⟩ := box hdx'.out
          replace hxx' := Lib.hid (hf.keep hxx'.out (by simp))
          obtain ⟨x0, xz, xl⟩ := box hxx'.out
          replace hyb7' := Lib.hid (hf.keep hyb7'.out (by simp))
          obtain ⟨y70, y7z, y7l⟩ := box hyb7'.out
          clear hf
          have hne' := Lib.hid (hcc'.out.imp (B' := (· ≠ W3.heap.size)) (fun g hg _ => Nat.ne_of_lt hg))
          go_cut [14, 15] (fun sP sE wx => ∃ (g : Nat) (y1 : Option Addr) (r1 : Nat) (y2 : Option Addr) (r2 : Nat), sP = .pointer (some ⟨g, 0, none⟩) ∧ sE = .int .i64 ez ∧ wx.heap[g]? = some (.cells #[.int .i64 epz, .slice y1 svz.length r1, .slice y2 ptz.length r2, .int .i64 tbz] 37 (0, 0)) ∧ CfgIs wx AllB (.slice y1 svz.length r1) (.slice y2 ptz.length r2) ⟨epz, svz, ptz, tbz⟩ ∧ Fr [] W3 wx)
          case first =>
            have hG' : Hid (Fr [] W3 W3) := Lib.hid (Fr.refl _ _)
            go_region_with (first | (go_at_call 12; (first | ((with_reducible refine Calls.mono (theirs_ne (g := W3.heap.size) (by simp) (hne'.out.fr0 ((Fr.refl [] _).drew.alloc _)) (by omega)) ?_); rintro e wX ⟨a5, q5, rfl, hf0, hct⟩; have hf := ((Fr.refl [] _).drew.alloc _).trans hf0; have hlt7 : W3.heap.size < wX.heap.size := (Nat.lt_of_lt_of_le (by simp) hf0.size); have hq9 := hf0.keep (heap_alloc_new _ _) (by simp); have hq9 : wX.heap[W3.heap.size]? = _ := hq9; have hq9' := Lib.hid hq9; obtain ⟨y0, yz, yl⟩ := box hq9'.out; have hgle := Nat.le_refl W3.heap.size; have hct' := Lib.hid hct; clear hf0 hct hq9; replace hG' := Lib.hid (hG'.out.trans hf); replace hF' := Lib.hid (hF'.out.trans hf); replace hcc' := Lib.hid (hcc'.out.fr0 hf); replace hcd' := Lib.hid (hcd'.out.fr0 hf); replace hcx' := Lib.hid (hcx'.out.fr0 hf); replace hcy' := Lib.hid (hcy'.out.fr0 hf); replace hcz' := Lib.hid (hcz'.out.fr0 hf); replace hcb' := Lib.hid (hf.keep hcb'.out (by simp)); obtain ⟨c0, cz, cl⟩ := box hcb'.out; replace hob' := Lib.hid (hf.keep hob'.out (by simp)); obtain ⟨o0, oz, ol⟩ := box hob'.out; replace hdx' := Lib.hid (hf.keep hdx'.out (by simp)); obtain ⟨d0, dz, dl⟩ := box hdx'.out; replace hxx' := Lib.hid (hf.keep hxx'.out (by simp)); obtain ⟨x0, xz, xl⟩ := box hxx'.out; replace hyb7' := Lib.hid (hf.keep hyb7'.out (by simp)); obtain ⟨y70, y7z, y7l⟩ := box hyb7'.out; replace hzx' := Lib.hid (hf.keep hzx'.out (by simp)); obtain ⟨zz0, zzz, zzl⟩ := box hzx'.out; clear hf) | ((with_reducible refine Calls.mono (theirs_at (hcc'.out.fr0 (Fr.refl [] _).drew) (by omega)) ?_); rintro e wX ⟨a5, q5, rfl, hf0, hct⟩; have hf := ((Fr.refl [] _).drew).trans hf0; have hct' := Lib.hid hct; clear hf0 hct; replace hG' := Lib.hid (hG'.out.trans hf); replace hF' := Lib.hid (hF'.out.trans hf); replace hcc' := Lib.hid (hcc'.out.fr0 hf); replace hcd' := Lib.hid (hcd'.out.fr0 hf); replace hcx' := Lib.hid (hcx'.out.fr0 hf); replace hcy' := Lib.hid (hcy'.out.fr0 hf); replace hcz' := Lib.hid (hcz'.out.fr0 hf); replace hcb' := Lib.hid (hf.keep hcb'.out (by simp)); obtain ⟨c0, cz, cl⟩ := box hcb'.out; replace hob' := Lib.hid (hf.keep hob'.out (by simp)); obtain ⟨o0, oz, ol⟩ := box hob'.out; replace hdx' := Lib.hid (hf.keep hdx'.out (by simp)); obtain ⟨d0, dz, dl⟩ := box hdx'.out; replace hxx' := Lib.hid (hf.keep hxx'.out (by simp)); obtain ⟨x0, xz, xl⟩ := box hxx'.out; replace hyb7' := Lib.hid (hf.keep hyb7'.out (by simp)); obtain ⟨y70, y7z, y7l⟩ := box hyb7'.out; replace hzx' := Lib.hid (hf.keep hzx'.out (by simp)); obtain ⟨zz0, zzz, zzl⟩ := box hzx'.out; clear hf))) | (go_at_call 15; (first | ((with_reducible refine Calls.mono (rapply_ne (g := W3.heap.size) hlt7 hct'.out (by omega) (by omega) hrz'.out) ?_); rintro e wX ⟨c5, u5, c6, u6, rfl, hf0, hcq⟩; have hf := hf0; dsimp only; have hcq' := Lib.hid hcq; replace hq9' := Lib.hid (hf.keep hq9'.out (by simp)); obtain ⟨y0, yz, yl⟩ := box hq9'.out; clear hf0 hcq; replace hG' := Lib.hid (hG'.out.trans hf); replace hF' := Lib.hid (hF'.out.trans hf); replace hcc' := Lib.hid (hcc'.out.fr0 hf); replace hcd' := Lib.hid (hcd'.out.fr0 hf); replace hcx' := Lib.hid (hcx'.out.fr0 hf); replace hcy' := Lib.hid (hcy'.out.fr0 hf); replace hcz' := Lib.hid (hcz'.out.fr0 hf); replace hcb' := Lib.hid (hf.keep hcb'.out (by simp)); obtain ⟨c0, cz, cl⟩ := box hcb'.out; replace hob' := Lib.hid (hf.keep hob'.out (by simp)); obtain ⟨o0, oz, ol⟩ := box hob'.out; replace hdx' := Lib.hid (hf.keep hdx'.out (by simp)); obtain ⟨d0, dz, dl⟩ := box hdx'.out; replace hxx' := Lib.hid (hf.keep hxx'.out (by simp)); obtain ⟨x0, xz, xl⟩ := box hxx'.out; replace hyb7' := Lib.hid (hf.keep hyb7'.out (by simp)); obtain ⟨y70, y7z, y7l⟩ := box hyb7'.out; replace hzx' := Lib.hid (hf.keep hzx'.out (by simp)); obtain ⟨zz0, zzz, zzl⟩ := box hzx'.out; clear hf) | ((with_reducible refine Calls.mono (rapply_ne (g := wX.heap.size) (by simp) ((hct'.out.imp (B' := (· ≠ wX.heap.size)) (fun g hg _ => Nat.ne_of_lt hg)).fr0 ((Fr.refl [] _).alloc _)) (by omega) (by omega) hrz'.out) ?_); rintro e wX ⟨c5, u5, c6, u6, rfl, hf0, hcq⟩; have hf := ((Fr.refl [] _).alloc _).trans hf0; dsimp only; have hgle := hG'.out.size; have hq9 := hf0.keep (heap_alloc_new _ _) (by simp); have hq9' := Lib.hid hq9; obtain ⟨y0, yz, yl⟩ := box hq9'.out; have hcq' := Lib.hid hcq; clear hf0 hcq hq9; replace hG' := Lib.hid (hG'.out.trans hf); replace hF' := Lib.hid (hF'.out.trans hf); replace hcc' := Lib.hid (hcc'.out.fr0 hf); replace hcd' := Lib.hid (hcd'.out.fr0 hf); replace hcx' := Lib.hid (hcx'.out.fr0 hf); replace hcy' := Lib.hid (hcy'.out.fr0 hf); replace hcz' := Lib.hid (hcz'.out.fr0 hf); replace hcb' := Lib.hid (hf.keep hcb'.out (by simp)); obtain ⟨c0, cz, cl⟩ := box hcb'.out; replace hob' := Lib.hid (hf.keep hob'.out (by simp)); obtain ⟨o0, oz, ol⟩ := box hob'.out; replace hdx' := Lib.hid (hf.keep hdx'.out (by simp)); obtain ⟨d0, dz, dl⟩ := box hdx'.out; replace hxx' := Lib.hid (hf.keep hxx'.out (by simp)); obtain ⟨x0, xz, xl⟩ := box hxx'.out; replace hyb7' := Lib.hid (hf.keep hyb7'.out (by simp)); obtain ⟨y70, y7z, y7l⟩ := box hyb7'.out; replace hzx' := Lib.hid (hf.keep hzx'.out (by simp)); obtain ⟨zz0, zzz, zzl⟩ := box hzx'.out; clear hf) | ((with_reducible refine Calls.mono (rapply_at (o := (0, 0, 0, 0, 0)) hct'.out (by omega) (by omega) hrz'.out) ?_); rintro e wX ⟨c5, u5, c6, u6, rfl, hf0, hcq⟩; have hf := hf0; dsimp only; have hcq' := Lib.hid hcq; clear hf0 hcq; replace hG' := Lib.hid (hG'.out.trans hf); replace hF' := Lib.hid (hF'.out.trans hf); replace hcc' := Lib.hid (hcc'.out.fr0 hf); replace hcd' := Lib.hid (hcd'.out.fr0 hf); replace hcx' := Lib.hid (hcx'.out.fr0 hf); replace hcy' := Lib.hid (hcy'.out.fr0 hf); replace hcz' := Lib.hid (hcz'.out.fr0 hf); replace hcb' := Lib.hid (hf.keep hcb'.out (by simp)); obtain ⟨c0, cz, cl⟩ := box hcb'.out; replace hob' := Lib.hid (hf.keep hob'.out (by simp)); obtain ⟨o0, oz, ol⟩ := box hob'.out; replace hdx' := Lib.hid (hf.keep hdx'.out (by simp)); obtain ⟨d0, dz, dl⟩ := box hdx'.out; replace hxx' := Lib.hid (hf.keep hxx'.out (by simp)); obtain ⟨x0, xz, xl⟩ := box hxx'.out; replace hyb7' := Lib.hid (hf.keep hyb7'.out (by simp)); obtain ⟨y70, y7z, y7l⟩ := box hyb7'.out; replace hzx' := Lib.hid (hf.keep hzx'.out (by simp)); obtain ⟨zz0, zzz, zzl⟩ := box hzx'.out; clear hf))))
            all_goals (go_wp2_with fail; go_meet)
            all_goals (first
              | exact ⟨_, _, _, _, _, rfl, rfl, set4 hq9'.out _ _ _ _, (CfgIs.frT hcq'.out (fr_set4 _ _ _ _ _ _) (fun g h hm => h (by simpa using hm))).all, hG'.out.andThen (fr_set4 _ _ _ _ _ _) (fun t ht => .inr (by simp only [List.mem_singleton] at ht; subst ht; exact hgle))⟩
              | exact ⟨_, _, _, _, _, rfl, rfl, heap_alloc_new _ _, (hcq'.out.fr0 ((Fr.refl [] _).alloc _)), hG'.out.alloc _⟩
              | (trace_state; sorry))
          case rest =>
            obtain ⟨g9, v9, s9, x9, t9, rfl, rfl, hyb, hcy, hf⟩ := hcut
            have hyb9' := Lib.hid hyb; have hcv' := Lib.hid hcy
            obtain ⟨g90, g9z, g9l⟩ := box hyb9'.out
            clear hyb hcy
            replace hF' := Lib.hid (hF'.out.trans hf)
            replace hcc' := Lib.hid (hcc'.out.fr0 hf)
            replace hcd' := Lib.hid (hcd'.out.fr0 hf)
            replace hcx' := Lib.hid (hcx'.out.fr0 hf)
            replace hcy' := Lib.hid (hcy'.out.fr0 hf)
            replace hcz' := Lib.hid (hcz'.out.fr0 hf)
            replace hcb' := Lib.hid (hf.keep hcb'.out (by simp))
            obtain ⟨c0, cz, cl⟩ := box hcb'.out
            replace hob' := Lib.hid (hf.keep hob'.out (by simp))
            obtain ⟨o0, oz, ol⟩ := box hob'.out
            replace hdx' := Lib.hid (hf.keep hdx'.out (by simp))
            obtain ⟨d0, dz, dl⟩ := box hdx'.out
            replace hxx' := Lib.hid (hf.keep hxx'.out (by simp))
            obtain ⟨x0, xz, xl⟩ := box hxx'.out
            replace hyb7' := Lib.hid (hf.keep hyb7'.out (by simp))
            obtain ⟨y70, y7z, y7l⟩ := box hyb7'.out
            replace hzx' := Lib.hid (hf.keep hzx'.out (by simp))
            obtain ⟨zz0, zzz, zzl⟩ := box hzx'.out
            clear hf
            go_upto_region 14 with (fail)
            go_cut [6] (fun sQ wx => sQ = .bool true ∧ Fr [] wc wx)
            case first =>
              have hG' : Hid (Fr [] wc wc) := Lib.hid (Fr.refl _ _)
              go_region_with (first | (go_at_call 12; (first | ((with_reducible refine Calls.mono (theirs_at (hcz'.out.fr0 (Fr.refl [] _).drew) (by omega)) ?_); rintro e wX ⟨a5, q5, rfl, hf0, hct⟩; have hf := ((Fr.refl [] _).drew).trans hf0; have hct' := Lib.hid hct; clear hf0 hct; replace hG' := Lib.hid (hG'.out.trans hf); replace hF' := Lib.hid (hF'.out.trans hf); replace hcc' := Lib.hid (hcc'.out.fr0 hf); replace hcd' := Lib.hid (hcd'.out.fr0 hf); replace hcx' := Lib.hid (hcx'.out.fr0 hf); replace hcy' := Lib.hid (hcy'.out.fr0 hf); replace hcz' := Lib.hid (hcz'.out.fr0 hf); replace hcv' := Lib.hid (hcv'.out.fr0 hf); replace hcb' := Lib.hid (hf.keep hcb'.out (by simp)); obtain ⟨c0, cz, cl⟩ := box hcb'.out; replace hob' := Lib.hid (hf.keep hob'.out (by simp)); obtain ⟨o0, oz, ol⟩ := box hob'.out; replace hdx' := Lib.hid (hf.keep hdx'.out (by simp)); obtain ⟨d0, dz, dl⟩ := box hdx'.out; replace hxx' := Lib.hid (hf.keep hxx'.out (by simp)); obtain ⟨x0, xz, xl⟩ := box hxx'.out; replace hyb7' := Lib.hid (hf.keep hyb7'.out (by simp)); obtain ⟨y70, y7z, y7l⟩ := box hyb7'.out; replace hzx' := Lib.hid (hf.keep hzx'.out (by simp)); obtain ⟨zz0, zzz, zzl⟩ := box hzx'.out; replace hyb9' := Lib.hid (hf.keep hyb9'.out (by simp)); obtain ⟨y90, y9z, y9l⟩ := box hyb9'.out; clear hf))) | (go_at_call 16; (first | ((with_reducible refine Calls.mono (same_at hct'.out hcv'.out (by omega) (by omega)) ?_); rintro e wX ⟨rfl, hf0⟩; have hf := hf0; clear hf0; replace hG' := Lib.hid (hG'.out.trans hf); replace hF' := Lib.hid (hF'.out.trans hf); replace hcc' := Lib.hid (hcc'.out.fr0 hf); replace hcd' := Lib.hid (hcd'.out.fr0 hf); replace hcx' := Lib.hid (hcx'.out.fr0 hf); replace hcy' := Lib.hid (hcy'.out.fr0 hf); replace hcz' := Lib.hid (hcz'.out.fr0 hf); replace hcv' := Lib.hid (hcv'.out.fr0 hf); replace hcb' := Lib.hid (hf.keep hcb'.out (by simp)); obtain ⟨c0, cz, cl⟩ := box hcb'.out; replace hob' := Lib.hid (hf.keep hob'.out (by simp)); obtain ⟨o0, oz, ol⟩ := box hob'.out; replace hdx' := Lib.hid (hf.keep hdx'.out (by simp)); obtain ⟨d0, dz, dl⟩ := box hdx'.out; replace hxx' := Lib.hid (hf.keep hxx'.out (by simp)); obtain ⟨x0, xz, xl⟩ := box hxx'.out; replace hyb7' := Lib.hid (hf.keep hyb7'.out (by simp)); obtain ⟨y70, y7z, y7l⟩ := box hyb7'.out; replace hzx' := Lib.hid (hf.keep hzx'.out (by simp)); obtain ⟨zz0, zzz, zzl⟩ := box hzx'.out; replace hyb9' := Lib.hid (hf.keep hyb9'.out (by simp)); obtain ⟨y90, y9z, y9l⟩ := box hyb9'.out; clear hf))))
              all_goals (go_wp2_with fail; go_meet)
              all_goals exact ⟨by first | rfl | kernel_rfl, hG'.out⟩
            case rest =>
              obtain ⟨rfl, hf⟩ := hcut
              replace hF' := Lib.hid (hF'.out.trans hf)
              go_wp2
              go_ret
              exact ⟨rfl, hF'.out⟩
end Go.Proofs.YthhpamaeibjpaaaDoor
end
