/- Contracts and words, several texts in one. -/
import Derived.BigQuiet
import Derived.IntWalk
import Derived.Deep.RegionWith
import Derived.Deep.DeepCutAuto
import Derived.Deep.CutBlock
import Derived.Test.YthhpamaeibjpaaaDoorZx23
section
namespace Go.Proofs.YthhpamaeibjpaaaDoor
set_option linter.unusedVariables false
def fitsP (N M F T : Int) : Prop := 0 ≤ F ∧ F < T ∧ T ≤ 256 ∧ N ≠ M
theorem place_law {ep tb : Int} {sv : List Int} {pt : List Pt} {N M F T : Int} (ho : okC ⟨ep, sv, pt, tb⟩ = true) (he : ep ≤ 1000) (hn : N ∈ sv) (hm : M ∈ sv) :
    (fitsP N M F T → applyP ⟨ep, sv, pt, tb⟩ (3, N, M, F, T) = (⟨ep + 1, sv, joinP (pt.flatMap (pcs F T N M)), tb⟩, 0)) ∧ (¬ fitsP N M F T → ∃ e, e ≠ 0 ∧ applyP ⟨ep, sv, pt, tb⟩ (3, N, M, F, T) = (zeroCfg, e)) := by
  have h := apply_do (c := ⟨ep, sv, pt, tb⟩) (3, N, M, F, T) ho (by dsimp only; omega) (by dsimp only; omega)
  have hd : doP ⟨ep, sv, pt, tb⟩ (3, N, M, F, T) = placeP ⟨ep, sv, pt, tb⟩ N M F T := by
    unfold doP; dsimp only
    rw [if_neg (show ¬ (3 : Int) = 1 by decide), if_neg (show ¬ (3 : Int) = 2 by decide), if_pos rfl]
  rw [hd] at h
  unfold fitsP
  constructor
  · rintro ⟨h1, h2, h3, h4⟩
    have hp : placeP ⟨ep, sv, pt, tb⟩ N M F T = (0, ⟨ep, sv, joinP (pt.flatMap (pcs F T N M)), tb⟩) := by
      unfold placeP; rw [if_neg (by omega), if_neg h4, if_neg (by simp [hn, hm])]
    rw [h, hp]; rfl
  · intro hf
    by_cases h1 : F < 0 ∨ T ≤ F ∨ 256 < T
    · have hp : placeP ⟨ep, sv, pt, tb⟩ N M F T = (71, ⟨ep, sv, pt, tb⟩) := by unfold placeP; rw [if_pos h1]
      rw [h, hp]; exact ⟨71, by decide, rfl⟩
    · by_cases h2 : N = M
      · have hp : placeP ⟨ep, sv, pt, tb⟩ N M F T = (1, ⟨ep, sv, pt, tb⟩) := by unfold placeP; rw [if_neg h1, if_pos h2]
        rw [h, hp]; exact ⟨1, by decide, rfl⟩
      · exact absurd ⟨by omega, by omega, by omega, h2⟩ hf
theorem cuts_law {ep tb : Int} {sv : List Int} {pt : List Pt} {N M F T : Int} (ho : okC ⟨ep, sv, pt, tb⟩ = true) (he : ep ≤ 100) (hn : N ∈ sv) (hm : M ∈ sv) (hf : fitsP N M F T) :
    ∃ pt2, applyP ⟨ep, sv, pt, tb⟩ (3, N, M, F, T) = (⟨ep + 1, sv, pt2, tb⟩, 0) ∧ okC ⟨ep + 1, sv, pt2, tb⟩ = true ∧ pt2.length ≤ pt.length + 2 ∧ applyP ⟨ep + 1, sv, pt2, tb⟩ (3, N, M, F, T) = (⟨ep + 1 + 1, sv, pt2, tb⟩, 0) := by
  have h1 := (place_law (F := F) (T := T) ho (by omega) hn hm).1 hf
  have e : (applyP ⟨ep, sv, pt, tb⟩ (3, N, M, F, T)).2 = 0 := by rw [h1]
  have ho2 := (apply_ok e).2.1
  have hb2 := apply_blk e
  rw [h1] at ho2 hb2
  dsimp only at ho2 hb2
  rw [if_neg (show ¬ (3 : Int) = 2 by decide), if_pos rfl] at hb2
  obtain ⟨c1, c2, c3⟩ := ok_chain ho
  obtain ⟨d1, d2, d3⟩ := ok_chain ho2
  dsimp only at c1 c2 d1 d2
  refine ⟨_, h1, ho2, place_len hf.2.1 c1 c2, ?_⟩
  rw [(place_law ho2 (by omega) hn hm).1 hf]
  have g1 := chain_pcs (n := N) (m := M) hf.2.1 _ _ c1 c2
  have g2 := chain_pcs (n := N) (m := M) hf.2.1 _ _ d1 d2
  rw [join_parts g2.1, g2.2, hb2, setR_twice, ← g1.2, ← join_parts g1.1]
theorem where_ok {c : Cfg} (h : okC c = true) {b : Int} (h0 : 0 ≤ b) (h1 : b < 256) : ∃ x y, whereP c b = (x, y, 0) := by
  rcases where_blk h b with ⟨_, _, z, _, hw, _⟩ | ⟨hb, _⟩
  · exact ⟨_, _, hw⟩
  · omega
theorem tmod_ix {S : List Int} (h : S ≠ []) {a : Int} (ha : 0 ≤ a) : ∃ i : Nat, i < S.length ∧ Int.tmod a S.length = i ∧ ∃ x, S[i]? = some x ∧ x ∈ S := by
  have hl : 0 < S.length := List.length_pos_iff.2 h
  have g0 := Int.tmod_nonneg (S.length : Int) ha
  have g1 : Int.tmod a S.length < S.length := Int.tmod_lt_of_pos _ (by omega)
  exact ⟨(Int.tmod a S.length).toNat, by omega, by omega, _, List.getElem?_eq_getElem (by omega), List.getElem_mem _⟩
end Go.Proofs.YthhpamaeibjpaaaDoor
end
section
namespace Go.Proofs.YthhpamaeibjpaaaDoor
open Go.RowKit Go.Maps Go.Lib Go.Sort
theorem CfgIs.ep {w : World} {B : Nat → Prop} {vs vp : Value} {ep ep' tb : Int} {sv : List Int} {pt : List Pt} (h : CfgIs w B vs vp ⟨ep, sv, pt, tb⟩) : CfgIs w B vs vp ⟨ep', sv, pt, tb⟩ := h
set_option linter.unusedVariables false
attribute [local go_sem ↓] Go.wp_at_zero Go.wp_at_succ
set_option maxRecDepth 100000 in
set_option maxHeartbeats 16000000 in
theorem cuts_walk {B : Nat → Prop} (v : Value) (L : List Ord) (r : Int × Int) (a b : Int) (w : World) (h : SliceIs w B encO v L) (ha0 : 0 ≤ a) (ha1 : a ≤ 255) (hb0 : 0 ≤ b) (hb1 : b ≤ 255) (hkin : KindsAt w) :
    Calls Tryd.prog 5 #[v, .agg #[.int .i64 r.1, .int .i64 r.2], .int .u8 a, .int .u8 b] w fun e w' => e = .returned (.bool true) ∧ Fr [] w w' := by
  obtain ⟨F, T⟩ := r
  have hok := after_ok L 60
  have hep := after_ep L 60
  obtain ⟨C, hC⟩ : ∃ C, C = afterP L 60 := ⟨_, rfl⟩
  rw [← hC] at hok hep
  obtain ⟨ep, sv, pt, tb⟩ := C
  obtain ⟨W0, hW0⟩ : ∃ W0, W0 = w.alloc (.cells #[.int .i64 F, .int .i64 T] 28) := ⟨_, rfl⟩
  have hF0 : Fr [] w W0 := by rw [hW0]; exact (Fr.refl _ _).alloc _
  have hrb' : Hid (W0.heap[w.heap.size]? = some (.cells #[.int .i64 F, .int .i64 T] 28 (0, 0))) := Lib.hid (by rw [hW0]; exact heap_alloc_new w _)
  have haf := fun X (hX : Fr [] w X) => after_at (h.fr hX (by simp)) (hkin.fr hX (by simp)) hC
  obtain ⟨a0, cap0, rfl, -⟩ := h
  have hsm := ok_small hok
  have hsh := shown_any
  have hsv : sv ≠ [] := by
    have := ((okC_iff _).1 hok).1.2.2.2.2
    rintro rfl; simp at this
  obtain ⟨i, hi, hai, N, hN, hNm⟩ := tmod_ix hsv ha0
  obtain ⟨j, hj, hbj, M, hM, hMm⟩ := tmod_ix hsv hb0
  dsimp only at hep hsm
  have hpl := place_law (F := F) (T := T) hok (by omega) hNm hMm
  have hcl := cuts_law (F := F) (T := T) hok (by omega) hNm hMm
  have hok' := Lib.hid hok; have haf' := Lib.hid haf; have hkin' := Lib.hid hkin; have hW0' := Lib.hid hW0
  have hai' := Lib.hid hai; have hbj' := Lib.hid hbj; have hN' := Lib.hid hN; have hM' := Lib.hid hM
  have hF' : Hid (Fr [] w W0) := Lib.hid hF0
  have hl0 : (sv.length == 0) = false := by simpa using hsv
  clear hC hkin hok haf hW0 hF0 hsv hNm hMm hai hbj hN hM hep
  go_enter Tryd.func5, Tryd.ntmps5
  go_upto_region 1 with (fail)
  rw [← hW0'.out]
  obtain ⟨o0, oz, ol⟩ := box hrb'.out
  go_upto_region 4 with (first | (go_at_call 9; (with_reducible refine Calls.mono (hsh _) ?_); rintro e wX ⟨rfl, hf⟩; replace hF' := Lib.hid (hF'.out.trans hf); replace hrb' := Lib.hid (hf.keep hrb'.out (by simp)); obtain ⟨o0, oz, ol⟩ := box hrb'.out; clear hf) | (go_at_call 13; (with_reducible refine Calls.mono (haf'.out _ hF'.out) ?_); rintro e wX ⟨a1, q1, a2, q2, rfl, hf, hcf⟩; have hcf' := Lib.hid hcf; replace hF' := Lib.hid (hF'.out.trans hf); replace hrb' := Lib.hid (hf.keep hrb'.out (by simp)); obtain ⟨o0, oz, ol⟩ := box hrb'.out; clear hf; clear hcf))
  obtain ⟨W1, hW1⟩ : ∃ W1, W1 = wX.alloc (.cells #[.int .i64 ep, .slice a1 sv.length q1, .slice a2 pt.length q2, .int .i64 tb] 26) := ⟨_, rfl⟩
  rw [← hW1]
  have hf : Fr [] wX W1 := by rw [hW1]; exact (Fr.refl _ _).alloc _
  have hbx' : Hid (W1.heap[wX.heap.size]? = some (.cells #[.int .i64 ep, .slice a1 sv.length q1, .slice a2 pt.length q2, .int .i64 tb] 26 (0, 0))) := Lib.hid (by rw [hW1]; exact heap_alloc_new wX _)
  clear hW1
  obtain ⟨k0, kz, kl⟩ := box hbx'.out
  replace hF' := Lib.hid (hF'.out.trans hf)
  replace hcf' := Lib.hid (hcf'.out.fr0 hf)
  replace hrb' := Lib.hid (hf.keep hrb'.out (by simp))
  obtain ⟨o0, oz, ol⟩ := box hrb'.out
  clear hf
  obtain ⟨a', c', he1, -, hl2, hat⟩ := hcf'.out.svs.at encI_len
  obtain ⟨rfl, -, rfl⟩ : a1 = a' ∧ sv.length = sv.length ∧ q1 = c' := by simpa using he1
  have hsn : sv ≠ [] := by simpa using hl0
  obtain ⟨g, off, rfl, -, hg, hcell⟩ := hat hsn
  unfold maxLen at hl2
  have hlz : ((sv.length : Int) == 0) = false := by simpa using hl0
  have hsz : sv.length ≤ q1 := by have := hcf'.out.svs; obtain ⟨_, _, e, h, _⟩ := this; simp at e; omega
  have hcI : W1.cell? ⟨g, off + i, none⟩ = some (.int .i64 N) := by have := hcell i N 0 _ hN'.out rfl; simpa using this
  have hcJ : W1.cell? ⟨g, off + j, none⟩ = some (.int .i64 M) := by have := hcell j M 0 _ hM'.out rfl; simpa using this
  clear hcell hat hsn he1
  have hcI' := Lib.hid hcI
  have hcJ' := Lib.hid hcJ
  clear hcI hcJ
  have hii : (i : Int) < sv.length := by omega
  have hi0 : (0 : Int) ≤ i := by omega
  have hai := hai'.out
  have Lo := fun p : Later W1 => (box (p.fr.keep hrb'.out (by simp))).1
  have Lk := fun p : Later W1 => (box (p.fr.keep hbx'.out (by simp))).1
  have Lc := fun p : Later W1 => p.cell hcI'.out
  refine wp_region_later (by kernel_rfl) (by kernel_rfl) ?_
  repeat (go_big_quiet_step (fail))
  refine wpQuiet_nil ?_
  intro w2 hw'
  have hf : Fr [] W1 w2 := by
    obtain ⟨p, rfl⟩ := hw'
    exact p.fr
  have hfw := hf
  clear hw' Lo Lk
  replace hF' := Lib.hid (hF'.out.trans hf)
  replace hcf' := Lib.hid (hcf'.out.fr0 hf)
  replace hrb' := Lib.hid (hf.keep hrb'.out (by simp))
  obtain ⟨o0, oz, ol⟩ := box hrb'.out
  replace hbx' := Lib.hid (hf.keep hbx'.out (by simp))
  obtain ⟨k0, kz, kl⟩ := box hbx'.out
  clear hf
  have hcJ2 : Hid (w2.cell? ⟨g, off + j, none⟩ = some (.int .i64 M)) := Lib.hid ((Later.mk w2 hfw).cell hcJ'.out)
  clear Lc hai
  go_upto_region 5 with (fail)
  have hjj : (j : Int) < sv.length := by omega
  have hj0 : (0 : Int) ≤ j := by omega
  have hbj := hbj'.out
  have Lo := fun p : Later w2 => (box (p.fr.keep hrb'.out (by simp))).1
  have Lk := fun p : Later w2 => (box (p.fr.keep hbx'.out (by simp))).1
  have Lc := fun p : Later w2 => p.cell hcJ2.out
  refine wp_region_later (by kernel_rfl) (by kernel_rfl) ?_
  repeat (go_big_quiet_step (fail))
  refine wpQuiet_nil ?_
  intro w3 hw'
  have hf : Fr [] w2 w3 := by
    obtain ⟨p, rfl⟩ := hw'
    exact p.fr
  clear hw' Lo Lk
  replace hF' := Lib.hid (hF'.out.trans hf)
  replace hcf' := Lib.hid (hcf'.out.fr0 hf)
  replace hrb' := Lib.hid (hf.keep hrb'.out (by simp))
  obtain ⟨o0, oz, ol⟩ := box hrb'.out
  replace hbx' := Lib.hid (hf.keep hbx'.out (by simp))
  obtain ⟨k0, kz, kl⟩ := box hbx'.out
  clear hf
  clear Lc hbj
  by_cases hfit : fitsP N M F T
  case neg =>
    obtain ⟨e, he, hr⟩ := hpl.2 hfit
    have hr' : Hid _ := Lib.hid hr
    unfold zeroCfg at hr'
    have heb : (e == 0) = false := by simpa using he
    have hec : (e != 0) = true := by simpa using he
    unfold fitsP at hfit
    clear hpl hcl hr he
    go_upto_region 7 with (fail)
    obtain ⟨W3, hW3⟩ : ∃ W3, W3 = w3.alloc (.cells #[.int .i64 3, .int .i64 N, .int .i64 M, .int .i64 F, .int .i64 T] 30) := ⟨_, rfl⟩
    rw [← hW3]
    have hf : Fr [] w3 W3 := by rw [hW3]; exact (Fr.refl _ _).alloc _
    have hpb' : Hid (W3.heap[w3.heap.size]? = some (.cells #[.int .i64 3, .int .i64 N, .int .i64 M, .int .i64 F, .int .i64 T] 30 (0, 0))) := Lib.hid (by rw [hW3]; exact heap_alloc_new w3 _)
    clear hW3
    obtain ⟨p0, pz, pl⟩ := box hpb'.out
    replace hF' := Lib.hid (hF'.out.trans hf)
    replace hcf' := Lib.hid (hcf'.out.fr0 hf)
    replace hrb' := Lib.hid (hf.keep hrb'.out (by simp))
    obtain ⟨o0, oz, ol⟩ := box hrb'.out
    replace hbx' := Lib.hid (hf.keep hbx'.out (by simp))
    obtain ⟨k0, kz, kl⟩ := box hbx'.out
    clear hf
    go_upto_region 8 with (first | (go_at_call 14; (with_reducible refine Calls.mono (apply_at (o := (0, 0, 0, 0, 0)) hcf'.out (hkin'.out.fr hF'.out (by simp)) (by omega) (by omega) hr'.out) ?_); rintro e wX ⟨b1, p1, b2, p2, rfl, hf, hcd⟩; dsimp only; have hcd' := Lib.hid hcd; replace hF' := Lib.hid (hF'.out.trans hf); replace hcf' := Lib.hid (hcf'.out.fr0 hf); replace hrb' := Lib.hid (hf.keep hrb'.out (by simp)); obtain ⟨o0, oz, ol⟩ := box hrb'.out; replace hbx' := Lib.hid (hf.keep hbx'.out (by simp)); obtain ⟨k0, kz, kl⟩ := box hbx'.out; replace hpb' := Lib.hid (hf.keep hpb'.out (by simp)); obtain ⟨p0, pz, pl⟩ := box hpb'.out; clear hf; clear hcd))
    dsimp only [List.length_nil]
    obtain ⟨W4, hW4⟩ : ∃ W4, W4 = wX.alloc (.cells #[.int .i64 0, .slice b1 0 p1, .slice b2 0 p2, .int .i64 0] 26) := ⟨_, rfl⟩
    rw [← hW4]
    have hf : Fr [] wX W4 := by rw [hW4]; exact (Fr.refl _ _).alloc _
    have hdx' : Hid (W4.heap[wX.heap.size]? = some (.cells #[.int .i64 0, .slice b1 0 p1, .slice b2 0 p2, .int .i64 0] 26 (0, 0))) := Lib.hid (by rw [hW4]; exact heap_alloc_new wX _)
    clear hW4
    obtain ⟨d0, dz, dl⟩ := box hdx'.out
    replace hF' := Lib.hid (hF'.out.trans hf)
    replace hcf' := Lib.hid (hcf'.out.fr0 hf)
    replace hcd' := Lib.hid (hcd'.out.fr0 hf)
    replace hrb' := Lib.hid (hf.keep hrb'.out (by simp))
    obtain ⟨o0, oz, ol⟩ := box hrb'.out
    replace hbx' := Lib.hid (hf.keep hbx'.out (by simp))
    obtain ⟨k0, kz, kl⟩ := box hbx'.out
    replace hpb' := Lib.hid (hf.keep hpb'.out (by simp))
    obtain ⟨p0, pz, pl⟩ := box hpb'.out
    clear hf
    by_cases f1 : 0 ≤ F
    · by_cases f2 : F < T
      · by_cases f3 : T ≤ 256
        · obtain rfl : N = M := by
            by_cases f4 : N = M
            · exact f4
            · exact absurd ⟨f1, f2, f3, f4⟩ hfit
          clear hfit
          go_wp2
          all_goals (go_ret; exact ⟨rfl, hF'.out⟩)
        · clear hfit
          go_wp2
          all_goals (go_ret; exact ⟨rfl, hF'.out⟩)
      · clear hfit
        go_wp2
        all_goals (go_ret; exact ⟨rfl, hF'.out⟩)
    · clear hfit
      go_wp2
      all_goals (go_ret; exact ⟨rfl, hF'.out⟩)
  obtain ⟨pt2, hr, hod, hpl2, hrr⟩ := hcl hfit
  have hr' := Lib.hid hr; have hrr' := Lib.hid hrr; have hod' := Lib.hid hod
  have hsm2 := ok_small hod
  dsimp only at hsm2
  obtain ⟨f1, f2, f3, f4⟩ := hfit
  have f5 : (N == M) = false := by simpa using f4
  have f6 : (N != M) = true := by simpa using f4
  clear hpl hcl hr hrr hod f4
  go_upto_region 7 with (fail)
  obtain ⟨W3, hW3⟩ : ∃ W3, W3 = w3.alloc (.cells #[.int .i64 3, .int .i64 N, .int .i64 M, .int .i64 F, .int .i64 T] 30) := ⟨_, rfl⟩
  rw [← hW3]
  have hf : Fr [] w3 W3 := by rw [hW3]; exact (Fr.refl _ _).alloc _
  have hpb' : Hid (W3.heap[w3.heap.size]? = some (.cells #[.int .i64 3, .int .i64 N, .int .i64 M, .int .i64 F, .int .i64 T] 30 (0, 0))) := Lib.hid (by rw [hW3]; exact heap_alloc_new w3 _)
  clear hW3
  obtain ⟨p0, pz, pl⟩ := box hpb'.out
  replace hF' := Lib.hid (hF'.out.trans hf)
  replace hcf' := Lib.hid (hcf'.out.fr0 hf)
  replace hrb' := Lib.hid (hf.keep hrb'.out (by simp))
  obtain ⟨o0, oz, ol⟩ := box hrb'.out
  replace hbx' := Lib.hid (hf.keep hbx'.out (by simp))
  obtain ⟨k0, kz, kl⟩ := box hbx'.out
  clear hf
  go_upto_region 8 with (first | (go_at_call 14; (with_reducible refine Calls.mono (apply_at (o := (0, 0, 0, 0, 0)) hcf'.out (hkin'.out.fr hF'.out (by simp)) (by omega) (by omega) hr'.out) ?_); rintro e wX ⟨b1, p1, b2, p2, rfl, hf, hcd⟩; dsimp only; have hcd' := Lib.hid hcd; replace hF' := Lib.hid (hF'.out.trans hf); replace hcf' := Lib.hid (hcf'.out.fr0 hf); replace hrb' := Lib.hid (hf.keep hrb'.out (by simp)); obtain ⟨o0, oz, ol⟩ := box hrb'.out; replace hbx' := Lib.hid (hf.keep hbx'.out (by simp)); obtain ⟨k0, kz, kl⟩ := box hbx'.out; replace hpb' := Lib.hid (hf.keep hpb'.out (by simp)); obtain ⟨p0, pz, pl⟩ := box hpb'.out; clear hf; clear hcd))
  obtain ⟨W4, hW4⟩ : ∃ W4, W4 = wX.alloc (.cells #[.int .i64 (ep + 1), .slice b1 sv.length p1, .slice b2 pt2.length p2, .int .i64 tb] 26) := ⟨_, rfl⟩
  rw [← hW4]
  have hf : Fr [] wX W4 := by rw [hW4]; exact (Fr.refl _ _).alloc _
  have hdx' : Hid (W4.heap[wX.heap.size]? = some (.cells #[.int .i64 (ep + 1), .slice b1 sv.length p1, .slice b2 pt2.length p2, .int .i64 tb] 26 (0, 0))) := Lib.hid (by rw [hW4]; exact heap_alloc_new wX _)
  clear hW4
  obtain ⟨d0, dz, dl⟩ := box hdx'.out
  replace hF' := Lib.hid (hF'.out.trans hf)
  replace hcf' := Lib.hid (hcf'.out.fr0 hf)
  replace hcd' := Lib.hid (hcd'.out.fr0 hf)
  replace hrb' := Lib.hid (hf.keep hrb'.out (by simp))
  obtain ⟨o0, oz, ol⟩ := box hrb'.out
  replace hbx' := Lib.hid (hf.keep hbx'.out (by simp))
  obtain ⟨k0, kz, kl⟩ := box hbx'.out
  replace hpb' := Lib.hid (hf.keep hpb'.out (by simp))
  obtain ⟨p0, pz, pl⟩ := box hpb'.out
  clear hf
  go_upto_region 14 with (fail)
  go_loopg [16] 256 (fun gk kv wr => ∃ k : Nat, k ≤ 256 ∧ gk = 256 - k ∧ kv = .int .i64 k ∧ Fr [] W4 wr)
  case atStart => exact ⟨0, Nat.zero_le _, rfl, rfl, Fr.refl _ _⟩
  case round =>
    obtain ⟨k, hk, hgk, rfl, hfr⟩ := hrel
    have hgk' := Lib.hid hgk
    have hG' : Hid (Fr [] W4 wr) := Lib.hid hfr
    have hf := hfr
    replace hF' := Lib.hid (hF'.out.trans hf)
    replace hcf' := Lib.hid (hcf'.out.fr0 hf)
    replace hcd' := Lib.hid (hcd'.out.fr0 hf)
    replace hrb' := Lib.hid (hf.keep hrb'.out (by simp))
    obtain ⟨o0, oz, ol⟩ := box hrb'.out
    replace hbx' := Lib.hid (hf.keep hbx'.out (by simp))
    obtain ⟨k0, kz, kl⟩ := box hbx'.out
    replace hpb' := Lib.hid (hf.keep hpb'.out (by simp))
    obtain ⟨p0, pz, pl⟩ := box hpb'.out
    replace hdx' := Lib.hid (hf.keep hdx'.out (by simp))
    obtain ⟨d0, dz, dl⟩ := box hdx'.out
    clear hf
    clear hgk hfr
    by_cases hlt : k < 256
    · obtain ⟨x, y, hD⟩ := where_ok hok'.out (b := k) (by omega) (by omega)
      obtain ⟨u, v, hwd, -, -, -, h3, hx⟩ := keeps_law (by rw [hr'.out]) hD
      rw [hr'.out] at hwd
      dsimp only at hwd
      have hD' := Lib.hid hD; have hwd' := Lib.hid hwd
      clear hD hwd
      by_cases e1 : F ≤ (k : Int)
      · by_cases e2 : (k : Int) < T
        · obtain ⟨rfl, rfl⟩ := h3 rfl ⟨e1, e2⟩
          clear hx h3
          go_wp2_with (first | (go_at_call 17; (first | with_reducible refine Calls.mono (where_at hcf'.out hok'.out hD'.out) ?_ | with_reducible refine Calls.mono (where_at hcd'.out hod'.out hwd'.out) ?_); rintro e wX ⟨rfl, hf⟩; replace hG' := Lib.hid (hG'.out.trans hf); replace hF' := Lib.hid (hF'.out.trans hf); replace hcf' := Lib.hid (hcf'.out.fr0 hf); replace hcd' := Lib.hid (hcd'.out.fr0 hf); replace hrb' := Lib.hid (hf.keep hrb'.out (by simp)); obtain ⟨o0, oz, ol⟩ := box hrb'.out; replace hbx' := Lib.hid (hf.keep hbx'.out (by simp)); obtain ⟨k0, kz, kl⟩ := box hbx'.out; replace hpb' := Lib.hid (hf.keep hpb'.out (by simp)); obtain ⟨p0, pz, pl⟩ := box hpb'.out; replace hdx' := Lib.hid (hf.keep hdx'.out (by simp)); obtain ⟨d0, dz, dl⟩ := box hdx'.out; clear hf))
          go_roundg (256 - (k + 1))
          case rel => exact ⟨k + 1, by omega, rfl, by go_num, hG'.out⟩
          case measure => rw [hgk'.out]; omega
        · obtain ⟨rfl, rfl⟩ := hx (by omega) (fun _ h => e2 h.2)
          clear hx h3
          go_wp2_with (first | (go_at_call 17; (first | with_reducible refine Calls.mono (where_at hcf'.out hok'.out hD'.out) ?_ | with_reducible refine Calls.mono (where_at hcd'.out hod'.out hwd'.out) ?_); rintro e wX ⟨rfl, hf⟩; replace hG' := Lib.hid (hG'.out.trans hf); replace hF' := Lib.hid (hF'.out.trans hf); replace hcf' := Lib.hid (hcf'.out.fr0 hf); replace hcd' := Lib.hid (hcd'.out.fr0 hf); replace hrb' := Lib.hid (hf.keep hrb'.out (by simp)); obtain ⟨o0, oz, ol⟩ := box hrb'.out; replace hbx' := Lib.hid (hf.keep hbx'.out (by simp)); obtain ⟨k0, kz, kl⟩ := box hbx'.out; replace hpb' := Lib.hid (hf.keep hpb'.out (by simp)); obtain ⟨p0, pz, pl⟩ := box hpb'.out; replace hdx' := Lib.hid (hf.keep hdx'.out (by simp)); obtain ⟨d0, dz, dl⟩ := box hdx'.out; clear hf))
          go_roundg (256 - (k + 1))
          case rel => exact ⟨k + 1, by omega, rfl, by go_num, hG'.out⟩
          case measure => rw [hgk'.out]; omega
      · obtain ⟨rfl, rfl⟩ := hx (by omega) (fun _ h => e1 h.1)
        clear hx h3
        go_wp2_with (first | (go_at_call 17; (first | with_reducible refine Calls.mono (where_at hcf'.out hok'.out hD'.out) ?_ | with_reducible refine Calls.mono (where_at hcd'.out hod'.out hwd'.out) ?_); rintro e wX ⟨rfl, hf⟩; replace hG' := Lib.hid (hG'.out.trans hf); replace hF' := Lib.hid (hF'.out.trans hf); replace hcf' := Lib.hid (hcf'.out.fr0 hf); replace hcd' := Lib.hid (hcd'.out.fr0 hf); replace hrb' := Lib.hid (hf.keep hrb'.out (by simp)); obtain ⟨o0, oz, ol⟩ := box hrb'.out; replace hbx' := Lib.hid (hf.keep hbx'.out (by simp)); obtain ⟨k0, kz, kl⟩ := box hbx'.out; replace hpb' := Lib.hid (hf.keep hpb'.out (by simp)); obtain ⟨p0, pz, pl⟩ := box hpb'.out; replace hdx' := Lib.hid (hf.keep hdx'.out (by simp)); obtain ⟨d0, dz, dl⟩ := box hdx'.out; clear hf))
        go_roundg (256 - (k + 1))
        case rel => exact ⟨k + 1, by omega, rfl, by go_num, hG'.out⟩
        case measure => rw [hgk'.out]; omega
    · obtain rfl : k = 256 := by omega
      go_upto_region 26 with (first | (go_at_call 14; (with_reducible refine Calls.mono (apply_at (o := (0, 0, 0, 0, 0)) hcd'.out (hkin'.out.fr hF'.out (by simp)) (by omega) (by omega) hrr'.out) ?_); rintro e wX ⟨b3, p3, b4, p4, rfl, hf, hcz⟩; dsimp only; have hcz' := Lib.hid hcz; replace hF' := Lib.hid (hF'.out.trans hf); replace hcf' := Lib.hid (hcf'.out.fr0 hf); replace hcd' := Lib.hid (hcd'.out.fr0 hf); replace hrb' := Lib.hid (hf.keep hrb'.out (by simp)); obtain ⟨o0, oz, ol⟩ := box hrb'.out; replace hbx' := Lib.hid (hf.keep hbx'.out (by simp)); obtain ⟨k0, kz, kl⟩ := box hbx'.out; replace hpb' := Lib.hid (hf.keep hpb'.out (by simp)); obtain ⟨p0, pz, pl⟩ := box hpb'.out; replace hdx' := Lib.hid (hf.keep hdx'.out (by simp)); obtain ⟨d0, dz, dl⟩ := box hdx'.out; clear hf; clear hcz))
      obtain ⟨W5, hW5⟩ : ∃ W5, W5 = wX.alloc (.cells #[.int .i64 (ep + 1 + 1), .slice b3 sv.length p3, .slice b4 pt2.length p4, .int .i64 tb] 26) := ⟨_, rfl⟩
      rw [← hW5]
      have hf : Fr [] wX W5 := by rw [hW5]; exact (Fr.refl _ _).alloc _
      have hzx' : Hid (W5.heap[wX.heap.size]? = some (.cells #[.int .i64 (ep + 1 + 1), .slice b3 sv.length p3, .slice b4 pt2.length p4, .int .i64 tb] 26 (0, 0))) := Lib.hid (by rw [hW5]; exact heap_alloc_new wX _)
      clear hW5
      obtain ⟨z0, zz, zl⟩ := box hzx'.out
      replace hF' := Lib.hid (hF'.out.trans hf)
      replace hcf' := Lib.hid (hcf'.out.fr0 hf)
      replace hcd' := Lib.hid (hcd'.out.fr0 hf)
      replace hcz' := Lib.hid (hcz'.out.fr0 hf)
      replace hrb' := Lib.hid (hf.keep hrb'.out (by simp))
      obtain ⟨o0, oz, ol⟩ := box hrb'.out
      replace hbx' := Lib.hid (hf.keep hbx'.out (by simp))
      obtain ⟨k0, kz, kl⟩ := box hbx'.out
      replace hpb' := Lib.hid (hf.keep hpb'.out (by simp))
      obtain ⟨p0, pz, pl⟩ := box hpb'.out
      replace hdx' := Lib.hid (hf.keep hdx'.out (by simp))
      obtain ⟨d0, dz, dl⟩ := box hdx'.out
      clear hf
      go_upto_region 28 with (first | (go_at_call 12; (with_reducible refine Calls.mono (theirs_at hcz'.out (by omega)) ?_); rintro e wX ⟨a5, q5, rfl, hf, hcw⟩; have hcw' := Lib.hid hcw; replace hF' := Lib.hid (hF'.out.trans hf); replace hcf' := Lib.hid (hcf'.out.fr0 hf); replace hcd' := Lib.hid (hcd'.out.fr0 hf); replace hcz' := Lib.hid (hcz'.out.fr0 hf); replace hrb' := Lib.hid (hf.keep hrb'.out (by simp)); obtain ⟨o0, oz, ol⟩ := box hrb'.out; replace hbx' := Lib.hid (hf.keep hbx'.out (by simp)); obtain ⟨k0, kz, kl⟩ := box hbx'.out; replace hpb' := Lib.hid (hf.keep hpb'.out (by simp)); obtain ⟨p0, pz, pl⟩ := box hpb'.out; replace hdx' := Lib.hid (hf.keep hdx'.out (by simp)); obtain ⟨d0, dz, dl⟩ := box hdx'.out; replace hzx' := Lib.hid (hf.keep hzx'.out (by simp)); obtain ⟨z0, zz, zl⟩ := box hzx'.out; clear hf; clear hcw))
      obtain ⟨W6, hW6⟩ : ∃ W6, W6 = wX.alloc (.cells #[.int .i64 (ep + 1), .slice b3 sv.length p3, .slice a5 pt2.length q5, .int .i64 tb] 37) := ⟨_, rfl⟩
      rw [← hW6]
      have hf : Fr [] wX W6 := by rw [hW6]; exact (Fr.refl _ _).alloc _
      have hwx' : Hid (W6.heap[wX.heap.size]? = some (.cells #[.int .i64 (ep + 1), .slice b3 sv.length p3, .slice a5 pt2.length q5, .int .i64 tb] 37 (0, 0))) := Lib.hid (by rw [hW6]; exact heap_alloc_new wX _)
      clear hW6
      obtain ⟨y0, yz, yl⟩ := box hwx'.out
      replace hF' := Lib.hid (hF'.out.trans hf)
      replace hcf' := Lib.hid (hcf'.out.fr0 hf)
      replace hcd' := Lib.hid (hcd'.out.fr0 hf)
      replace hcz' := Lib.hid (hcz'.out.fr0 hf)
      replace hcw' := Lib.hid (hcw'.out.fr0 hf)
      replace hrb' := Lib.hid (hf.keep hrb'.out (by simp))
      obtain ⟨o0, oz, ol⟩ := box hrb'.out
      replace hbx' := Lib.hid (hf.keep hbx'.out (by simp))
      obtain ⟨k0, kz, kl⟩ := box hbx'.out
      replace hpb' := Lib.hid (hf.keep hpb'.out (by simp))
      obtain ⟨p0, pz, pl⟩ := box hpb'.out
      replace hdx' := Lib.hid (hf.keep hdx'.out (by simp))
      obtain ⟨d0, dz, dl⟩ := box hdx'.out
      replace hzx' := Lib.hid (hf.keep hzx'.out (by simp))
      obtain ⟨z0, zz, zl⟩ := box hzx'.out
      clear hf
      have hwr : IntKind.i64.wrap ((pt.length : Int) + 2) = (pt.length : Int) + 2 := IntWalk.i64_in _ (by omega)
      have hle : (pt2.length : Int) ≤ (pt.length : Int) + 2 := by omega
      go_region_with (first | (go_at_call 12; (with_reducible refine Calls.mono (theirs_at (hcd'.out.fr0 (Fr.refl [] _).drew) (by omega)) ?_); rintro e wX ⟨a6, q6, rfl, hf0, hct⟩; have hf := ((Fr.refl [] _).drew).trans hf0; have hct' := Lib.hid hct; replace hF' := Lib.hid (hF'.out.trans hf); replace hcf' := Lib.hid (hcf'.out.fr0 hf); replace hcd' := Lib.hid (hcd'.out.fr0 hf); replace hcz' := Lib.hid (hcz'.out.fr0 hf); replace hcw' := Lib.hid (hcw'.out.fr0 hf); replace hrb' := Lib.hid (hf.keep hrb'.out (by simp)); obtain ⟨o0, oz, ol⟩ := box hrb'.out; replace hbx' := Lib.hid (hf.keep hbx'.out (by simp)); obtain ⟨k0, kz, kl⟩ := box hbx'.out; replace hpb' := Lib.hid (hf.keep hpb'.out (by simp)); obtain ⟨p0, pz, pl⟩ := box hpb'.out; replace hdx' := Lib.hid (hf.keep hdx'.out (by simp)); obtain ⟨d0, dz, dl⟩ := box hdx'.out; replace hzx' := Lib.hid (hf.keep hzx'.out (by simp)); obtain ⟨z0, zz, zl⟩ := box hzx'.out; replace hwx' := Lib.hid (hf.keep hwx'.out (by simp)); obtain ⟨y0, yz, yl⟩ := box hwx'.out; clear hf; clear hct hf0) | (go_at_call 16; (with_reducible refine Calls.mono (same_at (CfgIs.ep (ep' := ep + 1) hcw'.out) hct'.out (by omega) (by omega)) ?_); rintro e wX ⟨rfl, hf⟩; replace hF' := Lib.hid (hF'.out.trans hf); replace hcf' := Lib.hid (hcf'.out.fr0 hf); replace hcd' := Lib.hid (hcd'.out.fr0 hf); replace hcz' := Lib.hid (hcz'.out.fr0 hf); replace hcw' := Lib.hid (hcw'.out.fr0 hf); replace hrb' := Lib.hid (hf.keep hrb'.out (by simp)); obtain ⟨o0, oz, ol⟩ := box hrb'.out; replace hbx' := Lib.hid (hf.keep hbx'.out (by simp)); obtain ⟨k0, kz, kl⟩ := box hbx'.out; replace hpb' := Lib.hid (hf.keep hpb'.out (by simp)); obtain ⟨p0, pz, pl⟩ := box hpb'.out; replace hdx' := Lib.hid (hf.keep hdx'.out (by simp)); obtain ⟨d0, dz, dl⟩ := box hdx'.out; replace hzx' := Lib.hid (hf.keep hzx'.out (by simp)); obtain ⟨z0, zz, zl⟩ := box hzx'.out; replace hwx' := Lib.hid (hf.keep hwx'.out (by simp)); obtain ⟨y0, yz, yl⟩ := box hwx'.out; clear hf))
      all_goals (go_wp2; go_ret)
      all_goals exact ⟨by kernel_rfl, hF'.out⟩
end Go.Proofs.YthhpamaeibjpaaaDoor
end
