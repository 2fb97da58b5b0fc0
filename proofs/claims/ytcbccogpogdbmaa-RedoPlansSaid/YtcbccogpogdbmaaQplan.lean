/- RedoPlans, walked. -/
import Derived.Test.YtcbccogpogdbmaaPl2
import Derived.Test.YtcbccogpogdbmaaSh
import Derived.Test.YtcbccogpogdbmaaRelC
namespace Go.Proofs.Ytcbccogpogdbmaa
open Go.RowKit Go.Maps Go.Lib Go.Sort
attribute [local go_sem ↓] Go.wp_at_zero Go.wp_at_succ
theorem infoB : (Try.prog.info? 72).map (fun i => (i.zero, i.size, i.bytes)) = some (some (.agg #[.int .i64 0, .int .i64 0, .string ⟨#[]⟩]), 3, 32) := by kernel_rfl
theorem one_encB (x : Blk) : ∀ u ∈ encB x, u.oneCell' = true := by intro v hv; simp [encB] at hv; rcases hv with rfl | rfl | rfl <;> rfl
theorem SliceIs.cap_le {α : Type} {enc : α → List Value} {n c : Nat} {a : Option Addr} {w : World} {B : Nat → Prop} {S : List α} (h : SliceIs w B enc (.slice a n c) S) : c ≤ maxLen := by
  obtain ⟨a', c', e, h1, h2, -⟩ := h
  injection e with e1 e2 e3
  omega
theorem own_shape {w : World} {base k n c : Nat} {e : TypeId} {a : Option Addr} {xs : List Value} (h : w.ownsRow base e k (.slice a n c) n xs) : (n = 0 ∧ a = none ∧ c = 0) ∨ ∃ g, a = some ⟨g, 0, none⟩ := by
  rcases h.2 with ⟨hv, hx⟩ | ⟨g, cap, cur, hv, -⟩
  · injection hv with e1 e2 e3
    exact .inl ⟨e2, e1, e3⟩
  · injection hv with e1 e2 e3
    exact .inr ⟨g, e1⟩
def nowP (P : List Rec) (k j : Nat) : List Blk := ((P.take k).drop j).reverse.map blkOf
theorem now_succ {P : List Rec} {k j : Nat} {x : Rec} (hj : j < k) (h : P[j]? = some x) : nowP P k j = nowP P k (j + 1) ++ [blkOf x] := by
  unfold nowP
  have h1 : (P.take k)[j]? = some x := by rw [List.getElem?_take_of_lt hj]; exact h
  have hl := (List.getElem?_eq_some_iff.1 h1).1
  have he := (List.getElem?_eq_some_iff.1 h1).2
  rw [List.drop_eq_getElem_cons hl, he]
  simp
theorem now_end (P : List Rec) (k : Nat) : nowP P k k = [] := by unfold nowP; rw [List.drop_of_length_le (by rw [List.length_take]; omega)]; rfl
theorem now_len (P : List Rec) (k j : Nat) : (nowP P k j).length ≤ k := by unfold nowP; simp; omega
theorem rest_is (L : List Rec) (Hs : List Blk) (k : Nat) : planF (verP (nowP (planF (verP Hs) L) k 0 ++ Hs)) L = (planF (verP Hs) L).drop k := by
  unfold nowP
  rw [List.drop_zero, ver_done]
  exact plan_rest L _ k
set_option maxRecDepth 100000 in
set_option maxHeartbeats 16000000 in
set_option linter.constructorNameAsVariable false in
theorem plans_walk {B C : Nat → Prop} (v : Value) (L : List Rec) (u : Value) (Hs : List Blk) (n8 : Int) (w : World) (h : SliceIs w B encR v L) (h2 : SliceIs w C encB u Hs) (h0 : 0 ≤ n8) (h1 : n8 ≤ 255) :
    Calls Try.prog 8 #[v, u, .int .u8 n8] w fun e w' => e = .returned (.bool true) ∧ Fr [] w w' := by
  have hF' : Hid (Fr [] w w) := Lib.hid (Fr.refl _ _)
  have hLs' := Lib.hid h; have hHs' := Lib.hid h2
  obtain ⟨a, cap, rfl, hc1, hc2, -⟩ := h.at encR_len
  obtain ⟨b, cap2, rfl, hd1, hd2, -⟩ := h2.at encB_len
  clear h h2
  obtain ⟨m, rfl⟩ := Int.eq_ofNat_of_zero_le h0
  by_cases hl60 : 60 < L.length
  · go_enter Try.func8, Try.ntmps8
    go_wp2_with (first | (go_at_call 11; refine (shown_any _).mono ?_; rintro e wX ⟨rfl, hf⟩))
    go_ret
    exact ⟨rfl, hf⟩
  · by_cases hh60 : 60 < Hs.length
    · go_enter Try.func8, Try.ntmps8
      go_wp2_with (first | (go_at_call 11; refine (shown_any _).mono ?_; rintro e wX ⟨rfl, hf⟩))
      go_ret
      exact ⟨rfl, hf⟩
    · obtain ⟨P, hP⟩ : ∃ P, P = planF (verP Hs) L := ⟨_, rfl⟩
      have hPl : P.length ≤ 60 := by rw [hP]; exact Nat.le_trans (plan_len _ _) (by omega)
      have hrs := fun k => rest_is L Hs k
      rw [← hP] at hrs
      have hP' := Lib.hid hP; have hrs' := Lib.hid hrs
      clear hP hrs
      have hq' : Hid True := Lib.hid trivial
      go_enter Try.func8, Try.ntmps8
      go_upto_region 6 with (first
        | (go_at_call 11; refine (shown_any _).mono ?_; rintro e wX ⟨rfl, hf⟩; replace hLs' := Lib.hid (hLs'.out.fr hf (by simp)); replace hHs' := Lib.hid (hHs'.out.fr hf (by simp)); replace hF' := Lib.hid (hF'.out.trans hf); clear hf)
        | (go_at_call 29; have hpl := plan_any _ _ L Hs _ hLs'.out hHs'.out (by omega) (by omega); rw [← hP'.out] at hpl; refine hpl.mono ?_; rintro e wX ⟨pa, pc, rfl, hf, ho⟩; replace hLs' := Lib.hid (hLs'.out.fr hf (by simp)); replace hHs' := Lib.hid (hHs'.out.fr hf (by simp)); replace hF' := Lib.hid (hF'.out.trans hf); have hcs' := Lib.hid (own_shape ho); have hPs' := Lib.hid ((SliceIs.of_owns ho rfl).imp (B' := fun _ => True) (fun _ _ _ => trivial)); have hpcm := hPs'.out.cap_le; unfold maxLen at hpcm; clear hf ho)
        | (go_at_call 21; (first | with_reducible refine Calls.mono (theirs_any _ P _ hPs'.out (by omega)) ?_ | with_reducible refine Calls.mono (theirs_any _ L _ hLs'.out (by omega)) ?_); rintro e wX ⟨a3, c3, rfl, hf, ho⟩; replace hLs' := Lib.hid (hLs'.out.fr hf (by simp)); replace hHs' := Lib.hid (hHs'.out.fr hf (by simp)); replace hF' := Lib.hid (hF'.out.trans hf); replace hPs' := Lib.hid (hPs'.out.fr hf (by simp)); (try (have hp1' := Lib.hid (hq'.out.fr hf (by simp)))); replace hq' := Lib.hid (SliceIs.of_owns ho rfl); clear hf ho)
        | (go_at_call 30; have hpl := rplan_any _ _ L Hs _ hq'.out hHs'.out (by omega) (by omega); rw [← hP'.out] at hpl; refine hpl.mono ?_; rintro e wX ⟨ra, rc, rfl, hf, ho⟩; replace hLs' := Lib.hid (hLs'.out.fr hf (by simp)); replace hHs' := Lib.hid (hHs'.out.fr hf (by simp)); replace hF' := Lib.hid (hF'.out.trans hf); replace hPs' := Lib.hid (hPs'.out.fr hf (by simp)); replace hp1' := Lib.hid (hp1'.out.fr hf (by simp)); have hr1' := Lib.hid (SliceIs.of_owns ho rfl); clear hf ho)
        | (go_at_call 20; refine (same_any _ _ P _ hp1'.out hr1'.out (by omega)).mono ?_; rintro e wX ⟨rfl, hf⟩; replace hLs' := Lib.hid (hLs'.out.fr hf (by simp)); replace hHs' := Lib.hid (hHs'.out.fr hf (by simp)); replace hF' := Lib.hid (hF'.out.trans hf); replace hPs' := Lib.hid (hPs'.out.fr hf (by simp)); clear hf))
      clear hq' hp1' hr1'
      by_cases hp0 : P.length = 0
      · have b0 : decide ((0 : Int) < (P.length : Int)) = false := by simp [hp0]
        have b1 : decide (0 < P.length) = false := by simp [hp0]
        obtain ⟨kk, hkk⟩ : ∃ kk : Nat, kk = 0 := ⟨0, rfl⟩
        have hkl : kk ≤ P.length := by omega
        have hkk' := Lib.hid hkk
        clear hkk hp0
        go_upto_region 9 with (fail)
        clear b0 b1
        obtain ⟨V, hV⟩ : ∃ V, V = wX.alloc (.cells #[] 72) := ⟨_, rfl⟩
        have hFV : Fr [] wX V := by rw [hV]; exact (Fr.refl _ _).alloc _
        have hown0 : V.ownsRow wX.heap.size 72 3 (.slice (some ⟨wX.heap.size, 0, none⟩) ([] : List Blk).length 0) ([] : List Blk).length (([] : List Blk).flatMap encB) := by
          rw [hV]; exact World.ownsRow_made wX #[] 0 (Nat.le_refl _) (Nat.zero_le _) rfl
        have hV' := Lib.hid hV; have hFV' := Lib.hid hFV; have hown0' := Lib.hid hown0
        clear hV hFV hown0
        go_wp2
        rw [← hV'.out]
        go_loopg [9, 10] kk (fun gk nv iv wr => ∃ (j : Nat) (pa9 : Option Addr) (pc9 : Nat), j ≤ kk ∧ gk = j ∧ iv = .int .i64 ((j : Int) - 1) ∧ nv = .slice pa9 (nowP P kk j).length pc9 ∧ wr.ownsRow wX.heap.size 72 3 (.slice pa9 (nowP P kk j).length pc9) (nowP P kk j).length ((nowP P kk j).flatMap encB) ∧ Fr [] wX wr)
        case atStart => exact ⟨kk, some ⟨wX.heap.size, 0, none⟩, 0, Nat.le_refl _, rfl, by first | rfl | (rw [hkk'.out]; rfl), by rw [now_end]; rfl, by rw [now_end]; exact hown0'.out, hFV'.out⟩
        case round =>
          obtain ⟨j, pa9, pc9, hj, hgk, rfl, rfl, hown, hfr⟩ := hrel
          have hgk' := Lib.hid hgk; have hown' := Lib.hid hown; have hfr' := Lib.hid hfr
          have hzr := hfr.size
          have hnl := now_len P kk j
          have hcw := own_shape hown
          have hob' := Lib.hid hown.lt
          clear hgk hown hfr
          cases j with
          | succ j =>
            rw [show (((j + 1 : Nat) : Int) - 1) = (j : Int) from by omega]
            obtain ⟨x, hx⟩ : ∃ x, P[j]? = some x := ⟨_, List.getElem?_eq_getElem (by omega)⟩
            have hns := Lib.hid (now_succ (k := kk) (show j < kk by omega) hx)
            obtain ⟨N, hN⟩ : ∃ N, N = nowP P kk (j + 1) := ⟨_, rfl⟩
            rw [← hN] at hns hown' hnl hcw hob' ⊢
            clear hN
            obtain ⟨gx, ox, rfl, hgx, xat⟩ := (hPs'.out.fr hfr'.out (by simp)).cells2 encR_len (by intro h; rw [h] at hx; simp at hx)
            obtain ⟨x0, x1, x2, x3⟩ := x
            have k1 := xat j _ 1 _ hx rfl
            have k2 := xat j _ 2 _ hx rfl
            have k3 := xat j _ 3 _ hx rfl
            simp only [← Nat.add_assoc] at k1 k2 k3
            have lk := lt_of_cell k1
            obtain ⟨U, hU⟩ : ∃ U, U = wr := ⟨_, rfl⟩
            rw [← hU] at k1 k2 k3 lk hown' hfr' hzr ⊢
            clear xat hx hcw hU
            go_upto_region 13 with (fail)
            refine wp_region_relC 18 (fun w w' => Fr [] w w') (fun w w' => w = w') (by kernel_rfl) (by kernel_rfl) (by kernel_rfl) (fun h k => h.trans k) (Fr.refl [] _).drew (fun h k => h.trans k) (fun _ => rfl) ?_
            simp only [List.take_succ_cons, List.take_zero, List.drop_succ_cons, List.drop_zero]
            iterate 17
              apply RelW.still
              · intro s' W hX
                have j1 := hX.at0 k1
                have j2 := hX.at0 k2
                have j3 := hX.at0 k3
                have jl := hX.size
                clear hX
                go_wp2
                refine ⟨rfl, rfl, Fr.refl _ _, ?_⟩
                simp only [slotOf, List.getElem?_toArray, List.getElem?_cons_succ, List.getElem?_cons_zero, Option.getD_some]
                first | rfl | done
              · intro s'
                simp only [Act.put, List.setIfInBounds_toArray, List.set_cons_succ, List.set_cons_zero]
                rfl
            apply RelW.owes (fun v W => ∃ g, v = .slice (some ⟨g, 0, none⟩) 1 1 ∧ W.heap[g]? = some (.cells #[.int .i64 x1, .int .i64 x2, .string x3] 72 (0, 0)))
            · rintro v u u' hf ⟨g, rfl, hg⟩
              exact ⟨g, rfl, hf.keep hg (by simp)⟩
            · intro s' W hX hd
              clear hd hX
              go_wp2
              refine ⟨rfl, rfl, (Fr.refl [] W).alloc _, ?_⟩
              simp only [slotOf, List.getElem?_toArray, List.getElem?_cons_succ, List.getElem?_cons_zero, Option.getD_some]
              exact ⟨_, rfl, heap_alloc_new W _⟩
            · intro s'
              simp only [Act.put, List.setIfInBounds_toArray, List.set_cons_succ, List.set_cons_zero, Nat.zero_add, Nat.reduceAdd]
              rfl
            intro s' W hX hall
            dsimp only
            simp only [List.nil_append, List.cons_append, allPhi, Nat.zero_add, Nat.reduceAdd] at hall
            obtain ⟨-, -, -, -, -, -, -, -, -, -, -, -, -, -, -, -, -, ⟨g8, hg1, hg2⟩, -⟩ := hall
            generalize s' 17 = v17 at hg1 ⊢
            subst hg1
            have hg2' := Lib.hid hg2; have hX' := Lib.hid hX
            have hWz := hX.size
            have hoW' := Lib.hid (owns_fr2 hown'.out hX (by simp))
            clear hg2 hX
            go_wp2_with (first | (at_builtin; refine wpList_push_keep W rfl _ _ 68 rfl wX.heap.size 72 Try.underlying68 infoB rfl (by omega) (.slice pa9 N.length pc9) N rfl hoW'.out (x1, x2, x3) g8 rfl hg2'.out rfl encB_len (one_encB _) (by omega) (by omega) (by omega) ?_; intro g9 c9 w9 ho9 hf9 hk9 hp9 hat9; have hat9' := Lib.hid hat9; have ho9' := Lib.hid ho9; have hf9' := Lib.hid hf9; clear ho9 hf9 hk9 hp9 hat9))
            try (refine ⟨rfl, rfl, ?_⟩)
            unfold RelRest
            apply RelW.still
            · rintro s' W rfl
              go_wp2
              refine ⟨rfl, rfl, rfl, ?_⟩
              simp only [slotOf, List.getElem?_toArray, List.getElem?_cons_succ, List.getElem?_cons_zero, Option.getD_some]
              first | rfl | done
            · intro s'
              simp only [Act.put, List.setIfInBounds_toArray, List.set_cons_succ, List.set_cons_zero]
              rfl
            rintro s' W rfl _
            go_wp2
            go_roundg j
            case rel =>
              have e0 : nowP P kk j = N ++ [(x1, x2, x3)] := hns.out
              have e1 : (N ++ [(x1, x2, x3)]).length = N.length + 1 := by simp
              have h9 := ho9'.out
              rw [e1] at h9
              exact ⟨j, some ⟨g9, 0, none⟩, c9, by omega, rfl, rfl, by rw [e0, e1], by rw [e0, e1]; exact h9, (hfr'.out.trans hX'.out).andThen hf9'.out (fun t ht => .inr (hob'.out t (by simpa using ht)).1)⟩
            case measure => rw [hgk'.out]; omega
          | zero =>
            rw [show (((0 : Nat) : Int) - 1) = -1 from rfl]
            have hrk := hrs'.out kk
            obtain ⟨N, hN⟩ : ∃ N, N = nowP P kk 0 := ⟨_, rfl⟩
            rw [← hN] at hown' hnl hcw hrk hob' ⊢
            have hrk' := Lib.hid hrk
            have hHr' := Lib.hid (hHs'.out.fr hfr'.out (by simp))
            clear hN hgk' hrk hcw
            go_upto_region 16 with (first
              | (at_builtin; refine wpList_more _ rfl _ _ 68 rfl wX.heap.size 72 Try.underlying68 infoB rfl (by omega) (.slice pa9 N.length pc9) N rfl hown'.out (.slice b Hs.length cap2) Hs rfl hHr'.out encB_len one_encB (by omega) (by omega) (by omega) ?_; intro v' w7 hown7 hf7 hb7; obtain ⟨na, nc, rfl, -, -⟩ := (SliceIs.of_owns hown7 rfl).at encB_len; have hF7' := Lib.hid (hfr'.out.andThen hf7 (fun t ht => .inr (hob'.out t (by simpa using ht)).1)); have hs7 := SliceIs.of_owns hown7 rfl; rw [List.length_append] at hs7; have hown7' := Lib.hid hs7; clear hown7 hf7 hb7 hs7)
              | (go_at_call 29; have hpl := plan_any _ _ L (N ++ Hs) _ (hLs'.out.fr hF7'.out (by simp)) hown7'.out (by omega) (by simp; omega); rw [hrk'.out, List.length_drop] at hpl; refine hpl.mono ?_; rintro e w8 ⟨ra, rc, rfl, hf8, ho8⟩; have hF8' := Lib.hid (hF7'.out.trans hf8); have hr8' := Lib.hid (SliceIs.of_owns ho8 (by simp)); clear hf8 ho8))
            have hP8' := Lib.hid (hPs'.out.fr hF8'.out (by simp))
            have hdd : SliceIs w8 (fun _ => True) encR (.slice pa P.length pc) (P.drop kk) := by rw [hkk'.out, List.drop_zero]; exact hP8'.out
            have hdd' := Lib.hid hdd
            clear hdd
            have hcs := hcs'.out
            clear hcs'
            rcases hcs with ⟨hn0, rfl, rfl⟩ | ⟨g, rfl⟩
            · clear hn0
              refine wp_region_rel 6 (fun w w' => Fr [] w w') (by kernel_rfl) (by kernel_rfl) (by kernel_rfl) (fun h k => h.trans k) (Fr.refl [] _).drew ?_
              simp only [List.take_succ_cons, List.take_zero, List.drop_succ_cons, List.drop_zero]
              apply RelW.still
              · intro s' W hX
                clear hX
                go_wp2
                refine ⟨rfl, rfl, Fr.refl _ _, ?_⟩
                simp only [slotOf, List.getElem?_toArray, List.getElem?_cons_succ, List.getElem?_cons_zero, Option.getD_some]
                first | rfl | done
              · intro s'
                simp only [Act.put, List.setIfInBounds_toArray, List.set_cons_succ, List.set_cons_zero]
                rfl
              apply RelW.owes (fun v W => SliceIs W (fun _ => True) encR v (P.drop kk))
              · exact fun _ _ _ hf h => h.fr hf (by simp)
              · intro s' W hX hd
                clear hd
                go_wp2_with (first | (go_at_call 21; refine (theirs_any _ (P.drop kk) _ (hr8'.out.fr hX (by simp)) (by simp; omega)).mono ?_; rintro e w9 ⟨a9, c9, rfl, hf9, ho9⟩; have hf9' := Lib.hid hf9; have ho9' := Lib.hid ho9; clear hf9 ho9))
                refine ⟨rfl, rfl, hf9'.out, ?_⟩
                simp only [slotOf, List.getElem?_toArray, List.getElem?_cons_succ, List.getElem?_cons_zero, Option.getD_some]
                have h8 := (SliceIs.of_owns ho9'.out rfl).imp (B' := fun _ => True) (fun _ _ _ => trivial)
                first | exact h8 | (rw [List.length_drop] at h8; exact h8)
              · intro s'
                simp only [Act.put, List.setIfInBounds_toArray, List.set_cons_succ, List.set_cons_zero, Nat.zero_add]
                rfl
              apply RelW.still
              · intro s' W hX
                clear hX
                go_wp2
                refine ⟨rfl, rfl, Fr.refl _ _, ?_⟩
                simp only [slotOf, List.getElem?_toArray, List.getElem?_cons_succ, List.getElem?_cons_zero, Option.getD_some]
                first | rfl | done
              · intro s'
                simp only [Act.put, List.setIfInBounds_toArray, List.set_cons_succ, List.set_cons_zero]
                rfl
              apply RelW.still
              · intro s' W hX
                clear hX
                go_wp2
                refine ⟨rfl, rfl, Fr.refl _ _, ?_⟩
                simp only [slotOf, List.getElem?_toArray, List.getElem?_cons_succ, List.getElem?_cons_zero, Option.getD_some]
                first | rfl | done
              · intro s'
                simp only [Act.put, List.setIfInBounds_toArray, List.set_cons_succ, List.set_cons_zero]
                rfl
              apply RelW.still
              · intro s' W hX
                clear hX
                go_wp2
                refine ⟨rfl, rfl, Fr.refl _ _, ?_⟩
                simp only [slotOf, List.getElem?_toArray, List.getElem?_cons_succ, List.getElem?_cons_zero, Option.getD_some]
                first | rfl | done
              · intro s'
                simp only [Act.put, List.setIfInBounds_toArray, List.set_cons_succ, List.set_cons_zero]
                rfl
              apply RelW.owes (fun v W => SliceIs W (fun _ => True) encR v (P.drop kk))
              · exact fun _ _ _ hf h => h.fr hf (by simp)
              · intro s' W hX hd
                clear hd
                go_wp2_with (first | (go_at_call 21; refine (theirs_any _ (P.drop kk) _ (hdd'.out.fr hX (by simp)) (by simp; omega)).mono ?_; rintro e w9 ⟨a9, c9, rfl, hf9, ho9⟩; have hf9' := Lib.hid hf9; have ho9' := Lib.hid ho9; clear hf9 ho9))
                refine ⟨rfl, rfl, hf9'.out, ?_⟩
                simp only [slotOf, List.getElem?_toArray, List.getElem?_cons_succ, List.getElem?_cons_zero, Option.getD_some]
                have h8 := (SliceIs.of_owns ho9'.out rfl).imp (B' := fun _ => True) (fun _ _ _ => trivial)
                first | exact h8 | (rw [List.length_drop] at h8; exact h8)
              · intro s'
                simp only [Act.put, List.setIfInBounds_toArray, List.set_cons_succ, List.set_cons_zero, Nat.zero_add, Nat.reduceAdd]
                rfl
              intro s' W hX hall
              dsimp only
              simp only [List.nil_append, List.cons_append, allPhi, Nat.zero_add, Nat.reduceAdd] at hall
              obtain ⟨-, q1, -, -, -, q2, -⟩ := hall
              generalize s' 1 = v1 at q1 ⊢
              generalize s' 5 = v5 at q2 ⊢
              have q1' := Lib.hid q1; have q2' := Lib.hid q2; have hXf := Lib.hid hX
              clear q1 q2 hX
              go_wp2_with (first | (go_at_call 20; refine (same_any _ _ (P.drop kk) _ q1'.out q2'.out (by simp; omega)).mono ?_; rintro e w9 ⟨rfl, hf9⟩; have hf9' := Lib.hid hf9; clear hf9))
              go_ret
              exact ⟨rfl, hF'.out.trans (hF8'.out.trans (hXf.out.trans hf9'.out))⟩
            · skip
              refine wp_region_rel 6 (fun w w' => Fr [] w w') (by kernel_rfl) (by kernel_rfl) (by kernel_rfl) (fun h k => h.trans k) (Fr.refl [] _).drew ?_
              simp only [List.take_succ_cons, List.take_zero, List.drop_succ_cons, List.drop_zero]
              apply RelW.still
              · intro s' W hX
                clear hX
                go_wp2
                refine ⟨rfl, rfl, Fr.refl _ _, ?_⟩
                simp only [slotOf, List.getElem?_toArray, List.getElem?_cons_succ, List.getElem?_cons_zero, Option.getD_some]
                first | rfl | done
              · intro s'
                simp only [Act.put, List.setIfInBounds_toArray, List.set_cons_succ, List.set_cons_zero]
                rfl
              apply RelW.owes (fun v W => SliceIs W (fun _ => True) encR v (P.drop kk))
              · exact fun _ _ _ hf h => h.fr hf (by simp)
              · intro s' W hX hd
                clear hd
                go_wp2_with (first | (go_at_call 21; refine (theirs_any _ (P.drop kk) _ (hr8'.out.fr hX (by simp)) (by simp; omega)).mono ?_; rintro e w9 ⟨a9, c9, rfl, hf9, ho9⟩; have hf9' := Lib.hid hf9; have ho9' := Lib.hid ho9; clear hf9 ho9))
                refine ⟨rfl, rfl, hf9'.out, ?_⟩
                simp only [slotOf, List.getElem?_toArray, List.getElem?_cons_succ, List.getElem?_cons_zero, Option.getD_some]
                have h8 := (SliceIs.of_owns ho9'.out rfl).imp (B' := fun _ => True) (fun _ _ _ => trivial)
                first | exact h8 | (rw [List.length_drop] at h8; exact h8)
              · intro s'
                simp only [Act.put, List.setIfInBounds_toArray, List.set_cons_succ, List.set_cons_zero, Nat.zero_add]
                rfl
              apply RelW.still
              · intro s' W hX
                clear hX
                go_wp2
                refine ⟨rfl, rfl, Fr.refl _ _, ?_⟩
                simp only [slotOf, List.getElem?_toArray, List.getElem?_cons_succ, List.getElem?_cons_zero, Option.getD_some]
                first | rfl | done
              · intro s'
                simp only [Act.put, List.setIfInBounds_toArray, List.set_cons_succ, List.set_cons_zero]
                rfl
              apply RelW.still
              · intro s' W hX
                clear hX
                go_wp2
                refine ⟨rfl, rfl, Fr.refl _ _, ?_⟩
                simp only [slotOf, List.getElem?_toArray, List.getElem?_cons_succ, List.getElem?_cons_zero, Option.getD_some]
                first | rfl | done
              · intro s'
                simp only [Act.put, List.setIfInBounds_toArray, List.set_cons_succ, List.set_cons_zero]
                rfl
              apply RelW.still
              · intro s' W hX
                clear hX
                go_wp2
                refine ⟨rfl, rfl, Fr.refl _ _, ?_⟩
                simp only [slotOf, List.getElem?_toArray, List.getElem?_cons_succ, List.getElem?_cons_zero, Option.getD_some]
                first | rfl | done
              · intro s'
                simp only [Act.put, List.setIfInBounds_toArray, List.set_cons_succ, List.set_cons_zero]
                rfl
              apply RelW.owes (fun v W => SliceIs W (fun _ => True) encR v (P.drop kk))
              · exact fun _ _ _ hf h => h.fr hf (by simp)
              · intro s' W hX hd
                clear hd
                go_wp2_with (first | (go_at_call 21; refine (theirs_any _ (P.drop kk) _ (hdd'.out.fr hX (by simp)) (by simp; omega)).mono ?_; rintro e w9 ⟨a9, c9, rfl, hf9, ho9⟩; have hf9' := Lib.hid hf9; have ho9' := Lib.hid ho9; clear hf9 ho9))
                refine ⟨rfl, rfl, hf9'.out, ?_⟩
                simp only [slotOf, List.getElem?_toArray, List.getElem?_cons_succ, List.getElem?_cons_zero, Option.getD_some]
                have h8 := (SliceIs.of_owns ho9'.out rfl).imp (B' := fun _ => True) (fun _ _ _ => trivial)
                first | exact h8 | (rw [List.length_drop] at h8; exact h8)
              · intro s'
                simp only [Act.put, List.setIfInBounds_toArray, List.set_cons_succ, List.set_cons_zero, Nat.zero_add, Nat.reduceAdd]
                rfl
              intro s' W hX hall
              dsimp only
              simp only [List.nil_append, List.cons_append, allPhi, Nat.zero_add, Nat.reduceAdd] at hall
              obtain ⟨-, q1, -, -, -, q2, -⟩ := hall
              generalize s' 1 = v1 at q1 ⊢
              generalize s' 5 = v5 at q2 ⊢
              have q1' := Lib.hid q1; have q2' := Lib.hid q2; have hXf := Lib.hid hX
              clear q1 q2 hX
              go_wp2_with (first | (go_at_call 20; refine (same_any _ _ (P.drop kk) _ q1'.out q2'.out (by simp; omega)).mono ?_; rintro e w9 ⟨rfl, hf9⟩; have hf9' := Lib.hid hf9; clear hf9))
              go_ret
              exact ⟨rfl, hF'.out.trans (hF8'.out.trans (hXf.out.trans hf9'.out))⟩
      · have hpos : 0 < P.length := by omega
        obtain ⟨kk, hkk⟩ : ∃ kk, kk = m % (P.length + 1) := ⟨_, rfl⟩
        have hkl : kk ≤ P.length := by have := Nat.mod_lt m (show 0 < P.length + 1 by omega); omega
        have hki : (m : Int) % ((P.length : Int) + 1) = (kk : Int) := by rw [hkk]; simp
        have hki' := Lib.hid hki
        clear hkk hki hp0
        go_upto_region 9 with (fail)
        rw [hki'.out]
        obtain ⟨V, hV⟩ : ∃ V, V = wX.alloc (.cells #[] 72) := ⟨_, rfl⟩
        have hFV : Fr [] wX V := by rw [hV]; exact (Fr.refl _ _).alloc _
        have hown0 : V.ownsRow wX.heap.size 72 3 (.slice (some ⟨wX.heap.size, 0, none⟩) ([] : List Blk).length 0) ([] : List Blk).length (([] : List Blk).flatMap encB) := by
          rw [hV]; exact World.ownsRow_made wX #[] 0 (Nat.le_refl _) (Nat.zero_le _) rfl
        have hV' := Lib.hid hV; have hFV' := Lib.hid hFV; have hown0' := Lib.hid hown0
        clear hV hFV hown0
        go_wp2
        rw [← hV'.out]
        go_loopg [9, 10] kk (fun gk nv iv wr => ∃ (j : Nat) (pa9 : Option Addr) (pc9 : Nat), j ≤ kk ∧ gk = j ∧ iv = .int .i64 ((j : Int) - 1) ∧ nv = .slice pa9 (nowP P kk j).length pc9 ∧ wr.ownsRow wX.heap.size 72 3 (.slice pa9 (nowP P kk j).length pc9) (nowP P kk j).length ((nowP P kk j).flatMap encB) ∧ Fr [] wX wr)
        case atStart => exact ⟨kk, some ⟨wX.heap.size, 0, none⟩, 0, Nat.le_refl _, rfl, by first | rfl | (rw [hkk'.out]; rfl), by rw [now_end]; rfl, by rw [now_end]; exact hown0'.out, hFV'.out⟩
        case round =>
          obtain ⟨j, pa9, pc9, hj, hgk, rfl, rfl, hown, hfr⟩ := hrel
          have hgk' := Lib.hid hgk; have hown' := Lib.hid hown; have hfr' := Lib.hid hfr
          have hzr := hfr.size
          have hnl := now_len P kk j
          have hcw := own_shape hown
          have hob' := Lib.hid hown.lt
          clear hgk hown hfr
          cases j with
          | succ j =>
            rw [show (((j + 1 : Nat) : Int) - 1) = (j : Int) from by omega]
            obtain ⟨x, hx⟩ : ∃ x, P[j]? = some x := ⟨_, List.getElem?_eq_getElem (by omega)⟩
            have hns := Lib.hid (now_succ (k := kk) (show j < kk by omega) hx)
            obtain ⟨N, hN⟩ : ∃ N, N = nowP P kk (j + 1) := ⟨_, rfl⟩
            rw [← hN] at hns hown' hnl hcw hob' ⊢
            clear hN
            obtain ⟨gx, ox, rfl, hgx, xat⟩ := (hPs'.out.fr hfr'.out (by simp)).cells2 encR_len (by intro h; rw [h] at hx; simp at hx)
            obtain ⟨x0, x1, x2, x3⟩ := x
            have k1 := xat j _ 1 _ hx rfl
            have k2 := xat j _ 2 _ hx rfl
            have k3 := xat j _ 3 _ hx rfl
            simp only [← Nat.add_assoc] at k1 k2 k3
            have lk := lt_of_cell k1
            obtain ⟨U, hU⟩ : ∃ U, U = wr := ⟨_, rfl⟩
            rw [← hU] at k1 k2 k3 lk hown' hfr' hzr ⊢
            clear xat hx hcw hU
            go_upto_region 13 with (fail)
            refine wp_region_relC 18 (fun w w' => Fr [] w w') (fun w w' => w = w') (by kernel_rfl) (by kernel_rfl) (by kernel_rfl) (fun h k => h.trans k) (Fr.refl [] _).drew (fun h k => h.trans k) (fun _ => rfl) ?_
            simp only [List.take_succ_cons, List.take_zero, List.drop_succ_cons, List.drop_zero]
            iterate 17
              apply RelW.still
              · intro s' W hX
                have j1 := hX.at0 k1
                have j2 := hX.at0 k2
                have j3 := hX.at0 k3
                have jl := hX.size
                clear hX
                go_wp2
                refine ⟨rfl, rfl, Fr.refl _ _, ?_⟩
                simp only [slotOf, List.getElem?_toArray, List.getElem?_cons_succ, List.getElem?_cons_zero, Option.getD_some]
                first | rfl | done
              · intro s'
                simp only [Act.put, List.setIfInBounds_toArray, List.set_cons_succ, List.set_cons_zero]
                rfl
            apply RelW.owes (fun v W => ∃ g, v = .slice (some ⟨g, 0, none⟩) 1 1 ∧ W.heap[g]? = some (.cells #[.int .i64 x1, .int .i64 x2, .string x3] 72 (0, 0)))
            · rintro v u u' hf ⟨g, rfl, hg⟩
              exact ⟨g, rfl, hf.keep hg (by simp)⟩
            · intro s' W hX hd
              clear hd hX
              go_wp2
              refine ⟨rfl, rfl, (Fr.refl [] W).alloc _, ?_⟩
              simp only [slotOf, List.getElem?_toArray, List.getElem?_cons_succ, List.getElem?_cons_zero, Option.getD_some]
              exact ⟨_, rfl, heap_alloc_new W _⟩
            · intro s'
              simp only [Act.put, List.setIfInBounds_toArray, List.set_cons_succ, List.set_cons_zero, Nat.zero_add, Nat.reduceAdd]
              rfl
            intro s' W hX hall
            dsimp only
            simp only [List.nil_append, List.cons_append, allPhi, Nat.zero_add, Nat.reduceAdd] at hall
            obtain ⟨-, -, -, -, -, -, -, -, -, -, -, -, -, -, -, -, -, ⟨g8, hg1, hg2⟩, -⟩ := hall
            generalize s' 17 = v17 at hg1 ⊢
            subst hg1
            have hg2' := Lib.hid hg2; have hX' := Lib.hid hX
            have hWz := hX.size
            have hoW' := Lib.hid (owns_fr2 hown'.out hX (by simp))
            clear hg2 hX
            go_wp2_with (first | (at_builtin; refine wpList_push_keep W rfl _ _ 68 rfl wX.heap.size 72 Try.underlying68 infoB rfl (by omega) (.slice pa9 N.length pc9) N rfl hoW'.out (x1, x2, x3) g8 rfl hg2'.out rfl encB_len (one_encB _) (by omega) (by omega) (by omega) ?_; intro g9 c9 w9 ho9 hf9 hk9 hp9 hat9; have hat9' := Lib.hid hat9; have ho9' := Lib.hid ho9; have hf9' := Lib.hid hf9; clear ho9 hf9 hk9 hp9 hat9))
            try (refine ⟨rfl, rfl, ?_⟩)
            unfold RelRest
            apply RelW.still
            · rintro s' W rfl
              go_wp2
              refine ⟨rfl, rfl, rfl, ?_⟩
              simp only [slotOf, List.getElem?_toArray, List.getElem?_cons_succ, List.getElem?_cons_zero, Option.getD_some]
              first | rfl | done
            · intro s'
              simp only [Act.put, List.setIfInBounds_toArray, List.set_cons_succ, List.set_cons_zero]
              rfl
            rintro s' W rfl _
            go_wp2
            go_roundg j
            case rel =>
              have e0 : nowP P kk j = N ++ [(x1, x2, x3)] := hns.out
              have e1 : (N ++ [(x1, x2, x3)]).length = N.length + 1 := by simp
              have h9 := ho9'.out
              rw [e1] at h9
              exact ⟨j, some ⟨g9, 0, none⟩, c9, by omega, rfl, rfl, by rw [e0, e1], by rw [e0, e1]; exact h9, (hfr'.out.trans hX'.out).andThen hf9'.out (fun t ht => .inr (hob'.out t (by simpa using ht)).1)⟩
            case measure => rw [hgk'.out]; omega
          | zero =>
            rw [show (((0 : Nat) : Int) - 1) = -1 from rfl]
            have hrk := hrs'.out kk
            obtain ⟨N, hN⟩ : ∃ N, N = nowP P kk 0 := ⟨_, rfl⟩
            rw [← hN] at hown' hnl hcw hrk hob' ⊢
            have hrk' := Lib.hid hrk
            have hHr' := Lib.hid (hHs'.out.fr hfr'.out (by simp))
            clear hN hgk' hrk hcw
            go_upto_region 16 with (first
              | (at_builtin; refine wpList_more _ rfl _ _ 68 rfl wX.heap.size 72 Try.underlying68 infoB rfl (by omega) (.slice pa9 N.length pc9) N rfl hown'.out (.slice b Hs.length cap2) Hs rfl hHr'.out encB_len one_encB (by omega) (by omega) (by omega) ?_; intro v' w7 hown7 hf7 hb7; obtain ⟨na, nc, rfl, -, -⟩ := (SliceIs.of_owns hown7 rfl).at encB_len; have hF7' := Lib.hid (hfr'.out.andThen hf7 (fun t ht => .inr (hob'.out t (by simpa using ht)).1)); have hs7 := SliceIs.of_owns hown7 rfl; rw [List.length_append] at hs7; have hown7' := Lib.hid hs7; clear hown7 hf7 hb7 hs7)
              | (go_at_call 29; have hpl := plan_any _ _ L (N ++ Hs) _ (hLs'.out.fr hF7'.out (by simp)) hown7'.out (by omega) (by simp; omega); rw [hrk'.out, List.length_drop] at hpl; refine hpl.mono ?_; rintro e w8 ⟨ra, rc, rfl, hf8, ho8⟩; have hF8' := Lib.hid (hF7'.out.trans hf8); have hr8' := Lib.hid (SliceIs.of_owns ho8 (by simp)); clear hf8 ho8))
            have hP8' := Lib.hid (hPs'.out.fr hF8'.out (by simp))
            have hcs := hcs'.out
            clear hcs'
            rcases hcs with ⟨hn0, -, -⟩ | ⟨g, rfl⟩
            · omega
            · by_cases hc9 : pc = kk
              · have hd1 : SliceIs w8 (fun _ => True) encR (.slice (some ⟨g, 0, none⟩) (P.length - kk) 0) (P.drop kk) := by
                  have := hP8'.out.drop encR_len kk hkl
                  rw [if_pos hc9, hc9, Nat.sub_self] at this
                  exact this
                have hd1' := Lib.hid hd1
                clear hd1
                refine wp_region_rel 6 (fun w w' => Fr [] w w') (by kernel_rfl) (by kernel_rfl) (by kernel_rfl) (fun h k => h.trans k) (Fr.refl [] _).drew ?_
                simp only [List.take_succ_cons, List.take_zero, List.drop_succ_cons, List.drop_zero]
                apply RelW.still
                · intro s' W hX
                  clear hX
                  go_wp2
                  refine ⟨rfl, rfl, Fr.refl _ _, ?_⟩
                  simp only [slotOf, List.getElem?_toArray, List.getElem?_cons_succ, List.getElem?_cons_zero, Option.getD_some]
                  first | rfl | done
                · intro s'
                  simp only [Act.put, List.setIfInBounds_toArray, List.set_cons_succ, List.set_cons_zero]
                  rfl
                apply RelW.owes (fun v W => SliceIs W (fun _ => True) encR v (P.drop kk))
                · exact fun _ _ _ hf h => h.fr hf (by simp)
                · intro s' W hX hd
                  clear hd
                  go_wp2_with (first | (go_at_call 21; refine (theirs_any _ (P.drop kk) _ (hr8'.out.fr hX (by simp)) (by simp; omega)).mono ?_; rintro e w9 ⟨a9, c9, rfl, hf9, ho9⟩; have hf9' := Lib.hid hf9; have ho9' := Lib.hid ho9; clear hf9 ho9))
                  refine ⟨rfl, rfl, hf9'.out, ?_⟩
                  simp only [slotOf, List.getElem?_toArray, List.getElem?_cons_succ, List.getElem?_cons_zero, Option.getD_some]
                  have h8 := (SliceIs.of_owns ho9'.out rfl).imp (B' := fun _ => True) (fun _ _ _ => trivial)
                  first | exact h8 | (rw [List.length_drop] at h8; exact h8)
                · intro s'
                  simp only [Act.put, List.setIfInBounds_toArray, List.set_cons_succ, List.set_cons_zero, Nat.zero_add]
                  rfl
                apply RelW.still
                · intro s' W hX
                  clear hX
                  go_wp2
                  refine ⟨rfl, rfl, Fr.refl _ _, ?_⟩
                  simp only [slotOf, List.getElem?_toArray, List.getElem?_cons_succ, List.getElem?_cons_zero, Option.getD_some]
                  first | rfl | done
                · intro s'
                  simp only [Act.put, List.setIfInBounds_toArray, List.set_cons_succ, List.set_cons_zero]
                  rfl
                apply RelW.still
                · intro s' W hX
                  clear hX
                  go_wp2
                  refine ⟨rfl, rfl, Fr.refl _ _, ?_⟩
                  simp only [slotOf, List.getElem?_toArray, List.getElem?_cons_succ, List.getElem?_cons_zero, Option.getD_some]
                  first | rfl | done
                · intro s'
                  simp only [Act.put, List.setIfInBounds_toArray, List.set_cons_succ, List.set_cons_zero]
                  rfl
                apply RelW.still
                · intro s' W hX
                  clear hX
                  go_wp2
                  refine ⟨rfl, rfl, Fr.refl _ _, ?_⟩
                  simp only [slotOf, List.getElem?_toArray, List.getElem?_cons_succ, List.getElem?_cons_zero, Option.getD_some]
                  first | rfl | done
                · intro s'
                  simp only [Act.put, List.setIfInBounds_toArray, List.set_cons_succ, List.set_cons_zero]
                  rfl
                apply RelW.owes (fun v W => SliceIs W (fun _ => True) encR v (P.drop kk))
                · exact fun _ _ _ hf h => h.fr hf (by simp)
                · intro s' W hX hd
                  clear hd
                  go_wp2_with (first | (go_at_call 21; refine (theirs_any _ (P.drop kk) _ (hd1'.out.fr hX (by simp)) (by simp; omega)).mono ?_; rintro e w9 ⟨a9, c9, rfl, hf9, ho9⟩; have hf9' := Lib.hid hf9; have ho9' := Lib.hid ho9; clear hf9 ho9))
                  refine ⟨rfl, rfl, hf9'.out, ?_⟩
                  simp only [slotOf, List.getElem?_toArray, List.getElem?_cons_succ, List.getElem?_cons_zero, Option.getD_some]
                  have h8 := (SliceIs.of_owns ho9'.out rfl).imp (B' := fun _ => True) (fun _ _ _ => trivial)
                  first | exact h8 | (rw [List.length_drop] at h8; exact h8)
                · intro s'
                  simp only [Act.put, List.setIfInBounds_toArray, List.set_cons_succ, List.set_cons_zero, Nat.zero_add, Nat.reduceAdd]
                  rfl
                intro s' W hX hall
                dsimp only
                simp only [List.nil_append, List.cons_append, allPhi, Nat.zero_add, Nat.reduceAdd] at hall
                obtain ⟨-, q1, -, -, -, q2, -⟩ := hall
                generalize s' 1 = v1 at q1 ⊢
                generalize s' 5 = v5 at q2 ⊢
                have q1' := Lib.hid q1; have q2' := Lib.hid q2; have hXf := Lib.hid hX
                clear q1 q2 hX
                go_wp2_with (first | (go_at_call 20; refine (same_any _ _ (P.drop kk) _ q1'.out q2'.out (by simp; omega)).mono ?_; rintro e w9 ⟨rfl, hf9⟩; have hf9' := Lib.hid hf9; clear hf9))
                go_ret
                exact ⟨rfl, hF'.out.trans (hF8'.out.trans (hXf.out.trans hf9'.out))⟩
              · have hd1 : SliceIs w8 (fun _ => True) encR (.slice (some ⟨g, kk * 4, none⟩) (P.length - kk) (pc - kk)) (P.drop kk) := by
                  have := hP8'.out.drop encR_len kk hkl
                  rw [if_neg hc9] at this
                  simpa [addr_add] using this
                have hd1' := Lib.hid hd1
                clear hd1
                refine wp_region_rel 6 (fun w w' => Fr [] w w') (by kernel_rfl) (by kernel_rfl) (by kernel_rfl) (fun h k => h.trans k) (Fr.refl [] _).drew ?_
                simp only [List.take_succ_cons, List.take_zero, List.drop_succ_cons, List.drop_zero]
                apply RelW.still
                · intro s' W hX
                  clear hX
                  go_wp2
                  refine ⟨rfl, rfl, Fr.refl _ _, ?_⟩
                  simp only [slotOf, List.getElem?_toArray, List.getElem?_cons_succ, List.getElem?_cons_zero, Option.getD_some]
                  first | rfl | done
                · intro s'
                  simp only [Act.put, List.setIfInBounds_toArray, List.set_cons_succ, List.set_cons_zero]
                  rfl
                apply RelW.owes (fun v W => SliceIs W (fun _ => True) encR v (P.drop kk))
                · exact fun _ _ _ hf h => h.fr hf (by simp)
                · intro s' W hX hd
                  clear hd
                  go_wp2_with (first | (go_at_call 21; refine (theirs_any _ (P.drop kk) _ (hr8'.out.fr hX (by simp)) (by simp; omega)).mono ?_; rintro e w9 ⟨a9, c9, rfl, hf9, ho9⟩; have hf9' := Lib.hid hf9; have ho9' := Lib.hid ho9; clear hf9 ho9))
                  refine ⟨rfl, rfl, hf9'.out, ?_⟩
                  simp only [slotOf, List.getElem?_toArray, List.getElem?_cons_succ, List.getElem?_cons_zero, Option.getD_some]
                  have h8 := (SliceIs.of_owns ho9'.out rfl).imp (B' := fun _ => True) (fun _ _ _ => trivial)
                  first | exact h8 | (rw [List.length_drop] at h8; exact h8)
                · intro s'
                  simp only [Act.put, List.setIfInBounds_toArray, List.set_cons_succ, List.set_cons_zero, Nat.zero_add]
                  rfl
                apply RelW.still
                · intro s' W hX
                  clear hX
                  go_wp2
                  refine ⟨rfl, rfl, Fr.refl _ _, ?_⟩
                  simp only [slotOf, List.getElem?_toArray, List.getElem?_cons_succ, List.getElem?_cons_zero, Option.getD_some]
                  first | rfl | done
                · intro s'
                  simp only [Act.put, List.setIfInBounds_toArray, List.set_cons_succ, List.set_cons_zero]
                  rfl
                apply RelW.still
                · intro s' W hX
                  clear hX
                  go_wp2
                  refine ⟨rfl, rfl, Fr.refl _ _, ?_⟩
                  simp only [slotOf, List.getElem?_toArray, List.getElem?_cons_succ, List.getElem?_cons_zero, Option.getD_some]
                  first | rfl | done
                · intro s'
                  simp only [Act.put, List.setIfInBounds_toArray, List.set_cons_succ, List.set_cons_zero]
                  rfl
                apply RelW.still
                · intro s' W hX
                  clear hX
                  go_wp2
                  refine ⟨rfl, rfl, Fr.refl _ _, ?_⟩
                  simp only [slotOf, List.getElem?_toArray, List.getElem?_cons_succ, List.getElem?_cons_zero, Option.getD_some]
                  first | rfl | done
                · intro s'
                  simp only [Act.put, List.setIfInBounds_toArray, List.set_cons_succ, List.set_cons_zero]
                  rfl
                apply RelW.owes (fun v W => SliceIs W (fun _ => True) encR v (P.drop kk))
                · exact fun _ _ _ hf h => h.fr hf (by simp)
                · intro s' W hX hd
                  clear hd
                  go_wp2_with (first | (go_at_call 21; refine (theirs_any _ (P.drop kk) _ (hd1'.out.fr hX (by simp)) (by simp; omega)).mono ?_; rintro e w9 ⟨a9, c9, rfl, hf9, ho9⟩; have hf9' := Lib.hid hf9; have ho9' := Lib.hid ho9; clear hf9 ho9))
                  refine ⟨rfl, rfl, hf9'.out, ?_⟩
                  simp only [slotOf, List.getElem?_toArray, List.getElem?_cons_succ, List.getElem?_cons_zero, Option.getD_some]
                  have h8 := (SliceIs.of_owns ho9'.out rfl).imp (B' := fun _ => True) (fun _ _ _ => trivial)
                  first | exact h8 | (rw [List.length_drop] at h8; exact h8)
                · intro s'
                  simp only [Act.put, List.setIfInBounds_toArray, List.set_cons_succ, List.set_cons_zero, Nat.zero_add, Nat.reduceAdd]
                  rfl
                intro s' W hX hall
                dsimp only
                simp only [List.nil_append, List.cons_append, allPhi, Nat.zero_add, Nat.reduceAdd] at hall
                obtain ⟨-, q1, -, -, -, q2, -⟩ := hall
                generalize s' 1 = v1 at q1 ⊢
                generalize s' 5 = v5 at q2 ⊢
                have q1' := Lib.hid q1; have q2' := Lib.hid q2; have hXf := Lib.hid hX
                clear q1 q2 hX
                go_wp2_with (first | (go_at_call 20; refine (same_any _ _ (P.drop kk) _ q1'.out q2'.out (by simp; omega)).mono ?_; rintro e w9 ⟨rfl, hf9⟩; have hf9' := Lib.hid hf9; clear hf9))
                go_ret
                exact ⟨rfl, hF'.out.trans (hF8'.out.trans (hXf.out.trans hf9'.out))⟩
end Go.Proofs.Ytcbccogpogdbmaa
