/- The law PageScript, walked. -/
import Derived.Test.YtafeemlojlngfaaLq5
namespace Go.Proofs.Ytafeemlojlngfaa
open Go.RowKit Go.Maps Go.Lib Go.Sort
set_option maxRecDepth 100000 in
set_option maxHeartbeats 8000000 in
theorem script_law {B : Nat → Prop} (n : Int) (v : Value) (S : List St) (w : World) (h : SliceIs w B encSt v S) :
    Calls Try.prog 3 #[.int .i64 n, v] w fun e w' => e = .returned (.bool true) ∧ Fr [] w w' := by
  have hhv := heavy_any v S w h
  have hsh := shown_any
  obtain ⟨a, cap, rfl, hc1, hc2, hat⟩ := h.at encSt_len
  have hat' := Lib.hid hat; clear hat h
  by_cases hv : heavyS S = true
  · rw [hv] at hhv
    have hsh1 := hsh w
    clear hv
    go_enter Try.func3, Try.ntmps3
    go_wp2_with (first | (go_at_call 8; refine hhv.mono ?_; rintro e w1 ⟨rfl, hw1⟩; have hw2 := hw1.symm; subst hw2) | (go_at_call 9; refine hsh1.mono ?_; rintro e w2 ⟨rfl, hf2⟩))
    go_ret
    exact ⟨rfl, hf2⟩
  · have hlen : S.length ≤ 150 := by
      unfold heavyS at hv
      simp only [Bool.or_eq_true, decide_eq_true_eq, not_or] at hv
      omega
    rw [Bool.not_eq_true] at hv
    rw [hv] at hhv
    have hsh1 := hsh w
    clear hv hsh
    obtain ⟨m, hm⟩ : ∃ m, m = (max 1 (min n 64)).toNat := ⟨_, rfl⟩
    have hnew : ∀ X, _ := fun X => new_any n X
    have hrnew : ∀ X, _ := fun X => rnew_any n X
    rw [← hm] at hnew hrnew
    have hnew' := Lib.hid hnew; have hrnew' := Lib.hid hrnew
    clear hm hnew hrnew
    go_enter Try.func3, Try.ntmps3
    go_wp2_with (first | (go_at_call 8; refine hhv.mono ?_; rintro e w1 ⟨rfl, hw1⟩; have hw2 := hw1.symm; subst hw2) | (go_at_call 9; refine hsh1.mono ?_; rintro e w2 ⟨rfl, hf2⟩; have hn2 := hnew'.out w2) | (go_at_call 10; refine hn2.mono ?_; rintro e w3 ⟨cb, bm, rg, rfl, hf3, l1, l2, l3, hC⟩; have hn3 := hrnew'.out w3; unfold ptr) | (go_at_call 11; refine hn3.mono ?_; rintro e w4 ⟨rfl, hf4, hR⟩; unfold ptr))
    have hz2 := hf2.size
    have hz3 := hf3.size
    have hst := Both.start l1 l2 l3 hC hf4 hz3 hR
    obtain ⟨rb, hrb⟩ : ∃ rb, rb = w3.heap.size := ⟨_, rfl⟩
    rw [← hrb] at hst ⊢
    have hF := hf3.trans hf4
    have hst' := Lib.hid hst; have hrb' := Lib.hid hrb
    clear hn2 hn3 hst hC hR hrb hsh1 hhv
    go_loopg [7] S.length (fun gk iv wr => ∃ (i : Nat) (P : List Pg), i ≤ S.length ∧ gk = S.length - i ∧ iv = .int .i64 i ∧ Both wr w2.heap.size wr.heap.size cb bm rg rb m P ∧ Fr [] w2 wr)
    case atStart => exact ⟨0, [], Nat.zero_le _, rfl, rfl, hst'.out, hF⟩
    case round =>
      obtain ⟨i, P, hi, hgk, rfl, hB, hfr⟩ := hrel
      have hgk' := Lib.hid hgk; clear hgk
      by_cases hlt : i < S.length
      · obtain ⟨g, off, rfl, _, hg2, hcells⟩ := hat'.out (by rintro rfl; simp at hlt)
        obtain ⟨x, hx⟩ : ∃ x, S[i]? = some x := ⟨_, List.getElem?_eq_getElem hlt⟩
        have hc : ∀ j u, (encSt x)[j]? = some u → wr.cell? ⟨g, off + i * 7 + j, none⟩ = some u := fun j u hj => by rw [(hf2.trans hfr).cell (p := ⟨g, _, none⟩) hg2 (by simp), Nat.add_assoc]; exact hcells i x j u hx hj
        have k0 := hc 0 _ rfl
        have k1 := hc 1 _ rfl
        have k2 := hc 2 _ rfl
        have k3 := hc 3 _ rfl
        have k4 := hc 4 _ rfl
        have k5 := hc 5 _ rfl
        have k6 := hc 6 _ rfl
        rw [Nat.add_zero] at k0
        have hzr := hfr.size
        have hdo := does_any (hB.fr0 ((Fr.refl [] wr).drew)) hzr (Nat.le_refl _) x
        obtain ⟨P1, hP1⟩ : ∃ P1, P1 = stepP m P x := ⟨_, rfl⟩
        rw [← hP1] at hdo
        obtain ⟨x0, ⟨x1, x2, x3, x4⟩, x5, x6⟩ := x
        unfold aggSt at hdo
        dsimp only at k0 k1 k2 k3 k4 k5 k6 hdo
        clear hcells hx hc hP1 hB
        go_wp2
        go_region_with (first | (go_at_call 12; refine hdo.mono ?_; rintro e w5 ⟨rfl, hB1, hF1⟩; have hfew := hB1.few; have hPl : P1.length < 1000000 := (by omega); have hf5 := hF1.fr ((hfr).drew); have c15 := blist hB1; obtain ⟨rv, hrv, hrs⟩ := hB1.row; have lrv := lt_of_cell hrv) | (go_at_call 15; refine c15.mono ?_; rintro e w6 ⟨v6, rfl, hf6, hs6⟩; have hB2 := hB1.fr0 hf6; have hrv6 := (show w6.cell? ⟨rb, 0, none⟩ = some rv from by rw [hf6.cell (p := ⟨rb, _, none⟩) lrv (by simp)]; exact hrv); have lrv6 := lt_of_cell hrv6; have c14 := theirs_any v6 P1 w6 hs6 hPl; have hrs6 := hrs.fr hf6 (by simp)) | (go_at_call 14; refine c14.mono ?_; rintro e w7 ⟨v7, rfl, hf7, hs7⟩; have hB3 := hB2.fr0 hf7; have hrv7 := (show w7.cell? ⟨rb, 0, none⟩ = some rv from by rw [hf7.cell (p := ⟨rb, _, none⟩) lrv6 (by simp)]; exact hrv6); have lrv7 := lt_of_cell hrv7; have c13 := same_any v7 rv P1 P1 w7 hs7 (hrs6.fr hf7 (by simp)) hPl) | (go_at_call 13; refine c13.mono ?_; rintro e w8 ⟨rfl, hf8⟩; have hB4 := hB3.fr0 hf8; have c16 := bold hB4) | (go_at_call 16; refine c16.mono ?_; rintro e w9 ⟨rfl, hf9⟩; have hB5 := hB4.fr0 hf9; have c17 := brold hB5) | (go_at_call 17; refine c17.mono ?_; rintro e w10 ⟨rfl, hf10⟩; have hB6 := hB5.fr0 hf10))
        all_goals
          have hFF : Fr [] w5 w10 := (((hf6.trans hf7).trans hf8).trans hf9).trans hf10
          clear hdo k0 k1 k2 k3 k4 k5 k6 c15 c14 c13 c16 c17 hrs hrs6 hs6 hs7 hB1 hB2 hB3 hB4 hB5 hrv hrv6 hrv7
          go_wp2
          go_roundg (S.length - (i + 1))
          case rel => exact ⟨i + 1, P1, by omega, rfl, by go_num, hB6.grow hFF.size, hf5.trans hFF⟩
          case measure => rw [hgk'.out]; omega
      · have he : i = S.length := by omega
        subst he
        go_wp2
        go_ret
        exact ⟨rfl, hf2.trans hfr⟩
end Go.Proofs.Ytafeemlojlngfaa
