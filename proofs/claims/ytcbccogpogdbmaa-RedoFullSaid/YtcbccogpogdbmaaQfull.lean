/- RedoFull, walked. -/
import Derived.Test.YtcbccogpogdbmaaLg6
import Derived.Test.YtcbccogpogdbmaaRowR
namespace Go.Proofs.Ytcbccogpogdbmaa
open Go.RowKit Go.Maps Go.Lib Go.Sort
attribute [local go_sem ↓] Go.wp_at_zero Go.wp_at_succ
theorem full_no {n : Nat} {last : Int} {K : List Rec} (h0 : 0 ≤ last) (hl : last < 1000) (hf : n ≤ K.length) (i : Nat) (hi : i < 200) : appendP n last K [] i ((i : Int) + 1) ⟨#[120]⟩ = (0, 180, []) := by
  unfold appendP
  dsimp only
  have hm : min (last + (([] : List Rec).length : Int) + 1) 1099511627776 = last + 1 := by simp; omega
  rw [hm]
  have he : errR (last + 1, (i : Int), (i : Int) + 1, ⟨#[120]⟩) = 0 := by
    unfold errR
    dsimp only
    rw [if_neg (by omega), if_neg (by decide)]
  rw [if_neg (by simp [he]), if_neg (by simp; omega), if_pos (by simpa using hf)]
theorem full_yes {n : Nat} {last : Int} {K : List Rec} (h0 : 0 ≤ last) (hl : last < 1000) (hf : K.length < n) (i : Nat) (hi : i < 200) : appendP n last K [] i ((i : Int) + 1) ⟨#[120]⟩ = (last + 1, 0, [(last + 1, (i : Int), (i : Int) + 1, ⟨#[120]⟩)]) := by
  unfold appendP
  dsimp only
  have hm : min (last + (([] : List Rec).length : Int) + 1) 1099511627776 = last + 1 := by simp; omega
  rw [hm]
  have he : errR (last + 1, (i : Int), (i : Int) + 1, ⟨#[120]⟩) = 0 := by
    unfold errR
    dsimp only
    rw [if_neg (by omega), if_neg (by decide)]
  rw [if_neg (by simp [he]), if_neg (by simp; omega), if_neg (by simp; omega), List.nil_append]
theorem full_less {slots : Nat} {last : Int} {r : Rec} {K F : List Rec} (h : OkL slots last (r :: K) F) : reclaimP last (r :: K) (last - ((r :: K).length : Int) + 1) = (0, K) := by
  have h0 := h.kept 0 r rfl
  simp only [List.length_cons] at h0 ⊢
  unfold reclaimP
  rw [if_neg (by omega)]
  congr 1
  cases K with
  | nil => exact over_none (fun q hq => by rw [List.mem_singleton.1 hq]; omega)
  | cons q K =>
    have h1 := h.kept 1 q rfl
    simp only [List.length_cons] at h1 h0 ⊢
    exact over_at (k := 1) (fun x hx => by
      have : x = r := by simpa using hx
      rw [this]; omega) rfl (by omega)
set_option maxRecDepth 100000 in
set_option maxHeartbeats 8000000 in
theorem full_walk {B : Nat → Prop} (n8 : Int) (v : Value) (L : List Bool) (w : World) (h0 : 0 ≤ n8) (h1 : n8 ≤ 255) (h : SliceIs w B encL v L) :
    Calls Try.prog 7 #[.int .u8 n8, v] w fun e w' => e = .returned (.bool true) ∧ Fr [] w w' := by
  obtain ⟨a, cap, rfl, hc1, hc2, hat⟩ := h.at encL_len
  have hat' := Lib.hid hat
  clear h hat
  by_cases h100 : 100 < L.length
  · go_enter Try.func7, Try.ntmps7
    go_wp2_with (first | (go_at_call 11; refine (shown_any _).mono ?_; rintro e wX ⟨rfl, hf⟩))
    go_ret
    exact ⟨rfl, hf⟩
  · obtain ⟨m, rfl⟩ := Int.eq_ofNat_of_zero_le h0
    obtain ⟨N, hN⟩ : ∃ N : Nat, N = 1 + m % 20 := ⟨_, rfl⟩
    have hNi : (1 : Int) + (m : Int) % 20 = (N : Int) := by omega
    have hN1 : 1 ≤ N := by omega
    have hN2 : N ≤ 20 := by omega
    have hN' := Lib.hid hN; have hNi' := Lib.hid hNi
    clear hN hNi
    have hF' : Hid (Fr [] w w) := Lib.hid (Fr.refl _ _)
    go_enter Try.func7, Try.ntmps7
    go_upto_region 4 with (first | (go_at_call 11; refine (shown_any _).mono ?_; rintro e wX ⟨rfl, hf⟩; replace hF' := Lib.hid (hF'.out.trans hf); clear hf))
    rw [hNi'.out]
    go_wp2_with (first
      | (go_at_call 15; refine (newArea_any _).mono ?_; rintro e w1 ⟨rfl, hf1, ha1⟩; have hz1 := ha1.lt; have hz0 := hF'.out.size; have hzf := hf1.size; have ha1' := Lib.hid ha1; replace hF' := Lib.hid (hF'.out.trans hf1); clear hf1 ha1)
      | (go_at_call 16; refine (open_fresh (base := 3) ha1'.out (by omega) hN1 hN2 (by omega)).mono ?_; rintro e w2 ⟨lb, rfl, hf2, hlb, hl2⟩; have hl2' := Lib.hid hl2; have hzg := hf2.size; replace hF' := Lib.hid (hF'.out.trans hf2); clear hf2 hl2))
    obtain ⟨ab, hab⟩ : ∃ ab, ab = wX.heap.size + 1 := ⟨_, rfl⟩
    obtain ⟨ag, hag⟩ : ∃ ag, ag = wX.heap.size := ⟨_, rfl⟩
    rw [← hab, ← hag] at hl2'
    have hab2 : w.heap.size ≤ ab := by omega
    have hag2 : w.heap.size ≤ ag := by omega
    clear ha1'
    go_loopg [8, 9, 10] L.length (fun gk lv kv iv wr => ∃ (i : Nat) (G : Nat → Prop) (A : List ByteArray) (last : Int) (K : List Rec), i ≤ L.length ∧ gk = L.length - i ∧ iv = .int .i64 i ∧ lv = .int .i64 last ∧ kv = .int .i64 K.length ∧ LA G wr lb ab ag 3 N A (-1) last K [] ∧ (∀ g, G g → w.heap.size ≤ g) ∧ last ≤ i ∧ Fr [] w wr)
    case atStart => exact ⟨0, _, _, 0, [], Nat.zero_le _, rfl, rfl, rfl, rfl, hl2'.out, fun g hg => by omega, by omega, hF'.out⟩
    case round =>
      obtain ⟨i, G, A, last, K, hi, hgk, rfl, rfl, rfl, hl, hG, hli, hFr⟩ := hrel
      have hbd := hl.bounds
      replace hF' := Lib.hid hFr
      have hL' := Lib.hid hl; have hG' := Lib.hid hG; have hgk' := Lib.hid hgk
      clear hl2' hFr hl hG hgk
      by_cases hlt : i < L.length
      · obtain ⟨g, off, rfl, _, hg2, hcells⟩ := hat'.out (by intro h; rw [h] at hlt; simp at hlt)
        obtain ⟨x, hx⟩ : ∃ x, L[i]? = some x := ⟨_, List.getElem?_eq_getElem hlt⟩
        have k0 := hF'.out.at0 (hcells i _ 0 _ hx rfl)
        simp only [Nat.mul_one, Nat.add_zero] at k0
        have lk := lt_of_cell k0
        clear hcells hx
        cases x with
        | true =>
          by_cases hfull : N ≤ K.length
          · have hap := Lib.hid (full_no (n := N) (last := last) (K := K) (by omega) (by omega) hfull i (by omega))
            have hco : Hid (commitP 3 N [] A (-1) last K = (0, A, -1, last, K, [])) := Lib.hid rfl
            go_upto_region 25 with (first
              | (go_at_call 17; refine (hL'.out.append _ _ _ hap.out).mono ?_; rintro e wX ⟨rfl, hf, hl⟩; have hz := hF'.out.size; replace hF' := Lib.hid (hL'.out.step1 hG'.out hF'.out hf); replace hG' := Lib.hid (gr_ge (W' := wX) hG'.out hz); replace hL' := Lib.hid hl; clear hf hl hz)
              | (go_at_call 18; refine (hL'.out.commit hco.out (by omega)).mono ?_; rintro e wX ⟨rfl, hf, hl⟩; have hz := hF'.out.size; replace hF' := Lib.hid (stepT hG'.out hab2 hag2 hF'.out hf); replace hG' := Lib.hid (gr_ge (W' := wX) hG'.out hz); replace hL' := Lib.hid hl; clear hf hl hz)
              | (go_at_call 23; refine (hL'.out.reclaim _ hrc.out).mono ?_; rintro e wX ⟨rfl, hf, hl⟩; have hz := hF'.out.size; replace hF' := Lib.hid (hL'.out.step1 hG'.out hF'.out hf); replace hG' := Lib.hid (gr_ge (W' := wX) hG'.out hz); replace hL' := Lib.hid hl; clear hf hl hz))
            all_goals go_wp2_with (first
              | (go_at_call 28; have hkc := kept_any hL'.out.log; refine hkc.mono ?_; rintro e wX ⟨rfl, rfl⟩)
              | (go_at_call 19; refine (last_any hL'.out.log).mono ?_; rintro e wX ⟨rfl, rfl⟩)
              | (go_at_call 22; have hlc := hL'.out.live; refine hlc.mono ?_; rintro e wX ⟨a2, c2, rfl, hc2, hf, -⟩; replace hF' := Lib.hid (hF'.out.trans hf); replace hL' := Lib.hid (hL'.out.fr0 hf); clear hf))
            all_goals
              go_roundg (L.length - (i + 1))
              case rel => exact ⟨i + 1, _, _, _, _, by omega, rfl, by go_num, rfl, by first | rfl | (congr 1; simp), hL'.out, hG'.out, by omega, hF'.out⟩
              case measure => rw [hgk'.out]; omega
          · have hap := Lib.hid (full_yes (n := N) (last := last) (K := K) (by omega) (by omega) (by omega) i (by omega))
            have hco : Hid (commitP 3 N [(last + 1, (i : Int), (i : Int) + 1, ⟨#[120]⟩)] A (-1) last K = (0, allP 3 N [(last + 1, (i : Int), (i : Int) + 1, ⟨#[120]⟩)] A, -1, last + 1, K ++ [(last + 1, (i : Int), (i : Int) + 1, ⟨#[120]⟩)], [])) := Lib.hid (commit_free 3 N [(last + 1, (i : Int), (i : Int) + 1, ⟨#[120]⟩)] A (-1) last K (by omega))
            have hfull' : K.length < N := by omega
            go_upto_region 25 with (first
              | (go_at_call 17; refine (hL'.out.append _ _ _ hap.out).mono ?_; rintro e wX ⟨rfl, hf, hl⟩; have hz := hF'.out.size; replace hF' := Lib.hid (hL'.out.step1 hG'.out hF'.out hf); replace hG' := Lib.hid (gr_ge (W' := wX) hG'.out hz); replace hL' := Lib.hid hl; clear hf hl hz)
              | (go_at_call 18; refine (hL'.out.commit hco.out (by omega)).mono ?_; rintro e wX ⟨rfl, hf, hl⟩; have hz := hF'.out.size; replace hF' := Lib.hid (stepT hG'.out hab2 hag2 hF'.out hf); replace hG' := Lib.hid (gr_ge (W' := wX) hG'.out hz); replace hL' := Lib.hid hl; clear hf hl hz)
              | (go_at_call 23; refine (hL'.out.reclaim _ hrc.out).mono ?_; rintro e wX ⟨rfl, hf, hl⟩; have hz := hF'.out.size; replace hF' := Lib.hid (hL'.out.step1 hG'.out hF'.out hf); replace hG' := Lib.hid (gr_ge (W' := wX) hG'.out hz); replace hL' := Lib.hid hl; clear hf hl hz))
            all_goals go_wp2_with (first
              | (go_at_call 28; have hkc := kept_any hL'.out.log; refine hkc.mono ?_; rintro e wX ⟨rfl, rfl⟩)
              | (go_at_call 19; refine (last_any hL'.out.log).mono ?_; rintro e wX ⟨rfl, rfl⟩)
              | (go_at_call 22; have hlc := hL'.out.live; refine hlc.mono ?_; rintro e wX ⟨a2, c2, rfl, hc2, hf, -⟩; replace hF' := Lib.hid (hF'.out.trans hf); replace hL' := Lib.hid (hL'.out.fr0 hf); clear hf))
            all_goals
              go_roundg (L.length - (i + 1))
              case rel => exact ⟨i + 1, _, _, _, _, by omega, rfl, by go_num, rfl, by first | rfl | (congr 1; simp), hL'.out, hG'.out, by omega, hF'.out⟩
              case measure => rw [hgk'.out]; omega
        | false =>
          cases K with
          | nil =>
            go_upto_region 25 with (fail)
            all_goals go_wp2_with (first
              | (go_at_call 28; have hkc := kept_any hL'.out.log; refine hkc.mono ?_; rintro e wX ⟨rfl, rfl⟩)
              | (go_at_call 19; refine (last_any hL'.out.log).mono ?_; rintro e wX ⟨rfl, rfl⟩)
              | (go_at_call 22; have hlc := hL'.out.live; refine hlc.mono ?_; rintro e wX ⟨a2, c2, rfl, hc2, hf, -⟩; replace hF' := Lib.hid (hF'.out.trans hf); replace hL' := Lib.hid (hL'.out.fr0 hf); clear hf))
            all_goals
              go_roundg (L.length - (i + 1))
              case rel => exact ⟨i + 1, _, _, _, _, by omega, rfl, by go_num, rfl, by first | rfl | (congr 1; simp), hL'.out, hG'.out, by omega, hF'.out⟩
              case measure => rw [hgk'.out]; omega
          | cons r K =>
            have hrc : Hid (reclaimP last (r :: K) (last - ((K.length : Int) + 1) + 1) = (0, K)) := Lib.hid (by
              have := full_less hL'.out.ok
              simpa using this)
            simp only [List.length_cons] at hbd
            obtain ⟨hb1, hb2, hb3, -, hb5⟩ := hbd
            have hb6 : (K.length : Int) + 1 ≤ last := by omega
            have hb7 : last ≤ 100 := by omega
            clear hb5
            go_upto_region 25 with (first
              | (go_at_call 17; refine (hL'.out.append _ _ _ hap.out).mono ?_; rintro e wX ⟨rfl, hf, hl⟩; have hz := hF'.out.size; replace hF' := Lib.hid (hL'.out.step1 hG'.out hF'.out hf); replace hG' := Lib.hid (gr_ge (W' := wX) hG'.out hz); replace hL' := Lib.hid hl; clear hf hl hz)
              | (go_at_call 18; refine (hL'.out.commit hco.out (by omega)).mono ?_; rintro e wX ⟨rfl, hf, hl⟩; have hz := hF'.out.size; replace hF' := Lib.hid (stepT hG'.out hab2 hag2 hF'.out hf); replace hG' := Lib.hid (gr_ge (W' := wX) hG'.out hz); replace hL' := Lib.hid hl; clear hf hl hz)
              | (go_at_call 23; refine (hL'.out.reclaim _ hrc.out).mono ?_; rintro e wX ⟨rfl, hf, hl⟩; have hz := hF'.out.size; replace hF' := Lib.hid (hL'.out.step1 hG'.out hF'.out hf); replace hG' := Lib.hid (gr_ge (W' := wX) hG'.out hz); replace hL' := Lib.hid hl; clear hf hl hz))
            all_goals go_wp2_with (first
              | (go_at_call 28; have hkc := kept_any hL'.out.log; refine hkc.mono ?_; rintro e wX ⟨rfl, rfl⟩)
              | (go_at_call 19; refine (last_any hL'.out.log).mono ?_; rintro e wX ⟨rfl, rfl⟩)
              | (go_at_call 22; have hlc := hL'.out.live; refine hlc.mono ?_; rintro e wX ⟨a2, c2, rfl, hc2, hf, -⟩; replace hF' := Lib.hid (hF'.out.trans hf); replace hL' := Lib.hid (hL'.out.fr0 hf); clear hf))
            all_goals
              go_roundg (L.length - (i + 1))
              case rel => exact ⟨i + 1, _, _, _, _, by omega, rfl, by go_num, rfl, by first | rfl | (congr 1; simp), hL'.out, hG'.out, by omega, hF'.out⟩
              case measure => rw [hgk'.out]; omega
      · have hup : Hid (reclaimP last K (last + 1) = (1, K)) := Lib.hid (by unfold reclaimP; rw [if_pos (by omega)])
        obtain ⟨hb1, hb2, hb3, -, hb5⟩ := hbd
        have hb7 : last ≤ 100 := by omega
        clear hb5
        go_wp2_with (first
              | (go_at_call 23; refine (hL'.out.reclaim _ hup.out).mono ?_; rintro e wX ⟨rfl, hf, hl⟩; have hz := hF'.out.size; replace hF' := Lib.hid (hL'.out.step1 hG'.out hF'.out hf); clear hf hl hz))
        go_ret
        exact ⟨rfl, hF'.out⟩
end Go.Proofs.Ytcbccogpogdbmaa
