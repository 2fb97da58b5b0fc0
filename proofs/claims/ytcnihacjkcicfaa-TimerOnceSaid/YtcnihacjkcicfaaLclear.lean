/- TimerClear. -/
import Derived.Test.YtcnihacjkcicfaaLp
import Derived.Deep.RegionHeld3
import Derived.Lib.Hide
namespace Go.Proofs.Ytcnihacjkcicfaa
open Go.RowKit Go.Lib Go.Sort Go.Shelf
theorem cntN_take (n : Int) {T : List Al} {j : Nat} {x : Al} (h : T[j]? = some x) : cntN n (T.take (j + 1)) = cntN n (T.take j) + (if x.1 = n then 1 else 0) := by
  unfold cntN
  rw [filter_take_add h, List.length_append]
  by_cases h : x.1 = n <;> simp [h]
theorem hasNT_take (n t : Int) {T : List Al} {j : Nat} {x : Al} (h : T[j]? = some x) : hasNT n t (T.take (j + 1)) = (hasNT n t (T.take j) || decide (x.1 = n ∧ x.2.2 = t)) := by
  unfold hasNT
  rw [take_add h, List.any_append]
  simp
theorem clear_none (tb bm : Nat) (T : List Al) (n : Int) (w : World) (h : TimersAt w tb bm T) (hn : noN n T) :
    Calls Try.prog 20 #[.pointer (some ⟨tb, 0, none⟩), .int .i64 n] w fun e w' => e = .returned (.int .i64 0) ∧ Fr [bm] w w' ∧ TimersAt w' tb bm T := by
  have := clear_any tb bm T n w h
  rw [noN_filter hn _ (by simp), noN_keep hn (fun a => decide (a.1 = n)) (by simp)] at this
  exact this
theorem due_none (tb bm : Nat) (T : List Al) (n m : Int) (w : World) (h : TimersAt w tb bm T) (hn : noN n T) :
    Calls Try.prog 12 #[.pointer (some ⟨tb, 0, none⟩), .int .i64 n, .int .i64 m] w fun e w' => ∃ v, e = .returned v ∧ Fr [bm] w w' ∧ SliceIs w' (w.heap.size ≤ ·) encAl v [] ∧ TimersAt w' tb bm T := by
  have := due_any tb bm T n m w h
  rw [noN_filter hn _ (by simp +contextual), noN_keep hn (fun a => decide (a.1 = n ∧ a.2.1 ≤ m)) (by simp +contextual)] at this
  exact this
theorem next_none (tb bm : Nat) (T : List Al) (n : Int) (w : World) (h : TimersAt w tb bm T) (hn : noN n T) :
    Calls Try.prog 17 #[.pointer (some ⟨tb, 0, none⟩), .int .i64 n] w fun e w' => e = .returned (.tuple #[.agg #[.int .i64 0, .int .i64 0, .int .i64 0], .bool false]) ∧ Fr [] w w' := by
  have := next_any tb bm T n w h
  rw [noN_filter hn _ (by simp)] at this
  exact this
theorem stop_has (tb bm : Nat) (T : List Al) (n t : Int) (w : World) (h : TimersAt w tb bm T) (hn : hasNT n t T = true) :
    Calls Try.prog 21 #[.pointer (some ⟨tb, 0, none⟩), .int .i64 n, .int .i64 t] w fun e w' => e = .returned (.int .i64 0) ∧ Fr [bm] w w' ∧ TimersAt w' tb bm (T.filter fun a => !decide (a.1 = n ∧ a.2.2 = t)) := by
  have := stop_any tb bm T n t w h
  rw [if_neg (fun e => by rw [(hasNT_stop n t T).1 e] at hn; cases hn)] at this
  exact this
theorem stop_not (tb bm : Nat) (T : List Al) (n t : Int) (w : World) (h : TimersAt w tb bm T) (hn : hasNT n t T = false) :
    Calls Try.prog 21 #[.pointer (some ⟨tb, 0, none⟩), .int .i64 n, .int .i64 t] w fun e w' => e = .returned (.int .i64 3) ∧ Fr [bm] w w' ∧ TimersAt w' tb bm T := by
  have := stop_any tb bm T n t w h
  rw [if_pos ((hasNT_stop n t T).2 hn), cnt_not n t hn] at this
  exact this
theorem clear_cnt (tb bm : Nat) (T : List Al) (n : Int) (c : Nat) (U : List Al) (w : World) (h : TimersAt w tb bm T) (hc : cntN n T = c) (hU : (T.filter fun a => !decide (a.1 = n)) = U) :
    Calls Try.prog 20 #[.pointer (some ⟨tb, 0, none⟩), .int .i64 n] w fun e w' => e = .returned (.int .i64 c) ∧ Fr [bm] w w' ∧ TimersAt w' tb bm U := by
  have := clear_any tb bm T n w h
  rw [← hc, ← hU]; exact this
set_option maxRecDepth 100000 in
set_option maxHeartbeats 4000000 in
theorem clear_law {B : Nat → Prop} (v : Value) (S : List Al) (n t : Int) (w : World) (h : SliceIs w B encAl v S) :
    Calls Try.prog 7 #[v, .int .i64 n, .int .i64 t] w fun e w' => e = .returned (.bool true) ∧ Fr [] w w' := by
  obtain ⟨a, cap, rfl, hc1, hc2, hat⟩ := h.at encAl_len
  have hat' := Lib.hid hat; clear hat h
  go_enter Try.func7, Try.ntmps7
  by_cases hS : 60 < S.length
  · go_wp2
    go_ret
    exact ⟨rfl, Fr.refl _ _⟩
  go_wp2_with (go_at_call 8; refine (new_any w).mono ?_; rintro e w1 ⟨tb, bm, rfl, hf1, ht1, l1, l2⟩)
  go_loopg [8] S.length (fun gk iv wr => ∃ (i : Nat) (T : List Al), i ≤ S.length ∧ gk = S.length - i ∧ iv = .int .i64 i ∧ TimersAt wr tb bm T ∧ Okays T ∧ Fr [bm] w1 wr)
  case atStart => exact ⟨0, [], Nat.zero_le _, rfl, rfl, ht1, by simp [Okays], Fr.refl _ _⟩
  case round =>
    obtain ⟨i, T, hi, hgk, rfl, ht, hok, hfr⟩ := hrel
    have hgk' := Lib.hid hgk; clear hgk
    by_cases hlt : i < S.length
    · obtain ⟨g', off, rfl, hg1, hg2, hcells⟩ := hat'.out (by intro h; rw [h] at hlt; simp at hlt)
      obtain ⟨x, hx⟩ : ∃ x, S[i]? = some x := ⟨_, List.getElem?_eq_getElem hlt⟩
      have hfw : Fr [bm] w1 wr := hfr
      have q1 : g' < w1.heap.size := Nat.lt_of_lt_of_le hg2 hf1.size
      have q2 : g' ∉ [bm] := by simp; omega
      have k0 : wr.cell? ⟨g', off + i * 3, none⟩ = some (.int .i64 x.1) := by rw [hfr.cell (p := ⟨g', _, none⟩) q1 q2, hf1.cell (p := ⟨g', _, none⟩) hg2 (by simp)]; exact hcells i x 0 _ hx rfl
      have k1 : wr.cell? ⟨g', off + i * 3 + 1, none⟩ = some (.int .i64 x.2.1) := by rw [hfr.cell (p := ⟨g', _, none⟩) q1 q2, hf1.cell (p := ⟨g', _, none⟩) hg2 (by simp)]; exact hcells i x 1 _ hx rfl
      have k2 : wr.cell? ⟨g', off + i * 3 + 2, none⟩ = some (.int .i64 x.2.2) := by rw [hfr.cell (p := ⟨g', _, none⟩) q1 q2, hf1.cell (p := ⟨g', _, none⟩) hg2 (by simp)]; exact hcells i x 2 _ hx rfl
      clear hcells hx
      go_wp2_with (go_at_call 9; refine (set_any tb bm T x wr ht).mono ?_; rintro e w2 ⟨rfl, hf2, ht2⟩)
      go_roundg (S.length - (i + 1))
      case rel => exact ⟨i + 1, _, by omega, rfl, by go_num, ht2, hok.set x, hfr.trans hf2⟩
      case measure => rw [hgk'.out]; omega
    · clear hgk' hat'
      have htk := ht.keys
      have htf := ht.few
      have hTl : T.length < 1000000 := by omega
      have htl := ht.lt
      have htk' := Lib.hid htk; have hok' := Lib.hid hok; clear htk hok
      go_wp2_with (go_at_call 15; refine (list_any tb bm T wr ht).mono ?_; rintro e w2 ⟨v2, rfl, hf2, hs2⟩)
      have ht2 := ht.fr hf2 (by simp) (by simp)
      obtain ⟨a2, cap2, rfl, _, _, hat2⟩ := hs2.at encAl_len
      have hat2' := Lib.hid hat2; clear hat2 hs2 ht
      have hfr2 := (hfr.trans (hf2.mono (by simp)))
      go_loopg [10, 11, 12] T.length (fun gk hv bv iv wl => ∃ (j q : Nat), j ≤ T.length ∧ gk = T.length - j ∧ iv = .int .i64 j ∧ hv = .int .i64 (cntN n (T.take j) : Nat) ∧ bv = .bool (hasNT n t (T.take j)) ∧ wl = w2.drewN q)
      case atStart => exact ⟨0, 0, Nat.zero_le _, rfl, rfl, rfl, rfl, rfl⟩
      case round =>
        obtain ⟨j, q, hj, hgk, rfl, rfl, rfl, rfl⟩ := hrel
        have hgk' := Lib.hid hgk; clear hgk
        by_cases hjt : j < T.length
        · obtain ⟨g', off, rfl, hg1, hg2, hcells⟩ := hat2'.out (by intro h; rw [h] at hjt; simp at hjt)
          obtain ⟨⟨x1, x2, x3⟩, hx⟩ : ∃ x, T[j]? = some x := ⟨_, List.getElem?_eq_getElem hjt⟩
          have k0 : w2.cell? ⟨g', off + j * 3, none⟩ = some (.int .i64 x1) := hcells j _ 0 _ hx rfl
          have k2 : w2.cell? ⟨g', off + j * 3 + 2, none⟩ = some (.int .i64 x3) := hcells j _ 2 _ hx rfl
          have hc := Lib.hid (cntN_take n hx)
          have hh := Lib.hid (hasNT_take n t hx)
          have hcl : cntN n (T.take j) < 1000000 := Nat.lt_of_le_of_lt (cntN_le _ _) (by simp; omega)
          obtain ⟨c, hcc⟩ : ∃ c, c = cntN n (T.take j) := ⟨_, rfl⟩
          obtain ⟨b, hbb⟩ : ∃ b, b = hasNT n t (T.take j) := ⟨_, rfl⟩
          rw [← hcc] at hc hcl
          rw [← hbb] at hh
          rw [← hcc, ← hbb]
          clear hcells hx hcc hbb
          by_cases h1 : x1 = n
          · subst h1
            cases b
            · by_cases h2 : x3 = t
              · subst h2
                go_wp2
                go_roundg (T.length - (j + 1))
                case rel => exact ⟨j + 1, q, by omega, rfl, by go_num, by rw [hc.out]; simp, by rw [hh.out]; simp, rfl⟩
                case measure => rw [hgk'.out]; omega
              · go_wp2
                go_roundg (T.length - (j + 1))
                case rel => exact ⟨j + 1, q, by omega, rfl, by go_num, by rw [hc.out]; simp, by rw [hh.out]; simp [h2], rfl⟩
                case measure => rw [hgk'.out]; omega
            · go_wp2
              go_roundg (T.length - (j + 1))
              case rel => exact ⟨j + 1, q, by omega, rfl, by go_num, by rw [hc.out]; simp, by rw [hh.out]; simp, rfl⟩
              case measure => rw [hgk'.out]; omega
          · go_wp2
            go_roundg (T.length - (j + 1))
            case rel => exact ⟨j + 1, q, by omega, rfl, by go_num, by rw [hc.out]; simp [h1], by rw [hh.out]; simp [h1], rfl⟩
            case measure => rw [hgk'.out]; omega
        · have hjT : j = T.length := by omega
          subst hjT
          rw [List.take_length]
          have hfd := (Fr.refl [] w2).drewN q
          obtain ⟨w2', hw2'⟩ : ∃ w', w' = w2.drewN q := ⟨_, rfl⟩
          rw [← hw2'] at hfd ⊢
          have ht2' := ht2.fr hfd (by simp) (by simp)
          have hcT : cntN n T < 1000000 := Nat.lt_of_le_of_lt (cntN_le _ _) hTl
          clear hgk' hw2' hat2'
          obtain ⟨b, hb⟩ : ∃ b, hasNT n t T = b := ⟨_, rfl⟩
          rw [hb]
          cases b
          · obtain ⟨c, hc⟩ : ∃ c, cntN n T = c := ⟨_, rfl⟩
            rw [hc] at hcT ⊢
            have hc' := Lib.hid hc; have hb' := Lib.hid hb; clear hc hb
            have hTT := cnt_rest n T
            have hTr' := Lib.hid hTT; clear hTT
            have hU := noN_rest n T
            have hUo := hok'.out.filter (fun a => !decide (a.1 = n))
            obtain ⟨U, hUe⟩ : ∃ U, U = T.filter fun a => !decide (a.1 = n) := ⟨_, rfl⟩
            rw [← hUe] at hU hUo hTr'
            have hUe' := Lib.hid hUe; clear hUe
            have hUl : U.length < 1000000 := by have := hTr'.out; omega
            have hst := stop_not tb bm T n t w2' ht2' hb'.out
            go_wp2_with (first | (go_at_call 21; refine hst.mono ?_; rintro e w3 ⟨rfl, hf3, ht3⟩; have hcl := clear_cnt tb bm _ n c U w3 ht3 hc'.out hUe'.out.symm; have hF := hf3) | (go_at_call 20; refine hcl.mono ?_; rintro e w4 ⟨rfl, hf4, ht4⟩; have hcn := clear_none tb bm U n w4 ht4 hU; clear hcl; have hF := hF.trans hf4) | (go_at_call 20; refine hcn.mono ?_; rintro e w5 ⟨rfl, hf5, ht5⟩; have hdu := due_none tb bm U n 1099511627776 w5 ht5 hU; have hF := hF.trans hf5) | (go_at_call 12; refine hdu.mono ?_; rintro e w6 ⟨v6, rfl, hf6, hs6, ht6⟩; obtain ⟨a6, cap6, rfl, _, _, _⟩ := hs6.at encAl_len; have hnx := next_none tb bm U n w6 ht6 hU; have hF := hF.trans hf6) | (go_at_call 17; refine hnx.mono ?_; rintro e w7 ⟨rfl, hf7⟩; have ht7 := ht6.fr hf7 (by simp) (by simp); have hF := hF.trans (hf7.mono (by simp))))
            have hw7 := hf7.size
            have hb7 := ht7.lt
            have lb2 := ht2'.lt
            go_loopg [15, 16] 8 (fun gk nv iv wl => ∃ (k : Nat), k ≤ 8 ∧ gk = 8 - k ∧ iv = .int .i64 k ∧ nv = .int .i64 ((U.filter fun a => decide (a.1 < (k : Int))).length : Nat) ∧ TimersAt wl tb bm (U.filter fun a => !decide (a.1 < (k : Int))) ∧ Fr [bm] w7 wl)
            case atStart => exact ⟨0, by omega, rfl, rfl, by rw [show ((0 : Nat) : Int) = 0 from rfl, (upto_all hUo).2.2.1]; rfl, by rw [show ((0 : Nat) : Int) = 0 from rfl, (upto_all hUo).2.2.2]; exact ht7.fr ((Fr.refl [] _).alloc _) (by simp) (by simp), (Fr.refl _ _).alloc _⟩
            case round =>
              obtain ⟨k, hk, hgk, rfl, rfl, htk, hfk⟩ := hrel
              have hgk' := Lib.hid hgk; clear hgk
              have hlen := Lib.hid (upto_len (k : Int) hUo)
              have hstp := Lib.hid (upto_step hUo (k : Int))
              have hall := Lib.hid (upto_all hUo)
              have hm1 : (U.filter fun a => decide (a.1 < (k : Int))).length < 1000000 := Nat.lt_of_le_of_lt (List.length_filter_le _ _) hUl
              by_cases hk8 : k < 8
              · have hdk := due_any tb bm _ k 1099511627776 wr htk
                obtain ⟨m, hm⟩ : ∃ m, m = (U.filter fun a => decide (a.1 < (k : Int))).length := ⟨_, rfl⟩
                rw [← hm] at hlen hm1 ⊢
                obtain ⟨V, hV⟩ : ∃ V, V = (List.filter (fun a => decide (a.1 = (k : Int) ∧ a.2.1 ≤ 1099511627776)) (List.filter (fun a => !decide (a.1 < (k : Int))) U)) := ⟨_, rfl⟩
                have hm2 : V.length < 1000000 := by rw [hV]; exact Nat.lt_of_le_of_lt (List.length_filter_le _ _) (Nat.lt_of_le_of_lt (List.length_filter_le _ _) hUl)
                rw [← hV] at hdk hlen
                clear hm htk hV
                go_wp2_with (go_at_call 12; refine hdk.mono ?_; rintro e w8 ⟨v8, rfl, hf8, hs8, ht8⟩; obtain ⟨a8, cap8, rfl, _, _, _⟩ := hs8.at encAl_len)
                go_roundg (8 - (k + 1))
                case rel => exact ⟨k + 1, by omega, rfl, by go_num, by rw [show ((k + 1 : Nat) : Int) = (k : Int) + 1 from rfl, ← hlen.out]; go_num, by rw [show ((k + 1 : Nat) : Int) = (k : Int) + 1 from rfl, ← hstp.out]; exact ht8, hfk.trans hf8⟩
                case measure => rw [hgk'.out]; omega
              · have hk8 : k = 8 := by omega
                subst hk8
                rw [show ((8 : Nat) : Int) = 8 from rfl] at *
                rw [hall.out.2.1] at htk
                rw [hall.out.1]
                have hls := list_any tb bm [] wr htk
                have hT' := hTr'.out
                rw [hc'.out] at hT'
                go_wp2_with (first | (go_at_call 15; refine hls.mono ?_; rintro e w9 ⟨v9, rfl, hf9, hs9⟩; obtain ⟨a9, cap9, rfl, _, _, _⟩ := hs9.at encAl_len) | (go_at_call 16; refine (shown_any _).mono ?_; rintro e w10 ⟨rfl, hf10⟩))
                go_ret
                exact ⟨rfl, hf1.andThen ((((hfr2.trans (hfd.mono (by simp))).trans hF).trans hfk).trans ((hf9.mono (by simp)).trans (hf10.mono (by simp)))) (fun s hs => by simp at hs; subst hs; exact .inr l2)⟩
          · obtain ⟨c, hc⟩ : ∃ c, cntN n T = c + 1 := ⟨_, (cnt_has n t htk'.out hb).symm⟩
            rw [hc] at hcT ⊢
            have hc' := Lib.hid hc; have hb' := Lib.hid hb; clear hc hb
            have hcc := cnt_has n t htk'.out hb'.out
            rw [hc'.out] at hcc
            have hcc' := Lib.hid hcc; clear hcc
            have hTT := cnt_rest n T
            have hTr' := Lib.hid hTT; clear hTT
            have hU := noN_rest n T
            have hUo := hok'.out.filter (fun a => !decide (a.1 = n))
            obtain ⟨U, hUe⟩ : ∃ U, U = T.filter fun a => !decide (a.1 = n) := ⟨_, rfl⟩
            rw [← hUe] at hU hUo hTr'
            have hUe' := Lib.hid hUe; clear hUe
            have hUl : U.length < 1000000 := by have := hTr'.out; omega
            have hst := stop_has tb bm T n t w2' ht2' hb'.out
            go_wp2_with (first | (go_at_call 21; refine hst.mono ?_; rintro e w3 ⟨rfl, hf3, ht3⟩; have hcl := clear_cnt tb bm _ n c U w3 ht3 (Nat.succ.inj hcc'.out) ((cut_cut n t T).trans hUe'.out.symm); have hF := hf3) | (go_at_call 20; refine hcl.mono ?_; rintro e w4 ⟨rfl, hf4, ht4⟩; have hcn := clear_none tb bm U n w4 ht4 hU; clear hcl; have hF := hF.trans hf4) | (go_at_call 20; refine hcn.mono ?_; rintro e w5 ⟨rfl, hf5, ht5⟩; have hdu := due_none tb bm U n 1099511627776 w5 ht5 hU; have hF := hF.trans hf5) | (go_at_call 12; refine hdu.mono ?_; rintro e w6 ⟨v6, rfl, hf6, hs6, ht6⟩; obtain ⟨a6, cap6, rfl, _, _, _⟩ := hs6.at encAl_len; have hnx := next_none tb bm U n w6 ht6 hU; have hF := hF.trans hf6) | (go_at_call 17; refine hnx.mono ?_; rintro e w7 ⟨rfl, hf7⟩; have ht7 := ht6.fr hf7 (by simp) (by simp); have hF := hF.trans (hf7.mono (by simp))))
            have hw7 := hf7.size
            have hb7 := ht7.lt
            have lb2 := ht2'.lt
            go_loopg [15, 16] 8 (fun gk nv iv wl => ∃ (k : Nat), k ≤ 8 ∧ gk = 8 - k ∧ iv = .int .i64 k ∧ nv = .int .i64 ((U.filter fun a => decide (a.1 < (k : Int))).length : Nat) ∧ TimersAt wl tb bm (U.filter fun a => !decide (a.1 < (k : Int))) ∧ Fr [bm] w7 wl)
            case atStart => exact ⟨0, by omega, rfl, rfl, by rw [show ((0 : Nat) : Int) = 0 from rfl, (upto_all hUo).2.2.1]; rfl, by rw [show ((0 : Nat) : Int) = 0 from rfl, (upto_all hUo).2.2.2]; exact ht7.fr ((Fr.refl [] _).alloc _) (by simp) (by simp), (Fr.refl _ _).alloc _⟩
            case round =>
              obtain ⟨k, hk, hgk, rfl, rfl, htk, hfk⟩ := hrel
              have hgk' := Lib.hid hgk; clear hgk
              have hlen := Lib.hid (upto_len (k : Int) hUo)
              have hstp := Lib.hid (upto_step hUo (k : Int))
              have hall := Lib.hid (upto_all hUo)
              have hm1 : (U.filter fun a => decide (a.1 < (k : Int))).length < 1000000 := Nat.lt_of_le_of_lt (List.length_filter_le _ _) hUl
              by_cases hk8 : k < 8
              · have hdk := due_any tb bm _ k 1099511627776 wr htk
                obtain ⟨m, hm⟩ : ∃ m, m = (U.filter fun a => decide (a.1 < (k : Int))).length := ⟨_, rfl⟩
                rw [← hm] at hlen hm1 ⊢
                obtain ⟨V, hV⟩ : ∃ V, V = (List.filter (fun a => decide (a.1 = (k : Int) ∧ a.2.1 ≤ 1099511627776)) (List.filter (fun a => !decide (a.1 < (k : Int))) U)) := ⟨_, rfl⟩
                have hm2 : V.length < 1000000 := by rw [hV]; exact Nat.lt_of_le_of_lt (List.length_filter_le _ _) (Nat.lt_of_le_of_lt (List.length_filter_le _ _) hUl)
                rw [← hV] at hdk hlen
                clear hm htk hV
                go_wp2_with (go_at_call 12; refine hdk.mono ?_; rintro e w8 ⟨v8, rfl, hf8, hs8, ht8⟩; obtain ⟨a8, cap8, rfl, _, _, _⟩ := hs8.at encAl_len)
                go_roundg (8 - (k + 1))
                case rel => exact ⟨k + 1, by omega, rfl, by go_num, by rw [show ((k + 1 : Nat) : Int) = (k : Int) + 1 from rfl, ← hlen.out]; go_num, by rw [show ((k + 1 : Nat) : Int) = (k : Int) + 1 from rfl, ← hstp.out]; exact ht8, hfk.trans hf8⟩
                case measure => rw [hgk'.out]; omega
              · have hk8 : k = 8 := by omega
                subst hk8
                rw [show ((8 : Nat) : Int) = 8 from rfl] at *
                rw [hall.out.2.1] at htk
                rw [hall.out.1]
                have hls := list_any tb bm [] wr htk
                have hT' := hTr'.out
                rw [hc'.out] at hT'
                go_wp2_with (first | (go_at_call 15; refine hls.mono ?_; rintro e w9 ⟨v9, rfl, hf9, hs9⟩; obtain ⟨a9, cap9, rfl, _, _, _⟩ := hs9.at encAl_len) | (go_at_call 16; refine (shown_any _).mono ?_; rintro e w10 ⟨rfl, hf10⟩))
                go_ret
                exact ⟨rfl, hf1.andThen ((((hfr2.trans (hfd.mono (by simp))).trans hF).trans hfk).trans ((hf9.mono (by simp)).trans (hf10.mono (by simp)))) (fun s hs => by simp at hs; subst hs; exact .inr l2)⟩
end Go.Proofs.Ytcnihacjkcicfaa
