/- TimerScript. -/
import Derived.Test.YtcnihacjkcicfaaLnext
import Derived.Test.YtcnihacjkcicfaaRow
import Derived.Deep.RegionHeld3
import Derived.Deep.RegionWith
import Derived.BigQuiet
import Derived.Lib.Hide
namespace Go.Proofs.Ytcnihacjkcicfaa
open Go.RowKit Go.Lib Go.Sort Go.Shelf
set_option maxRecDepth 100000 in
set_option maxHeartbeats 4000000 in
theorem script_law {B : Nat → Prop} (v : Value) (S : List (Int × Al)) (w : World) (h : SliceIs w B encStep v S) :
    Calls Try.prog 5 #[v] w fun e w' => e = .returned (.bool true) ∧ Fr [] w w' := by
  obtain ⟨a, cap, rfl, hc1, hc2, hat⟩ := h.at encStep_len
  have hat' := Lib.hid hat; clear hat h
  go_enter Try.func5, Try.ntmps5
  by_cases hS : 300 < S.length
  · go_wp2
    go_ret
    exact ⟨rfl, Fr.refl _ _⟩
  go_wp2_with (go_at_call 8; refine (new_any w).mono ?_; rintro e w1 ⟨tb, bm, rfl, hf1, ht1, l1, l2⟩)
  have hlt1 := ht1.lt
  have hr1 := RefAt.new w1 28
  have ht1' := ht1.fr ((Fr.refl [] w1).alloc (.cells #[.slice none 0 0] 28)) (by simp) (by simp)
  obtain ⟨rb, hrb⟩ : ∃ rb, rb = w1.heap.size := ⟨_, rfl⟩
  have hf1' := hf1.alloc (.cells #[.slice none 0 0] 28)
  rw [← hrb] at hr1
  have hne : tb ≠ rb := by omega
  have lrb : w.heap.size ≤ rb := by have := hf1.size; omega
  obtain ⟨w2, hw2⟩ : ∃ w2, w2 = (w1.alloc (.cells #[.slice none 0 0] 28)) := ⟨_, rfl⟩
  rw [← hw2] at hr1 ht1' hf1'
  go_loopg [5] S.length (fun gk iv wr => ∃ (i : Nat) (T : List Al), i ≤ S.length ∧ gk = S.length - i ∧ iv = .int .i64 i ∧ TimersAt wr tb bm T ∧ RefAt wr rb T ∧ Fr [bm, rb] w2 wr)
  case atStart => exact ⟨0, [], Nat.zero_le _, rfl, rfl, by rw [← hw2]; exact ht1', by rw [← hw2]; exact hr1, by rw [← hw2]; exact Fr.refl _ _⟩
  case round =>
    rw [← hrb]
    have hrb' := Lib.hid hrb
    clear hrb hw2
    obtain ⟨i, T, hi, hgk, rfl, ht, hr, hfr⟩ := hrel
    have hgk' := Lib.hid hgk; clear hgk
    by_cases hlt : i < S.length
    · obtain ⟨g', off, rfl, hg1, hg2, hcells⟩ := hat'.out (by intro h; rw [h] at hlt; simp at hlt)
      obtain ⟨⟨k, n, m, t⟩, hx⟩ : ∃ x, S[i]? = some x := ⟨_, List.getElem?_eq_getElem hlt⟩
      have q1 : g' < w2.heap.size := Nat.lt_of_lt_of_le hg2 hf1'.size
      have q2 : g' ∉ [bm, rb] := by simp; omega
      have k0 : wr.cell? ⟨g', off + i * 4, none⟩ = some (.int .i64 k) := by rw [hfr.cell (p := ⟨g', _, none⟩) q1 q2, hf1'.cell (p := ⟨g', _, none⟩) hg2 (by simp)]; exact hcells i _ 0 _ hx rfl
      have k1 : wr.cell? ⟨g', off + i * 4 + 1, none⟩ = some (.int .i64 n) := by rw [hfr.cell (p := ⟨g', _, none⟩) q1 q2, hf1'.cell (p := ⟨g', _, none⟩) hg2 (by simp)]; exact hcells i _ 1 _ hx rfl
      have k2 : wr.cell? ⟨g', off + i * 4 + 2, none⟩ = some (.int .i64 m) := by rw [hfr.cell (p := ⟨g', _, none⟩) q1 q2, hf1'.cell (p := ⟨g', _, none⟩) hg2 (by simp)]; exact hcells i _ 2 _ hx rfl
      have k3 : wr.cell? ⟨g', off + i * 4 + 3, none⟩ = some (.int .i64 t) := by rw [hfr.cell (p := ⟨g', _, none⟩) q1 q2, hf1'.cell (p := ⟨g', _, none⟩) hg2 (by simp)]; exact hcells i _ 3 _ hx rfl
      have htl := ht.lt
      have hrl := hr.lt
      have htf := ht.few
      clear hcells hx
      have hT' : T.length < 1000000 := by omega
      have hfd : Fr [] wr wr.drew := (Fr.refl [] wr).drew
      have hdo := does_any tb bm rb T T k n m t wr.drew (ht.fr hfd (by simp) (by simp)) (hr.fr hfd (by simp) (by simp)) hne hT'
      obtain ⟨T2, hT2⟩ : ∃ T2, T2 = stepT T k (n, m, t) := ⟨_, rfl⟩
      rw [← hT2] at hdo
      clear hT2
      go_wp2
      go_region_with (first | (go_at_call 18; refine hdo.mono ?_; rintro e wa ⟨b, rfl, hb, hfa, hta, hra⟩; obtain rfl := (show b = true from by simpa using hb); have hls := list_any tb bm T2 wa hta; obtain ⟨va, hva1, hva2, hva3⟩ := hra; obtain ⟨aa, capa, rfl, _, _, _⟩ := hva3.at encAl_len; have htfa := hta.few) | (go_at_call 15; refine hls.mono ?_; rintro e wb ⟨vb, rfl, hfb, hsb⟩; have hvb := (show wb.cell? ⟨rb, 0, none⟩ = some _ from by rw [hfb.cell (p := ⟨rb, 0, none⟩) (lt_of_cell hva1) (by simp)]; exact hva1); have hth := theirs_any vb T2 wb hsb (by omega)) | (go_at_call 11; refine hth.mono ?_; rintro e wc ⟨vc, rfl, hfc, hsc⟩; have hvc := (show wc.cell? ⟨rb, 0, none⟩ = some _ from by rw [hfc.cell (p := ⟨rb, 0, none⟩) (lt_of_cell hvb) (by simp)]; exact hvb); have hsm := same_any vc _ T2 T2 wc hsc ((hva3.fr hfb (by simp)).fr hfc (by simp)) (by omega); rw [decide_eq_true (rfl : T2 = T2)] at hsm) | (go_at_call 13; refine hsm.mono ?_; rintro e wd ⟨rfl, q, rfl⟩))
      all_goals
        clear hdo hls hth hsm hb
        have hF0 : Fr [bm, rb] wr (wc.drewN q) := (((((Fr.refl [bm, rb] wr).drew).trans hfa).trans (hfb.mono (by simp))).trans (hfc.mono (by simp))).drewN q
        have hFn : Fr [] wa (wc.drewN q) := (hfb.trans hfc).drewN q
        have htW := hta.fr hFn (by simp) (by simp)
        have hrW := RefAt.fr ⟨_, hva1, hva2, hva3⟩ hFn (by simp) (by simp)
        clear hfa hta hva1 hva2 hva3 hfb hsb hvb hfc hsc hvc hFn
        obtain ⟨W, hW⟩ : ∃ W, W = wc.drewN q := ⟨_, rfl⟩
        rw [← hW] at hF0 htW hrW
        rw [← hW]
        clear hW
        have hFW := hfr.trans hF0
        have k1W : W.cell? ⟨g', off + i * 4 + 1, none⟩ = some (.int .i64 n) := by rw [hF0.cell (p := ⟨g', _, none⟩) (lt_of_cell k1) q2]; exact k1
        clear k0 k1 k2 k3 hF0
        have hn := next_any tb bm T2 n W htW
        obtain ⟨⟨y1, y2, y3⟩, hy⟩ : ∃ y, y = ((T2.filter fun a => decide (a.1 = n)).headD (0, 0, 0)) := ⟨_, rfl⟩
        obtain ⟨by', hby⟩ : ∃ y, y = (!(T2.filter fun a => decide (a.1 = n)).isEmpty) := ⟨_, rfl⟩
        have hrn : ∀ Wx, RefAt Wx rb T2 → _ := fun Wx hx => rnext_any rb T2 n Wx hx (by omega)
        rw [← hy, ← hby] at hn
        simp only [← hy, ← hby] at hrn
        have hn' := Lib.hid hrn; clear hrn hy hby
        unfold aggAl at hn hn'
        dsimp only at hn hn'
        go_wp2_with (first | (go_at_call 17; refine hn.mono ?_; rintro e wx ⟨rfl, hfx⟩; have hfx' := hfx.alloc (.cells #[.int .i64 y1, .int .i64 y2, .int .i64 y3] 32); have htX := htW.fr hfx' (by simp) (by simp); have hrX := hrW.fr hfx' (by simp) (by simp); have k1X := (show (wx.alloc (.cells #[.int .i64 y1, .int .i64 y2, .int .i64 y3] 32)).cell? ⟨g', off + i * 4 + 1, none⟩ = some (.int .i64 n) from by rw [hfx'.cell (p := ⟨g', _, none⟩) (lt_of_cell k1W) (by simp)]; exact k1W); have k1x := (show wx.cell? ⟨g', off + i * 4 + 1, none⟩ = some (.int .i64 n) from by rw [hfx.cell (p := ⟨g', _, none⟩) (lt_of_cell k1W) (by simp)]; exact k1W); have lgx := lt_of_cell k1x; have hrn2 := hn'.out _ hrX) | (go_at_call 19; refine hrn2.mono ?_; rintro e wy ⟨rfl, hfy⟩; have y0 := (show wy.cell? ⟨wx.heap.size, 0, none⟩ = some (.int .i64 y1) from by rw [hfy.cell (p := ⟨wx.heap.size, 0, none⟩) (by simp) (by simp)]; go_simp); have y1' := (show wy.cell? ⟨wx.heap.size, 1, none⟩ = some (.int .i64 y2) from by rw [hfy.cell (p := ⟨wx.heap.size, 1, none⟩) (by simp) (by simp)]; go_simp); have y2' := (show wy.cell? ⟨wx.heap.size, 2, none⟩ = some (.int .i64 y3) from by rw [hfy.cell (p := ⟨wx.heap.size, 2, none⟩) (by simp) (by simp)]; go_simp); have lyx := lt_of_cell y0))
        have hrbe := hrb'.out
        subst hrbe
        go_roundg (S.length - (i + 1))
        case rel => exact ⟨i + 1, T2, by omega, rfl, by go_num, htX.fr (hfy.alloc _) (by simp) (by simp), hrX.fr (hfy.alloc _) (by simp) (by simp), hFW.trans ((hfx'.trans (hfy.alloc _)).mono (by simp))⟩
        case measure => rw [hgk'.out]; omega
    · go_wp2_with (go_at_call 16; refine (shown_any _).mono ?_; rintro e wc ⟨rfl, hfc⟩)
      go_ret
      exact ⟨rfl, hf1'.andThen (hfr.trans (hfc.mono (by simp))) (fun s hs => by simp at hs; omega)⟩
end Go.Proofs.Ytcnihacjkcicfaa
