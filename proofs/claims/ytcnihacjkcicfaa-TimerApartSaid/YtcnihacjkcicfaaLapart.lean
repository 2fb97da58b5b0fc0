/- TimerApart. -/
import Derived.Test.YtcnihacjkcicfaaLnext
import Derived.Test.YtcnihacjkcicfaaRow
import Derived.Deep.RegionHeld3
import Derived.BigQuiet
import Derived.Lib.Hide
namespace Go.Proofs.Ytcnihacjkcicfaa
open Go.RowKit Go.Lib Go.Sort Go.Shelf
def ofN (n : Int) (T : List Al) : List Al := T.filter fun a => decide (a.1 = n)
theorem insA_len (x : Al) : ∀ T, (insA x T).length = T.length + 1
  | [] => rfl
  | b :: T => by
    unfold insA
    split
    · rfl
    · simp [insA_len x T]
theorem without_len (T : List Al) (k : Int × Int) : (without T k).length ≤ T.length := List.length_filter_le _ _
theorem stepT_len (T : List Al) (k : Int) (x : Al) : (stepT T k x).length ≤ T.length + 1 := by
  unfold stepT
  split
  · unfold setT
    split
    · simp
    · split
      · simp
      · rw [insA_len]; have := without_len T (keyOf x); omega
  · split
    · exact Nat.le_succ_of_le (List.length_filter_le _ _)
    · split
      · exact Nat.le_succ_of_le (List.length_filter_le _ _)
      · split
        · exact Nat.le_succ_of_le (List.length_filter_le _ _)
        · simp
theorem filter_swap {α : Type} (p q : α → Bool) (T : List α) : (T.filter p).filter q = (T.filter q).filter p := by
  rw [List.filter_filter, List.filter_filter]
  apply List.filter_congr
  intro a _
  exact Bool.and_comm _ _
theorem ofN_far {n : Int} {T : List Al} (p : Al → Bool) (h : ∀ a, p a = false → a.1 ≠ n) : ofN n (T.filter p) = ofN n T := by
  unfold ofN
  rw [List.filter_filter]
  apply List.filter_congr
  intro a _
  cases hp : p a with
  | true => simp
  | false => simp [h a hp]
theorem insA_filter {x : Al} {T : List Al} (hs : Srt T) (hk : ∀ b ∈ T, keyOf b ≠ keyOf x) (p : Al → Bool) (hp : p x = true) : (insA x T).filter p = insA x (T.filter p) := by
  refine srt_eq ((insA_srt x T hs hk).filter _) (insA_srt x _ (hs.filter _) (fun b hb => hk b (List.mem_filter.1 hb).1)) ?_
  refine ((insA_perm x T).filter p).trans (List.Perm.trans ?_ (insA_perm x _).symm)
  rw [List.filter_cons, if_pos hp]
theorem insA_far {x : Al} {T : List Al} (p : Al → Bool) (hp : p x = false) : (insA x T).filter p = T.filter p := by
  induction T with
  | nil => simp [insA, hp]
  | cons b T ih =>
    unfold insA
    split
    · rw [List.filter_cons, if_neg (by simp [hp])]
    · rw [List.filter_cons, List.filter_cons, ih]
theorem step_far {n k : Int} {x : Al} {T : List Al} (h : x.1 ≠ n) : ofN n (stepT T k x) = ofN n T := by
  unfold stepT
  split
  · unfold setT
    split
    · rfl
    · split
      · rfl
      · show ofN n (insA x (without T (keyOf x))) = _
        unfold ofN
        rw [insA_far _ (by simpa using h)]
        exact ofN_far _ (fun a ha => by
          intro e
          simp only [decide_eq_false_iff_not, ne_eq, Decidable.not_not] at ha
          exact h (by rw [← e]; unfold keyOf at ha; exact (Prod.mk.inj ha).1.symm))
  · split
    · exact ofN_far _ (fun a ha e => h (by simp at ha; rw [← e, ha.1]))
    · split
      · exact ofN_far _ (fun a ha e => h (by simp at ha; rw [← e, ha.1]))
      · split
        · exact ofN_far _ (fun a ha e => h (by simp at ha; rw [← e, ha]))
        · rfl
theorem step_near {n k : Int} {x : Al} {T : List Al} (hs : Srt T) (hl : T.length < 64) (h : x.1 = n) : ofN n (stepT T k x) = stepT (ofN n T) k x := by
  have hw : without (ofN n T) (keyOf x) = ofN n (without T (keyOf x)) := filter_swap _ _ _
  unfold stepT
  split
  · unfold setT
    by_cases hb : badA x
    · rw [if_pos hb, if_pos hb]
    · have h1 := without_len T (keyOf x)
      have h2 := without_len (ofN n T) (keyOf x)
      have h3 : (ofN n T).length ≤ T.length := List.length_filter_le _ _
      rw [if_neg hb, if_neg hb, if_neg (by omega), if_neg (by omega)]
      show ofN n (insA x (without T (keyOf x))) = insA x (without (ofN n T) (keyOf x))
      rw [hw]
      exact insA_filter (hs.filter _) (fun b hb => by have := (List.mem_filter.1 hb).2; simpa using this) _ (by simpa using h)
  · split
    · exact filter_swap _ _ _
    · split
      · exact filter_swap _ _ _
      · split
        · exact filter_swap _ _ _
        · rfl
theorem ofN_twice (n : Int) (T : List Al) : ofN n (ofN n T) = ofN n T := by
  unfold ofN
  rw [List.filter_filter]
  apply List.filter_congr
  intro a _
  exact Bool.and_self _
theorem ofN_gone (n : Int) (T : List Al) : (ofN n T).filter (fun a => !decide (a.1 = n)) = [] := by
  rw [List.filter_eq_nil_iff]
  intro a ha
  have := (List.mem_filter.1 ha).2
  simp at this
  simp [this]
theorem next_ofN (tb bm : Nat) (T : List Al) (n : Int) (y : Al) (b : Bool) (w : World) (h : TimersAt w tb bm T) (hy : y = (ofN n T).headD (0, 0, 0)) (hb : b = !(ofN n T).isEmpty) :
    Calls Try.prog 17 #[.pointer (some ⟨tb, 0, none⟩), .int .i64 n] w fun e w' => e = .returned (.tuple #[.agg #[.int .i64 y.1, .int .i64 y.2.1, .int .i64 y.2.2], .bool b]) ∧ Fr [] w w' := by
  rw [hy, hb]; exact next_any tb bm T n w h
set_option maxRecDepth 100000 in
set_option maxHeartbeats 4000000 in
theorem apart_law {B : Nat → Prop} (v : Value) (S : List (Int × Al)) (node : Int) (w : World) (h : SliceIs w B encStep v S) :
    Calls Try.prog 6 #[v, .int .i64 node] w fun e w' => e = .returned (.bool true) ∧ Fr [] w w' := by
  obtain ⟨a, cap, rfl, hc1, hc2, hat⟩ := h.at encStep_len
  have hat' := Lib.hid hat; clear hat h
  go_enter Try.func6, Try.ntmps6
  by_cases hS : 60 < S.length
  · go_wp2
    go_ret
    exact ⟨rfl, Fr.refl _ _⟩
  have hn1 := new_any w
  have hn2 : ∀ W, _ := fun W => new_any W
  have hn2' := Lib.hid hn2; clear hn2
  go_wp2_with (first | (go_at_call 8; refine hn1.mono ?_; rintro e w1 ⟨tb, bm, rfl, hf1, ht1, l1, l2⟩; have hnx := hn2'.out w1) | (go_at_call 8; refine hnx.mono ?_; rintro e w2 ⟨ub, um, rfl, hf2, hu1, l3, l4⟩))
  have hz1 := hf1.size
  have hlt1 := ht1.lt
  have ht2 := ht1.fr hf2 (by simp) (by simp)
  have hf12 := hf1.trans hf2
  clear hnx hn1 hn2'
  go_loopg [7] S.length (fun gk iv wr => ∃ (i : Nat) (T : List Al), i ≤ S.length ∧ gk = S.length - i ∧ iv = .int .i64 i ∧ T.length ≤ i ∧ TimersAt wr tb bm T ∧ TimersAt wr ub um (ofN node T) ∧ Fr [bm, um] w2 wr)
  case atStart => exact ⟨0, [], Nat.zero_le _, rfl, rfl, Nat.le_refl _, ht2, hu1, Fr.refl _ _⟩
  case round =>
    obtain ⟨i, T, hi, hgk, rfl, hTi, ht, hu, hfr⟩ := hrel
    have hgk' := Lib.hid hgk; clear hgk
    have htl := ht.lt
    have hul := hu.lt
    have hz2 := hf2.size
    have hzr := hfr.size
    by_cases hlt : i < S.length
    · obtain ⟨g', off, rfl, hg1, hg2, hcells⟩ := hat'.out (by intro h; rw [h] at hlt; simp at hlt)
      obtain ⟨⟨k, n, m, t⟩, hx⟩ : ∃ x, S[i]? = some x := ⟨_, List.getElem?_eq_getElem hlt⟩
      have q1 : g' < w2.heap.size := Nat.lt_of_lt_of_le hg2 hf12.size
      have q2 : g' ∉ [bm, um] := by simp; omega
      have k0 : wr.cell? ⟨g', off + i * 4, none⟩ = some (.int .i64 k) := by rw [hfr.cell (p := ⟨g', _, none⟩) q1 q2, hf12.cell (p := ⟨g', _, none⟩) hg2 (by simp)]; exact hcells i _ 0 _ hx rfl
      have k1 : wr.cell? ⟨g', off + i * 4 + 1, none⟩ = some (.int .i64 n) := by rw [hfr.cell (p := ⟨g', _, none⟩) q1 q2, hf12.cell (p := ⟨g', _, none⟩) hg2 (by simp)]; exact hcells i _ 1 _ hx rfl
      have k2 : wr.cell? ⟨g', off + i * 4 + 2, none⟩ = some (.int .i64 m) := by rw [hfr.cell (p := ⟨g', _, none⟩) q1 q2, hf12.cell (p := ⟨g', _, none⟩) hg2 (by simp)]; exact hcells i _ 2 _ hx rfl
      have k3 : wr.cell? ⟨g', off + i * 4 + 3, none⟩ = some (.int .i64 t) := by rw [hfr.cell (p := ⟨g', _, none⟩) q1 q2, hf12.cell (p := ⟨g', _, none⟩) hg2 (by simp)]; exact hcells i _ 3 _ hx rfl
      clear hcells hx
      have hTl : T.length < 64 := by omega
      have hsl := Lib.hid (stepT_len T k (n, m, t))
      have hrl := stepT_len [] k (n, m, t)
      have hsf := Lib.hid (fun h => step_far (n := node) (k := k) (x := (n, m, t)) (T := T) h)
      have hsn := Lib.hid (fun h => step_near (n := node) (k := k) (x := (n, m, t)) (T := T) ht.srt hTl h)
      have hfA : Fr [] wr ((wr.alloc (.cells #[.int .i64 k, .int .i64 n, .int .i64 m, .int .i64 t] 47)).alloc (.cells #[.slice none 0 0] 28)) := ((Fr.refl [] wr).alloc _).alloc _
      have hrA := RefAt.new (wr.alloc (.cells #[.int .i64 k, .int .i64 n, .int .i64 m, .int .i64 t] 47)) 28
      have hsz : (wr.alloc (.cells #[.int .i64 k, .int .i64 n, .int .i64 m, .int .i64 t] 47)).heap.size = wr.heap.size + 1 := by simp
      rw [hsz] at hrA
      have htA := ht.fr hfA (by simp) (by simp)
      have huA := hu.fr hfA (by simp) (by simp)
      have hdo := does_any tb bm (wr.heap.size + 1) T [] k n m t _ htA hrA (by omega) (by simp)
      obtain ⟨T2, hT2⟩ : ∃ T2, T2 = stepT T k (n, m, t) := ⟨_, rfl⟩
      obtain ⟨R2, hR2⟩ : ∃ R2, R2 = stepT [] k (n, m, t) := ⟨_, rfl⟩
      rw [← hT2] at hdo hsl hsf hsn
      rw [← hR2] at hdo hrl
      clear hT2 hR2
      by_cases hnn : n = node
      · have hs := Lib.hid (hsn.out hnn)
        subst hnn
        go_wp2_with (first | (go_at_call 18; refine hdo.mono ?_; rintro e wa ⟨b, rfl, _, hfa, hta, hra⟩; have c0 := (show wa.cell? ⟨wr.heap.size, 0, none⟩ = some (.int .i64 k) from by rw [hfa.cell (p := ⟨wr.heap.size, 0, none⟩) (by simp; omega) (by simp; omega)]; go_simp); have c1 := (show wa.cell? ⟨wr.heap.size, 1, none⟩ = some (.int .i64 n) from by rw [hfa.cell (p := ⟨wr.heap.size, 1, none⟩) (by simp; omega) (by simp; omega)]; go_simp); have c2 := (show wa.cell? ⟨wr.heap.size, 2, none⟩ = some (.int .i64 m) from by rw [hfa.cell (p := ⟨wr.heap.size, 2, none⟩) (by simp; omega) (by simp; omega)]; go_simp); have c3 := (show wa.cell? ⟨wr.heap.size, 3, none⟩ = some (.int .i64 t) from by rw [hfa.cell (p := ⟨wr.heap.size, 3, none⟩) (by simp; omega) (by simp; omega)]; go_simp); have lca := lt_of_cell c0; have hua := huA.fr hfa (by simp; omega) (by simp; omega); have hdo2 := does_any ub um (wr.heap.size + 1) (ofN n T) R2 k n m t wa hua hra (by omega) (by simp at hrl; omega); clear hdo) | (go_at_call 18; refine hdo2.mono ?_; rintro e wb ⟨b2, rfl, _, hfb, htb, hrb⟩))
        have htb2 := hta.fr hfb (by simp; omega) (by simp; omega)
        rw [← hs.out] at htb
        go_roundg (S.length - (i + 1))
        case rel => exact ⟨i + 1, T2, by omega, rfl, by go_num, by have := hsl.out; omega, htb2, htb, hfr.trans (((hfA.mono (T := [bm, um]) (by simp)).andThen hfa (fun s hs => by simp at hs ⊢; omega)).andThen hfb (fun s hs => by simp at hs ⊢; omega))⟩
        case measure => rw [hgk'.out]; omega
      · have hs := Lib.hid (hsf.out hnn)
        have hnn' : (n == node) = false := by simpa using hnn
        go_wp2_with (first | (go_at_call 18; refine hdo.mono ?_; rintro e wa ⟨b, rfl, _, hfa, hta, hra⟩; have c1 := (show wa.cell? ⟨wr.heap.size, 1, none⟩ = some (.int .i64 n) from by rw [hfa.cell (p := ⟨wr.heap.size, 1, none⟩) (by simp; omega) (by simp; omega)]; go_simp); have lca := lt_of_cell c1; have hua := huA.fr hfa (by simp; omega) (by simp; omega)))
        rw [← hs.out] at hua
        go_roundg (S.length - (i + 1))
        case rel => exact ⟨i + 1, T2, by omega, rfl, by go_num, by have := hsl.out; omega, hta, hua, hfr.trans ((hfA.mono (T := [bm, um]) (by simp)).andThen hfa (fun s hs => by simp at hs ⊢; omega))⟩
        case measure => rw [hgk'.out]; omega
    · obtain ⟨⟨y1, y2, y3⟩, hy⟩ : ∃ y, y = (ofN node T).headD (0, 0, 0) := ⟨_, rfl⟩
      obtain ⟨yb, hyb⟩ : ∃ y, y = !(ofN node T).isEmpty := ⟨_, rfl⟩
      have hna := next_ofN tb bm T node _ yb wr ht hy hyb
      have hnb : ∀ W, TimersAt W ub um (ofN node T) → _ := fun W hW => next_ofN ub um (ofN node T) node (y1, y2, y3) yb W hW (by rw [ofN_twice]; exact hy) (by rw [ofN_twice]; exact hyb)
      have hca : ∀ W, TimersAt W tb bm T → _ := fun W hW => clear_any tb bm T node W hW
      have hcb : ∀ W, TimersAt W ub um (ofN node T) → _ := fun W hW => clear_any ub um (ofN node T) node W hW
      obtain ⟨c, hc⟩ : ∃ c, c = (ofN node T).length := ⟨_, rfl⟩
      have e1 : (List.filter (fun a => decide (a.1 = node)) T).length = c := hc.symm
      have e2 : (List.filter (fun a => decide (a.1 = node)) (ofN node T)).length = c := by rw [hc]; exact congrArg _ (ofN_twice node T)
      simp only [e1] at hca
      simp only [e2, ofN_gone] at hcb
      dsimp only at hna hnb
      have hnb' := Lib.hid hnb; have hca' := Lib.hid hca; have hcb' := Lib.hid hcb
      clear hy hyb hnb hca hcb hc e1 e2 hat' hgk'
      go_wp2_with (first | (go_at_call 17; refine hna.mono ?_; rintro e w3 ⟨rfl, hf3⟩; have hf3' := hf3.alloc (.cells #[.int .i64 y1, .int .i64 y2, .int .i64 y3] 32); have ht3 := ht.fr hf3' (by simp) (by simp); have hu3 := hu.fr hf3' (by simp) (by simp); have hnc := hnb'.out _ hu3; clear hna) | (go_at_call 17; refine hnc.mono ?_; rintro e w4 ⟨rfl, hf4⟩; have hf4' := hf4.alloc (.cells #[.int .i64 y1, .int .i64 y2, .int .i64 y3] 32); have y0 := (show w4.cell? ⟨w3.heap.size, 0, none⟩ = some (.int .i64 y1) from by rw [hf4.cell (p := ⟨w3.heap.size, 0, none⟩) (by simp) (by simp)]; go_simp); have y1' := (show w4.cell? ⟨w3.heap.size, 1, none⟩ = some (.int .i64 y2) from by rw [hf4.cell (p := ⟨w3.heap.size, 1, none⟩) (by simp) (by simp)]; go_simp); have y2' := (show w4.cell? ⟨w3.heap.size, 2, none⟩ = some (.int .i64 y3) from by rw [hf4.cell (p := ⟨w3.heap.size, 2, none⟩) (by simp) (by simp)]; go_simp); have lyx := lt_of_cell y0; have ht4 := ht3.fr hf4' (by simp) (by simp); have hu4 := hu3.fr hf4' (by simp) (by simp); have hcc := hca'.out _ ht4; clear hnc) | (go_at_call 20; refine hcc.mono ?_; rintro e w5 ⟨rfl, hf5, ht5⟩; have hu5 := hu4.fr hf5 (by simp; omega) (by simp; omega); have hcd := hcb'.out _ hu5; clear hcc) | (go_at_call 20; refine hcd.mono ?_; rintro e w6 ⟨rfl, hf6, hu6⟩; have hls := list_any ub um [] w6 hu6; clear hcd) | (go_at_call 15; refine hls.mono ?_; rintro e w7 ⟨v7, rfl, hf7, hs7⟩; obtain ⟨a7, cap7, rfl, _, _, _⟩ := hs7.at encAl_len) | (go_at_call 16; refine (shown_any _).mono ?_; rintro e w8 ⟨rfl, hf8⟩))
      go_ret
      exact ⟨rfl, hf12.andThen ((((((hfr.trans ((hf3'.trans hf4').mono (by simp))).trans (hf5.mono (by simp))).trans (hf6.mono (by simp))).trans (hf7.mono (by simp))).trans (hf8.mono (by simp)))) (fun s hs => by simp at hs; omega)⟩
end Go.Proofs.Ytcnihacjkcicfaa
