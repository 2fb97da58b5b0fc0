/- TimerNext. -/
import Derived.Test.YtcnihacjkcicfaaLclear
import Derived.Deep.RegionHeld3
import Derived.BigQuiet
import Derived.Lib.Hide
namespace Go.Proofs.Ytcnihacjkcicfaa
open Go.RowKit Go.Lib Go.Sort Go.Shelf
theorem first_low {n : Int} {T H : List Al} {y : Al} (hs : Srt T) (h : (T.filter fun a => decide (a.1 = n)) = y :: H) : y.1 = n ∧ ∀ x ∈ T, x.1 = n → y.2.1 < x.2.1 ∨ (y.2.1 = x.2.1 ∧ y.2.2 ≤ x.2.2) := by
  have hy : y ∈ T.filter fun a => decide (a.1 = n) := by rw [h]; simp
  have hy1 : y.1 = n := by simpa using (List.mem_filter.1 hy).2
  refine ⟨hy1, fun x hx hxn => ?_⟩
  have hp : Srt (y :: H) := by rw [← h]; exact hs.filter _
  have hxm : x ∈ y :: H := by rw [← h]; exact List.mem_filter.2 ⟨hx, by simpa using hxn⟩
  rcases List.mem_cons.1 hxm with rfl | hxm
  · exact .inr ⟨rfl, Int.le_refl _⟩
  · have := (List.pairwise_cons.1 hp).1 x hxm
    unfold ltA at this
    omega
theorem none_low {n : Int} {T : List Al} (h : (T.filter fun a => decide (a.1 = n)) = []) : noN n T := fun x hx hxn => by
  have := List.filter_eq_nil_iff.1 h x hx
  exact this (by simpa using hxn)
theorem due_first {n : Int} {T H : List Al} {y : Al} (h : (T.filter fun a => decide (a.1 = n)) = y :: H) : ∃ D, (T.filter fun a => decide (a.1 = n ∧ a.2.1 ≤ y.2.1)) = y :: D := by
  have : (T.filter fun a => decide (a.1 = n ∧ a.2.1 ≤ y.2.1)) = (T.filter fun a => decide (a.1 = n)).filter fun a => decide (a.2.1 ≤ y.2.1) := by
    rw [List.filter_filter]
    apply List.filter_congr
    intro a _
    rw [Bool.eq_iff_iff]
    simp [and_comm]
  rw [this, h, List.filter_cons, if_pos (by simp)]
  exact ⟨_, rfl⟩
theorem setT_ok {T : List Al} {x : Al} (h : (setT T x).1 = 0) : (setT T x).2 = insA x (without T (keyOf x)) := by
  unfold setT at h ⊢
  split at h
  · simp at h
  · rename_i h1
    split at h
    · simp at h
    · rename_i h2
      rw [if_neg h1, if_neg h2]
def cntK (n t : Int) (T : List Al) : Nat := (T.filter fun a => decide (a.1 = n ∧ a.2.2 = t)).length
theorem cntK_take (n t : Int) {T : List Al} {j : Nat} {x : Al} (h : T[j]? = some x) : cntK n t (T.take (j + 1)) = cntK n t (T.take j) + (if x.1 = n ∧ x.2.2 = t then 1 else 0) := by
  unfold cntK
  rw [filter_take_add h, List.length_append]
  by_cases h : x.1 = n ∧ x.2.2 = t <;> simp [h]
theorem cntK_set (n a t : Int) (T : List Al) : cntK n t (insA (n, a, t) (without T (n, t))) = 1 ∧ ∀ x ∈ insA (n, a, t) (without T (n, t)), x.1 = n → x.2.2 = t → x = (n, a, t) := by
  have hp := insA_perm (n, a, t) (without T (n, t))
  have hw : ∀ x ∈ without T (n, t), ¬ (x.1 = n ∧ x.2.2 = t) := by
    intro x hx
    have := (List.mem_filter.1 hx).2
    intro h
    simp [keyOf, h.1, h.2] at this
  constructor
  · unfold cntK
    rw [(hp.filter _).length_eq, List.filter_cons, if_pos (by simp), List.length_cons]
    rw [List.filter_eq_nil_iff.2 (fun x hx hd => hw x hx (by simpa using hd))]
    rfl
  · intro x hx h1 h2
    rcases List.mem_cons.1 (hp.mem_iff.1 hx) with rfl | hx
    · rfl
    · exact absurd ⟨h1, h2⟩ (hw x hx)
theorem next_has (tb bm : Nat) (T : List Al) (n : Int) (y : Al) (H : List Al) (w : World) (h : TimersAt w tb bm T) (hn : (T.filter fun a => decide (a.1 = n)) = y :: H) :
    Calls Try.prog 17 #[.pointer (some ⟨tb, 0, none⟩), .int .i64 n] w fun e w' => e = .returned (.tuple #[.agg #[.int .i64 y.1, .int .i64 y.2.1, .int .i64 y.2.2], .bool true]) ∧ Fr [] w w' := by
  have := next_any tb bm T n w h
  rw [hn] at this
  exact this
theorem due_is (tb bm : Nat) (T : List Al) (n m : Int) (D : List Al) (w : World) (h : TimersAt w tb bm T) (hD : (T.filter fun a => decide (a.1 = n ∧ a.2.1 ≤ m)) = D) :
    Calls Try.prog 12 #[.pointer (some ⟨tb, 0, none⟩), .int .i64 n, .int .i64 m] w fun e w' => ∃ v, e = .returned v ∧ Fr [bm] w w' ∧ SliceIs w' (w.heap.size ≤ ·) encAl v D ∧ ∃ U, TimersAt w' tb bm U := by
  have := due_any tb bm T n m w h
  rw [hD] at this
  refine this.mono ?_
  rintro e w' ⟨v, h1, h2, h3, h4⟩
  exact ⟨v, h1, h2, h3, _, h4⟩
set_option maxRecDepth 100000 in
set_option maxHeartbeats 4000000 in
theorem next_law {B : Nat → Prop} (v : Value) (S : List Al) (n t m : Int) (w : World) (h : SliceIs w B encAl v S) :
    Calls Try.prog 4 #[v, .int .i64 n, .int .i64 t, .int .i64 m] w fun e w' => e = .returned (.bool true) ∧ Fr [] w w' := by
  obtain ⟨a, cap, rfl, hc1, hc2, hat⟩ := h.at encAl_len
  have hat' := Lib.hid hat; clear hat h
  go_enter Try.func4, Try.ntmps4
  by_cases hS : 60 < S.length
  · go_wp2
    go_ret
    exact ⟨rfl, Fr.refl _ _⟩
  go_wp2_with (go_at_call 8; refine (new_any w).mono ?_; rintro e w1 ⟨tb, bm, rfl, hf1, ht1, l1, l2⟩)
  go_loopg [10] S.length (fun gk iv wr => ∃ (i : Nat) (T : List Al), i ≤ S.length ∧ gk = S.length - i ∧ iv = .int .i64 i ∧ TimersAt wr tb bm T ∧ Okays T ∧ Fr [bm] w1 wr)
  case atStart => exact ⟨0, [], Nat.zero_le _, rfl, rfl, ht1, by simp [Okays], Fr.refl _ _⟩
  case round =>
    obtain ⟨i, T, hi, hgk, rfl, ht, hok, hfr⟩ := hrel
    have hgk' := Lib.hid hgk; clear hgk
    by_cases hlt : i < S.length
    · obtain ⟨g', off, rfl, hg1, hg2, hcells⟩ := hat'.out (by intro h; rw [h] at hlt; simp at hlt)
      obtain ⟨x, hx⟩ : ∃ x, S[i]? = some x := ⟨_, List.getElem?_eq_getElem hlt⟩
      have hfw : Fr [bm] w1 wr := hfr
      have q1 : g' < w1.heap.size := Nat.lt_of_lt_of_le hg2 hf1.size
      have q2 : g' ∉ [bm] := by simp; omega
      have k0 : wr.cell? ⟨g', off + i * 3, none⟩ = some (.int .i64 x.1) := by rw [hfr.cell (p := ⟨g', _, none⟩) q1 q2, hf1.cell (p := ⟨g', _, none⟩) hg2 (by simp)]; exact hcells i x 0 _ hx rfl
      have k1 : wr.cell? ⟨g', off + i * 3 + 1, none⟩ = some (.int .i64 x.2.1) := by rw [hfr.cell (p := ⟨g', _, none⟩) q1 q2, hf1.cell (p := ⟨g', _, none⟩) hg2 (by simp)]; exact hcells i x 1 _ hx rfl
      have k2 : wr.cell? ⟨g', off + i * 3 + 2, none⟩ = some (.int .i64 x.2.2) := by rw [hfr.cell (p := ⟨g', _, none⟩) q1 q2, hf1.cell (p := ⟨g', _, none⟩) hg2 (by simp)]; exact hcells i x 2 _ hx rfl
      clear hcells hx
      go_wp2_with (go_at_call 9; refine (set_any tb bm T x wr ht).mono ?_; rintro e w2 ⟨rfl, hf2, ht2⟩)
      go_roundg (S.length - (i + 1))
      case rel => exact ⟨i + 1, _, by omega, rfl, by go_num, ht2, hok.set x, hfr.trans hf2⟩
      case measure => rw [hgk'.out]; omega
    · clear hgk' hat'
      have htk := ht.keys
      have htf := ht.few
      have hTl : T.length < 1000000 := by omega
      have htl := ht.lt
      have htk' := Lib.hid htk; have hok' := Lib.hid hok; clear htk hok
      obtain ⟨H, hH⟩ : ∃ H, H = (T.filter fun a => decide (a.1 = n)) := ⟨_, rfl⟩
      have hsrt := ht.srt
      cases H with
      | nil =>
        have hno := Lib.hid (none_low hH.symm)
        have hnx := next_none tb bm T n wr ht hno.out
        clear hH hsrt
        go_wp2_with (first | (go_at_call 17; refine hnx.mono ?_; rintro e w2 ⟨rfl, hf2⟩; have ht2 := ht.fr (hf2.alloc (.cells #[.int .i64 0, .int .i64 0, .int .i64 0] 32)) (by simp) (by simp); have hls := list_any tb bm T _ ht2) | (go_at_call 15; refine hls.mono ?_; rintro e w3 ⟨v3, rfl, hf3, hs3⟩))
        have hw3 := hf3.size
        obtain ⟨a3, cap3, rfl, _, _, hat3⟩ := hs3.at encAl_len
        have hat3' := Lib.hid hat3; clear hat3 hs3 hls
        go_loopg [14] T.length (fun gk iv wl => ∃ (j q : Nat), j ≤ T.length ∧ gk = T.length - j ∧ iv = .int .i64 j ∧ wl = w3.drewN q)
        case atStart => exact ⟨0, 0, Nat.zero_le _, rfl, rfl, rfl⟩
        case round =>
          obtain ⟨j, q, hj, hgk, rfl, rfl⟩ := hrel
          have hgk' := Lib.hid hgk; clear hgk
          by_cases hjt : j < T.length
          · obtain ⟨g', off, rfl, hg1, hg2, hcells⟩ := hat3'.out (by intro h; rw [h] at hjt; simp at hjt)
            obtain ⟨⟨x1, x2, x3⟩, hx⟩ : ∃ x, T[j]? = some x := ⟨_, List.getElem?_eq_getElem hjt⟩
            have k0 : w3.cell? ⟨g', off + j * 3, none⟩ = some (.int .i64 x1) := hcells j _ 0 _ hx rfl
            have k1 : w3.cell? ⟨g', off + j * 3 + 1, none⟩ = some (.int .i64 x2) := hcells j _ 1 _ hx rfl
            have k2 : w3.cell? ⟨g', off + j * 3 + 2, none⟩ = some (.int .i64 x3) := hcells j _ 2 _ hx rfl
            have hxm := List.mem_of_getElem? hx
            clear hcells hx
            have h1' : (x1 == n) = false := by simpa using hno.out _ hxm
            clear hxm
            go_wp2
            go_quiet (fail)
            go_wp2
            go_roundg (T.length - (j + 1))
            case rel => exact ⟨j + 1, q + nq, by omega, rfl, by go_num, rfl⟩
            case measure => rw [hgk'.out]; omega
          · clear hgk' hat3'
            have hfd := (Fr.refl [] w3).drewN q
            obtain ⟨wU, hwU⟩ : ∃ w', w' = w3.drewN q := ⟨_, rfl⟩
            rw [← hwU] at hfd ⊢
            have htU := (ht2.fr hf3 (by simp) (by simp)).fr hfd (by simp) (by simp)
            have hFU : Fr [bm] w1 wU := hfr.trans ((((hf2.alloc _).trans hf3).trans hfd).mono (by simp))
            clear hwU
            obtain ⟨r, hr⟩ : ∃ r, r = (setT T (n, m, t)).1 := ⟨_, rfl⟩
            obtain ⟨V, hV⟩ : ∃ V, V = (setT T (n, m, t)).2 := ⟨_, rfl⟩
            have hfx : Fr [] wU (wU.alloc (.cells #[.int .i64 n, .int .i64 m, .int .i64 t] 32)) := (Fr.refl _ _).alloc _
            have hset := set_any tb bm T (n, m, t) _ (htU.fr hfx (by simp) (by simp))
            have lbU := htU.lt
            rw [← hr, ← hV] at hset
            by_cases hr0 : r = 0
            · rw [hr0] at hset
              have hV2 := setT_ok (hr.symm.trans hr0)
              rw [← hV] at hV2
              have hk := cntK_set n m t T
              rw [show keyOf (n, m, t) = (n, t) from rfl] at hV2
              rw [← hV2] at hk
              obtain ⟨hk1, hk2⟩ := hk
              have hk1' := Lib.hid hk1; have hk2' := Lib.hid hk2
              clear hr0 hr hV hV2 hk1 hk2
              go_wp2_with (first | (go_at_call 9; refine hset.mono ?_; rintro e wa ⟨rfl, hfa, hta⟩; have z0 := (show wa.cell? ⟨wU.heap.size, 0, none⟩ = some (.int .i64 n) from by rw [hfa.cell (p := ⟨wU.heap.size, 0, none⟩) (by simp) (by simp; omega)]; go_simp); have z1 := (show wa.cell? ⟨wU.heap.size, 1, none⟩ = some (.int .i64 m) from by rw [hfa.cell (p := ⟨wU.heap.size, 1, none⟩) (by simp) (by simp; omega)]; go_simp); have z2 := (show wa.cell? ⟨wU.heap.size, 2, none⟩ = some (.int .i64 t) from by rw [hfa.cell (p := ⟨wU.heap.size, 2, none⟩) (by simp) (by simp; omega)]; go_simp); have hls2 := list_any tb bm V wa hta; have hVf := hta.few; have lza := lt_of_cell z0) | (go_at_call 15; refine hls2.mono ?_; rintro e wb ⟨vb, rfl, hfb, hsb⟩))
              have z0b : wb.cell? ⟨wU.heap.size, 0, none⟩ = some (.int .i64 n) := by rw [hfb.cell (p := ⟨wU.heap.size, 0, none⟩) lza (by simp)]; exact z0
              have z1b : wb.cell? ⟨wU.heap.size, 1, none⟩ = some (.int .i64 m) := by rw [hfb.cell (p := ⟨wU.heap.size, 1, none⟩) lza (by simp)]; exact z1
              have z2b : wb.cell? ⟨wU.heap.size, 2, none⟩ = some (.int .i64 t) := by rw [hfb.cell (p := ⟨wU.heap.size, 2, none⟩) lza (by simp)]; exact z2
              obtain ⟨ab, capb, rfl, _, _, hatb⟩ := hsb.at encAl_len
              have hatb' := Lib.hid hatb; clear hatb hsb hls2 hset z0 z1 z2
              have hVl : V.length < 1000000 := by omega
              go_loopg [17, 18] V.length (fun gk nv iv wl => ∃ (j q : Nat), j ≤ V.length ∧ gk = V.length - j ∧ iv = .int .i64 j ∧ nv = .int .i64 (cntK n t (V.take j) : Nat) ∧ wl = wb.drewN q)
              case atStart => exact ⟨0, 0, Nat.zero_le _, rfl, rfl, rfl, rfl⟩
              case round =>
                obtain ⟨j, q, hj, hgk, rfl, rfl, rfl⟩ := hrel
                have hgk' := Lib.hid hgk; clear hgk
                by_cases hjt : j < V.length
                · obtain ⟨g', off, rfl, hg1, hg2, hcells⟩ := hatb'.out (by intro h; rw [h] at hjt; simp at hjt)
                  obtain ⟨⟨x1, x2, x3⟩, hx⟩ : ∃ x, V[j]? = some x := ⟨_, List.getElem?_eq_getElem hjt⟩
                  have k0 : wb.cell? ⟨g', off + j * 3, none⟩ = some (.int .i64 x1) := hcells j _ 0 _ hx rfl
                  have k1 : wb.cell? ⟨g', off + j * 3 + 1, none⟩ = some (.int .i64 x2) := hcells j _ 1 _ hx rfl
                  have k2 : wb.cell? ⟨g', off + j * 3 + 2, none⟩ = some (.int .i64 x3) := hcells j _ 2 _ hx rfl
                  have hc := Lib.hid (cntK_take n t hx)
                  have hcl : cntK n t (V.take j) < 1000000 := Nat.lt_of_le_of_lt (List.length_filter_le _ _) (by simp; omega)
                  have hxx := hk2'.out _ (List.mem_of_getElem? hx)
                  obtain ⟨c, hcc⟩ : ∃ c, c = cntK n t (V.take j) := ⟨_, rfl⟩
                  rw [← hcc] at hc hcl
                  rw [← hcc]
                  clear hcells hx hcc
                  by_cases h1 : x1 = n
                  · by_cases h2 : x3 = t
                    · have hxe := hxx h1 h2
                      simp only [Prod.mk.injEq] at hxe
                      obtain ⟨rfl, rfl, rfl⟩ := hxe
                      clear hxx h1 h2
                      go_wp2
                      go_quiet (fail)
                      go_wp2
                      go_roundg (V.length - (j + 1))
                      case rel => exact ⟨j + 1, q + nq, by omega, rfl, by go_num, by rw [hc.out]; simp, rfl⟩
                      case measure => rw [hgk'.out]; omega
                    · have h2' : (x3 == t) = false := by simpa using h2
                      subst h1
                      clear hxx
                      go_wp2
                      go_roundg (V.length - (j + 1))
                      case rel => exact ⟨j + 1, q, by omega, rfl, by go_num, by rw [hc.out]; simp [h2], rfl⟩
                      case measure => rw [hgk'.out]; omega
                  · have h1' : (x1 == n) = false := by simpa using h1
                    clear hxx
                    go_wp2
                    go_roundg (V.length - (j + 1))
                    case rel => exact ⟨j + 1, q, by omega, rfl, by go_num, by rw [hc.out]; simp [h1], rfl⟩
                    case measure => rw [hgk'.out]; omega
                · have hjT : j = V.length := by omega
                  subst hjT
                  rw [List.take_length, hk1'.out]
                  go_wp2_with (first | (go_at_call 16; refine (shown_any _).mono ?_; rintro e wc ⟨rfl, hfc⟩))
                  go_ret
                  exact ⟨rfl, hf1.andThen (((hFU.trans (hfx.mono (by simp))).trans hfa).trans ((hfb.mono (by simp)).trans (((Fr.refl [bm] _).drewN q).trans (hfc.mono (by simp))))) (fun s hs => by simp at hs; subst hs; exact .inr l2)⟩
            · have hr0' : (r != 0) = true := by simpa using hr0
              clear hr hV
              go_wp2_with (first | (go_at_call 9; refine hset.mono ?_; rintro e wa ⟨rfl, hfa, hta⟩) | (go_at_call 16; refine (shown_any _).mono ?_; rintro e wc ⟨rfl, hfc⟩))
              go_ret
              exact ⟨rfl, hf1.andThen (((hFU.trans (hfx.mono (by simp))).trans hfa).trans (hfc.mono (by simp))) (fun s hs => by simp at hs; subst hs; exact .inr l2)⟩
      | cons y H =>
        have hlow := first_low hsrt hH.symm
        obtain ⟨D, hD⟩ := due_first hH.symm
        have hnx := next_has tb bm T n y H wr ht hH.symm
        obtain ⟨y1, y2, y3⟩ := y
        obtain ⟨hy1, hlow⟩ := hlow
        have hlow' := Lib.hid hlow; have hD' := Lib.hid hD
        dsimp only at hy1 hnx
        have hyn := hy1.symm
        subst hyn
        clear hy1
        clear hH hsrt hlow hD
        go_wp2_with (first | (go_at_call 17; refine hnx.mono ?_; rintro e w2 ⟨rfl, hf2⟩; have ht2 := ht.fr (hf2.alloc (.cells #[.int .i64 n, .int .i64 y2, .int .i64 y3] 32)) (by simp) (by simp); have hls := list_any tb bm T _ ht2) | (go_at_call 15; refine hls.mono ?_; rintro e w3 ⟨v3, rfl, hf3, hs3⟩))
        have y0b : w3.cell? ⟨w2.heap.size, 0, none⟩ = some (.int .i64 n) := by rw [hf3.cell (p := ⟨w2.heap.size, 0, none⟩) (by simp) (by simp)]; go_simp
        have y1b : w3.cell? ⟨w2.heap.size, 1, none⟩ = some (.int .i64 y2) := by rw [hf3.cell (p := ⟨w2.heap.size, 1, none⟩) (by simp) (by simp)]; go_simp
        have y2b : w3.cell? ⟨w2.heap.size, 2, none⟩ = some (.int .i64 y3) := by rw [hf3.cell (p := ⟨w2.heap.size, 2, none⟩) (by simp) (by simp)]; go_simp
        have ly := lt_of_cell y0b
        have hw3 := hf3.size
        obtain ⟨a3, cap3, rfl, _, _, hat3⟩ := hs3.at encAl_len
        have hat3' := Lib.hid hat3; clear hat3 hs3 hls
        go_loopg [14] T.length (fun gk iv wl => ∃ (j q : Nat), j ≤ T.length ∧ gk = T.length - j ∧ iv = .int .i64 j ∧ wl = w3.drewN q)
        case atStart => exact ⟨0, 0, Nat.zero_le _, rfl, rfl, rfl⟩
        case round =>
          obtain ⟨j, q, hj, hgk, rfl, rfl⟩ := hrel
          have hgk' := Lib.hid hgk; clear hgk
          by_cases hjt : j < T.length
          · obtain ⟨g', off, rfl, hg1, hg2, hcells⟩ := hat3'.out (by intro h; rw [h] at hjt; simp at hjt)
            obtain ⟨⟨x1, x2, x3⟩, hx⟩ : ∃ x, T[j]? = some x := ⟨_, List.getElem?_eq_getElem hjt⟩
            have k0 : w3.cell? ⟨g', off + j * 3, none⟩ = some (.int .i64 x1) := hcells j _ 0 _ hx rfl
            have k1 : w3.cell? ⟨g', off + j * 3 + 1, none⟩ = some (.int .i64 x2) := hcells j _ 1 _ hx rfl
            have k2 : w3.cell? ⟨g', off + j * 3 + 2, none⟩ = some (.int .i64 x3) := hcells j _ 2 _ hx rfl
            have hxm := List.mem_of_getElem? hx
            clear hcells hx
            by_cases h1 : x1 = n
            · have hl := hlow'.out _ hxm h1
              dsimp only at hl
              have c1 : decide (x2 < y2) = false := by simp; omega
              subst h1
              clear hxm
              by_cases h2 : x2 = y2
              · have c2 : (x2 == y2) = true := by simpa using h2
                have c3 : decide (x3 < y3) = false := by simp; omega
                clear hl h2
                go_wp2
                go_quiet (fail)
                go_wp2
                go_roundg (T.length - (j + 1))
                case rel => exact ⟨j + 1, q + nq, by omega, rfl, by go_num, rfl⟩
                case measure => rw [hgk'.out]; omega
              · have c2 : (x2 == y2) = false := by simpa using h2
                clear hl h2
                go_wp2
                go_quiet (fail)
                go_wp2
                go_roundg (T.length - (j + 1))
                case rel => exact ⟨j + 1, q + nq, by omega, rfl, by go_num, rfl⟩
                case measure => rw [hgk'.out]; omega
            · have h1' : (x1 == n) = false := by simpa using h1
              clear hxm
              go_wp2
              go_quiet (fail)
              go_wp2
              go_roundg (T.length - (j + 1))
              case rel => exact ⟨j + 1, q + nq, by omega, rfl, by go_num, rfl⟩
              case measure => rw [hgk'.out]; omega
          · clear hgk' hat3'
            have hfd := (Fr.refl [] w3).drewN q
            obtain ⟨wV, hwV⟩ : ∃ w', w' = w3.drewN q := ⟨_, rfl⟩
            have y0 : wV.cell? ⟨w2.heap.size, 0, none⟩ = some (.int .i64 n) := by rw [hwV]; exact y0b
            have y1v : wV.cell? ⟨w2.heap.size, 1, none⟩ = some (.int .i64 y2) := by rw [hwV]; exact y1b
            have y2v : wV.cell? ⟨w2.heap.size, 2, none⟩ = some (.int .i64 y3) := by rw [hwV]; exact y2b
            rw [← hwV] at hfd ⊢
            have htV := (ht2.fr hf3 (by simp) (by simp)).fr hfd (by simp) (by simp)
            have hFV : Fr [bm] w1 wV := hfr.trans ((((hf2.alloc _).trans hf3).trans hfd).mono (by simp))
            have lbV := ht.lt
            have hz2 := hf2.size
            clear hwV y0b y1b y2b
            have hdu := due_is tb bm T n y2 _ wV htV hD'.out
            go_wp2_with (first | (go_at_call 12; refine hdu.mono ?_; rintro e wd ⟨vd, rfl, hfe, hsd, U, htd⟩))
            obtain ⟨ad, capd, rfl, _, _, hatd⟩ := hsd.at encAl_len
            obtain ⟨gd, offd, rfl, hgd1, hgd2, hcd⟩ := hatd (by simp)
            have d0 : wd.cell? ⟨gd, offd, none⟩ = some (.int .i64 n) := by have := hcd 0 _ 0 _ rfl rfl; simpa using this
            have d1 : wd.cell? ⟨gd, offd + 1, none⟩ = some (.int .i64 y2) := by have := hcd 0 _ 1 _ rfl rfl; simpa using this
            have d2 : wd.cell? ⟨gd, offd + 2, none⟩ = some (.int .i64 y3) := by have := hcd 0 _ 2 _ rfl rfl; simpa using this
            have lyV := lt_of_cell y0
            have e0 : wd.cell? ⟨w2.heap.size, 0, none⟩ = some (.int .i64 n) := by rw [hfe.cell (p := ⟨w2.heap.size, 0, none⟩) lyV (by simp; omega)]; exact y0
            have e1 : wd.cell? ⟨w2.heap.size, 1, none⟩ = some (.int .i64 y2) := by rw [hfe.cell (p := ⟨w2.heap.size, 1, none⟩) lyV (by simp; omega)]; exact y1v
            have e2 : wd.cell? ⟨w2.heap.size, 2, none⟩ = some (.int .i64 y3) := by rw [hfe.cell (p := ⟨w2.heap.size, 2, none⟩) lyV (by simp; omega)]; exact y2v
            clear hcd hatd hsd y0 y1v y2v
            have hDl : (((((n, y2, y3) :: D).length : Nat) : Int) == 0) = false := by rw [List.length_cons, beq_eq_false_iff_ne]; omega
            obtain ⟨dl, hdl⟩ : ∃ dl, dl = ((n, y2, y3) :: D).length := ⟨_, rfl⟩
            have hdp : 0 < dl := by rw [hdl]; simp
            rw [← hdl] at hDl ⊢
            clear hdl
            go_wp2
            go_quiet (fail)
            have hFU : Fr [bm] w1 (wd.drewN nq) := (hFV.trans hfe).drewN nq
            have htU := htd.fr ((Fr.refl [] wd).drewN nq) (by simp) (by simp)
            obtain ⟨wU, hwU⟩ : ∃ w', w' = wd.drewN nq := ⟨_, rfl⟩
            rw [← hwU] at hFU htU ⊢
            clear hwU
            obtain ⟨r, hr⟩ : ∃ r, r = (setT U (n, m, t)).1 := ⟨_, rfl⟩
            obtain ⟨V, hV⟩ : ∃ V, V = (setT U (n, m, t)).2 := ⟨_, rfl⟩
            have hfx : Fr [] wU (wU.alloc (.cells #[.int .i64 n, .int .i64 m, .int .i64 t] 32)) := (Fr.refl _ _).alloc _
            have hset := set_any tb bm U (n, m, t) _ (htU.fr hfx (by simp) (by simp))
            have lbU := htU.lt
            rw [← hr, ← hV] at hset
            by_cases hr0 : r = 0
            · rw [hr0] at hset
              have hV2 := setT_ok (hr.symm.trans hr0)
              rw [← hV] at hV2
              have hk := cntK_set n m t U
              rw [show keyOf (n, m, t) = (n, t) from rfl] at hV2
              rw [← hV2] at hk
              obtain ⟨hk1, hk2⟩ := hk
              have hk1' := Lib.hid hk1; have hk2' := Lib.hid hk2
              clear hr0 hr hV hV2 hk1 hk2
              go_wp2_with (first | (go_at_call 9; refine hset.mono ?_; rintro e wa ⟨rfl, hfa, hta⟩; have z0 := (show wa.cell? ⟨wU.heap.size, 0, none⟩ = some (.int .i64 n) from by rw [hfa.cell (p := ⟨wU.heap.size, 0, none⟩) (by simp) (by simp; omega)]; go_simp); have z1 := (show wa.cell? ⟨wU.heap.size, 1, none⟩ = some (.int .i64 m) from by rw [hfa.cell (p := ⟨wU.heap.size, 1, none⟩) (by simp) (by simp; omega)]; go_simp); have z2 := (show wa.cell? ⟨wU.heap.size, 2, none⟩ = some (.int .i64 t) from by rw [hfa.cell (p := ⟨wU.heap.size, 2, none⟩) (by simp) (by simp; omega)]; go_simp); have hls2 := list_any tb bm V wa hta; have hVf := hta.few; have lza := lt_of_cell z0) | (go_at_call 15; refine hls2.mono ?_; rintro e wb ⟨vb, rfl, hfb, hsb⟩))
              have z0b : wb.cell? ⟨wU.heap.size, 0, none⟩ = some (.int .i64 n) := by rw [hfb.cell (p := ⟨wU.heap.size, 0, none⟩) lza (by simp)]; exact z0
              have z1b : wb.cell? ⟨wU.heap.size, 1, none⟩ = some (.int .i64 m) := by rw [hfb.cell (p := ⟨wU.heap.size, 1, none⟩) lza (by simp)]; exact z1
              have z2b : wb.cell? ⟨wU.heap.size, 2, none⟩ = some (.int .i64 t) := by rw [hfb.cell (p := ⟨wU.heap.size, 2, none⟩) lza (by simp)]; exact z2
              obtain ⟨ab, capb, rfl, _, _, hatb⟩ := hsb.at encAl_len
              have hatb' := Lib.hid hatb; clear hatb hsb hls2 hset z0 z1 z2
              have hVl : V.length < 1000000 := by omega
              go_loopg [17, 18] V.length (fun gk nv iv wl => ∃ (j q : Nat), j ≤ V.length ∧ gk = V.length - j ∧ iv = .int .i64 j ∧ nv = .int .i64 (cntK n t (V.take j) : Nat) ∧ wl = wb.drewN q)
              case atStart => exact ⟨0, 0, Nat.zero_le _, rfl, rfl, rfl, rfl⟩
              case round =>
                obtain ⟨j, q, hj, hgk, rfl, rfl, rfl⟩ := hrel
                have hgk' := Lib.hid hgk; clear hgk
                by_cases hjt : j < V.length
                · obtain ⟨g', off, rfl, hg1, hg2, hcells⟩ := hatb'.out (by intro h; rw [h] at hjt; simp at hjt)
                  obtain ⟨⟨x1, x2, x3⟩, hx⟩ : ∃ x, V[j]? = some x := ⟨_, List.getElem?_eq_getElem hjt⟩
                  have k0 : wb.cell? ⟨g', off + j * 3, none⟩ = some (.int .i64 x1) := hcells j _ 0 _ hx rfl
                  have k1 : wb.cell? ⟨g', off + j * 3 + 1, none⟩ = some (.int .i64 x2) := hcells j _ 1 _ hx rfl
                  have k2 : wb.cell? ⟨g', off + j * 3 + 2, none⟩ = some (.int .i64 x3) := hcells j _ 2 _ hx rfl
                  have hc := Lib.hid (cntK_take n t hx)
                  have hcl : cntK n t (V.take j) < 1000000 := Nat.lt_of_le_of_lt (List.length_filter_le _ _) (by simp; omega)
                  have hxx := hk2'.out _ (List.mem_of_getElem? hx)
                  obtain ⟨c, hcc⟩ : ∃ c, c = cntK n t (V.take j) := ⟨_, rfl⟩
                  rw [← hcc] at hc hcl
                  rw [← hcc]
                  clear hcells hx hcc
                  by_cases h1 : x1 = n
                  · by_cases h2 : x3 = t
                    · have hxe := hxx h1 h2
                      simp only [Prod.mk.injEq] at hxe
                      obtain ⟨rfl, rfl, rfl⟩ := hxe
                      clear hxx h1 h2
                      go_wp2
                      go_quiet (fail)
                      go_wp2
                      go_roundg (V.length - (j + 1))
                      case rel => exact ⟨j + 1, q + nq, by omega, rfl, by go_num, by rw [hc.out]; simp, rfl⟩
                      case measure => rw [hgk'.out]; omega
                    · have h2' : (x3 == t) = false := by simpa using h2
                      subst h1
                      clear hxx
                      go_wp2
                      go_roundg (V.length - (j + 1))
                      case rel => exact ⟨j + 1, q, by omega, rfl, by go_num, by rw [hc.out]; simp [h2], rfl⟩
                      case measure => rw [hgk'.out]; omega
                  · have h1' : (x1 == n) = false := by simpa using h1
                    clear hxx
                    go_wp2
                    go_roundg (V.length - (j + 1))
                    case rel => exact ⟨j + 1, q, by omega, rfl, by go_num, by rw [hc.out]; simp [h1], rfl⟩
                    case measure => rw [hgk'.out]; omega
                · have hjT : j = V.length := by omega
                  subst hjT
                  rw [List.take_length, hk1'.out]
                  go_wp2_with (first | (go_at_call 16; refine (shown_any _).mono ?_; rintro e wc ⟨rfl, hfc⟩))
                  go_ret
                  exact ⟨rfl, hf1.andThen (((hFU.trans (hfx.mono (by simp))).trans hfa).trans ((hfb.mono (by simp)).trans (((Fr.refl [bm] _).drewN q).trans (hfc.mono (by simp))))) (fun s hs => by simp at hs; subst hs; exact .inr l2)⟩
            · have hr0' : (r != 0) = true := by simpa using hr0
              clear hr hV
              go_wp2_with (first | (go_at_call 9; refine hset.mono ?_; rintro e wa ⟨rfl, hfa, hta⟩) | (go_at_call 16; refine (shown_any _).mono ?_; rintro e wc ⟨rfl, hfc⟩))
              go_ret
              exact ⟨rfl, hf1.andThen (((hFU.trans (hfx.mono (by simp))).trans hfa).trans (hfc.mono (by simp))) (fun s hs => by simp at hs; subst hs; exact .inr l2)⟩
end Go.Proofs.Ytcnihacjkcicfaa
