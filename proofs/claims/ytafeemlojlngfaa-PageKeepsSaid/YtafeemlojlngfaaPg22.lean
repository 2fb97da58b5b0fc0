/- Pages (chapter 19): Dirty and Oldest. -/
import Derived.Test.YtafeemlojlngfaaPg21
namespace Go.Proofs.Ytafeemlojlngfaa
open Go.RowKit Go.Maps Go.Lib Go.Sort
set_option maxRecDepth 100000 in
set_option maxHeartbeats 4000000 in
theorem dirty_any {cb bm rg n : Nat} {Q : List (Nat × Pg)} {w : World} (h : CacheAt w cb bm rg n Q) (r1 r2 : Int) :
    Calls Try.prog 23 #[.pointer (some ⟨cb, 0, none⟩), .agg #[.int .i64 r1, .int .i64 r2]] w fun e w' => ∃ v, e = .returned v ∧ Fr [] w w' ∧ SliceIs w' (w.heap.size ≤ ·) encPg v (dirtyP (Q.map (·.2)) r1 r2) := by
  have hf0 : Fr [] w (w.alloc (.cells #[.int .i64 r1, .int .i64 r2] 33)) := (Fr.refl [] w).alloc _
  have h0 := h.fr0 hf0
  have hw := within_any h0 r1 r2
  have hbl := h.blocks
  have hnb := h.nodup
  have hQl : Q.length ≤ 64 := by have := h.few; omega
  have hf0' := Lib.hid hf0; have h0' := Lib.hid h0; have hbl' := Lib.hid hbl; have hnb' := Lib.hid hnb
  clear h hf0 h0 hbl hnb
  go_enter Try.func23, Try.ntmps23
  go_wp2_with (go_at_call 35; refine hw.mono ?_; rintro e w1 ⟨v, R, rfl, hf1, hown, hR⟩; have hR' := Lib.hid hR; have hRl := (show R.length ≤ 64 from by rw [hR.length_eq, List.length_map]; have := List.length_filter_le (fun q : Nat × Pg => inR r1 r2 q.2.1) Q; omega); have h1 := h0'.out.fr0 hf1; have hsl := SliceIs.of_owns hown rfl; obtain ⟨ad, cap, rfl, hc1, hc2, hat⟩ := hsl.at encPtr_len; have hat' := Lib.hid hat; have hf1' := Lib.hid hf1; have h1' := Lib.hid h1; clear hR hf1 hown hw h1 hat hsl)
  have hz1 : w.heap.size < w1.heap.size := by have := hf1'.out.size; have h0 : (w.alloc (.cells #[.int .i64 r1, .int .i64 r2] 33)).heap.size = w.heap.size + 1 := by simp
                                              omega
  go_loopg [5, 12] R.length (fun gk lv iv wr => ∃ i : Nat, i ≤ R.length ∧ gk = R.length - i ∧ iv = .int .i64 i ∧ wr.ownsRow w1.heap.size 31 4 lv (accP Q (R.take i)).length ((accP Q (R.take i)).flatMap encPg) ∧ Fr [] w1 wr)
  case atStart => exact ⟨0, Nat.zero_le _, rfl, rfl, owns_nil _ _ _ _, Fr.refl _ _⟩
  case round =>
    obtain ⟨i, hi, hgk, rfl, hown, hfr⟩ := hrel
    have hgk' := Lib.hid hgk; clear hgk
    have hzr := hfr.size
    by_cases hlt : i < R.length
    · obtain ⟨g', off, rfl, hg1, hg2, hcells⟩ := hat'.out (by intro h; rw [h] at hlt; simp at hlt)
      obtain ⟨x, hx⟩ : ∃ x, R[i]? = some x := ⟨_, List.getElem?_eq_getElem hlt⟩
      have k0 := hcells i x 0 _ hx rfl
      rw [Nat.mul_one, Nat.add_zero] at k0
      have k1 : wr.cell? ⟨g', off + i, none⟩ = some (.pointer (some ⟨x, 0, none⟩)) := by rw [hfr.cell (p := ⟨g', _, none⟩) hg2 (by simp)]; exact k0
      obtain ⟨q, hq, hqx⟩ := List.mem_map.1 (hR'.out.mem_iff.1 (List.mem_of_getElem? hx))
      have hqQ : (x, q.2) ∈ Q := by rw [← hqx]; exact (List.mem_filter.1 hq).1
      have hpb : pageB Q x = some q.2 := pageB_at (q := (x, q.2)) hbl'.out hqQ
      have hsn := accP_snoc hx hpb
      obtain ⟨va, vh, hl⟩ := h1'.out.page hqQ
      have hlr := (hl.fr hfr (by simp)).cells
      have hlx := hl.lt
      obtain ⟨y, p1, p2, p3, p4⟩ := q
      dsimp only at *
      obtain ⟨q0, q1, q2, q3, q4, q5⟩ := hlr
      have lx := lt_of_cell q0
      have hsn' := Lib.hid hsn
      have hal : (accP Q (R.take i)).length ≤ 64 := by
        unfold accP
        refine Nat.le_trans (List.length_filter_le _ _) (Nat.le_trans (List.length_filterMap_le _ _) ?_)
        rw [List.length_take]; omega
      clear hcells k0 hx hq hqx hqQ hpb hsn hl q4 q5
      obtain ⟨A, hA⟩ : ∃ A, A = accP Q (R.take i) := ⟨_, rfl⟩
      rw [← hA] at hown hal
      have hA' := Lib.hid hA; clear hA
      have hob := hown.lt
      by_cases hz : p4 = 0
      · have hz' : (p4 != 0) = false := by simpa using hz
        subst hz
        go_wp2
        go_roundg (R.length - (i + 1))
        case rel => exact ⟨i + 1, by omega, rfl, by go_num, by rw [hsn'.out, if_pos trivial, ← hA'.out]; exact hown, hfr⟩
        case measure => rw [hgk'.out]; omega
      · have hz' : (p4 != 0) = true := by simpa using hz
        go_wp2_with (first | (at_builtin; refine wpList_push wr _ _ rfl _ _ 39 rfl w1.heap.size 31 Try.underlying39 infoPg rfl (by omega) u5 A rfl hown (p1, p2, p3, p4) rfl encPg_len (enc1 _) rfl (by omega) (by omega) hzr ?_; intro v' w3 hown3 hf3))
        go_roundg (R.length - (i + 1))
        case rel => exact ⟨i + 1, by omega, rfl, by go_num, by rw [hsn'.out, if_neg hz, ← hA'.out]; exact hown3, hfr.andThen hf3 (fun t ht' => by have := hob t (by simpa using ht'); omega)⟩
        case measure => rw [hgk'.out]; omega
    · have he : i = R.length := by omega
      subst he
      rw [List.take_length] at hown
      have hpm := accP_all hbl'.out hR'.out
      have hal : (accP Q R).length ≤ 64 := by
        unfold accP
        refine Nat.le_trans (List.length_filter_le _ _) (Nat.le_trans (List.length_filterMap_le _ _) ?_)
        omega
      have hso := sort_any _ _ (accP Q R) (dirtyP (Q.map (·.2)) r1 r2) _ hown (by omega) (dirtyP_srt (by rw [List.map_map]; exact hnb'.out) r1 r2) (dirtyP_nodup (by rw [List.map_map]; exact hnb'.out) r1 r2) hpm
      have hob := hown.lt
      clear hpm hown
      go_wp2_with (go_at_call 39; refine hso.mono ?_; rintro e w2 ⟨rfl, hf2, hsl⟩)
      go_ret
      refine ⟨u5, rfl, ?_, hsl.imp (fun g _ hg => by omega)⟩
      exact ((hf0'.out.trans hf1'.out).trans hfr).andThen hf2 (fun t ht => .inr (by have := hob t (by simpa using ht); omega))
set_option maxRecDepth 100000 in
set_option maxHeartbeats 4000000 in
theorem oldest_any {cb bm rg n : Nat} {Q : List (Nat × Pg)} {w : World} (h : CacheAt w cb bm rg n Q) :
    Calls Try.prog 16 #[.pointer (some ⟨cb, 0, none⟩)] w fun e w' => e = .returned (.int .i64 (((dirtyP (Q.map (·.2)) 0 256).head?.map (·.2.2.2)).getD 0)) ∧ Fr [] w w' := by
  have hd := dirty_any h 0 256
  clear h
  obtain ⟨D, hD⟩ : ∃ D, D = dirtyP (Q.map (·.2)) 0 256 := ⟨_, rfl⟩
  rw [← hD] at hd ⊢
  clear hD
  cases D with
  | nil =>
    go_enter Try.func16, Try.ntmps16
    go_wp2_with (go_at_call 23; refine hd.mono ?_; rintro e w2 ⟨v, rfl, hf2, hsl⟩; obtain ⟨ad, cap, rfl, hc1, hc2, hat⟩ := hsl.at encPg_len; clear hat hsl hd; dsimp only [List.length_nil])
    go_ret
    exact ⟨rfl, hf2⟩
  | cons p D =>
    obtain ⟨p1, p2, p3, p4⟩ := p
    go_enter Try.func16, Try.ntmps16
    go_wp2_with (go_at_call 23; refine hd.mono ?_; rintro e w2 ⟨v, rfl, hf2, hsl⟩; obtain ⟨ad, cap, rfl, hc1, hc2, hat⟩ := hsl.at encPg_len; obtain ⟨g', off, rfl, hg1, hg2, hcells⟩ := hat (by simp); have k3 := hcells 0 _ 3 _ rfl rfl; rw [Nat.zero_mul, Nat.zero_add] at k3; clear hat hsl hd hcells; rw [List.length_cons] at hc1 ⊢)
    go_ret
    exact ⟨rfl, hf2⟩
end Go.Proofs.Ytafeemlojlngfaa
