/- theirs and Same, walked. -/
import Derived.Test.YtcbccogpogdbmaaLg6
namespace Go.Proofs.Ytcbccogpogdbmaa
open Go.RowKit Go.Maps Go.Lib Go.Sort
attribute [local go_sem ↓] Go.wp_at_zero Go.wp_at_succ
theorem infoQ : (Try.prog.info? 29).map (fun i => (i.zero, i.size, i.bytes)) = some (some (.agg #[.int .i64 0, .int .i64 0, .int .i64 0, .string ⟨#[]⟩]), 4, 40) := by kernel_rfl
set_option maxRecDepth 100000 in
set_option maxHeartbeats 4000000 in
theorem theirs_any {B : Nat → Prop} (v : Value) (S : List Rec) (w : World) (h : SliceIs w B encR v S) (hl : S.length < 1000) :
    Calls Try.prog 21 #[v] w fun e w' => ∃ a c, e = .returned (.slice a S.length c) ∧ Fr [] w w' ∧ w'.ownsRow w.heap.size 29 4 (.slice a S.length c) S.length (S.flatMap encR) := by
  have h0 := Lib.hid h
  obtain ⟨a, cap, rfl, hc1, hc2, hat⟩ := h.at encR_len
  have hat' := Lib.hid hat
  obtain ⟨W, hW⟩ : ∃ W, W = w.alloc (.cells #[] 29) := ⟨_, rfl⟩
  have hFW : Fr [] w W := by rw [hW]; exact (Fr.refl _ _).alloc _
  have hown0 : W.ownsRow w.heap.size 29 4 (.slice (some ⟨w.heap.size, 0, none⟩) 0 0) ([] : List Rec).length (([] : List Rec).flatMap encR) := by
    rw [hW]; exact World.ownsRow_made w #[] 0 (Nat.le_refl _) (Nat.zero_le _) rfl
  have hW' := Lib.hid hW; have hFW' := Lib.hid hFW; have hown0' := Lib.hid hown0
  clear h hat hW hFW hown0
  go_enter Try.func21, Try.ntmps21
  go_wp2
  rw [← hW'.out]
  go_loopg [3, 4] S.length (fun gk pv iv wr => ∃ (i : Nat) (pa : Option Addr) (pc : Nat), i ≤ S.length ∧ gk = S.length - i ∧ iv = .int .i64 i ∧ pv = .slice pa i pc ∧ wr.ownsRow w.heap.size 29 4 (.slice pa i pc) (S.take i).length ((S.take i).flatMap encR) ∧ Fr [] w wr)
  case atStart => exact ⟨0, _, _, Nat.zero_le _, rfl, rfl, rfl, hown0'.out, hFW'.out⟩
  case round =>
    obtain ⟨i, pa, pc, hi, hgk, rfl, rfl, hown, hfr⟩ := hrel
    have hgk' := Lib.hid hgk; have hown' := Lib.hid hown; have hfr' := Lib.hid hfr
    clear hgk hown hfr
    by_cases hlt : i < S.length
    · obtain ⟨g', off, rfl, _, hg2, hcells⟩ := hat'.out (by intro h; rw [h] at hlt; simp at hlt)
      obtain ⟨x, hx⟩ : ∃ x, S[i]? = some x := ⟨_, List.getElem?_eq_getElem hlt⟩
      have htk : S.take (i + 1) = S.take i ++ [x] := by rw [List.take_add_one, hx]; rfl
      have htl : (S.take i).length = i := by rw [List.length_take]; omega
      obtain ⟨x1, x2, x3, x4⟩ := x
      have k0 := hfr'.out.at0 (hcells i _ 0 _ hx rfl)
      have k1 := hfr'.out.at0 (hcells i _ 1 _ hx rfl)
      have k2 := hfr'.out.at0 (hcells i _ 2 _ hx rfl)
      have k3 := hfr'.out.at0 (hcells i _ 3 _ hx rfl)
      rw [Nat.add_zero] at k0
      simp only [← Nat.add_assoc] at k1 k2 k3
      dsimp only at k0 k1 k2 k3
      have lk := lt_of_cell k0
      have hwz := hfr'.out.size
      have htk' := Lib.hid htk; have htl' := Lib.hid htl
      clear hcells hx htk htl
      go_wp2_with (first | (at_builtin; refine wpList_push _ _ _ rfl _ _ 53 rfl w.heap.size 29 Try.underlying53 infoQ rfl (by omega) (.slice pa i pc) (S.take i) rfl hown'.out (x1, x2, x3, x4) rfl encR_len (one_encR _) rfl (by rw [htl'.out]; omega) (by omega) (by omega) ?_; intro v' w3 hown3 hf3; obtain ⟨na, nc, rfl, -, -⟩ := (SliceIs.of_owns hown3 rfl).at encR_len; have hown3' := Lib.hid hown3; have hf3' := Lib.hid hf3; clear hown3 hf3))
      go_roundg (S.length - (i + 1))
      case rel =>
        have e1 : (S.take i ++ [(x1, x2, x3, x4)]).length = i + 1 := by rw [List.length_append, htl'.out]; rfl
        have ho := hown3'.out
        have hb := hown'.out.lt
        rw [e1] at ho
        exact ⟨i + 1, na, nc, by omega, rfl, by go_num, rfl, by rw [htk'.out, e1]; exact ho, hfr'.out.andThen hf3'.out (fun t ht => .inr (hb t (by simpa using ht)).1)⟩
      case measure => rw [hgk'.out]; omega
    · have hik : i = S.length := by omega
      subst hik
      have ho := hown'.out
      rw [List.take_length] at ho
      have ho' := Lib.hid ho
      clear ho
      go_wp2
      go_ret
      exact ⟨_, _, rfl, hfr'.out, ho'.out⟩
set_option maxRecDepth 100000 in
set_option maxHeartbeats 4000000 in
theorem same_any {B C : Nat → Prop} (v u : Value) (S : List Rec) (w : World) (h : SliceIs w B encR v S) (h2 : SliceIs w C encR u S) (hl : S.length < 1000) :
    Calls Try.prog 20 #[v, u] w fun e w' => e = .returned (.bool true) ∧ Fr [] w w' := by
  obtain ⟨a, cap, rfl, hc1, hc2, hat⟩ := h.at encR_len
  obtain ⟨b, cap2, rfl, hd1, hd2, hbt⟩ := h2.at encR_len
  have hat' := Lib.hid hat; have hbt' := Lib.hid hbt
  clear h h2 hat hbt
  go_enter Try.func20, Try.ntmps20
  go_wp2
  go_loopg [5] S.length (fun gk iv wr => ∃ i : Nat, i ≤ S.length ∧ gk = S.length - i ∧ iv = .int .i64 i ∧ Fr [] w wr)
  case atStart => exact ⟨0, Nat.zero_le _, rfl, rfl, Fr.refl _ _⟩
  case round =>
    obtain ⟨i, hi, hgk, rfl, hfr⟩ := hrel
    have hgk' := Lib.hid hgk; have hfr' := Lib.hid hfr
    clear hgk hfr
    by_cases hlt : i < S.length
    · have hne : S ≠ [] := by intro h; rw [h] at hlt; simp at hlt
      obtain ⟨g', off, rfl, _, hg2, hcells⟩ := hat'.out hne
      obtain ⟨g2, off2, rfl, _, hg3, hcells2⟩ := hbt'.out hne
      obtain ⟨x, hx⟩ : ∃ x, S[i]? = some x := ⟨_, List.getElem?_eq_getElem hlt⟩
      obtain ⟨x1, x2, x3, x4⟩ := x
      have k0 := hfr'.out.at0 (hcells i _ 0 _ hx rfl)
      have k1 := hfr'.out.at0 (hcells i _ 1 _ hx rfl)
      have k2 := hfr'.out.at0 (hcells i _ 2 _ hx rfl)
      have k3 := hfr'.out.at0 (hcells i _ 3 _ hx rfl)
      have m0 := hfr'.out.at0 (hcells2 i _ 0 _ hx rfl)
      have m1 := hfr'.out.at0 (hcells2 i _ 1 _ hx rfl)
      have m2 := hfr'.out.at0 (hcells2 i _ 2 _ hx rfl)
      have m3 := hfr'.out.at0 (hcells2 i _ 3 _ hx rfl)
      rw [Nat.add_zero] at k0 m0
      simp only [← Nat.add_assoc] at k1 k2 k3 m1 m2 m3
      dsimp only at k0 k1 k2 k3 m0 m1 m2 m3
      have lk := lt_of_cell k0
      have lm := lt_of_cell m0
      clear hcells hcells2 hx hne
      go_upto_region 6 with (fail)
      go_region
      go_wp2
      go_roundg (S.length - (i + 1))
      case rel => exact ⟨i + 1, by omega, rfl, by go_num, by first | exact hfr'.out | exact hfr'.out.drew⟩
      case measure => rw [hgk'.out]; omega
    · go_wp2
      go_ret
      exact ⟨rfl, hfr'.out⟩
end Go.Proofs.Ytcbccogpogdbmaa
