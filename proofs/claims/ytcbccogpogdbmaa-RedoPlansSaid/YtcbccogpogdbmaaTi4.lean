/- slices.Grow of nil, slices.Concat at bytes: walked. -/
import Derived.Test.YtcbccogpogdbmaaTi3
import Derived.Test.YtcbccogpogdbmaaShelfR
namespace Go.Proofs.Ytcbccogpogdbmaa
open Go.RowKit Go.Maps Go.Lib Go.Sort
attribute [local go_sem ↓] Go.wp_at_zero Go.wp_at_succ
theorem grow_any (n : Nat) (hn : n < 1000000) (w : World) : Calls Try.prog 49 #[.slice none 0 0, .int .i64 n] w fun e w' => ∃ v, e = .returned v ∧ Fr [] w w' ∧ w'.ownsRow w.heap.size 5 1 v ([] : List UInt8).length (([] : List UInt8).flatMap encU) := by
  by_cases h0 : n = 0
  · subst h0
    have h := Any8.slices_Grow_room Try.growL none 0 0 0 w (by omega) (by omega) (by omega) (by omega)
    change Calls Try.prog 49 _ _ _ at h
    refine h.mono ?_
    rintro e w' ⟨rfl, rfl⟩
    exact ⟨_, rfl, Fr.refl _ _, ⟨by simp, .inl ⟨rfl, by simp⟩⟩⟩
  · obtain ⟨i, hi, hz0, hz1, hz2⟩ := info_parts infoU
    have h := Any8.slices_Grow_grow Try.growL i (.int .u8 0) hi hz0 (by omega) none 0 0 n [] w (by omega) (by omega) (by rw [hz2]; omega) (by omega) (by simp) (fun _ => rfl) (by simp)
    change Calls Try.prog 49 _ _ _ at h
    refine h.mono ?_
    rintro e w' ⟨rfl, rfl⟩
    have hge := grownCap_ge w (0 + n) 0 5
    have hle := grownCap_le_maxLen w (0 + n) 0 5 (by unfold maxLen; omega)
    refine ⟨_, rfl, (Fr.refl [] w).drew.alloc _, ⟨by simp, .inr ⟨w.heap.size, _, _, rfl, Nat.le_refl _, heap_alloc_new w.drew _, by simp, hle, ?_, by simp⟩⟩⟩
    simp only [Array.size_append, size_zeroCells, Value.cells]
    show (([] : List Value).toArray.size + (0 + n - 0) * 1) + (grownCap w (0 + n) 0 5 - (0 + n)) * 1 = grownCap w (0 + n) 0 5 * 1
    simp only [Nat.zero_add] at hge ⊢
    simp
    omega
def lensP (Ps : List (Value × List UInt8)) : Nat := (Ps.map fun p => p.2.length).sum
theorem lens_take {Ps : List (Value × List UInt8)} {i : Nat} {p : Value × List UInt8} (h : Ps[i]? = some p) : lensP (Ps.take (i + 1)) = lensP (Ps.take i) + p.2.length := by
  unfold lensP
  rw [List.take_add_one, h]
  simp
theorem lens_le (Ps : List (Value × List UInt8)) (i : Nat) : lensP (Ps.take i) ≤ lensP Ps := by
  have : lensP Ps = lensP (Ps.take i) + lensP (Ps.drop i) := by
    unfold lensP
    rw [← List.sum_append, ← List.map_append, List.take_append_drop]
  omega
def flatP (Ps : List (Value × List UInt8)) : List UInt8 := Ps.flatMap (·.2)
theorem flat_take {Ps : List (Value × List UInt8)} {i : Nat} {p : Value × List UInt8} (h : Ps[i]? = some p) : flatP (Ps.take (i + 1)) = flatP (Ps.take i) ++ p.2 := by
  unfold flatP
  rw [List.take_add_one, h]
  simp
theorem flat_lens (Ps : List (Value × List UInt8)) : (flatP Ps).length = lensP Ps := by
  unfold flatP lensP
  rw [List.length_flatMap]
set_option maxRecDepth 100000 in
set_option maxHeartbeats 4000000 in
theorem concat_any {g : Nat} (Ps : List (Value × List UInt8)) (w : World) (hc : ∀ i p, Ps[i]? = some p → w.cell? ⟨g, i, none⟩ = some p.1 ∧ SliceIs w (fun _ => True) encU p.1 p.2) (hn : Ps.length < 1000) (hl : lensP Ps < 1000000) :
    Calls Try.prog 31 #[.slice (some ⟨g, 0, none⟩) Ps.length Ps.length] w fun e w' => ∃ v, e = .returned v ∧ Fr [] w w' ∧ w'.ownsRow w.heap.size 5 1 v (flatP Ps).length ((flatP Ps).flatMap encU) := by
  have hgr := grow_any (lensP Ps) hl w
  have hc' := Lib.hid hc
  clear hc
  go_enter Try.func31, Try.ntmps31
  go_wp2
  go_loopg [3, 11] Ps.length (fun gk sv iv wr => ∃ (i : Nat), i ≤ Ps.length ∧ gk = Ps.length - i ∧ iv = .int .i64 i ∧ sv = .int .i64 (lensP (Ps.take i)) ∧ w = wr)
  case atStart => exact ⟨0, Nat.zero_le _, rfl, rfl, rfl, rfl⟩
  case round =>
    obtain ⟨i, hi, hgk, rfl, rfl, rfl⟩ := hrel
    have hgk' := Lib.hid hgk; clear hgk
    have hle := lens_le Ps i
    by_cases hlt : i < Ps.length
    · obtain ⟨p, hp⟩ : ∃ p, Ps[i]? = some p := ⟨_, List.getElem?_eq_getElem hlt⟩
      have ht := lens_take hp
      have hle1 := lens_le Ps (i + 1)
      obtain ⟨k0, hs⟩ := hc'.out i p hp
      obtain ⟨u, L⟩ := p
      obtain ⟨a, cap, hu, hcl, _, _⟩ := hs
      dsimp only at hu k0 hcl ht
      subst hu
      obtain ⟨M, hM⟩ : ∃ M, M = lensP (Ps.take i) := ⟨_, rfl⟩
      rw [← hM] at ht hle ⊢
      rw [ht] at hle1
      have ht' := Lib.hid ht
      clear ht hM hp
      go_wp2
      go_roundg (Ps.length - (i + 1))
      case rel => exact ⟨i + 1, by omega, rfl, by go_num, by rw [ht'.out]; go_num, rfl⟩
      case measure => rw [hgk'.out]; omega
    · have hik : i = Ps.length := by omega
      subst hik
      rw [List.take_length]
      clear hgk' hi hlt hle
      go_wp2_with (first | (go_at_call 49; refine hgr.mono ?_; rintro e w1 ⟨v1, rfl, hf1, ho1⟩))
      go_loopg [6, 27] Ps.length (fun gk lv iv wx => ∃ (i : Nat), i ≤ Ps.length ∧ gk = Ps.length - i ∧ iv = .int .i64 i ∧ wx.ownsRow w.heap.size 5 1 lv (flatP (Ps.take i)).length ((flatP (Ps.take i)).flatMap encU) ∧ Fr [] w wx)
      case atStart => exact ⟨0, Nat.zero_le _, rfl, rfl, ho1, hf1⟩
      case round =>
        obtain ⟨i, hi, hgk, rfl, hown, hfr⟩ := hrel
        have hgk' := Lib.hid hgk; clear hgk
        by_cases hlt : i < Ps.length
        · obtain ⟨p, hp⟩ : ∃ p, Ps[i]? = some p := ⟨_, List.getElem?_eq_getElem hlt⟩
          have ht := flat_take hp
          have hle1 := lens_le Ps i
          rw [← flat_lens] at hle1
          have hle2 := lens_le Ps (i + 1)
          rw [← flat_lens, ht, List.length_append] at hle2
          obtain ⟨k0, hs⟩ := hc'.out i p hp
          obtain ⟨u, L⟩ := p
          have k1 := hfr.at0 k0
          have hs1 := hs.fr hfr (by simp)
          dsimp only at k0 k1 ht hs1 hle2
          have hb := hfr.size
          have hob := hown.lt
          obtain ⟨M, hM⟩ : ∃ M, M = flatP (Ps.take i) := ⟨_, rfl⟩
          rw [← hM] at ht hle1 hown hle2
          have ht' := Lib.hid ht; have hs1' := Lib.hid hs1; have hown' := Lib.hid hown; have hfr' := Lib.hid hfr
          clear ht hM hp hs hs1 k0 hown hfr hf1 ho1 hgr
          go_wp2_with (first | (at_builtin; refine wpList_more _ rfl _ _ 37 rfl w.heap.size 5 Try.underlying37 infoU rfl (by omega) u6 M rfl hown'.out u L rfl hs1'.out encU_len one_encU (by omega) (by omega) (by omega) ?_; intro v' w3 hown3 hf3 _))
          go_roundg (Ps.length - (i + 1))
          case rel => exact ⟨i + 1, by omega, rfl, by go_num, by rw [ht'.out]; exact hown3, hfr'.out.andThen hf3 (fun t ht' => by have := hob t (by simpa using ht'); omega)⟩
          case measure => rw [hgk'.out]; omega
        · have hik : i = Ps.length := by omega
          subst hik
          rw [List.take_length] at hown
          go_wp2
          go_ret
          exact ⟨_, rfl, hfr, hown⟩
end Go.Proofs.Ytcbccogpogdbmaa
