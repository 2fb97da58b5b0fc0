/- The reference's timers: without. -/
import Derived.Test.YtcnihacjkcicfaaTm6
namespace Go.Proofs.Ytcnihacjkcicfaa
open Go.RowKit Go.Lib Go.Sort Go.Shelf

/-- The reference's timers in memory. -/
def RefAt (w : World) (rb : Nat) (T : List Al) : Prop := ∃ v, w.cell? ⟨rb, 0, none⟩ = some v ∧ w.frozen? ⟨rb, 0, none⟩ = false ∧ SliceIs w (· ≠ rb) encAl v T
theorem RefAt.open {w : World} {rb : Nat} {T : List Al} (h : RefAt w rb T) : ∃ a cap, w.cell? ⟨rb, 0, none⟩ = some (.slice a T.length cap) ∧ w.frozen? ⟨rb, 0, none⟩ = false ∧ (T ≠ [] → ∃ g off, a = some ⟨g, off, none⟩ ∧ g ≠ rb ∧ g < w.heap.size ∧
    ∀ i x j u, T[i]? = some x → (encAl x)[j]? = some u → w.cell? ⟨g, off + (i * 3 + j), none⟩ = some u) := by
  obtain ⟨v, h1, h2, h3⟩ := h
  obtain ⟨a, cap, rfl, _, _, h4⟩ := h3.at encAl_len
  exact ⟨a, cap, h1, h2, h4⟩
theorem infoRef : (Try.prog.info? 34).map (fun i => (i.zero, i.size, i.bytes)) = some (some (.agg #[.int .i64 0, .int .i64 0, .int .i64 0]), 3, 24) := by kernel_rfl
theorem enc1 (x : Al) : ∀ u ∈ encAl x, u.oneCell' = true := by intro v hv; simp [encAl] at hv; rcases hv with rfl | rfl | rfl <;> rfl
theorem take_add {α : Type} {S : List α} {i : Nat} {x : α} (h : S[i]? = some x) : S.take (i + 1) = S.take i ++ [x] := by rw [List.take_add_one, h]; rfl

set_option maxRecDepth 100000 in
set_option maxHeartbeats 1000000 in
theorem without_any (rb : Nat) (T : List Al) (n t : Int) (w : World) (h : RefAt w rb T) (hT : T.length < 1000000) :
    Calls Try.prog 22 #[.pointer (some ⟨rb, 0, none⟩), .int .i64 n, .int .i64 t] w fun e w' => ∃ v, e = .returned v ∧ Fr [] w w' ∧ SliceIs w' (w.heap.size ≤ ·) encAl v (without T (n, t)) := by
  obtain ⟨a, cap, hfd, _, hat⟩ := h.open
  have lr := lt_of_cell hfd
  have hat' := Lib.hid hat; clear hat h
  go_enter Try.func22, Try.ntmps22
  go_wp2
  go_loopg [7, 8] T.length (fun gk lv iv wr => ∃ i, i ≤ T.length ∧ gk = T.length - i ∧ iv = .int .i64 i ∧ wr.ownsRow w.heap.size 34 3 lv (without (T.take i) (n, t)).length ((without (T.take i) (n, t)).flatMap encAl) ∧ Fr [] w wr)
  case atStart => exact ⟨0, Nat.zero_le _, rfl, rfl, World.ownsRow_made w #[] 0 (Nat.le_refl _) (Nat.zero_le _) rfl, (Fr.refl _ _).alloc _⟩
  case round =>
    obtain ⟨i, hi, hgk, rfl, hown, hfr⟩ := hrel
    have hgk' := Lib.hid hgk; clear hgk
    have hfd1 : wr.cell? ⟨rb, 0, none⟩ = some (.slice a T.length cap) := by rw [hfr.cell (p := ⟨rb, 0, none⟩) lr (by simp)]; exact hfd
    by_cases hlt : i < T.length
    · obtain ⟨g', off, rfl, hg1, hg2, hcells⟩ := hat'.out (by intro h; rw [h] at hlt; simp at hlt)
      obtain ⟨x, hx⟩ : ∃ x, T[i]? = some x := ⟨_, List.getElem?_eq_getElem hlt⟩
      have k0 : wr.cell? ⟨g', off + i * 3, none⟩ = some (.int .i64 x.1) := by rw [hfr.cell (p := ⟨g', _, none⟩) hg2 (by simp)]; exact hcells i x 0 _ hx rfl
      have k1 : wr.cell? ⟨g', off + i * 3 + 1, none⟩ = some (.int .i64 x.2.1) := by rw [hfr.cell (p := ⟨g', _, none⟩) hg2 (by simp)]; exact hcells i x 1 _ hx rfl
      have k2 : wr.cell? ⟨g', off + i * 3 + 2, none⟩ = some (.int .i64 x.2.2) := by rw [hfr.cell (p := ⟨g', _, none⟩) hg2 (by simp)]; exact hcells i x 2 _ hx rfl
      have htk := Lib.hid (take_add hx)
      clear hcells hx
      by_cases hk : keyOf x = (n, t)
      · obtain ⟨x1, x2, x3⟩ := x
        simp only [keyOf, Prod.mk.injEq] at hk
        obtain ⟨rfl, rfl⟩ := hk
        go_wp2
        go_roundg (T.length - (i + 1))
        case rel => exact ⟨i + 1, by omega, rfl, by go_num, by rw [htk.out]; simpa [without, keyOf] using hown, hfr⟩
        case measure => rw [hgk'.out]; omega
      · have hw : without (T.take (i + 1)) (n, t) = without (T.take i) (n, t) ++ [x] := by
          rw [htk.out]; unfold without; rw [List.filter_append]; simp [hk]
        have hw' := Lib.hid hw; clear hw
        have hl : (without (T.take i) (n, t)).length < 1000000 := by
          have := List.length_filter_le (fun a : Al => decide (keyOf a ≠ (n, t))) (T.take i)
          unfold without; simp at this ⊢; omega
        obtain ⟨S, hS⟩ : ∃ S, S = without (T.take i) (n, t) := ⟨_, rfl⟩
        rw [← hS] at hown hl hw'
        clear hS
        have hb := hfr.size
        have hob := hown.lt
        obtain ⟨x1, x2, x3⟩ := x
        simp only [keyOf, Prod.mk.injEq, not_and] at hk
        dsimp only at k0 k1 k2
        by_cases h1 : x1 = n
        · have h2 : (x3 != t) = true := by simpa using hk h1
          subst h1
          clear hk
          go_wp2_with (first | (at_builtin; refine wpList_push wr _ _ rfl _ _ 26 rfl w.heap.size 34 Try.underlying26 infoRef rfl (by omega) u7 S rfl hown (x1, x2, x3) rfl encAl_len (enc1 _) rfl (by omega) (by omega) hb ?_; intro v' w3 hown3 hf3))
          go_roundg (T.length - (i + 1))
          case rel => exact ⟨i + 1, by omega, rfl, by go_num, by rw [hw'.out]; exact hown3, hfr.andThen hf3 (fun t ht' => by have := hob t (by simpa using ht'); omega)⟩
          case measure => rw [hgk'.out]; omega
        · have h1' : (x1 != n) = true := by simpa using h1
          clear hk
          go_wp2_with (first | (at_builtin; refine wpList_push wr _ _ rfl _ _ 26 rfl w.heap.size 34 Try.underlying26 infoRef rfl (by omega) u7 S rfl hown (x1, x2, x3) rfl encAl_len (enc1 _) rfl (by omega) (by omega) hb ?_; intro v' w3 hown3 hf3))
          go_roundg (T.length - (i + 1))
          case rel => exact ⟨i + 1, by omega, rfl, by go_num, by rw [hw'.out]; exact hown3, hfr.andThen hf3 (fun t ht' => by have := hob t (by simpa using ht'); omega)⟩
          case measure => rw [hgk'.out]; omega
    · have hiT : i = T.length := by omega
      subst hiT
      rw [List.take_length] at hown
      have hs := SliceIs.of_owns hown rfl
      go_wp2
      go_ret
      exact ⟨_, rfl, hfr, hs⟩
end Go.Proofs.Ytcnihacjkcicfaa
