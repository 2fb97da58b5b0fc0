/- Areas in memory: NewArea, Get, Put; the log's block, Last, Kept. -/
import Derived.Test.YtcbccogpogdbmaaTi10
namespace Go.Proofs.Ytcbccogpogdbmaa
open Go.RowKit Go.Maps Go.Lib Go.Sort
attribute [local go_sem ↓] Go.wp_at_zero Go.wp_at_succ
/-- An area: its block, its row of 256 texts. -/
def AreaAt (w : World) (ab ag : Nat) (A : List ByteArray) (left : Int) : Prop :=
  w.heap[ab]? = some (.cells #[.slice (some ⟨ag, 0, none⟩) 256 256, .int .i64 left] 49 (0, 0)) ∧ w.heap[ag]? = some (.cells (A.map Value.string).toArray 9 (0, 0)) ∧ A.length = 256
theorem AreaAt.fr {w w' : World} {ab ag : Nat} {A : List ByteArray} {left : Int} {S : List Nat} (h : AreaAt w ab ag A left) (hf : Fr S w w') (h1 : ab ∉ S) (h2 : ag ∉ S) : AreaAt w' ab ag A left :=
  ⟨hf.keep h.1 h1, hf.keep h.2.1 h2, h.2.2⟩
theorem AreaAt.ne {w : World} {ab ag : Nat} {A : List ByteArray} {left : Int} (h : AreaAt w ab ag A left) : ab ≠ ag := by
  rintro rfl
  have h1 := h.1
  rw [h.2.1] at h1
  injection h1 with h1
  injection h1 with _ h2
  exact absurd h2 (by decide)
theorem AreaAt.lt {w : World} {ab ag : Nat} {A : List ByteArray} {left : Int} (h : AreaAt w ab ag A left) : ab < w.heap.size ∧ ag < w.heap.size := ⟨lt_of_block h.1, lt_of_block h.2.1⟩
theorem AreaAt.cell {w : World} {ab ag : Nat} {A : List ByteArray} {left : Int} (h : AreaAt w ab ag A left) (i : Nat) : w.cell? ⟨ag, i, none⟩ = (A[i]?).map Value.string := by
  rw [cell_at h.2.1]; simp
set_option maxRecDepth 100000 in
theorem newArea_any (w : World) : Calls Try.prog 15 #[] w fun e w' => e = .returned (.pointer (some ⟨w.heap.size + 1, 0, none⟩)) ∧ Fr [] w w' ∧ AreaAt w' (w.heap.size + 1) w.heap.size (List.replicate 256 ⟨#[]⟩) (-1) := by
  have hmk : (Instr.makeSlice 24 (.int .i64 256) (.int .i64 256)).run Try.prog w = .ok (.slice (some ⟨w.heap.size, 0, none⟩) 256 256) (w.alloc (.cells (madeCells #[.string ⟨#[]⟩] 256) 9)) := run_make_row' (P := Try.prog) 24 9 (.string ⟨#[]⟩) 16 Try.underlying24 infoS rfl .i64 .i64 256 (by omega) (by omega) w
  go_enter Try.func15, Try.ntmps15
  go_wp2
  go_ret
  refine ⟨by simp, ((Fr.refl [] w).alloc _).alloc _, ?_, ?_, by simp⟩
  · have := heap_alloc_new (w.alloc (.cells (madeCells #[.string ⟨#[]⟩] 256) 9)) (.cells #[.slice (some ⟨w.heap.size, 0, none⟩) 256 256, .int .i64 (-1)] 49)
    simpa using this
  · have h1 := ((Fr.refl [] _).alloc (.cells #[.slice (some ⟨w.heap.size, 0, none⟩) 256 256, .int .i64 (-1)] 49)).keep (heap_alloc_new w (.cells (madeCells #[.string ⟨#[]⟩] 256) 9)) (by simp)
    rw [h1]
    have h2 : madeCells #[Value.string ⟨#[]⟩] 256 = ((List.replicate 256 (⟨#[]⟩ : ByteArray)).map Value.string).toArray := by
      apply Array.toList_inj.1
      rw [toList_madeCells_one]
      simp
    rw [h2]
set_option maxRecDepth 100000 in
theorem aget_any {w : World} {ab ag : Nat} {A : List ByteArray} {left : Int} (h : AreaAt w ab ag A left) (i : Nat) (hi : i < 256) : Calls Try.prog 73 #[.pointer (some ⟨ab, 0, none⟩), .int .i64 i] w fun e w' => e = .returned (.tuple #[.string (A[i]'(by rw [h.2.2]; exact hi)), .int .i64 0]) ∧ w' = w := by
  have k0 := (show w.cell? ⟨ab, 0, none⟩ = some (.slice (some ⟨ag, 0, none⟩) 256 256) from cell_at h.1)
  have k1 := h.cell i
  have hl := h.2.2
  rw [List.getElem?_eq_getElem (by omega)] at k1
  obtain ⟨x, hx⟩ : ∃ x, x = A[i]'(by omega) := ⟨_, rfl⟩
  rw [← hx] at k1 ⊢
  simp only [Option.map_some] at k1
  clear hx h
  go_enter Try.func73, Try.ntmps73
  go_wp2
  go_ret2
  exact ⟨rfl, rfl⟩
/-- What Put does. -/
def putP (A : List ByteArray) (left : Int) (i : Nat) (s : ByteArray) : Int × List ByteArray × Int := if left = 0 then (211, A, left) else (0, A.set i s, if 0 < left then left - 1 else left)
set_option maxRecDepth 100000 in
set_option maxHeartbeats 2000000 in
theorem aput_any {w : World} {ab ag : Nat} {A : List ByteArray} {left : Int} (h : AreaAt w ab ag A left) (i : Nat) (hi : i < 256) (s : ByteArray) (hb : left < 1000000) : Calls Try.prog 47 #[.pointer (some ⟨ab, 0, none⟩), .int .i64 i, .string s] w fun e w' => e = .returned (.int .i64 (putP A left i s).1) ∧ Fr [ab, ag] w w' ∧ AreaAt w' ab ag (putP A left i s).2.1 (putP A left i s).2.2 ∧ w'.heap.size = w.heap.size := by
  have k0 := (show w.cell? ⟨ab, 0, none⟩ = some (.slice (some ⟨ag, 0, none⟩) 256 256) from cell_at h.1)
  have k2 := (show w.cell? ⟨ab, 1, none⟩ = some (.int .i64 left) from cell_at h.1)
  have kz := (show w.frozen? ⟨ab, 1, none⟩ = false from frozen_at h.1)
  have k1 := h.cell i
  have hl := h.2.2
  rw [List.getElem?_eq_getElem (by omega)] at k1
  obtain ⟨x, hx⟩ : ∃ x, x = A[i]'(by omega) := ⟨_, rfl⟩
  rw [← hx] at k1
  simp only [Option.map_some] at k1
  have k1z := (show w.frozen? ⟨ag, i, none⟩ = false from frozen_at h.2.1)
  have hne := h.ne
  have hne2 := Ne.symm hne
  have hla := h.lt.1
  have hlg := h.lt.2
  have h' := Lib.hid h
  clear hx h
  have hset : ∀ X : World, X.heap[ag]? = some (.cells (A.map Value.string).toArray 9 (0, 0)) → (X.setCell ⟨ag, i, none⟩ (.string s)).heap[ag]? = some (.cells ((A.set i s).map Value.string).toArray 9 (0, 0)) := fun X hX => by
    rw [setCell_at hX]
    simp [List.map_set]
  have hset' := Lib.hid hset
  clear hset
  unfold putP
  by_cases h0 : left = 0
  · subst h0
    go_enter Try.func47, Try.ntmps47
    go_wp2
    go_ret
    exact ⟨rfl, Fr.refl _ _, h'.out, rfl⟩
  · rw [if_neg h0]
    by_cases hp : 0 < left
    · rw [if_pos hp]
      go_enter Try.func47, Try.ntmps47
      go_wp2
      go_ret
      have f1 : Fr [ab, ag] w (w.setCell ⟨ab, 1, none⟩ (.int .i64 (left - 1))) := (Fr.refl _ _).setCell _ _ (.inl (by simp))
      refine ⟨rfl, f1.setCell _ _ (.inl (by simp)), ⟨?_, ?_, by simp [hl]⟩, by simp [World.setCell]⟩
      · have h1 := setCell_at (i := 1) h'.out.1 (.int .i64 (left - 1))
        exact ((Fr.refl [ag] _).setCell _ _ (.inl (by simp))).keep h1 (by simpa using hne)
      · exact hset'.out _ (((Fr.refl [ab] w).setCell _ _ (.inl (by simp))).keep h'.out.2.1 (by simpa using hne2))
    · rw [if_neg hp]
      go_enter Try.func47, Try.ntmps47
      go_wp2
      go_ret
      refine ⟨rfl, (Fr.refl _ _).setCell _ _ (.inl (by simp)), ⟨?_, ?_, by simp [hl]⟩, by simp [World.setCell]⟩
      · exact ((Fr.refl [ag] _).setCell _ _ (.inl (by simp))).keep h'.out.1 (by simpa using hne)
      · exact hset'.out _ h'.out.2.1
end Go.Proofs.Ytcbccogpogdbmaa
