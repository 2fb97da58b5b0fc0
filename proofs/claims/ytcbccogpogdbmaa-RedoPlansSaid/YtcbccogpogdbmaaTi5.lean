/- The reference's Parts, walked. -/
import Derived.Test.YtcbccogpogdbmaaTi4
import Derived.Test.YtcbccogpogdbmaaRelT
import Derived.Deep.DeepCutAuto
import Derived.Deep.CutBlock
import Derived.Deep.RegionHeld3
namespace Go.Proofs.Ytcbccogpogdbmaa
open Go.RowKit Go.Maps Go.Lib Go.Sort
attribute [local go_sem ↓] Go.wp_at_zero Go.wp_at_succ
def aggR (r : Rec) : Value := .agg #[.int .i64 r.1, .int .i64 r.2.1, .int .i64 r.2.2.1, .string r.2.2.2]
def encR (r : Rec) : List Value := [.int .i64 r.1, .int .i64 r.2.1, .int .i64 r.2.2.1, .string r.2.2.2]
def encS (s : ByteArray) : List Value := [.string s]
theorem encS_len (s : ByteArray) : (encS s).length = 1 := rfl
theorem encR_len (r : Rec) : (encR r).length = 4 := rfl
/-- What Parts hands back: the texts, the error. -/
def OutParts (ps : List ByteArray) (er : Int) (w : World) (e : Ending) (w' : World) : Prop := ∃ v, e = .returned (.tuple #[v, .int .i64 er]) ∧ Fr [] w w' ∧ w'.ownsRow w.heap.size 9 1 v ps.length (ps.flatMap encS)
set_option maxRecDepth 100000 in
set_option maxHeartbeats 4000000 in
theorem rparts_bad (seq blk st : Int) (d : ByteArray) (h : seq < 1 ∨ 1099511627776 < seq ∨ blk < 0 ∨ 256 ≤ blk ∨ st < 1 ∨ 1099511627776 < st) (w : World) :
    Calls Try.prog 10 #[.agg #[.int .i64 seq, .int .i64 blk, .int .i64 st, .string d]] w fun e w' => e = .returned (.tuple #[.slice none 0 0, .int .i64 1]) ∧ Fr [] w w' := by
  go_enter Try.func10, Try.ntmps10
  go_wp2
  all_goals
    go_ret2
    exact ⟨rfl, (Fr.refl [] w).alloc _⟩
set_option maxRecDepth 100000 in
set_option maxHeartbeats 4000000 in
theorem rparts_long (seq blk st : Int) (d : ByteArray) (h1 : 1 ≤ seq) (h2 : seq ≤ 1099511627776) (h3 : 0 ≤ blk) (h4 : blk < 256) (h5 : 1 ≤ st) (h6 : st ≤ 1099511627776) (h7 : 16 < d.size) (w : World) :
    Calls Try.prog 10 #[.agg #[.int .i64 seq, .int .i64 blk, .int .i64 st, .string d]] w fun e w' => e = .returned (.tuple #[.slice none 0 0, .int .i64 11]) ∧ Fr [] w w' := by
  go_enter Try.func10, Try.ntmps10
  go_wp2
  go_ret2
  exact ⟨rfl, (Fr.refl [] w).alloc _⟩
set_option maxRecDepth 100000 in
set_option maxHeartbeats 4000000 in
theorem rparts_ok (seq blk st : Nat) (d : ByteArray) (h1 : 1 ≤ seq) (h2 : seq ≤ 1099511627776) (h4 : blk < 256) (h5 : 1 ≤ st) (h6 : st ≤ 1099511627776) (h7 : d.size ≤ 16) (w : World) :
    Calls Try.prog 10 #[.agg #[.int .i64 seq, .int .i64 blk, .int .i64 st, .string d]] w (OutParts (partsP (seq, blk, st, d)) 0 w) := by
  obtain ⟨W, hW⟩ : ∃ W, W = w.alloc (.cells #[.int .i64 seq, .int .i64 blk, .int .i64 st, .string d] 29) := ⟨_, rfl⟩
  have hFW : Fr [] w W := by rw [hW]; exact (Fr.refl _ _).alloc _
  have hbx : W.heap[w.heap.size]? = some (.cells #[.int .i64 seq, .int .i64 blk, .int .i64 st, .string d] 29 (0, 0)) := by rw [hW]; exact heap_alloc_new w _
  have k0 := (show W.cell? ⟨w.heap.size, 0, none⟩ = some (.int .i64 seq) from cell_at hbx)
  have k1 := (show W.cell? ⟨w.heap.size, 1, none⟩ = some (.int .i64 blk) from cell_at hbx)
  have k2 := (show W.cell? ⟨w.heap.size, 2, none⟩ = some (.int .i64 st) from cell_at hbx)
  have k3 := (show W.cell? ⟨w.heap.size, 3, none⟩ = some (.string d) from cell_at hbx)
  have lk := lt_of_cell k0
  have hW' := Lib.hid hW; have hbx' := Lib.hid hbx; have hFW' := Lib.hid hFW
  clear hW hbx hFW
  go_enter Try.func10, Try.ntmps10
  go_upto_region 5 with (fail)
  rw [← hW'.out]
  have Lk1 : ∀ p : Later W, _ := fun p => p.cell k1
  have Lk2 : ∀ p : Later W, _ := fun p => p.cell k2
  have Lk3 : ∀ p : Later W, _ := fun p => p.cell k3
  have hblk := fun p : Later W => rnumber_any blk 2 (by omega) (by omega) p.world
  have hst := fun p : Later W => rnumber_any st 8 (by omega) (by omega) p.world
  have hln := fun p : Later W => rnumber_any d.size 1 (by omega) (by omega) p.world
  have hz1 : (mkS (leB blk 2)).size = 2 := by rw [mkS_size, leB_len]
  have hz2 : (mkS (leB st 8)).size = 8 := by rw [mkS_size, leB_len]
  have hz3 : (mkS (leB d.size 1)).size = 1 := by rw [mkS_size, leB_len]
  obtain ⟨S1, hS1⟩ : ∃ S, S = mkS (leB blk 2) := ⟨_, rfl⟩
  obtain ⟨S2, hS2⟩ : ∃ S, S = mkS (leB st 8) := ⟨_, rfl⟩
  obtain ⟨S3, hS3⟩ : ∃ S, S = mkS (leB d.size 1) := ⟨_, rfl⟩
  rw [← hS1] at hblk hz1; rw [← hS2] at hst hz2; rw [← hS3] at hln hz3
  have hz12 : (S1 ++ S2).size = 10 := by rw [ByteArray.size_append]; omega
  have hz123 : (S1 ++ S2 ++ S3).size = 11 := by rw [ByteArray.size_append]; omega
  have hz1234 : (S1 ++ S2 ++ S3 ++ d).size = 11 + d.size := by rw [ByteArray.size_append]; omega
  have hhd : S1 ++ S2 ++ S3 ++ d = mkS (headB (seq, blk, st, d)) := by
    rw [hS1, hS2, hS3]
    apply ByteArray.ext
    simp [mkS, headB]
  have hblk' := Lib.hid hblk; have hst' := Lib.hid hst; have hln' := Lib.hid hln; have hhd' := Lib.hid hhd
  clear hblk hst hln hhd hS1 hS2 hS3
  go_wp2
  refine wp_region_later (by kernel_rfl) (by kernel_rfl) ?_
  repeat (go_big_quiet_step ((go_at_call 34; first | with_reducible refine Calls.later_of0 (hblk'.out _) | with_reducible refine Calls.later_of0 (hst'.out _) | with_reducible refine Calls.later_of0 (hln'.out _))))
  refine wpQuiet_nil ?_
  intro w2 hw'
  have hf8 : Fr [] W w2 := by
    obtain ⟨p, rfl⟩ := hw'
    exact p.fr
  clear hw'
  clear Lk1 Lk2 Lk3
  have hF2 := hFW'.out.trans hf8
  have j0 := hf8.at0 k0
  obtain ⟨H, hH⟩ : ∃ H, H = S1 ++ S2 ++ S3 ++ d := ⟨_, rfl⟩
  rw [← hH] at hz1234 ⊢
  have hhd2 := hhd'.out
  rw [← hH] at hhd2
  have hhd2' := Lib.hid hhd2
  obtain ⟨M, hM⟩ : ∃ M, M = H.size := ⟨_, rfl⟩
  have hM1 : H.size = M := hM.symm
  have hM2 : M ≤ 27 := by omega
  have hzer : Calls Try.prog 35 #[.int .i64 (30 - (M : Int))] w2 fun e w' => e = .returned (.string (mkS (List.replicate (30 - M) 0))) ∧ Fr [] w2 w' := by
    have := zeros_any (30 - M) (by omega) w2
    rwa [show ((30 - M : Nat) : Int) = 30 - (M : Int) by omega] at this
  obtain ⟨Z, hZ⟩ : ∃ Z, Z = mkS (List.replicate (30 - M) 0) := ⟨_, rfl⟩
  have hzZ : Z.size = 30 - M := by rw [hZ, mkS_size, List.length_replicate]
  rw [← hZ] at hzer
  obtain ⟨B, hB⟩ : ∃ B, B = H ++ Z := ⟨_, rfl⟩
  have hzB : B.size = 30 := by rw [hB, ByteArray.size_append]; omega
  have hBd : B = mkS (bodyB (seq, blk, st, d)) := by
    have hl : (headB (seq, blk, st, d)).length = M := by rw [hM, hhd2, mkS_size]
    rw [hB, hhd2, hZ]
    apply ByteArray.ext
    simp [mkS, bodyB, hl]
  have hbound : H.size + Z.size ≤ 9223372036854775807 := by omega
  have hZ2 : Z.size ≤ 30 := by omega
  have hsq := fun X : World => rnumber_any seq 6 (by omega) (by omega) X
  obtain ⟨S6, hS6⟩ : ∃ S, S = mkS (leB seq 6) := ⟨_, rfl⟩
  have hz6 : S6.size = 6 := by rw [hS6, mkS_size, leB_len]
  rw [← hS6] at hsq
  have e0 : (B.extract 0 10).size = 10 := by rw [ByteArray.size_extract]; omega
  have e1 : (B.extract 10 20).size = 10 := by rw [ByteArray.size_extract]; omega
  have e2 : (B.extract 20 30).size = 10 := by rw [ByteArray.size_extract]; omega
  have hBd' := Lib.hid hBd; have hB' := Lib.hid hB; have hS6' := Lib.hid hS6; have hsq' := Lib.hid hsq; have hF2' := Lib.hid hF2
  clear hz1 hz2 hz3 hz12 hz123 hz1234 hH hhd2 hM hZ hzZ hB hBd hS6 hsq hF2 hf8 k0 k1 k2 k3
  go_wp2_with (first | (go_at_call 35; refine hzer.mono ?_; rintro e w3 ⟨rfl, hf3⟩; have j1 := hf3.at0 j0; have hsq3 := hsq'.out w3) | (go_at_call 34; refine hsq3.mono ?_; rintro e w4 ⟨rfl, hf4⟩))
  rw [← hB'.out]
  refine wp_region_rel 12 (fun w w' => Fr [] w w') (by kernel_rfl) (by kernel_rfl) (by kernel_rfl) (fun h k => h.trans k) (Fr.refl [] _).drew ?_
  simp only [List.take_succ_cons, List.take_zero, List.drop_succ_cons, List.drop_zero]
  iterate 12
    apply RelW.still
    · intro s X hX
      go_wp2
      refine ⟨rfl, rfl, Fr.refl _ _, ?_⟩
      simp only [slotOf, List.getElem?_toArray, List.getElem?_cons_succ, List.getElem?_cons_zero, Option.getD_some]
      rfl
    · intro s
      simp only [Act.put, List.setIfInBounds_toArray, List.set_cons_succ, List.set_cons_zero]
      rfl
  intro s X hX _
  have hX' := Lib.hid hX
  clear hX
  go_wp2
  go_ret2
  have hb := hBd'.out
  have hbl : (bodyB (seq, blk, st, d)).length = 30 := bodyB_len (by unfold errR; simp only; rw [if_neg (by omega), if_neg (by omega)])
  have hparts : ∀ i, i < 3 → S6 ++ B.extract (10 * i) (10 * i + 10) = mkS (partB (seq, blk, st, d) i) := by
    intro i hi
    rw [hb, hS6'.out, mkS_extract]
    apply ByteArray.ext
    simp [mkS, partB]
  have h0 := hparts 0 (by omega)
  have h1 := hparts 1 (by omega)
  have h2 := hparts 2 (by omega)
  refine ⟨_, rfl, ?_, ?_⟩
  · exact ((((hF2'.out.trans hf3).trans hf4).trans hX'.out).alloc _)
  · unfold partsP
    rw [if_pos (by unfold errR; simp only; rw [if_neg (by omega), if_neg (by omega)])]
    have := World.ownsRow_lit (base := w.heap.size) (e := 9) (size := 1) X #[.string (S6 ++ B.extract 0 10), .string (S6 ++ B.extract 10 20), .string (S6 ++ B.extract 20 30)] 3 (by have := hX'.out.size; have := hf4.size; have := hf3.size; have := hF2'.out.size; omega) (by decide) rfl
    rw [← h0, ← h1, ← h2]
    exact this
end Go.Proofs.Ytcbccogpogdbmaa
