/- The reference's Join, walked. -/
import Derived.Test.YtcbccogpogdbmaaTi9
namespace Go.Proofs.Ytcbccogpogdbmaa
open Go.RowKit Go.Maps Go.Lib Go.Sort
attribute [local go_sem ↓] Go.wp_at_zero Go.wp_at_succ
set_option maxRecDepth 100000 in
set_option maxHeartbeats 4000000 in
theorem rjoin_len {B : Nat → Prop} (v : Value) (ps : List ByteArray) (w : World) (h : SliceIs w B encS v ps) (hn : ps.length ≠ 3) :
    Calls Try.prog 13 #[v] w fun e w' => e = .returned (joinV none) ∧ Fr [] w w' := by
  obtain ⟨a, cap, rfl, hc1, hc2, _⟩ := h.at encS_len
  clear h
  have hl : ((ps.length : Int) != 3) = true := by simp; omega
  go_enter Try.func13, Try.ntmps13
  go_wp2
  refine bodyPost_ret (v := joinV none) (by simp [results, Try.results13, go_sem, joinV, aggR, zeroR]) rfl ?_
  exact ⟨rfl, (Fr.refl [] w).alloc _⟩
set_option maxRecDepth 100000 in
set_option maxHeartbeats 4000000 in
theorem rjoin_odd {B : Nat → Prop} (v : Value) (p0 p1 p2 : ByteArray) (w : World) (h : SliceIs w B encS v [p0, p1, p2]) (ho : p0.size ≠ 16 ∨ p1.size ≠ 16 ∨ p2.size ≠ 16) :
    Calls Try.prog 13 #[v] w fun e w' => e = .returned (joinV none) ∧ Fr [] w w' := by
  obtain ⟨a, cap, rfl, hc1, hc2, hat⟩ := h.at encS_len
  obtain ⟨g, off, rfl, _, hg2, hcells⟩ := hat (by simp)
  have k0 := hcells 0 p0 0 _ rfl rfl
  have k1 := hcells 1 p1 0 _ rfl rfl
  have k2 := hcells 2 p2 0 _ rfl rfl
  simp only [Nat.mul_one, Nat.add_zero] at k0 k1 k2
  clear h hat hcells
  by_cases h0 : p0.size = 16
  · have e0 : ((p0.size : Int) != 16) = false := by simp [h0]
    by_cases h1 : p1.size = 16
    · have e1 : ((p1.size : Int) != 16) = false := by simp [h1]
      have e2 : ((p2.size : Int) != 16) = true := by simp; omega
      clear ho h0 h1
      go_enter Try.func13, Try.ntmps13
      go_wp2
      refine bodyPost_ret (v := joinV none) (by simp [results, Try.results13, go_sem, joinV, aggR, zeroR]) rfl ?_
      exact ⟨rfl, (Fr.refl [] w).alloc _⟩
    · have e1 : ((p1.size : Int) != 16) = true := by simp; omega
      clear ho h0 h1
      go_enter Try.func13, Try.ntmps13
      go_wp2
      refine bodyPost_ret (v := joinV none) (by simp [results, Try.results13, go_sem, joinV, aggR, zeroR]) rfl ?_
      exact ⟨rfl, (Fr.refl [] w).alloc _⟩
  · have e0 : ((p0.size : Int) != 16) = true := by simp; omega
    clear ho h0
    go_enter Try.func13, Try.ntmps13
    go_wp2
    refine bodyPost_ret (v := joinV none) (by simp [results, Try.results13, go_sem, joinV, aggR, zeroR]) rfl ?_
    exact ⟨rfl, (Fr.refl [] w).alloc _⟩
theorem val_one (b : ByteArray) (hs : b.size = 30) : valB (b.extract 10 11).data.toList = (b[10]'(by omega)).toNat := by
  have h : (b.extract 10 11).data.toList = [b[10]'(by omega)] := by
    rw [extract_data, List.drop_eq_getElem_cons (by simp; omega)]
    rfl
  rw [h]
  simp [valB]
theorem val_top (b : ByteArray) (hs : b.size = 30) : valB (b.extract 2 10).data.toList = valB ((b.extract 2 10).data.toList.take 7) + 72057594037927936 * (b[9]'(by omega)).toNat := by
  have hg : (b.extract 2 10).data.toList[7]? = some (b[9]'(by omega)) := by
    rw [extract_data, List.getElem?_take_of_lt (by omega), List.getElem?_drop, List.getElem?_eq_getElem (by simp; omega)]
    rfl
  have h := val_take _ 7 _ hg
  have hl : (b.extract 2 10).data.toList.length = 8 := by simp; omega
  rw [List.take_of_length_le (by rw [hl]; omega)] at h
  exact h
theorem val7_lt (b : ByteArray) : valB ((b.extract 2 10).data.toList.take 7) < 72057594037927936 := by
  have h1 := valB_lt ((b.extract 2 10).data.toList.take 7)
  have h2 : ((b.extract 2 10).data.toList.take 7).length ≤ 7 := by rw [List.length_take]; omega
  have h3 : 256 ^ ((b.extract 2 10).data.toList.take 7).length ≤ 256 ^ 7 := Nat.pow_le_pow_right (by omega) h2
  have h4 : (256 : Nat) ^ 7 = 72057594037927936 := by decide
  omega
set_option maxRecDepth 100000 in
set_option maxHeartbeats 4000000 in
theorem rjoin_big {B : Nat → Prop} (v : Value) (p0 p1 p2 : ByteArray) (w : World) (h : SliceIs w B encS v [p0, p1, p2]) (h0 : p0.size = 16) (h1 : p1.size = 16) (h2 : p2.size = 16) (hbig : 16 < lenOf [p0, p1, p2] ∨ 9223372036854775808 ≤ (recOf [p0, p1, p2]).2.2.1) :
    Calls Try.prog 13 #[v] w fun e w' => e = .returned (joinV none) ∧ Fr [] w w' := by
  obtain ⟨a, cap, rfl, hc1, hc2, hat⟩ := h.at encS_len
  obtain ⟨g, off, rfl, _, hg2, hcells⟩ := hat (by simp)
  have k0 := hcells 0 p0 0 _ rfl rfl
  have k1 := hcells 1 p1 0 _ rfl rfl
  have k2 := hcells 2 p2 0 _ rfl rfl
  simp only [Nat.mul_one, Nat.add_zero] at k0 k1 k2
  obtain ⟨W, hW⟩ : ∃ W, W = w.alloc (.cells #[.int .i64 0, .int .i64 0, .int .i64 0, .string ⟨#[]⟩] 29) := ⟨_, rfl⟩
  have hFW : Fr [] w W := by rw [hW]; exact (Fr.refl _ _).alloc _
  have hbx : W.heap[w.heap.size]? = some (.cells #[.int .i64 0, .int .i64 0, .int .i64 0, .string ⟨#[]⟩] 29 (0, 0)) := by rw [hW]; exact heap_alloc_new w _
  have k0 := hFW.at0 k0
  have k1 := hFW.at0 k1
  have k2 := hFW.at0 k2
  have hsW : SliceIs W B encS (.slice (some ⟨g, off, none⟩) [p0, p1, p2].length cap) [p0, p1, p2] := h.fr hFW (by simp)
  have hlw : w.heap.size < W.heap.size := lt_of_block hbx
  obtain ⟨z0, z01, z012, z1, z2⟩ := bS_size p0 p1 p2 h0 h1 h2
  have hbd := bS_data p0 p1 p2 h0 h1 h2
  unfold bS at z012 hbd
  have hW' := Lib.hid hW; have hFW' := Lib.hid hFW; have hbx' := Lib.hid hbx; have hsW' := Lib.hid hsW
  clear h hat hcells hW hFW hbx hsW
  have hfull0 : p0.extract 6 p0.size = p0.extract 6 16 := by rw [h0]
  go_enter Try.func13, Try.ntmps13
  go_upto_region 3 with (fail)
  rw [← hW'.out]
  go_wp2
  refine wp_region_quiet_lit (by kernel_rfl) (by kernel_rfl) ?_
  repeat (go_big_quiet_step (fail))
  refine wpQuiet_nil ?_
  rintro w2 ⟨q, rfl⟩
  have hfq : Fr [] W (W.drewN q) := (Fr.refl [] W).drewN q
  obtain ⟨X, hX⟩ : ∃ X, X = W.drewN q := ⟨_, rfl⟩
  rw [← hX] at hfq ⊢
  have k0 := hfq.at0 k0
  have k1 := hfq.at0 k1
  have k2 := hfq.at0 k2
  have hfw' := Lib.hid (hFW'.out.trans hfq)
  have hb3 := (hfq.keep hbx'.out (by simp))
  have hs3' := Lib.hid (hsW'.out.fr hfq (by simp))
  clear hX hfq
  obtain ⟨b, hb⟩ : ∃ b, b = p0.extract 6 16 ++ p1.extract 6 16 ++ p2.extract 6 16 := ⟨_, rfl⟩
  rw [← hb] at z012 hbd ⊢
  clear hb z0 z01 z1 z2
  have hlen := lenOf_eq p0 p1 p2 b hbd z012
  have hv1 := val_one b z012
  obtain ⟨n, hn⟩ : ∃ n, n = (b[10]'(by omega)).toNat := ⟨_, rfl⟩
  have hn256 : n < 256 := by rw [hn]; exact (b[10]'(by omega)).toNat_lt
  rw [← hn] at hlen hv1
  have hvn := rvalue_any (b.extract 10 11) (by rw [hv1]; omega) (by rw [ByteArray.size_extract]; omega) X
  rw [hv1] at hvn
  have hvn' := Lib.hid hvn; have hlen' := Lib.hid hlen; have hbd' := Lib.hid hbd
  clear hvn hlen hbd hv1 hn
  have hl3 := lt_of_block hb3
  have r0 := (show X.cell? ⟨w.heap.size, 0, none⟩ = some (.int .i64 0) from cell_at hb3)
  have r1 := (show X.cell? ⟨w.heap.size, 1, none⟩ = some (.int .i64 0) from cell_at hb3)
  have r2 := (show X.cell? ⟨w.heap.size, 2, none⟩ = some (.int .i64 0) from cell_at hb3)
  have r3 := (show X.cell? ⟨w.heap.size, 3, none⟩ = some (.string ⟨#[]⟩) from cell_at hb3)
  have s0 := (show X.frozen? ⟨w.heap.size, 0, none⟩ = false from frozen_at hb3)
  have s1 := (show X.frozen? ⟨w.heap.size, 1, none⟩ = false from frozen_at hb3)
  have s2 := (show X.frozen? ⟨w.heap.size, 2, none⟩ = false from frozen_at hb3)
  have s3 := (show X.frozen? ⟨w.heap.size, 3, none⟩ = false from frozen_at hb3)
  have hb3' := Lib.hid hb3
  clear hb3
  have hrec := recOf_eq p0 p1 p2 b hbd'.out n hlen'.out
  rw [hlen'.out, hrec] at hbig
  dsimp only at hbig
  have ht := val_top b z012
  have h7 := val7_lt b
  clear hrec
  by_cases hc : 16 < n
  · clear ht h7 hbig
    go_wp2_with (first | (go_at_call 40; refine hvn'.out.mono ?_; rintro e w4 ⟨rfl, rfl⟩))
    have h4 := set4 hb3'.out (.int .i64 0) (.int .i64 0) (.int .i64 0) (.string ⟨#[]⟩)
    have f4 := fr_set4 w4 w.heap.size (.int .i64 0) (.int .i64 0) (.int .i64 0) (.string ⟨#[]⟩)
    obtain ⟨wf, hwf⟩ : ∃ wf, wf = (((w4.setCell ⟨w.heap.size, 0, none⟩ (.int .i64 0)).setCell ⟨w.heap.size, 1, none⟩ (.int .i64 0)).setCell ⟨w.heap.size, 2, none⟩ (.int .i64 0)).setCell ⟨w.heap.size, 3, none⟩ (.string ⟨#[]⟩) := ⟨_, rfl⟩
    rw [← hwf] at h4 f4 ⊢
    have y0 := (show wf.cell? ⟨w.heap.size, 0, none⟩ = some (.int .i64 0) from cell_at h4)
    have y1 := (show wf.cell? ⟨w.heap.size, 1, none⟩ = some (.int .i64 0) from cell_at h4)
    have y2 := (show wf.cell? ⟨w.heap.size, 2, none⟩ = some (.int .i64 0) from cell_at h4)
    have y3 := (show wf.cell? ⟨w.heap.size, 3, none⟩ = some (.string ⟨#[]⟩) from cell_at h4)
    refine bodyPost_ret (v := joinV none) (by simp [results, Try.results13, go_sem, joinV, aggR, zeroR, y0, y1, y2, y3]) rfl ?_
    exact ⟨rfl, (hfw'.out).andThen f4 (fun t ht => .inr (Nat.le_of_eq (show t = w.heap.size from by simpa using ht).symm))⟩
  · have hst2 : (127 : Int) < ((b[9]'(by omega)).toNat : Int) := by
      have := (b[9]'(by omega)).toNat_lt
      omega
    clear ht h7 hbig
    go_wp2_with (first | (go_at_call 40; refine hvn'.out.mono ?_; rintro e w4 ⟨rfl, rfl⟩))
    have h4 := set4 hb3'.out (.int .i64 0) (.int .i64 0) (.int .i64 0) (.string ⟨#[]⟩)
    have f4 := fr_set4 w4 w.heap.size (.int .i64 0) (.int .i64 0) (.int .i64 0) (.string ⟨#[]⟩)
    obtain ⟨wf, hwf⟩ : ∃ wf, wf = (((w4.setCell ⟨w.heap.size, 0, none⟩ (.int .i64 0)).setCell ⟨w.heap.size, 1, none⟩ (.int .i64 0)).setCell ⟨w.heap.size, 2, none⟩ (.int .i64 0)).setCell ⟨w.heap.size, 3, none⟩ (.string ⟨#[]⟩) := ⟨_, rfl⟩
    rw [← hwf] at h4 f4 ⊢
    have y0 := (show wf.cell? ⟨w.heap.size, 0, none⟩ = some (.int .i64 0) from cell_at h4)
    have y1 := (show wf.cell? ⟨w.heap.size, 1, none⟩ = some (.int .i64 0) from cell_at h4)
    have y2 := (show wf.cell? ⟨w.heap.size, 2, none⟩ = some (.int .i64 0) from cell_at h4)
    have y3 := (show wf.cell? ⟨w.heap.size, 3, none⟩ = some (.string ⟨#[]⟩) from cell_at h4)
    refine bodyPost_ret (v := joinV none) (by simp [results, Try.results13, go_sem, joinV, aggR, zeroR, y0, y1, y2, y3]) rfl ?_
    exact ⟨rfl, (hfw'.out).andThen f4 (fun t ht => .inr (Nat.le_of_eq (show t = w.heap.size from by simpa using ht).symm))⟩
set_option maxRecDepth 100000 in
set_option maxHeartbeats 8000000 in
theorem rjoin_dec {B : Nat → Prop} (v : Value) (p0 p1 p2 : ByteArray) (w : World) (h : SliceIs w B encS v [p0, p1, p2]) (h0 : p0.size = 16) (h1 : p1.size = 16) (h2 : p2.size = 16) (hn16 : lenOf [p0, p1, p2] ≤ 16) (hst40 : (recOf [p0, p1, p2]).2.2.1 < 9223372036854775808) (o : Option Rec) (hov : o = if errR (recOf [p0, p1, p2]) = 0 ∧ partsP (recOf [p0, p1, p2]) = [p0, p1, p2] then some (recOf [p0, p1, p2]) else none) :
    Calls Try.prog 13 #[v] w fun e w' => e = .returned (joinV o) ∧ Fr [] w w' := by
  have hov0' := Lib.hid hov
  clear hov
  obtain ⟨a, cap, rfl, hc1, hc2, hat⟩ := h.at encS_len
  obtain ⟨g, off, rfl, _, hg2, hcells⟩ := hat (by simp)
  have k0 := hcells 0 p0 0 _ rfl rfl
  have k1 := hcells 1 p1 0 _ rfl rfl
  have k2 := hcells 2 p2 0 _ rfl rfl
  simp only [Nat.mul_one, Nat.add_zero] at k0 k1 k2
  obtain ⟨W, hW⟩ : ∃ W, W = w.alloc (.cells #[.int .i64 0, .int .i64 0, .int .i64 0, .string ⟨#[]⟩] 29) := ⟨_, rfl⟩
  have hFW : Fr [] w W := by rw [hW]; exact (Fr.refl _ _).alloc _
  have hbx : W.heap[w.heap.size]? = some (.cells #[.int .i64 0, .int .i64 0, .int .i64 0, .string ⟨#[]⟩] 29 (0, 0)) := by rw [hW]; exact heap_alloc_new w _
  have k0 := hFW.at0 k0
  have k1 := hFW.at0 k1
  have k2 := hFW.at0 k2
  have hsW : SliceIs W B encS (.slice (some ⟨g, off, none⟩) [p0, p1, p2].length cap) [p0, p1, p2] := h.fr hFW (by simp)
  have hlw : w.heap.size < W.heap.size := lt_of_block hbx
  obtain ⟨z0, z01, z012, z1, z2⟩ := bS_size p0 p1 p2 h0 h1 h2
  have hbd := bS_data p0 p1 p2 h0 h1 h2
  unfold bS at z012 hbd
  have hW' := Lib.hid hW; have hFW' := Lib.hid hFW; have hbx' := Lib.hid hbx; have hsW' := Lib.hid hsW
  clear h hat hcells hW hFW hbx hsW
  have hfull0 : p0.extract 6 p0.size = p0.extract 6 16 := by rw [h0]
  go_enter Try.func13, Try.ntmps13
  go_upto_region 3 with (fail)
  rw [← hW'.out]
  go_wp2
  refine wp_region_quiet_lit (by kernel_rfl) (by kernel_rfl) ?_
  repeat (go_big_quiet_step (fail))
  refine wpQuiet_nil ?_
  rintro w2 ⟨q, rfl⟩
  have hfq : Fr [] W (W.drewN q) := (Fr.refl [] W).drewN q
  obtain ⟨X, hX⟩ : ∃ X, X = W.drewN q := ⟨_, rfl⟩
  rw [← hX] at hfq ⊢
  have k0 := hfq.at0 k0
  have k1 := hfq.at0 k1
  have k2 := hfq.at0 k2
  have hfw' := Lib.hid (hFW'.out.trans hfq)
  have hb3 := (hfq.keep hbx'.out (by simp))
  have hs3' := Lib.hid (hsW'.out.fr hfq (by simp))
  clear hX hfq
  obtain ⟨b, hb⟩ : ∃ b, b = p0.extract 6 16 ++ p1.extract 6 16 ++ p2.extract 6 16 := ⟨_, rfl⟩
  rw [← hb] at z012 hbd ⊢
  clear hb z0 z01 z1 z2
  have hlen := lenOf_eq p0 p1 p2 b hbd z012
  have hv1 := val_one b z012
  obtain ⟨n, hn⟩ : ∃ n, n = (b[10]'(by omega)).toNat := ⟨_, rfl⟩
  have hn256 : n < 256 := by rw [hn]; exact (b[10]'(by omega)).toNat_lt
  rw [← hn] at hlen hv1
  have hvn := rvalue_any (b.extract 10 11) (by rw [hv1]; omega) (by rw [ByteArray.size_extract]; omega) X
  rw [hv1] at hvn
  have hvn' := Lib.hid hvn; have hlen' := Lib.hid hlen; have hbd' := Lib.hid hbd
  clear hvn hlen hbd hv1 hn
  have hl3 := lt_of_block hb3
  have r0 := (show X.cell? ⟨w.heap.size, 0, none⟩ = some (.int .i64 0) from cell_at hb3)
  have r1 := (show X.cell? ⟨w.heap.size, 1, none⟩ = some (.int .i64 0) from cell_at hb3)
  have r2 := (show X.cell? ⟨w.heap.size, 2, none⟩ = some (.int .i64 0) from cell_at hb3)
  have r3 := (show X.cell? ⟨w.heap.size, 3, none⟩ = some (.string ⟨#[]⟩) from cell_at hb3)
  have s0 := (show X.frozen? ⟨w.heap.size, 0, none⟩ = false from frozen_at hb3)
  have s1 := (show X.frozen? ⟨w.heap.size, 1, none⟩ = false from frozen_at hb3)
  have s2 := (show X.frozen? ⟨w.heap.size, 2, none⟩ = false from frozen_at hb3)
  have s3 := (show X.frozen? ⟨w.heap.size, 3, none⟩ = false from frozen_at hb3)
  have hb3' := Lib.hid hb3
  clear hb3
  have hrec0 := recOf_eq p0 p1 p2 b hbd'.out n hlen'.out
  rw [hlen'.out] at hn16
  rw [hrec0] at hst40
  dsimp only at hst40
  have hst63 : valB (b.extract 2 10).data.toList < 9223372036854775808 := by omega
  clear hrec0 hst40
  have hA6 : (p0.extract 0 6).size = 6 := by rw [ByteArray.size_extract]; omega
  have hB2 : (b.extract 0 2).size = 2 := by rw [ByteArray.size_extract]; omega
  have hC8 : (b.extract 2 10).size = 8 := by rw [ByteArray.size_extract]; omega
  have hltA : valB (p0.extract 0 6).data.toList < 281474976710656 := by
    have := valB_lt (p0.extract 0 6).data.toList
    have hl : (p0.extract 0 6).data.toList.length = 6 := by simpa using hA6
    rw [hl] at this
    exact this
  have hltB : valB (b.extract 0 2).data.toList < 65536 := by
    have := valB_lt (b.extract 0 2).data.toList
    have hl : (b.extract 0 2).data.toList.length = 2 := by simpa using hB2
    rw [hl] at this
    exact this
  have ht := val_top b z012
  have h9 : ((b[9]'(by omega)).toNat : Int) ≤ 127 := by omega
  have hnumA := fun Y : World => rvalue_any (p0.extract 0 6) (by omega) (by omega) Y
  have hnumB := fun Y : World => rvalue_any (b.extract 0 2) (by omega) (by omega) Y
  have hnumC := fun Y : World => rvalue_any (b.extract 2 10) (by omega) (by omega) Y
  clear ht
  have hrec := recOf_eq p0 p1 p2 b hbd'.out n hlen'.out
  obtain ⟨sq, hsq⟩ : ∃ x, x = valB (p0.extract 0 6).data.toList := ⟨_, rfl⟩
  obtain ⟨bk, hbk⟩ : ∃ x, x = valB (b.extract 0 2).data.toList := ⟨_, rfl⟩
  obtain ⟨st, hst⟩ : ∃ x, x = valB (b.extract 2 10).data.toList := ⟨_, rfl⟩
  rw [← hsq] at hnumA hltA hrec; rw [← hbk] at hnumB hltB hrec; rw [← hst] at hnumC hrec hst63
  have hnumA' := Lib.hid hnumA; have hnumB' := Lib.hid hnumB; have hnumC' := Lib.hid hnumC; have hrec' := Lib.hid hrec
  clear hnumA hnumB hnumC hrec hsq hbk hst
  go_wp2_with (first | (go_at_call 40; refine hvn'.out.mono ?_; rintro e w4 ⟨rfl, rfl⟩))
  refine wp_region_rel 17 (fun w w' => Fr [] w w') (by kernel_rfl) (by kernel_rfl) (by kernel_rfl) (fun h k => h.trans k) (Fr.refl [] _).drew ?_
  simp only [List.take_succ_cons, List.take_zero, List.drop_succ_cons, List.drop_zero]
  iterate 16
    apply RelW.still
    · intro s X2 hX
      have j0 := hX.at0 k0
      go_wp2_with (first | (go_at_call 40; (first | with_reducible refine (hnumA'.out _).mono ?_ | with_reducible refine (hnumB'.out _).mono ?_ | with_reducible refine (hnumC'.out _).mono ?_); rintro e w1 ⟨rfl, rfl⟩))
      refine ⟨rfl, rfl, Fr.refl _ _, ?_⟩
      simp only [slotOf, List.getElem?_toArray, List.getElem?_cons_succ, List.getElem?_cons_zero, Option.getD_some]
      rfl
    · intro s
      simp only [Act.put, List.setIfInBounds_toArray, List.set_cons_succ, List.set_cons_zero]
      rfl
  apply RelW.owes (fun v Y => ∃ y, v = .pointer (some ⟨y, 0, none⟩) ∧ w4.heap.size ≤ y ∧ Y.heap[y]? = some (.cells #[.int .i64 0, .int .i64 0, .int .i64 0, .string ⟨#[]⟩] 29 (0, 0)))
  · exact fun _ _ _ hf h => by obtain ⟨y, h1, h2, h3⟩ := h; exact ⟨y, h1, h2, hf.keep h3 (by simp)⟩
  · intro s X2 hX _
    have hz := hX.size
    go_wp2
    refine ⟨rfl, rfl, (Fr.refl [] X2).alloc _, ?_⟩
    simp only [slotOf, List.getElem?_toArray, List.getElem?_cons_succ, List.getElem?_cons_zero, Option.getD_some]
    exact ⟨_, rfl, hz, heap_alloc_new X2 _⟩
  · intro s
    simp only [Act.put, List.setIfInBounds_toArray, List.set_cons_succ, List.set_cons_zero, Nat.zero_add, Nat.reduceAdd]
    rfl
  intro s X4 hX hall
  dsimp only
  simp only [List.nil_append, List.cons_append, allPhi, Nat.zero_add, Nat.reduceAdd] at hall
  obtain ⟨-, -, -, -, -, -, -, -, -, -, -, -, -, -, -, -, a16, -⟩ := hall
  generalize s 16 = v16 at a16 ⊢
  obtain ⟨rb, rfl, hrl, hrb⟩ := a16
  obtain ⟨d, hd⟩ : ∃ d, d = b.extract 11 (11 + n) := ⟨_, rfl⟩
  have hrec := hrec'.out
  rw [← hd] at hrec ⊢
  have hrec2 := Lib.hid hrec
  clear hrec hd
  have hfX := hfw'.out.trans hX
  have hbR := hX.keep hb3'.out (by simp)
  have hne : rb ≠ w.heap.size := by omega
  have gl3 : g < w4.heap.size := lt_of_cell k0
  have c0 := (show X4.cell? ⟨rb, 0, none⟩ = some (.int .i64 0) from cell_at hrb)
  have c1 := (show X4.cell? ⟨rb, 1, none⟩ = some (.int .i64 0) from cell_at hrb)
  have c2 := (show X4.cell? ⟨rb, 2, none⟩ = some (.int .i64 0) from cell_at hrb)
  have c3 := (show X4.cell? ⟨rb, 3, none⟩ = some (.string ⟨#[]⟩) from cell_at hrb)
  have f0 := (show X4.frozen? ⟨rb, 0, none⟩ = false from frozen_at hrb)
  have f1 := (show X4.frozen? ⟨rb, 1, none⟩ = false from frozen_at hrb)
  have f2 := (show X4.frozen? ⟨rb, 2, none⟩ = false from frozen_at hrb)
  have f3 := (show X4.frozen? ⟨rb, 3, none⟩ = false from frozen_at hrb)
  have hrbl := lt_of_block hrb
  obtain ⟨X5, hX5⟩ : ∃ X5, X5 = (((X4.setCell ⟨rb, 0, none⟩ (.int .i64 sq)).setCell ⟨rb, 1, none⟩ (.int .i64 bk)).setCell ⟨rb, 2, none⟩ (.int .i64 st)).setCell ⟨rb, 3, none⟩ (.string d) := ⟨_, rfl⟩
  have h5 := set4 hrb (.int .i64 sq) (.int .i64 bk) (.int .i64 st) (.string d)
  have f5 := fr_set4 X4 rb (.int .i64 sq) (.int .i64 bk) (.int .i64 st) (.string d)
  rw [← hX5] at h5 f5
  have hX5' := Lib.hid hX5
  have hb5 := f5.keep hbR (by simpa using Ne.symm hne)
  have hk : ∀ o u, w4.cell? ⟨g, o, none⟩ = some u → X5.cell? ⟨g, o, none⟩ = some u := fun o u hc => by
    have h1 := hX.at0 hc
    rw [f5.cell (p := ⟨g, o, none⟩) (lt_of_cell h1) (by simp; omega)]
    exact h1
  have k0 := hk _ _ k0
  have k1 := hk _ _ k1
  have k2 := hk _ _ k2
  have hf5w := hfX.andThen f5 (fun t ht => .inr (by
    have e1 : t = rb := by simpa using ht
    have := hfw'.out.size
    omega))
  have n0 := (show X5.cell? ⟨rb, 0, none⟩ = some (.int .i64 sq) from cell_at h5)
  have n1 := (show X5.cell? ⟨rb, 1, none⟩ = some (.int .i64 bk) from cell_at h5)
  have n2 := (show X5.cell? ⟨rb, 2, none⟩ = some (.int .i64 st) from cell_at h5)
  have n3 := (show X5.cell? ⟨rb, 3, none⟩ = some (.string d) from cell_at h5)
  have hpt := rparts_any ((sq : Int), (bk : Int), (st : Int), d) X5
  have hov := hov0'.out
  rw [hrec2.out] at hov
  unfold aggR at hpt
  dsimp only at hpt
  have hlX5 : w.heap.size < X5.heap.size := lt_of_block hb5
  have hrX5 : rb < X5.heap.size := lt_of_block h5
  obtain ⟨R, hR⟩ : ∃ R : Rec, R = ((sq : Int), (bk : Int), (st : Int), d) := ⟨_, rfl⟩
  rw [← hR] at hpt hov
  have hb5' := Lib.hid hb5; have h5' := Lib.hid h5; have hf5w' := Lib.hid hf5w; have hR' := Lib.hid hR; have hov' := Lib.hid hov
  clear hov hb5 h5 hf5w hR hbR hfX hrb f5 hX5 hk
  go_upto_region 8 with (fail)
  rw [← hX5'.out]
  by_cases her : errR R = 0
  · rw [her] at hpt
    have hpt' := Lib.hid hpt
    clear hpt
    obtain ⟨t0s, t1s, t2s, hparts⟩ : ∃ a b c, partsP R = [a, b, c] := by unfold partsP; rw [if_pos her]; exact ⟨_, _, _, rfl⟩
    have hparts' := Lib.hid hparts
    clear hparts
    by_cases e0 : t0s = p0
    · by_cases e1 : t1s = p1
      · by_cases e2 : t2s = p2
        · have hRp : partsP R = [p0, p1, p2] := by rw [hparts'.out, e0, e1, e2]
          have ho2 := hov'.out
          rw [if_pos ⟨her, hRp⟩, hR'.out] at ho2
          have ho2' := Lib.hid ho2
          have x0 : (t0s.toList == p0.toList) = true := by rw [e0]; simp
          have x1 : (t1s.toList == p1.toList) = true := by rw [e1]; simp
          have x2 : (t2s.toList == p2.toList) = true := by rw [e2]; simp
          clear ho2 her hRp e0 e1 e2
          go_wp2_with (first | (go_at_call 10; refine hpt'.out.mono ?_; rintro e w6 ⟨v6, rfl, hf6, ho6⟩; have hb6 := hf6.keep hb5'.out (by simp); have hl6 := lt_of_block hb6; have u0 := (show w6.cell? ⟨w.heap.size, 0, none⟩ = some (.int .i64 0) from cell_at hb6); have u1 := (show w6.cell? ⟨w.heap.size, 1, none⟩ = some (.int .i64 0) from cell_at hb6); have u2 := (show w6.cell? ⟨w.heap.size, 2, none⟩ = some (.int .i64 0) from cell_at hb6); have u3 := (show w6.cell? ⟨w.heap.size, 3, none⟩ = some (.string ⟨#[]⟩) from cell_at hb6); have x0 := (show w6.frozen? ⟨w.heap.size, 0, none⟩ = false from frozen_at hb6); have x1 := (show w6.frozen? ⟨w.heap.size, 1, none⟩ = false from frozen_at hb6); have x2 := (show w6.frozen? ⟨w.heap.size, 2, none⟩ = false from frozen_at hb6); have x3 := (show w6.frozen? ⟨w.heap.size, 3, none⟩ = false from frozen_at hb6); have hb6' := Lib.hid hb6; clear hb6; have h6 := hf6.keep h5'.out (by simp); have q0 := (show w6.cell? ⟨rb, 0, none⟩ = some (.int .i64 sq) from cell_at h6); have q1 := (show w6.cell? ⟨rb, 1, none⟩ = some (.int .i64 bk) from cell_at h6); have q2 := (show w6.cell? ⟨rb, 2, none⟩ = some (.int .i64 st) from cell_at h6); have q3 := (show w6.cell? ⟨rb, 3, none⟩ = some (.string d) from cell_at h6); have lr6 := lt_of_block h6; clear h6; have m0 := hf6.at0 k0; have m1 := hf6.at0 k1; have m2 := hf6.at0 k2; have ml := lt_of_cell m0; have hT := hparts'.out; rw [hT] at ho6; obtain ⟨a6, c6, rfl, _, _, hat6⟩ := (SliceIs.of_owns ho6 rfl).at encS_len; obtain ⟨g6, o6, rfl, _, hg6, hc6⟩ := hat6 (by simp); have t0 := hc6 0 t0s 0 _ rfl rfl; have t1 := hc6 1 t1s 0 _ rfl rfl; have t2 := hc6 2 t2s 0 _ rfl rfl; simp only [Nat.mul_one, Nat.add_zero] at t0 t1 t2; clear hc6 hat6 ho6 hT))
          refine wp_region_quiet_lit (by kernel_rfl) (by kernel_rfl) ?_
          repeat (go_big_quiet_step (fail))
          refine wpQuiet_nil ?_
          rintro w7 ⟨qq, rfl⟩
          obtain ⟨w8, hw8⟩ : ∃ w8, w8 = w6.drewN qq := ⟨_, rfl⟩
          have hf7 : Fr [] w6 w8 := by rw [hw8]; exact (Fr.refl [] w6).drewN qq
          rw [← hw8]
          have hb7 := hf7.keep hb6'.out (by simp)
          have hl7 := lt_of_block hb7
          have y0 := (show w8.cell? ⟨w.heap.size, 0, none⟩ = some (.int .i64 0) from cell_at hb7)
          have y1 := (show w8.cell? ⟨w.heap.size, 1, none⟩ = some (.int .i64 0) from cell_at hb7)
          have y2 := (show w8.cell? ⟨w.heap.size, 2, none⟩ = some (.int .i64 0) from cell_at hb7)
          have y3 := (show w8.cell? ⟨w.heap.size, 3, none⟩ = some (.string ⟨#[]⟩) from cell_at hb7)
          have xx0 := (show w8.frozen? ⟨w.heap.size, 0, none⟩ = false from frozen_at hb7)
          have xx1 := (show w8.frozen? ⟨w.heap.size, 1, none⟩ = false from frozen_at hb7)
          have xx2 := (show w8.frozen? ⟨w.heap.size, 2, none⟩ = false from frozen_at hb7)
          have xx3 := (show w8.frozen? ⟨w.heap.size, 3, none⟩ = false from frozen_at hb7)
          have hb7' := Lib.hid hb7
          have h7 := (hf6.trans hf7).keep h5'.out (by simp)
          have qq0 := (show w8.cell? ⟨rb, 0, none⟩ = some (.int .i64 sq) from cell_at h7)
          have qq1 := (show w8.cell? ⟨rb, 1, none⟩ = some (.int .i64 bk) from cell_at h7)
          have qq2 := (show w8.cell? ⟨rb, 2, none⟩ = some (.int .i64 st) from cell_at h7)
          have qq3 := (show w8.cell? ⟨rb, 3, none⟩ = some (.string d) from cell_at h7)
          have lr7 := lt_of_block h7
          clear hb7 h7 hw8
          go_wp2
          have h4 := set4 hb7'.out (.int .i64 sq) (.int .i64 bk) (.int .i64 st) (.string d)
          have f4 := fr_set4 w8 w.heap.size (.int .i64 sq) (.int .i64 bk) (.int .i64 st) (.string d)
          obtain ⟨wf, hwf⟩ : ∃ wf, wf = (((w8.setCell ⟨w.heap.size, 0, none⟩ (.int .i64 sq)).setCell ⟨w.heap.size, 1, none⟩ (.int .i64 bk)).setCell ⟨w.heap.size, 2, none⟩ (.int .i64 st)).setCell ⟨w.heap.size, 3, none⟩ (.string d) := ⟨_, rfl⟩
          rw [← hwf] at h4 f4 ⊢
          have y0 := (show wf.cell? ⟨w.heap.size, 0, none⟩ = some (.int .i64 sq) from cell_at h4)
          have y1 := (show wf.cell? ⟨w.heap.size, 1, none⟩ = some (.int .i64 bk) from cell_at h4)
          have y2 := (show wf.cell? ⟨w.heap.size, 2, none⟩ = some (.int .i64 st) from cell_at h4)
          have y3 := (show wf.cell? ⟨w.heap.size, 3, none⟩ = some (.string d) from cell_at h4)
          refine bodyPost_ret (v := joinV (some ((sq : Int), (bk : Int), (st : Int), d))) (by simp [results, Try.results13, go_sem, joinV, aggR, y0, y1, y2, y3]) rfl ?_
          exact ⟨by rw [ho2'.out], ((hf5w'.out.trans hf6).trans hf7).andThen f4 (fun t ht => .inr (Nat.le_of_eq (show t = w.heap.size from by simpa using ht).symm))⟩
        · have hRp : ¬ partsP R = [p0, p1, p2] := fun hh => e2 (by rw [hparts'.out] at hh; simp at hh; exact hh.2.2)
          have ho2 := hov'.out
          rw [if_neg (fun hh => hRp hh.2)] at ho2
          have ho2' := Lib.hid ho2
          have x0 : (t0s.toList == p0.toList) = true := by rw [e0]; simp
          have x1 : (t1s.toList == p1.toList) = true := by rw [e1]; simp
          have x2 : (t2s.toList == p2.toList) = false := by rw [beq_eq_false_iff_ne]; exact fun hx => e2 (by rw [toList_data, toList_data] at hx; exact ByteArray.ext (Array.toList_inj.1 hx))
          clear ho2 her hRp e0 e1 e2
          go_wp2_with (first | (go_at_call 10; refine hpt'.out.mono ?_; rintro e w6 ⟨v6, rfl, hf6, ho6⟩; have hb6 := hf6.keep hb5'.out (by simp); have hl6 := lt_of_block hb6; have u0 := (show w6.cell? ⟨w.heap.size, 0, none⟩ = some (.int .i64 0) from cell_at hb6); have u1 := (show w6.cell? ⟨w.heap.size, 1, none⟩ = some (.int .i64 0) from cell_at hb6); have u2 := (show w6.cell? ⟨w.heap.size, 2, none⟩ = some (.int .i64 0) from cell_at hb6); have u3 := (show w6.cell? ⟨w.heap.size, 3, none⟩ = some (.string ⟨#[]⟩) from cell_at hb6); have x0 := (show w6.frozen? ⟨w.heap.size, 0, none⟩ = false from frozen_at hb6); have x1 := (show w6.frozen? ⟨w.heap.size, 1, none⟩ = false from frozen_at hb6); have x2 := (show w6.frozen? ⟨w.heap.size, 2, none⟩ = false from frozen_at hb6); have x3 := (show w6.frozen? ⟨w.heap.size, 3, none⟩ = false from frozen_at hb6); have hb6' := Lib.hid hb6; clear hb6; have h6 := hf6.keep h5'.out (by simp); have q0 := (show w6.cell? ⟨rb, 0, none⟩ = some (.int .i64 sq) from cell_at h6); have q1 := (show w6.cell? ⟨rb, 1, none⟩ = some (.int .i64 bk) from cell_at h6); have q2 := (show w6.cell? ⟨rb, 2, none⟩ = some (.int .i64 st) from cell_at h6); have q3 := (show w6.cell? ⟨rb, 3, none⟩ = some (.string d) from cell_at h6); have lr6 := lt_of_block h6; clear h6; have m0 := hf6.at0 k0; have m1 := hf6.at0 k1; have m2 := hf6.at0 k2; have ml := lt_of_cell m0; have hT := hparts'.out; rw [hT] at ho6; obtain ⟨a6, c6, rfl, _, _, hat6⟩ := (SliceIs.of_owns ho6 rfl).at encS_len; obtain ⟨g6, o6, rfl, _, hg6, hc6⟩ := hat6 (by simp); have t0 := hc6 0 t0s 0 _ rfl rfl; have t1 := hc6 1 t1s 0 _ rfl rfl; have t2 := hc6 2 t2s 0 _ rfl rfl; simp only [Nat.mul_one, Nat.add_zero] at t0 t1 t2; clear hc6 hat6 ho6 hT))
          refine wp_region_quiet_lit (by kernel_rfl) (by kernel_rfl) ?_
          repeat (go_big_quiet_step (fail))
          refine wpQuiet_nil ?_
          rintro w7 ⟨qq, rfl⟩
          obtain ⟨w8, hw8⟩ : ∃ w8, w8 = w6.drewN qq := ⟨_, rfl⟩
          have hf7 : Fr [] w6 w8 := by rw [hw8]; exact (Fr.refl [] w6).drewN qq
          rw [← hw8]
          have hb7 := hf7.keep hb6'.out (by simp)
          have hl7 := lt_of_block hb7
          have y0 := (show w8.cell? ⟨w.heap.size, 0, none⟩ = some (.int .i64 0) from cell_at hb7)
          have y1 := (show w8.cell? ⟨w.heap.size, 1, none⟩ = some (.int .i64 0) from cell_at hb7)
          have y2 := (show w8.cell? ⟨w.heap.size, 2, none⟩ = some (.int .i64 0) from cell_at hb7)
          have y3 := (show w8.cell? ⟨w.heap.size, 3, none⟩ = some (.string ⟨#[]⟩) from cell_at hb7)
          have xx0 := (show w8.frozen? ⟨w.heap.size, 0, none⟩ = false from frozen_at hb7)
          have xx1 := (show w8.frozen? ⟨w.heap.size, 1, none⟩ = false from frozen_at hb7)
          have xx2 := (show w8.frozen? ⟨w.heap.size, 2, none⟩ = false from frozen_at hb7)
          have xx3 := (show w8.frozen? ⟨w.heap.size, 3, none⟩ = false from frozen_at hb7)
          have hb7' := Lib.hid hb7
          have h7 := (hf6.trans hf7).keep h5'.out (by simp)
          have qq0 := (show w8.cell? ⟨rb, 0, none⟩ = some (.int .i64 sq) from cell_at h7)
          have qq1 := (show w8.cell? ⟨rb, 1, none⟩ = some (.int .i64 bk) from cell_at h7)
          have qq2 := (show w8.cell? ⟨rb, 2, none⟩ = some (.int .i64 st) from cell_at h7)
          have qq3 := (show w8.cell? ⟨rb, 3, none⟩ = some (.string d) from cell_at h7)
          have lr7 := lt_of_block h7
          clear hb7 h7 hw8
          go_wp2
          have h4 := set4 hb7'.out (.int .i64 0) (.int .i64 0) (.int .i64 0) (.string ⟨#[]⟩)
          have f4 := fr_set4 w8 w.heap.size (.int .i64 0) (.int .i64 0) (.int .i64 0) (.string ⟨#[]⟩)
          obtain ⟨wf, hwf⟩ : ∃ wf, wf = (((w8.setCell ⟨w.heap.size, 0, none⟩ (.int .i64 0)).setCell ⟨w.heap.size, 1, none⟩ (.int .i64 0)).setCell ⟨w.heap.size, 2, none⟩ (.int .i64 0)).setCell ⟨w.heap.size, 3, none⟩ (.string ⟨#[]⟩) := ⟨_, rfl⟩
          rw [← hwf] at h4 f4 ⊢
          have y0 := (show wf.cell? ⟨w.heap.size, 0, none⟩ = some (.int .i64 0) from cell_at h4)
          have y1 := (show wf.cell? ⟨w.heap.size, 1, none⟩ = some (.int .i64 0) from cell_at h4)
          have y2 := (show wf.cell? ⟨w.heap.size, 2, none⟩ = some (.int .i64 0) from cell_at h4)
          have y3 := (show wf.cell? ⟨w.heap.size, 3, none⟩ = some (.string ⟨#[]⟩) from cell_at h4)
          refine bodyPost_ret (v := joinV none) (by simp [results, Try.results13, go_sem, joinV, aggR, zeroR, y0, y1, y2, y3]) rfl ?_
          exact ⟨by rw [ho2'.out], ((hf5w'.out.trans hf6).trans hf7).andThen f4 (fun t ht => .inr (Nat.le_of_eq (show t = w.heap.size from by simpa using ht).symm))⟩
      · have hRp : ¬ partsP R = [p0, p1, p2] := fun hh => e1 (by rw [hparts'.out] at hh; simp at hh; exact hh.2.1)
        have ho2 := hov'.out
        rw [if_neg (fun hh => hRp hh.2)] at ho2
        have ho2' := Lib.hid ho2
        have x0 : (t0s.toList == p0.toList) = true := by rw [e0]; simp
        have x1 : (t1s.toList == p1.toList) = false := by rw [beq_eq_false_iff_ne]; exact fun hx => e1 (by rw [toList_data, toList_data] at hx; exact ByteArray.ext (Array.toList_inj.1 hx))
        clear ho2 her hRp e0 e1
        go_wp2_with (first | (go_at_call 10; refine hpt'.out.mono ?_; rintro e w6 ⟨v6, rfl, hf6, ho6⟩; have hb6 := hf6.keep hb5'.out (by simp); have hl6 := lt_of_block hb6; have u0 := (show w6.cell? ⟨w.heap.size, 0, none⟩ = some (.int .i64 0) from cell_at hb6); have u1 := (show w6.cell? ⟨w.heap.size, 1, none⟩ = some (.int .i64 0) from cell_at hb6); have u2 := (show w6.cell? ⟨w.heap.size, 2, none⟩ = some (.int .i64 0) from cell_at hb6); have u3 := (show w6.cell? ⟨w.heap.size, 3, none⟩ = some (.string ⟨#[]⟩) from cell_at hb6); have x0 := (show w6.frozen? ⟨w.heap.size, 0, none⟩ = false from frozen_at hb6); have x1 := (show w6.frozen? ⟨w.heap.size, 1, none⟩ = false from frozen_at hb6); have x2 := (show w6.frozen? ⟨w.heap.size, 2, none⟩ = false from frozen_at hb6); have x3 := (show w6.frozen? ⟨w.heap.size, 3, none⟩ = false from frozen_at hb6); have hb6' := Lib.hid hb6; clear hb6; have h6 := hf6.keep h5'.out (by simp); have q0 := (show w6.cell? ⟨rb, 0, none⟩ = some (.int .i64 sq) from cell_at h6); have q1 := (show w6.cell? ⟨rb, 1, none⟩ = some (.int .i64 bk) from cell_at h6); have q2 := (show w6.cell? ⟨rb, 2, none⟩ = some (.int .i64 st) from cell_at h6); have q3 := (show w6.cell? ⟨rb, 3, none⟩ = some (.string d) from cell_at h6); have lr6 := lt_of_block h6; clear h6; have m0 := hf6.at0 k0; have m1 := hf6.at0 k1; have m2 := hf6.at0 k2; have ml := lt_of_cell m0; have hT := hparts'.out; rw [hT] at ho6; obtain ⟨a6, c6, rfl, _, _, hat6⟩ := (SliceIs.of_owns ho6 rfl).at encS_len; obtain ⟨g6, o6, rfl, _, hg6, hc6⟩ := hat6 (by simp); have t0 := hc6 0 t0s 0 _ rfl rfl; have t1 := hc6 1 t1s 0 _ rfl rfl; have t2 := hc6 2 t2s 0 _ rfl rfl; simp only [Nat.mul_one, Nat.add_zero] at t0 t1 t2; clear hc6 hat6 ho6 hT))
        refine wp_region_quiet_lit (by kernel_rfl) (by kernel_rfl) ?_
        repeat (go_big_quiet_step (fail))
        refine wpQuiet_nil ?_
        rintro w7 ⟨qq, rfl⟩
        obtain ⟨w8, hw8⟩ : ∃ w8, w8 = w6.drewN qq := ⟨_, rfl⟩
        have hf7 : Fr [] w6 w8 := by rw [hw8]; exact (Fr.refl [] w6).drewN qq
        rw [← hw8]
        have hb7 := hf7.keep hb6'.out (by simp)
        have hl7 := lt_of_block hb7
        have y0 := (show w8.cell? ⟨w.heap.size, 0, none⟩ = some (.int .i64 0) from cell_at hb7)
        have y1 := (show w8.cell? ⟨w.heap.size, 1, none⟩ = some (.int .i64 0) from cell_at hb7)
        have y2 := (show w8.cell? ⟨w.heap.size, 2, none⟩ = some (.int .i64 0) from cell_at hb7)
        have y3 := (show w8.cell? ⟨w.heap.size, 3, none⟩ = some (.string ⟨#[]⟩) from cell_at hb7)
        have xx0 := (show w8.frozen? ⟨w.heap.size, 0, none⟩ = false from frozen_at hb7)
        have xx1 := (show w8.frozen? ⟨w.heap.size, 1, none⟩ = false from frozen_at hb7)
        have xx2 := (show w8.frozen? ⟨w.heap.size, 2, none⟩ = false from frozen_at hb7)
        have xx3 := (show w8.frozen? ⟨w.heap.size, 3, none⟩ = false from frozen_at hb7)
        have hb7' := Lib.hid hb7
        have h7 := (hf6.trans hf7).keep h5'.out (by simp)
        have qq0 := (show w8.cell? ⟨rb, 0, none⟩ = some (.int .i64 sq) from cell_at h7)
        have qq1 := (show w8.cell? ⟨rb, 1, none⟩ = some (.int .i64 bk) from cell_at h7)
        have qq2 := (show w8.cell? ⟨rb, 2, none⟩ = some (.int .i64 st) from cell_at h7)
        have qq3 := (show w8.cell? ⟨rb, 3, none⟩ = some (.string d) from cell_at h7)
        have lr7 := lt_of_block h7
        clear hb7 h7 hw8
        go_wp2
        have h4 := set4 hb7'.out (.int .i64 0) (.int .i64 0) (.int .i64 0) (.string ⟨#[]⟩)
        have f4 := fr_set4 w8 w.heap.size (.int .i64 0) (.int .i64 0) (.int .i64 0) (.string ⟨#[]⟩)
        obtain ⟨wf, hwf⟩ : ∃ wf, wf = (((w8.setCell ⟨w.heap.size, 0, none⟩ (.int .i64 0)).setCell ⟨w.heap.size, 1, none⟩ (.int .i64 0)).setCell ⟨w.heap.size, 2, none⟩ (.int .i64 0)).setCell ⟨w.heap.size, 3, none⟩ (.string ⟨#[]⟩) := ⟨_, rfl⟩
        rw [← hwf] at h4 f4 ⊢
        have y0 := (show wf.cell? ⟨w.heap.size, 0, none⟩ = some (.int .i64 0) from cell_at h4)
        have y1 := (show wf.cell? ⟨w.heap.size, 1, none⟩ = some (.int .i64 0) from cell_at h4)
        have y2 := (show wf.cell? ⟨w.heap.size, 2, none⟩ = some (.int .i64 0) from cell_at h4)
        have y3 := (show wf.cell? ⟨w.heap.size, 3, none⟩ = some (.string ⟨#[]⟩) from cell_at h4)
        refine bodyPost_ret (v := joinV none) (by simp [results, Try.results13, go_sem, joinV, aggR, zeroR, y0, y1, y2, y3]) rfl ?_
        exact ⟨by rw [ho2'.out], ((hf5w'.out.trans hf6).trans hf7).andThen f4 (fun t ht => .inr (Nat.le_of_eq (show t = w.heap.size from by simpa using ht).symm))⟩
    · have hRp : ¬ partsP R = [p0, p1, p2] := fun hh => e0 (by rw [hparts'.out] at hh; simp at hh; exact hh.1)
      have ho2 := hov'.out
      rw [if_neg (fun hh => hRp hh.2)] at ho2
      have ho2' := Lib.hid ho2
      have x0 : (t0s.toList == p0.toList) = false := by rw [beq_eq_false_iff_ne]; exact fun hx => e0 (by rw [toList_data, toList_data] at hx; exact ByteArray.ext (Array.toList_inj.1 hx))
      clear ho2 her hRp e0
      go_wp2_with (first | (go_at_call 10; refine hpt'.out.mono ?_; rintro e w6 ⟨v6, rfl, hf6, ho6⟩; have hb6 := hf6.keep hb5'.out (by simp); have hl6 := lt_of_block hb6; have u0 := (show w6.cell? ⟨w.heap.size, 0, none⟩ = some (.int .i64 0) from cell_at hb6); have u1 := (show w6.cell? ⟨w.heap.size, 1, none⟩ = some (.int .i64 0) from cell_at hb6); have u2 := (show w6.cell? ⟨w.heap.size, 2, none⟩ = some (.int .i64 0) from cell_at hb6); have u3 := (show w6.cell? ⟨w.heap.size, 3, none⟩ = some (.string ⟨#[]⟩) from cell_at hb6); have x0 := (show w6.frozen? ⟨w.heap.size, 0, none⟩ = false from frozen_at hb6); have x1 := (show w6.frozen? ⟨w.heap.size, 1, none⟩ = false from frozen_at hb6); have x2 := (show w6.frozen? ⟨w.heap.size, 2, none⟩ = false from frozen_at hb6); have x3 := (show w6.frozen? ⟨w.heap.size, 3, none⟩ = false from frozen_at hb6); have hb6' := Lib.hid hb6; clear hb6; have h6 := hf6.keep h5'.out (by simp); have q0 := (show w6.cell? ⟨rb, 0, none⟩ = some (.int .i64 sq) from cell_at h6); have q1 := (show w6.cell? ⟨rb, 1, none⟩ = some (.int .i64 bk) from cell_at h6); have q2 := (show w6.cell? ⟨rb, 2, none⟩ = some (.int .i64 st) from cell_at h6); have q3 := (show w6.cell? ⟨rb, 3, none⟩ = some (.string d) from cell_at h6); have lr6 := lt_of_block h6; clear h6; have m0 := hf6.at0 k0; have m1 := hf6.at0 k1; have m2 := hf6.at0 k2; have ml := lt_of_cell m0; have hT := hparts'.out; rw [hT] at ho6; obtain ⟨a6, c6, rfl, _, _, hat6⟩ := (SliceIs.of_owns ho6 rfl).at encS_len; obtain ⟨g6, o6, rfl, _, hg6, hc6⟩ := hat6 (by simp); have t0 := hc6 0 t0s 0 _ rfl rfl; have t1 := hc6 1 t1s 0 _ rfl rfl; have t2 := hc6 2 t2s 0 _ rfl rfl; simp only [Nat.mul_one, Nat.add_zero] at t0 t1 t2; clear hc6 hat6 ho6 hT))
      refine wp_region_quiet_lit (by kernel_rfl) (by kernel_rfl) ?_
      repeat (go_big_quiet_step (fail))
      refine wpQuiet_nil ?_
      rintro w7 ⟨qq, rfl⟩
      obtain ⟨w8, hw8⟩ : ∃ w8, w8 = w6.drewN qq := ⟨_, rfl⟩
      have hf7 : Fr [] w6 w8 := by rw [hw8]; exact (Fr.refl [] w6).drewN qq
      rw [← hw8]
      have hb7 := hf7.keep hb6'.out (by simp)
      have hl7 := lt_of_block hb7
      have y0 := (show w8.cell? ⟨w.heap.size, 0, none⟩ = some (.int .i64 0) from cell_at hb7)
      have y1 := (show w8.cell? ⟨w.heap.size, 1, none⟩ = some (.int .i64 0) from cell_at hb7)
      have y2 := (show w8.cell? ⟨w.heap.size, 2, none⟩ = some (.int .i64 0) from cell_at hb7)
      have y3 := (show w8.cell? ⟨w.heap.size, 3, none⟩ = some (.string ⟨#[]⟩) from cell_at hb7)
      have xx0 := (show w8.frozen? ⟨w.heap.size, 0, none⟩ = false from frozen_at hb7)
      have xx1 := (show w8.frozen? ⟨w.heap.size, 1, none⟩ = false from frozen_at hb7)
      have xx2 := (show w8.frozen? ⟨w.heap.size, 2, none⟩ = false from frozen_at hb7)
      have xx3 := (show w8.frozen? ⟨w.heap.size, 3, none⟩ = false from frozen_at hb7)
      have hb7' := Lib.hid hb7
      have h7 := (hf6.trans hf7).keep h5'.out (by simp)
      have qq0 := (show w8.cell? ⟨rb, 0, none⟩ = some (.int .i64 sq) from cell_at h7)
      have qq1 := (show w8.cell? ⟨rb, 1, none⟩ = some (.int .i64 bk) from cell_at h7)
      have qq2 := (show w8.cell? ⟨rb, 2, none⟩ = some (.int .i64 st) from cell_at h7)
      have qq3 := (show w8.cell? ⟨rb, 3, none⟩ = some (.string d) from cell_at h7)
      have lr7 := lt_of_block h7
      clear hb7 h7 hw8
      go_wp2
      have h4 := set4 hb7'.out (.int .i64 0) (.int .i64 0) (.int .i64 0) (.string ⟨#[]⟩)
      have f4 := fr_set4 w8 w.heap.size (.int .i64 0) (.int .i64 0) (.int .i64 0) (.string ⟨#[]⟩)
      obtain ⟨wf, hwf⟩ : ∃ wf, wf = (((w8.setCell ⟨w.heap.size, 0, none⟩ (.int .i64 0)).setCell ⟨w.heap.size, 1, none⟩ (.int .i64 0)).setCell ⟨w.heap.size, 2, none⟩ (.int .i64 0)).setCell ⟨w.heap.size, 3, none⟩ (.string ⟨#[]⟩) := ⟨_, rfl⟩
      rw [← hwf] at h4 f4 ⊢
      have y0 := (show wf.cell? ⟨w.heap.size, 0, none⟩ = some (.int .i64 0) from cell_at h4)
      have y1 := (show wf.cell? ⟨w.heap.size, 1, none⟩ = some (.int .i64 0) from cell_at h4)
      have y2 := (show wf.cell? ⟨w.heap.size, 2, none⟩ = some (.int .i64 0) from cell_at h4)
      have y3 := (show wf.cell? ⟨w.heap.size, 3, none⟩ = some (.string ⟨#[]⟩) from cell_at h4)
      refine bodyPost_ret (v := joinV none) (by simp [results, Try.results13, go_sem, joinV, aggR, zeroR, y0, y1, y2, y3]) rfl ?_
      exact ⟨by rw [ho2'.out], ((hf5w'.out.trans hf6).trans hf7).andThen f4 (fun t ht => .inr (Nat.le_of_eq (show t = w.heap.size from by simpa using ht).symm))⟩
  · have e1 : ((errR R) != 0) = true := by simpa using her
    have ho2 := hov'.out
    rw [if_neg (fun hh => her hh.1)] at ho2
    have ho2' := Lib.hid ho2
    obtain ⟨E, hE⟩ : ∃ E, E = errR R := ⟨_, rfl⟩
    rw [← hE] at hpt e1
    have hpt' := Lib.hid hpt
    clear ho2 hpt hE her
    go_wp2_with (first | (go_at_call 10; refine hpt'.out.mono ?_; rintro e w6 ⟨v6, rfl, hf6, ho6⟩; have hb6 := hf6.keep hb5'.out (by simp); have hl6 := lt_of_block hb6; have u0 := (show w6.cell? ⟨w.heap.size, 0, none⟩ = some (.int .i64 0) from cell_at hb6); have u1 := (show w6.cell? ⟨w.heap.size, 1, none⟩ = some (.int .i64 0) from cell_at hb6); have u2 := (show w6.cell? ⟨w.heap.size, 2, none⟩ = some (.int .i64 0) from cell_at hb6); have u3 := (show w6.cell? ⟨w.heap.size, 3, none⟩ = some (.string ⟨#[]⟩) from cell_at hb6); have x0 := (show w6.frozen? ⟨w.heap.size, 0, none⟩ = false from frozen_at hb6); have x1 := (show w6.frozen? ⟨w.heap.size, 1, none⟩ = false from frozen_at hb6); have x2 := (show w6.frozen? ⟨w.heap.size, 2, none⟩ = false from frozen_at hb6); have x3 := (show w6.frozen? ⟨w.heap.size, 3, none⟩ = false from frozen_at hb6); have hb6' := Lib.hid hb6; clear hb6; have h6 := hf6.keep h5'.out (by simp); have q0 := (show w6.cell? ⟨rb, 0, none⟩ = some (.int .i64 sq) from cell_at h6); have q1 := (show w6.cell? ⟨rb, 1, none⟩ = some (.int .i64 bk) from cell_at h6); have q2 := (show w6.cell? ⟨rb, 2, none⟩ = some (.int .i64 st) from cell_at h6); have q3 := (show w6.cell? ⟨rb, 3, none⟩ = some (.string d) from cell_at h6); have lr6 := lt_of_block h6; clear h6; have m0 := hf6.at0 k0; have m1 := hf6.at0 k1; have m2 := hf6.at0 k2; have ml := lt_of_cell m0))
    refine wp_region_quiet_lit (by kernel_rfl) (by kernel_rfl) ?_
    repeat (go_big_quiet_step (fail))
    refine wpQuiet_nil ?_
    rintro w7 ⟨qq, rfl⟩
    obtain ⟨w8, hw8⟩ : ∃ w8, w8 = w6.drewN qq := ⟨_, rfl⟩
    have hf7 : Fr [] w6 w8 := by rw [hw8]; exact (Fr.refl [] w6).drewN qq
    rw [← hw8]
    have hb7 := hf7.keep hb6'.out (by simp)
    have hl7 := lt_of_block hb7
    have y0 := (show w8.cell? ⟨w.heap.size, 0, none⟩ = some (.int .i64 0) from cell_at hb7)
    have y1 := (show w8.cell? ⟨w.heap.size, 1, none⟩ = some (.int .i64 0) from cell_at hb7)
    have y2 := (show w8.cell? ⟨w.heap.size, 2, none⟩ = some (.int .i64 0) from cell_at hb7)
    have y3 := (show w8.cell? ⟨w.heap.size, 3, none⟩ = some (.string ⟨#[]⟩) from cell_at hb7)
    have xx0 := (show w8.frozen? ⟨w.heap.size, 0, none⟩ = false from frozen_at hb7)
    have xx1 := (show w8.frozen? ⟨w.heap.size, 1, none⟩ = false from frozen_at hb7)
    have xx2 := (show w8.frozen? ⟨w.heap.size, 2, none⟩ = false from frozen_at hb7)
    have xx3 := (show w8.frozen? ⟨w.heap.size, 3, none⟩ = false from frozen_at hb7)
    have hb7' := Lib.hid hb7
    have h7 := (hf6.trans hf7).keep h5'.out (by simp)
    have qq0 := (show w8.cell? ⟨rb, 0, none⟩ = some (.int .i64 sq) from cell_at h7)
    have qq1 := (show w8.cell? ⟨rb, 1, none⟩ = some (.int .i64 bk) from cell_at h7)
    have qq2 := (show w8.cell? ⟨rb, 2, none⟩ = some (.int .i64 st) from cell_at h7)
    have qq3 := (show w8.cell? ⟨rb, 3, none⟩ = some (.string d) from cell_at h7)
    have lr7 := lt_of_block h7
    clear hb7 h7 hw8
    go_wp2
    have h4 := set4 hb7'.out (.int .i64 0) (.int .i64 0) (.int .i64 0) (.string ⟨#[]⟩)
    have f4 := fr_set4 w8 w.heap.size (.int .i64 0) (.int .i64 0) (.int .i64 0) (.string ⟨#[]⟩)
    obtain ⟨wf, hwf⟩ : ∃ wf, wf = (((w8.setCell ⟨w.heap.size, 0, none⟩ (.int .i64 0)).setCell ⟨w.heap.size, 1, none⟩ (.int .i64 0)).setCell ⟨w.heap.size, 2, none⟩ (.int .i64 0)).setCell ⟨w.heap.size, 3, none⟩ (.string ⟨#[]⟩) := ⟨_, rfl⟩
    rw [← hwf] at h4 f4 ⊢
    have y0 := (show wf.cell? ⟨w.heap.size, 0, none⟩ = some (.int .i64 0) from cell_at h4)
    have y1 := (show wf.cell? ⟨w.heap.size, 1, none⟩ = some (.int .i64 0) from cell_at h4)
    have y2 := (show wf.cell? ⟨w.heap.size, 2, none⟩ = some (.int .i64 0) from cell_at h4)
    have y3 := (show wf.cell? ⟨w.heap.size, 3, none⟩ = some (.string ⟨#[]⟩) from cell_at h4)
    refine bodyPost_ret (v := joinV none) (by simp [results, Try.results13, go_sem, joinV, aggR, zeroR, y0, y1, y2, y3]) rfl ?_
    exact ⟨by rw [ho2'.out], ((hf5w'.out.trans hf6).trans hf7).andThen f4 (fun t ht => .inr (Nat.le_of_eq (show t = w.heap.size from by simpa using ht).symm))⟩
theorem rjoin_any {B : Nat → Prop} (v : Value) (ps : List ByteArray) (w : World) (h : SliceIs w B encS v ps) : Calls Try.prog 13 #[v] w fun e w' => e = .returned (joinV (joinP ps)) ∧ Fr [] w w' := by
  by_cases hl : ps.length = 3
  · match ps, hl, h with
    | [p0, p1, p2], _, h =>
      by_cases hsz : p0.size = 16 ∧ p1.size = 16 ∧ p2.size = 16
      · obtain ⟨h0, h1, h2⟩ := hsz
        have hw : wideP [p0, p1, p2] = true := by simp [wideP, h0, h1, h2]
        by_cases hb : 16 < lenOf [p0, p1, p2] ∨ 9223372036854775808 ≤ (recOf [p0, p1, p2]).2.2.1
        · have hj : joinP [p0, p1, p2] = none := by
            unfold joinP
            rw [if_neg]
            rintro ⟨_, h16, he, _⟩
            have := (errR_zero he).2.2.2.2.2.1
            omega
          rw [hj]
          exact rjoin_big v p0 p1 p2 w h h0 h1 h2 hb
        · have hd := rjoin_dec v p0 p1 p2 w h h0 h1 h2 (by omega) (by omega) _ rfl
          have hj : joinP [p0, p1, p2] = if errR (recOf [p0, p1, p2]) = 0 ∧ partsP (recOf [p0, p1, p2]) = [p0, p1, p2] then some (recOf [p0, p1, p2]) else none := by
            unfold joinP
            by_cases hc : errR (recOf [p0, p1, p2]) = 0 ∧ partsP (recOf [p0, p1, p2]) = [p0, p1, p2]
            · rw [if_pos hc, if_pos ⟨hw, by omega, hc⟩]
            · rw [if_neg hc, if_neg (fun hh => hc hh.2.2)]
          rw [hj]
          exact hd
      · have hj : joinP [p0, p1, p2] = none := by
          unfold joinP
          rw [if_neg]
          rintro ⟨hw, _⟩
          simp [wideP] at hw
          exact hsz ⟨hw.1, hw.2.1, hw.2.2⟩
        rw [hj]
        exact rjoin_odd v p0 p1 p2 w h (by omega)
  · have hj : joinP ps = none := by
      unfold joinP
      rw [if_neg]
      rintro ⟨hw, _⟩
      simp [wideP] at hw
      exact hl hw.1
    rw [hj]
    exact rjoin_len v ps w h hl
end Go.Proofs.Ytcbccogpogdbmaa
