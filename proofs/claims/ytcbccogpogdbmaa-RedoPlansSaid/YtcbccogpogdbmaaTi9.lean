/- Parts at any record; redo.Join, walked. -/
import Derived.Test.YtcbccogpogdbmaaTi6
import Derived.Test.YtcbccogpogdbmaaTi8
namespace Go.Proofs.Ytcbccogpogdbmaa
open Go.RowKit Go.Maps Go.Lib Go.Sort
attribute [local go_sem ↓] Go.wp_at_zero Go.wp_at_succ
theorem parts_any (r : Rec) (w : World) : Calls Try.prog 9 #[aggR r] w (OutParts (partsP r) (errR r) w) := by
  obtain ⟨seq, blk, st, d⟩ := r
  by_cases hb : seq < 1 ∨ 1099511627776 < seq ∨ blk < 0 ∨ 256 ≤ blk ∨ st < 1 ∨ 1099511627776 < st
  · have he : errR (seq, blk, st, d) = 1 := by unfold errR; exact if_pos hb
    refine (parts_bad seq blk st d hb w).mono ?_
    rintro e w' ⟨rfl, hf⟩
    unfold partsP
    rw [he]
    exact ⟨_, rfl, hf, by simp, .inl ⟨rfl, rfl⟩⟩
  · by_cases hl : 16 < d.size
    · have he : errR (seq, blk, st, d) = 11 := by unfold errR; rw [if_neg hb, if_pos hl]
      refine (parts_long seq blk st d (by omega) (by omega) (by omega) (by omega) (by omega) (by omega) hl w).mono ?_
      rintro e w' ⟨rfl, hf⟩
      unfold partsP
      rw [he]
      exact ⟨_, rfl, hf, by simp, .inl ⟨rfl, rfl⟩⟩
    · have he : errR (seq, blk, st, d) = 0 := by unfold errR; rw [if_neg hb, if_neg hl]
      obtain ⟨a, rfl⟩ := Int.eq_ofNat_of_zero_le (show 0 ≤ seq by omega)
      obtain ⟨b, rfl⟩ := Int.eq_ofNat_of_zero_le (show 0 ≤ blk by omega)
      obtain ⟨c, rfl⟩ := Int.eq_ofNat_of_zero_le (show 0 ≤ st by omega)
      rw [he]
      exact parts_ok a b c d (by omega) (by omega) (by omega) (by omega) (by omega) (by omega) w
theorem rparts_any (r : Rec) (w : World) : Calls Try.prog 10 #[aggR r] w (OutParts (partsP r) (errR r) w) := by
  obtain ⟨seq, blk, st, d⟩ := r
  by_cases hb : seq < 1 ∨ 1099511627776 < seq ∨ blk < 0 ∨ 256 ≤ blk ∨ st < 1 ∨ 1099511627776 < st
  · have he : errR (seq, blk, st, d) = 1 := by unfold errR; exact if_pos hb
    refine (rparts_bad seq blk st d hb w).mono ?_
    rintro e w' ⟨rfl, hf⟩
    unfold partsP
    rw [he]
    exact ⟨_, rfl, hf, by simp, .inl ⟨rfl, rfl⟩⟩
  · by_cases hl : 16 < d.size
    · have he : errR (seq, blk, st, d) = 11 := by unfold errR; rw [if_neg hb, if_pos hl]
      refine (rparts_long seq blk st d (by omega) (by omega) (by omega) (by omega) (by omega) (by omega) hl w).mono ?_
      rintro e w' ⟨rfl, hf⟩
      unfold partsP
      rw [he]
      exact ⟨_, rfl, hf, by simp, .inl ⟨rfl, rfl⟩⟩
    · have he : errR (seq, blk, st, d) = 0 := by unfold errR; rw [if_neg hb, if_neg hl]
      obtain ⟨a, rfl⟩ := Int.eq_ofNat_of_zero_le (show 0 ≤ seq by omega)
      obtain ⟨b, rfl⟩ := Int.eq_ofNat_of_zero_le (show 0 ≤ blk by omega)
      obtain ⟨c, rfl⟩ := Int.eq_ofNat_of_zero_le (show 0 ≤ st by omega)
      rw [he]
      exact rparts_ok a b c d (by omega) (by omega) (by omega) (by omega) (by omega) (by omega) w
/-- What Join hands back. -/
def zeroR : Rec := (0, 0, 0, ⟨#[]⟩)
def joinV (o : Option Rec) : Value := match o with
  | some r => .tuple #[aggR r, .bool true]
  | none => .tuple #[aggR zeroR, .bool false]
set_option maxRecDepth 100000 in
set_option maxHeartbeats 4000000 in
theorem join_len {B : Nat → Prop} (v : Value) (ps : List ByteArray) (w : World) (h : SliceIs w B encS v ps) (hn : ps.length ≠ 3) :
    Calls Try.prog 12 #[v] w fun e w' => e = .returned (joinV none) ∧ Fr [] w w' := by
  obtain ⟨a, cap, rfl, hc1, hc2, _⟩ := h.at encS_len
  clear h
  have hl : ((ps.length : Int) != 3) = true := by simp; omega
  go_enter Try.func12, Try.ntmps12
  go_wp2
  refine bodyPost_ret (v := joinV none) (by simp [results, Try.results12, go_sem, joinV, aggR, zeroR]) rfl ?_
  exact ⟨rfl, (Fr.refl [] w).alloc _⟩
set_option maxRecDepth 100000 in
set_option maxHeartbeats 4000000 in
theorem join_odd {B : Nat → Prop} (v : Value) (ps : List ByteArray) (w : World) (h : SliceIs w B encS v ps) (hn : ps.length = 3) (ho : (ps.any fun s => !(s.size == 16)) = true) :
    Calls Try.prog 12 #[v] w fun e w' => e = .returned (joinV none) ∧ Fr [] w w' := by
  have hcon := contS_any v ps (w.alloc (.cells #[.int .i64 0, .int .i64 0, .int .i64 0, .string ⟨#[]⟩] 23)) (h.fr ((Fr.refl [] w).alloc _) (by simp)) (by omega)
  rw [ho] at hcon
  obtain ⟨a, cap, rfl, hc1, hc2, _⟩ := h.at encS_len
  clear h ho
  have hl : ((ps.length : Int) != 3) = false := by simp; omega
  clear hn
  go_enter Try.func12, Try.ntmps12
  go_wp2_with (first | (go_at_call 37; refine hcon.mono ?_; rintro e w2 ⟨rfl, rfl⟩))
  refine bodyPost_ret (v := joinV none) (by simp [results, Try.results12, go_sem, joinV, aggR, zeroR]) rfl ?_
  exact ⟨rfl, (Fr.refl [] w).alloc _⟩
/-- What three texts of sixteen bytes say. -/
def bS (p0 p1 p2 : ByteArray) : ByteArray := p0.extract 6 16 ++ p1.extract 6 16 ++ p2.extract 6 16
theorem bS_data (p0 p1 p2 : ByteArray) (h0 : p0.size = 16) (h1 : p1.size = 16) (h2 : p2.size = 16) : (bS p0 p1 p2).data.toList = bodyOf [p0, p1, p2] := by
  have hd : ∀ p : ByteArray, p.size = 16 → (p.extract 6 16).data.toList = p.data.toList.drop 6 := fun p hp => by
    rw [extract_data, List.take_of_length_le (by simp; omega)]
  unfold bS bodyOf
  simp only [ByteArray.data_append, Array.toList_append, hd p0 h0, hd p1 h1, hd p2 h2]
  rfl
theorem bS_size (p0 p1 p2 : ByteArray) (h0 : p0.size = 16) (h1 : p1.size = 16) (h2 : p2.size = 16) : (p0.extract 6 16).size = 10 ∧ (p0.extract 6 16 ++ p1.extract 6 16).size = 20 ∧ (bS p0 p1 p2).size = 30 ∧ (p1.extract 6 16).size = 10 ∧ (p2.extract 6 16).size = 10 := by
  have hd : ∀ p : ByteArray, p.size = 16 → (p.extract 6 16).size = 10 := fun p hp => by rw [ByteArray.size_extract]; omega
  unfold bS
  simp only [ByteArray.size_append, hd p0 h0, hd p1 h1, hd p2 h2]
  decide
theorem recOf_eq (p0 p1 p2 b : ByteArray) (hb : b.data.toList = bodyOf [p0, p1, p2]) (n : Nat) (hn : lenOf [p0, p1, p2] = n) :
    recOf [p0, p1, p2] = (((valB (p0.extract 0 6).data.toList : Nat) : Int), ((valB (b.extract 0 2).data.toList : Nat) : Int), ((valB (b.extract 2 10).data.toList : Nat) : Int), b.extract 11 (11 + n)) := by
  unfold recOf
  rw [hn]
  refine Prod.ext ?_ (Prod.ext ?_ (Prod.ext ?_ ?_))
  · simp only [extract_data, List.drop_zero]
    rfl
  · simp only [extract_data, List.drop_zero, ← hb]
  · simp only [extract_data, ← hb]
  · simp only [← hb]
    rw [extract_eq, Nat.add_sub_cancel_left]
    rfl
theorem lenOf_eq (p0 p1 p2 b : ByteArray) (hb : b.data.toList = bodyOf [p0, p1, p2]) (hs : b.size = 30) : lenOf [p0, p1, p2] = (b[10]'(by omega)).toNat := by
  unfold lenOf
  rw [← hb]
  have : b.data.toList[10]? = some (b[10]'(by omega)) := by
    rw [List.getElem?_eq_getElem (by simp; omega)]; rfl
  rw [this]
  rfl
theorem val8_lt (b : ByteArray) (h : b.size ≤ 8) : valB b.data.toList < 18446744073709551616 := by
  have h1 := valB_lt b.data.toList
  have h2 : b.data.toList.length ≤ 8 := by simpa using h
  have h3 : 256 ^ b.data.toList.length ≤ 256 ^ 8 := Nat.pow_le_pow_right (by omega) h2
  have h4 : (256 : Nat) ^ 8 = 18446744073709551616 := by decide
  omega
set_option maxRecDepth 100000 in
set_option maxHeartbeats 4000000 in
theorem join_big {B : Nat → Prop} (v : Value) (p0 p1 p2 : ByteArray) (w : World) (h : SliceIs w B encS v [p0, p1, p2]) (h0 : p0.size = 16) (h1 : p1.size = 16) (h2 : p2.size = 16) (hbig : 16 < lenOf [p0, p1, p2] ∨ 1099511627776 < (recOf [p0, p1, p2]).2.2.1) :
    Calls Try.prog 12 #[v] w fun e w' => e = .returned (joinV none) ∧ Fr [] w w' := by
  obtain ⟨a, cap, rfl, hc1, hc2, hat⟩ := h.at encS_len
  obtain ⟨g, off, rfl, _, hg2, hcells⟩ := hat (by simp)
  have k0 := hcells 0 p0 0 _ rfl rfl
  have k1 := hcells 1 p1 0 _ rfl rfl
  have k2 := hcells 2 p2 0 _ rfl rfl
  simp only [Nat.mul_one, Nat.add_zero] at k0 k1 k2
  obtain ⟨W, hW⟩ : ∃ W, W = w.alloc (.cells #[.int .i64 0, .int .i64 0, .int .i64 0, .string ⟨#[]⟩] 23) := ⟨_, rfl⟩
  have hFW : Fr [] w W := by rw [hW]; exact (Fr.refl _ _).alloc _
  have hbx : W.heap[w.heap.size]? = some (.cells #[.int .i64 0, .int .i64 0, .int .i64 0, .string ⟨#[]⟩] 23 (0, 0)) := by rw [hW]; exact heap_alloc_new w _
  have k0 := hFW.at0 k0
  have k1 := hFW.at0 k1
  have k2 := hFW.at0 k2
  have hsW : SliceIs W B encS (.slice (some ⟨g, off, none⟩) [p0, p1, p2].length cap) [p0, p1, p2] := h.fr hFW (by simp)
  have hlw : w.heap.size < W.heap.size := lt_of_block hbx
  have hcon := contS_any _ [p0, p1, p2] W hsW (by simp)
  have hcf : ([p0, p1, p2].any fun s => !(s.size == 16)) = false := by simp [h0, h1, h2]
  rw [hcf] at hcon
  obtain ⟨z0, z01, z012, z1, z2⟩ := bS_size p0 p1 p2 h0 h1 h2
  have hbd := bS_data p0 p1 p2 h0 h1 h2
  unfold bS at z012 hbd
  rw [hW] at hcon
  have hW' := Lib.hid hW; have hFW' := Lib.hid hFW; have hbx' := Lib.hid hbx; have hsW' := Lib.hid hsW
  clear h hat hcells hW hFW hbx hcf hsW
  have hcon' := Lib.hid hcon
  clear hcon
  go_enter Try.func12, Try.ntmps12
  go_upto_region 4 with (first | (go_at_call 37; refine hcon'.out.mono ?_; rintro e w2 ⟨rfl, rfl⟩))
  rw [← hW'.out]
  go_wp2
  refine wp_region_quiet_lit (by kernel_rfl) (by kernel_rfl) ?_
  repeat (go_big_quiet_step (fail))
  refine wpQuiet_nil ?_
  rintro w2 ⟨q, rfl⟩
  have hfq : Fr [] W (W.drewN q) := (Fr.refl [] W).drewN q
  obtain ⟨X, hX⟩ : ∃ X, X = W.drewN q := ⟨_, rfl⟩
  rw [← hX] at hfq ⊢
  have k0 := hfq.at0 k0
  have k1 := hfq.at0 k1
  have k2 := hfq.at0 k2
  have hfX' := Lib.hid (hFW'.out.trans hfq)
  have hbX' := Lib.hid (hfq.keep hbx'.out (by simp))
  have hsX' := Lib.hid (hsW'.out.fr hfq (by simp))
  clear hX hfq
  obtain ⟨b, hb⟩ : ∃ b, b = p0.extract 6 16 ++ p1.extract 6 16 ++ p2.extract 6 16 := ⟨_, rfl⟩
  rw [← hb] at z012 hbd ⊢
  clear hb z0 z01 z1 z2
  have hlen := lenOf_eq p0 p1 p2 b hbd z012
  have e2 : (b.extract 2 10).size = 8 := by rw [ByteArray.size_extract]; omega
  have hnum : ∀ p : Later X, Calls Try.prog 38 #[.string (b.extract 2 10)] p.world fun e w' => e = .returned (.int .u64 (valB (b.extract 2 10).data.toList)) ∧ Fr [] p.world w' := fun p => (number_any _ (by omega) p.world).mono (fun e w' hh => ⟨hh.1, by rw [hh.2]; exact Fr.refl _ _⟩)
  obtain ⟨n, hn⟩ : ∃ n, n = (b[10]'(by omega)).toNat := ⟨_, rfl⟩
  have hn256 : n < 256 := by rw [hn]; exact (b[10]'(by omega)).toNat_lt
  have hwr : wrap64 (((b[10]'(by omega)).toNat : Nat) : Int) = (n : Int) := by rw [← hn]; unfold wrap64; omega
  rw [← hn] at hlen
  obtain ⟨st, hst⟩ : ∃ st, st = valB (b.extract 2 10).data.toList := ⟨_, rfl⟩
  have hst64 : st < 18446744073709551616 := by rw [hst]; exact val8_lt _ (by omega)
  rw [← hst] at hnum
  have hnum' := Lib.hid hnum; have hst' := Lib.hid hst; have hn' := Lib.hid hn; have hlen' := Lib.hid hlen; have hbd' := Lib.hid hbd; have hwr' := Lib.hid hwr
  clear hnum hst hn hlen hbd hwr
  go_wp2
  refine wp_region_later (by kernel_rfl) (by kernel_rfl) ?_
  repeat (go_big_quiet_step ((go_at_call 38; refine Calls.later_of0 (hnum'.out _))))
  refine wpQuiet_nil ?_
  intro w3 hw'
  have hf3 : Fr [] X w3 := by
    obtain ⟨p, rfl⟩ := hw'
    exact p.fr
  clear hw'
  rw [hwr'.out]
  have hfw' := Lib.hid (hfX'.out.trans hf3)
  have k0 := hf3.at0 k0
  have k1 := hf3.at0 k1
  have k2 := hf3.at0 k2
  have hs3' := Lib.hid (hsX'.out.fr hf3 (by simp))
  have hb3 := hf3.keep hbX'.out (by simp)
  have hl3 := lt_of_block hb3
  have r0 := (show w3.cell? ⟨w.heap.size, 0, none⟩ = some (.int .i64 0) from cell_at hb3)
  have r1 := (show w3.cell? ⟨w.heap.size, 1, none⟩ = some (.int .i64 0) from cell_at hb3)
  have r2 := (show w3.cell? ⟨w.heap.size, 2, none⟩ = some (.int .i64 0) from cell_at hb3)
  have r3 := (show w3.cell? ⟨w.heap.size, 3, none⟩ = some (.string ⟨#[]⟩) from cell_at hb3)
  have s0 := (show w3.frozen? ⟨w.heap.size, 0, none⟩ = false from frozen_at hb3)
  have s1 := (show w3.frozen? ⟨w.heap.size, 1, none⟩ = false from frozen_at hb3)
  have s2 := (show w3.frozen? ⟨w.heap.size, 2, none⟩ = false from frozen_at hb3)
  have s3 := (show w3.frozen? ⟨w.heap.size, 3, none⟩ = false from frozen_at hb3)
  have hb3' := Lib.hid hb3
  clear hb3
  have hrec := recOf_eq p0 p1 p2 b hbd'.out n hlen'.out
  rw [hlen'.out, hrec] at hbig
  dsimp only at hbig
  rw [← hst'.out] at hbig
  clear hrec
  by_cases hc : 16 < n
  · go_wp2
    have h4 := set4 hb3'.out (.int .i64 0) (.int .i64 0) (.int .i64 0) (.string ⟨#[]⟩)
    have f4 := fr_set4 w3 w.heap.size (.int .i64 0) (.int .i64 0) (.int .i64 0) (.string ⟨#[]⟩)
    obtain ⟨wf, hwf⟩ : ∃ wf, wf = (((w3.setCell ⟨w.heap.size, 0, none⟩ (.int .i64 0)).setCell ⟨w.heap.size, 1, none⟩ (.int .i64 0)).setCell ⟨w.heap.size, 2, none⟩ (.int .i64 0)).setCell ⟨w.heap.size, 3, none⟩ (.string ⟨#[]⟩) := ⟨_, rfl⟩
    rw [← hwf] at h4 f4 ⊢
    have y0 := (show wf.cell? ⟨w.heap.size, 0, none⟩ = some (.int .i64 0) from cell_at h4)
    have y1 := (show wf.cell? ⟨w.heap.size, 1, none⟩ = some (.int .i64 0) from cell_at h4)
    have y2 := (show wf.cell? ⟨w.heap.size, 2, none⟩ = some (.int .i64 0) from cell_at h4)
    have y3 := (show wf.cell? ⟨w.heap.size, 3, none⟩ = some (.string ⟨#[]⟩) from cell_at h4)
    refine bodyPost_ret (v := joinV none) (by simp [results, Try.results12, go_sem, joinV, aggR, zeroR, y0, y1, y2, y3]) rfl ?_
    exact ⟨rfl, (hfw'.out).andThen f4 (fun t ht => .inr (Nat.le_of_eq (show t = w.heap.size from by simpa using ht).symm))⟩
  · have hst2 : 1099511627776 < st := by omega
    clear hbig
    go_wp2
    have h4 := set4 hb3'.out (.int .i64 0) (.int .i64 0) (.int .i64 0) (.string ⟨#[]⟩)
    have f4 := fr_set4 w3 w.heap.size (.int .i64 0) (.int .i64 0) (.int .i64 0) (.string ⟨#[]⟩)
    obtain ⟨wf, hwf⟩ : ∃ wf, wf = (((w3.setCell ⟨w.heap.size, 0, none⟩ (.int .i64 0)).setCell ⟨w.heap.size, 1, none⟩ (.int .i64 0)).setCell ⟨w.heap.size, 2, none⟩ (.int .i64 0)).setCell ⟨w.heap.size, 3, none⟩ (.string ⟨#[]⟩) := ⟨_, rfl⟩
    rw [← hwf] at h4 f4 ⊢
    have y0 := (show wf.cell? ⟨w.heap.size, 0, none⟩ = some (.int .i64 0) from cell_at h4)
    have y1 := (show wf.cell? ⟨w.heap.size, 1, none⟩ = some (.int .i64 0) from cell_at h4)
    have y2 := (show wf.cell? ⟨w.heap.size, 2, none⟩ = some (.int .i64 0) from cell_at h4)
    have y3 := (show wf.cell? ⟨w.heap.size, 3, none⟩ = some (.string ⟨#[]⟩) from cell_at h4)
    refine bodyPost_ret (v := joinV none) (by simp [results, Try.results12, go_sem, joinV, aggR, zeroR, y0, y1, y2, y3]) rfl ?_
    exact ⟨rfl, (hfw'.out).andThen f4 (fun t ht => .inr (Nat.le_of_eq (show t = w.heap.size from by simpa using ht).symm))⟩
set_option maxRecDepth 100000 in
set_option maxHeartbeats 8000000 in
theorem join_dec {B : Nat → Prop} (v : Value) (p0 p1 p2 : ByteArray) (w : World) (h : SliceIs w B encS v [p0, p1, p2]) (h0 : p0.size = 16) (h1 : p1.size = 16) (h2 : p2.size = 16) (hn16 : lenOf [p0, p1, p2] ≤ 16) (hst40 : (recOf [p0, p1, p2]).2.2.1 ≤ 1099511627776) (o : Option Rec) (hov : o = if errR (recOf [p0, p1, p2]) = 0 ∧ partsP (recOf [p0, p1, p2]) = [p0, p1, p2] then some (recOf [p0, p1, p2]) else none) :
    Calls Try.prog 12 #[v] w fun e w' => e = .returned (joinV o) ∧ Fr [] w w' := by
  have hov0' := Lib.hid hov
  clear hov
  obtain ⟨a, cap, rfl, hc1, hc2, hat⟩ := h.at encS_len
  obtain ⟨g, off, rfl, _, hg2, hcells⟩ := hat (by simp)
  have k0 := hcells 0 p0 0 _ rfl rfl
  have k1 := hcells 1 p1 0 _ rfl rfl
  have k2 := hcells 2 p2 0 _ rfl rfl
  simp only [Nat.mul_one, Nat.add_zero] at k0 k1 k2
  obtain ⟨W, hW⟩ : ∃ W, W = w.alloc (.cells #[.int .i64 0, .int .i64 0, .int .i64 0, .string ⟨#[]⟩] 23) := ⟨_, rfl⟩
  have hFW : Fr [] w W := by rw [hW]; exact (Fr.refl _ _).alloc _
  have hbx : W.heap[w.heap.size]? = some (.cells #[.int .i64 0, .int .i64 0, .int .i64 0, .string ⟨#[]⟩] 23 (0, 0)) := by rw [hW]; exact heap_alloc_new w _
  have k0 := hFW.at0 k0
  have k1 := hFW.at0 k1
  have k2 := hFW.at0 k2
  have hsW : SliceIs W B encS (.slice (some ⟨g, off, none⟩) [p0, p1, p2].length cap) [p0, p1, p2] := h.fr hFW (by simp)
  have hlw : w.heap.size < W.heap.size := lt_of_block hbx
  have hcon := contS_any _ [p0, p1, p2] W hsW (by simp)
  have hcf : ([p0, p1, p2].any fun s => !(s.size == 16)) = false := by simp [h0, h1, h2]
  rw [hcf] at hcon
  obtain ⟨z0, z01, z012, z1, z2⟩ := bS_size p0 p1 p2 h0 h1 h2
  have hbd := bS_data p0 p1 p2 h0 h1 h2
  unfold bS at z012 hbd
  rw [hW] at hcon
  have hW' := Lib.hid hW; have hFW' := Lib.hid hFW; have hbx' := Lib.hid hbx; have hsW' := Lib.hid hsW
  clear h hat hcells hW hFW hbx hcf hsW
  have hcon' := Lib.hid hcon
  clear hcon
  go_enter Try.func12, Try.ntmps12
  go_upto_region 4 with (first | (go_at_call 37; refine hcon'.out.mono ?_; rintro e w2 ⟨rfl, rfl⟩))
  rw [← hW'.out]
  go_wp2
  refine wp_region_quiet_lit (by kernel_rfl) (by kernel_rfl) ?_
  repeat (go_big_quiet_step (fail))
  refine wpQuiet_nil ?_
  rintro w2 ⟨q, rfl⟩
  have hfq : Fr [] W (W.drewN q) := (Fr.refl [] W).drewN q
  obtain ⟨X, hX⟩ : ∃ X, X = W.drewN q := ⟨_, rfl⟩
  rw [← hX] at hfq ⊢
  have k0 := hfq.at0 k0
  have k1 := hfq.at0 k1
  have k2 := hfq.at0 k2
  have hfX' := Lib.hid (hFW'.out.trans hfq)
  have hbX' := Lib.hid (hfq.keep hbx'.out (by simp))
  have hsX' := Lib.hid (hsW'.out.fr hfq (by simp))
  clear hX hfq
  obtain ⟨b, hb⟩ : ∃ b, b = p0.extract 6 16 ++ p1.extract 6 16 ++ p2.extract 6 16 := ⟨_, rfl⟩
  rw [← hb] at z012 hbd ⊢
  clear hb z0 z01 z1 z2
  have hlen := lenOf_eq p0 p1 p2 b hbd z012
  have e2 : (b.extract 2 10).size = 8 := by rw [ByteArray.size_extract]; omega
  have hnum : ∀ p : Later X, Calls Try.prog 38 #[.string (b.extract 2 10)] p.world fun e w' => e = .returned (.int .u64 (valB (b.extract 2 10).data.toList)) ∧ Fr [] p.world w' := fun p => (number_any _ (by omega) p.world).mono (fun e w' hh => ⟨hh.1, by rw [hh.2]; exact Fr.refl _ _⟩)
  obtain ⟨n, hn⟩ : ∃ n, n = (b[10]'(by omega)).toNat := ⟨_, rfl⟩
  have hn256 : n < 256 := by rw [hn]; exact (b[10]'(by omega)).toNat_lt
  have hwr : wrap64 (((b[10]'(by omega)).toNat : Nat) : Int) = (n : Int) := by rw [← hn]; unfold wrap64; omega
  rw [← hn] at hlen
  obtain ⟨st, hst⟩ : ∃ st, st = valB (b.extract 2 10).data.toList := ⟨_, rfl⟩
  have hst64 : st < 18446744073709551616 := by rw [hst]; exact val8_lt _ (by omega)
  rw [← hst] at hnum
  have hnum' := Lib.hid hnum; have hst' := Lib.hid hst; have hn' := Lib.hid hn; have hlen' := Lib.hid hlen; have hbd' := Lib.hid hbd; have hwr' := Lib.hid hwr
  clear hnum hst hn hlen hbd hwr
  go_wp2
  refine wp_region_later (by kernel_rfl) (by kernel_rfl) ?_
  repeat (go_big_quiet_step ((go_at_call 38; refine Calls.later_of0 (hnum'.out _))))
  refine wpQuiet_nil ?_
  intro w3 hw'
  have hf3 : Fr [] X w3 := by
    obtain ⟨p, rfl⟩ := hw'
    exact p.fr
  clear hw'
  rw [hwr'.out]
  have hfw' := Lib.hid (hfX'.out.trans hf3)
  have k0 := hf3.at0 k0
  have k1 := hf3.at0 k1
  have k2 := hf3.at0 k2
  have hs3' := Lib.hid (hsX'.out.fr hf3 (by simp))
  have hb3 := hf3.keep hbX'.out (by simp)
  have hl3 := lt_of_block hb3
  have r0 := (show w3.cell? ⟨w.heap.size, 0, none⟩ = some (.int .i64 0) from cell_at hb3)
  have r1 := (show w3.cell? ⟨w.heap.size, 1, none⟩ = some (.int .i64 0) from cell_at hb3)
  have r2 := (show w3.cell? ⟨w.heap.size, 2, none⟩ = some (.int .i64 0) from cell_at hb3)
  have r3 := (show w3.cell? ⟨w.heap.size, 3, none⟩ = some (.string ⟨#[]⟩) from cell_at hb3)
  have s0 := (show w3.frozen? ⟨w.heap.size, 0, none⟩ = false from frozen_at hb3)
  have s1 := (show w3.frozen? ⟨w.heap.size, 1, none⟩ = false from frozen_at hb3)
  have s2 := (show w3.frozen? ⟨w.heap.size, 2, none⟩ = false from frozen_at hb3)
  have s3 := (show w3.frozen? ⟨w.heap.size, 3, none⟩ = false from frozen_at hb3)
  have hb3' := Lib.hid hb3
  clear hb3
  have hrec0 := recOf_eq p0 p1 p2 b hbd'.out n hlen'.out
  rw [hlen'.out] at hn16
  rw [hrec0] at hst40
  dsimp only at hst40
  rw [← hst'.out] at hst40
  have hst2 : st ≤ 1099511627776 := by omega
  clear hrec0 hst40
  have hA6 : (p0.extract 0 6).size = 6 := by rw [ByteArray.size_extract]; omega
  have hB2 : (b.extract 0 2).size = 2 := by rw [ByteArray.size_extract]; omega
  have hnumA := fun Y : World => number_any (p0.extract 0 6) (by omega) Y
  have hnumB := fun Y : World => number_any (b.extract 0 2) (by omega) Y
  have hltA : valB (p0.extract 0 6).data.toList < 281474976710656 := by
    have := valB_lt (p0.extract 0 6).data.toList
    have hl : (p0.extract 0 6).data.toList.length = 6 := by simpa using hA6
    rw [hl] at this
    exact this
  have hltB : valB (b.extract 0 2).data.toList < 65536 := by
    have := valB_lt (b.extract 0 2).data.toList
    have hl : (b.extract 0 2).data.toList.length = 2 := by simpa using hB2
    rw [hl] at this
    exact this
  have hrec := recOf_eq p0 p1 p2 b hbd'.out n hlen'.out
  rw [← hst'.out] at hrec
  obtain ⟨sq, hsq⟩ : ∃ x, x = valB (p0.extract 0 6).data.toList := ⟨_, rfl⟩
  obtain ⟨bk, hbk⟩ : ∃ x, x = valB (b.extract 0 2).data.toList := ⟨_, rfl⟩
  rw [← hsq] at hnumA hltA hrec; rw [← hbk] at hnumB hltB hrec
  have hnumA' := Lib.hid hnumA; have hnumB' := Lib.hid hnumB; have hrec' := Lib.hid hrec
  clear hnumA hnumB hrec hsq hbk
  go_wp2
  refine wp_region_rel 18 (fun w w' => Fr [] w w') (by kernel_rfl) (by kernel_rfl) (by kernel_rfl) (fun h k => h.trans k) (Fr.refl [] _).drew ?_
  simp only [List.take_succ_cons, List.take_zero, List.drop_succ_cons, List.drop_zero]
  iterate 17
    apply RelW.still
    · intro s X2 hX
      have j0 := hX.at0 k0
      go_wp2_with (first | (go_at_call 38; (first | with_reducible refine (hnumA'.out _).mono ?_ | with_reducible refine (hnumB'.out _).mono ?_); rintro e w1 ⟨rfl, rfl⟩))
      refine ⟨rfl, rfl, Fr.refl _ _, ?_⟩
      simp only [slotOf, List.getElem?_toArray, List.getElem?_cons_succ, List.getElem?_cons_zero, Option.getD_some]
      rfl
    · intro s
      simp only [Act.put, List.setIfInBounds_toArray, List.set_cons_succ, List.set_cons_zero]
      rfl
  apply RelW.owes (fun v X => ∃ y, v = .pointer (some ⟨y, 0, none⟩) ∧ w3.heap.size ≤ y ∧ X.heap[y]? = some (.cells #[.int .i64 0, .int .i64 0, .int .i64 0, .string ⟨#[]⟩] 23 (0, 0)))
  · exact fun _ _ _ hf h => by obtain ⟨y, h1, h2, h3⟩ := h; exact ⟨y, h1, h2, hf.keep h3 (by simp)⟩
  · intro s X2 hX _
    have hz := hX.size
    go_wp2
    refine ⟨rfl, rfl, (Fr.refl [] X2).alloc _, ?_⟩
    simp only [slotOf, List.getElem?_toArray, List.getElem?_cons_succ, List.getElem?_cons_zero, Option.getD_some]
    exact ⟨_, rfl, hz, heap_alloc_new X2 _⟩
  · intro s
    simp only [Act.put, List.setIfInBounds_toArray, List.set_cons_succ, List.set_cons_zero, Nat.zero_add, Nat.reduceAdd]
    rfl
  intro s X4 hX hall
  dsimp only
  simp only [List.nil_append, List.cons_append, allPhi, Nat.zero_add, Nat.reduceAdd] at hall
  obtain ⟨-, -, -, -, -, -, -, -, -, -, -, -, -, -, -, -, -, a17, -⟩ := hall
  generalize s 17 = v17 at a17 ⊢
  obtain ⟨rb, rfl, hrl, hrb⟩ := a17
  obtain ⟨d, hd⟩ : ∃ d, d = b.extract 11 (11 + n) := ⟨_, rfl⟩
  have hrec := hrec'.out
  rw [← hd] at hrec ⊢
  have hrec2 := Lib.hid hrec
  clear hrec hd
  have hfX := hfw'.out.trans hX
  have hbR := hX.keep hb3'.out (by simp)
  have hsR := (hs3'.out.imp (B' := fun gg => gg < w3.heap.size) (fun gg hlt _ => hlt)).fr hX (by simp)
  have hne : rb ≠ w.heap.size := by omega
  have c0 := (show X4.cell? ⟨rb, 0, none⟩ = some (.int .i64 0) from cell_at hrb)
  have c1 := (show X4.cell? ⟨rb, 1, none⟩ = some (.int .i64 0) from cell_at hrb)
  have c2 := (show X4.cell? ⟨rb, 2, none⟩ = some (.int .i64 0) from cell_at hrb)
  have c3 := (show X4.cell? ⟨rb, 3, none⟩ = some (.string ⟨#[]⟩) from cell_at hrb)
  have f0 := (show X4.frozen? ⟨rb, 0, none⟩ = false from frozen_at hrb)
  have f1 := (show X4.frozen? ⟨rb, 1, none⟩ = false from frozen_at hrb)
  have f2 := (show X4.frozen? ⟨rb, 2, none⟩ = false from frozen_at hrb)
  have f3 := (show X4.frozen? ⟨rb, 3, none⟩ = false from frozen_at hrb)
  have hrbl := lt_of_block hrb
  obtain ⟨X5, hX5⟩ : ∃ X5, X5 = (((X4.setCell ⟨rb, 0, none⟩ (.int .i64 sq)).setCell ⟨rb, 1, none⟩ (.int .i64 bk)).setCell ⟨rb, 2, none⟩ (.int .i64 st)).setCell ⟨rb, 3, none⟩ (.string d) := ⟨_, rfl⟩
  have h5 := set4 hrb (.int .i64 sq) (.int .i64 bk) (.int .i64 st) (.string d)
  have f5 := fr_set4 X4 rb (.int .i64 sq) (.int .i64 bk) (.int .i64 st) (.string d)
  rw [← hX5] at h5 f5
  have hX5' := Lib.hid hX5
  have hb5 := f5.keep hbR (by simpa using Ne.symm hne)
  have hs5 := (hsR.fr f5 (fun gg hB hlt hm => by
    have e1 : gg = rb := by simpa using hm
    omega)).imp (B' := fun _ => True) (fun _ _ _ => trivial)
  have hf5w := hfX.andThen f5 (fun t ht => .inr (by
    have e1 : t = rb := by simpa using ht
    have := hfw'.out.size
    omega))
  have n0 := (show X5.cell? ⟨rb, 0, none⟩ = some (.int .i64 sq) from cell_at h5)
  have n1 := (show X5.cell? ⟨rb, 1, none⟩ = some (.int .i64 bk) from cell_at h5)
  have n2 := (show X5.cell? ⟨rb, 2, none⟩ = some (.int .i64 st) from cell_at h5)
  have n3 := (show X5.cell? ⟨rb, 3, none⟩ = some (.string d) from cell_at h5)
  have hpt := parts_any ((sq : Int), (bk : Int), (st : Int), d) X5
  have hov := hov0'.out
  rw [hrec2.out] at hov
  unfold aggR at hpt
  dsimp only at hpt
  have hlX5 : w.heap.size < X5.heap.size := lt_of_block hb5
  have hrX5 : rb < X5.heap.size := lt_of_block h5
  obtain ⟨R, hR⟩ : ∃ R : Rec, R = ((sq : Int), (bk : Int), (st : Int), d) := ⟨_, rfl⟩
  rw [← hR] at hpt hov
  have hb5' := Lib.hid hb5; have h5' := Lib.hid h5; have hs5' := Lib.hid hs5; have hf5w' := Lib.hid hf5w; have hR' := Lib.hid hR; have hov' := Lib.hid hov
  clear hov hb5 h5 hs5 hf5w hR hsR hbR hfX hrb f5 hX5
  go_upto_region 9 with (fail)
  rw [← hX5'.out]
  by_cases her : errR R = 0
  · rw [her] at hpt
    have hpt' := Lib.hid hpt
    clear hpt
    cases hdec : decide (partsP R = [p0, p1, p2]) with
    | true =>
      have hR2 := of_decide_eq_true hdec
      have ho2 := hov'.out
      rw [if_pos ⟨her, hR2⟩, hR'.out] at ho2
      have ho2' := Lib.hid ho2
      clear ho2
      have hdec' := Lib.hid hdec
      clear hdec hR2 her
      go_wp2_with (first | (go_at_call 9; refine hpt'.out.mono ?_; rintro e w6 ⟨v6, rfl, hf6, ho6⟩; have hb6 := hf6.keep hb5'.out (by simp); have hl6 := lt_of_block hb6; have u0 := (show w6.cell? ⟨w.heap.size, 0, none⟩ = some (.int .i64 0) from cell_at hb6); have u1 := (show w6.cell? ⟨w.heap.size, 1, none⟩ = some (.int .i64 0) from cell_at hb6); have u2 := (show w6.cell? ⟨w.heap.size, 2, none⟩ = some (.int .i64 0) from cell_at hb6); have u3 := (show w6.cell? ⟨w.heap.size, 3, none⟩ = some (.string ⟨#[]⟩) from cell_at hb6); have x0 := (show w6.frozen? ⟨w.heap.size, 0, none⟩ = false from frozen_at hb6); have x1 := (show w6.frozen? ⟨w.heap.size, 1, none⟩ = false from frozen_at hb6); have x2 := (show w6.frozen? ⟨w.heap.size, 2, none⟩ = false from frozen_at hb6); have x3 := (show w6.frozen? ⟨w.heap.size, 3, none⟩ = false from frozen_at hb6); have hb6' := Lib.hid hb6; clear hb6; have heq := equalS_any v6 (.slice (some ⟨g, off, none⟩) 3 cap) (partsP R) [p0, p1, p2] w6 (SliceIs.of_owns ho6 rfl) (hs5'.out.fr hf6 (by simp)) (by unfold partsP; split <;> simp) (by simp); rw [hdec'.out] at heq) | (go_at_call 39; refine heq.mono ?_; rintro e w7 ⟨rfl, hf7⟩; have hb7 := hf7.keep hb6'.out (by simp); have hl7 := lt_of_block hb7; have y0 := (show w7.cell? ⟨w.heap.size, 0, none⟩ = some (.int .i64 0) from cell_at hb7); have y1 := (show w7.cell? ⟨w.heap.size, 1, none⟩ = some (.int .i64 0) from cell_at hb7); have y2 := (show w7.cell? ⟨w.heap.size, 2, none⟩ = some (.int .i64 0) from cell_at hb7); have y3 := (show w7.cell? ⟨w.heap.size, 3, none⟩ = some (.string ⟨#[]⟩) from cell_at hb7); have x0 := (show w7.frozen? ⟨w.heap.size, 0, none⟩ = false from frozen_at hb7); have x1 := (show w7.frozen? ⟨w.heap.size, 1, none⟩ = false from frozen_at hb7); have x2 := (show w7.frozen? ⟨w.heap.size, 2, none⟩ = false from frozen_at hb7); have x3 := (show w7.frozen? ⟨w.heap.size, 3, none⟩ = false from frozen_at hb7); have hb7' := Lib.hid hb7; have h7 := (hf6.trans hf7).keep h5'.out (by simp); have q0 := (show w7.cell? ⟨rb, 0, none⟩ = some (.int .i64 sq) from cell_at h7); have q1 := (show w7.cell? ⟨rb, 1, none⟩ = some (.int .i64 bk) from cell_at h7); have q2 := (show w7.cell? ⟨rb, 2, none⟩ = some (.int .i64 st) from cell_at h7); have q3 := (show w7.cell? ⟨rb, 3, none⟩ = some (.string d) from cell_at h7); have lr7 := lt_of_block h7; clear hb7 h7))
      have h4 := set4 hb7'.out (.int .i64 sq) (.int .i64 bk) (.int .i64 st) (.string d)
      have f4 := fr_set4 w7 w.heap.size (.int .i64 sq) (.int .i64 bk) (.int .i64 st) (.string d)
      obtain ⟨wf, hwf⟩ : ∃ wf, wf = (((w7.setCell ⟨w.heap.size, 0, none⟩ (.int .i64 sq)).setCell ⟨w.heap.size, 1, none⟩ (.int .i64 bk)).setCell ⟨w.heap.size, 2, none⟩ (.int .i64 st)).setCell ⟨w.heap.size, 3, none⟩ (.string d) := ⟨_, rfl⟩
      rw [← hwf] at h4 f4 ⊢
      have y0 := (show wf.cell? ⟨w.heap.size, 0, none⟩ = some (.int .i64 sq) from cell_at h4)
      have y1 := (show wf.cell? ⟨w.heap.size, 1, none⟩ = some (.int .i64 bk) from cell_at h4)
      have y2 := (show wf.cell? ⟨w.heap.size, 2, none⟩ = some (.int .i64 st) from cell_at h4)
      have y3 := (show wf.cell? ⟨w.heap.size, 3, none⟩ = some (.string d) from cell_at h4)
      refine bodyPost_ret (v := joinV (some ((sq : Int), (bk : Int), (st : Int), d))) (by simp [results, Try.results12, go_sem, joinV, aggR, y0, y1, y2, y3]) rfl ?_
      exact ⟨by rw [ho2'.out], ((hf5w'.out.trans hf6).trans hf7).andThen f4 (fun t ht => .inr (Nat.le_of_eq (show t = w.heap.size from by simpa using ht).symm))⟩
    | false =>
      have hR2 := of_decide_eq_false hdec
      have ho2 := hov'.out
      rw [if_neg (fun hh => hR2 hh.2)] at ho2
      have ho2' := Lib.hid ho2
      clear ho2
      have hdec' := Lib.hid hdec
      clear hdec hR2 her
      go_wp2_with (first | (go_at_call 9; refine hpt'.out.mono ?_; rintro e w6 ⟨v6, rfl, hf6, ho6⟩; have hb6 := hf6.keep hb5'.out (by simp); have hl6 := lt_of_block hb6; have u0 := (show w6.cell? ⟨w.heap.size, 0, none⟩ = some (.int .i64 0) from cell_at hb6); have u1 := (show w6.cell? ⟨w.heap.size, 1, none⟩ = some (.int .i64 0) from cell_at hb6); have u2 := (show w6.cell? ⟨w.heap.size, 2, none⟩ = some (.int .i64 0) from cell_at hb6); have u3 := (show w6.cell? ⟨w.heap.size, 3, none⟩ = some (.string ⟨#[]⟩) from cell_at hb6); have x0 := (show w6.frozen? ⟨w.heap.size, 0, none⟩ = false from frozen_at hb6); have x1 := (show w6.frozen? ⟨w.heap.size, 1, none⟩ = false from frozen_at hb6); have x2 := (show w6.frozen? ⟨w.heap.size, 2, none⟩ = false from frozen_at hb6); have x3 := (show w6.frozen? ⟨w.heap.size, 3, none⟩ = false from frozen_at hb6); have hb6' := Lib.hid hb6; clear hb6; have heq := equalS_any v6 (.slice (some ⟨g, off, none⟩) 3 cap) (partsP R) [p0, p1, p2] w6 (SliceIs.of_owns ho6 rfl) (hs5'.out.fr hf6 (by simp)) (by unfold partsP; split <;> simp) (by simp); rw [hdec'.out] at heq) | (go_at_call 39; refine heq.mono ?_; rintro e w7 ⟨rfl, hf7⟩; have hb7 := hf7.keep hb6'.out (by simp); have hl7 := lt_of_block hb7; have y0 := (show w7.cell? ⟨w.heap.size, 0, none⟩ = some (.int .i64 0) from cell_at hb7); have y1 := (show w7.cell? ⟨w.heap.size, 1, none⟩ = some (.int .i64 0) from cell_at hb7); have y2 := (show w7.cell? ⟨w.heap.size, 2, none⟩ = some (.int .i64 0) from cell_at hb7); have y3 := (show w7.cell? ⟨w.heap.size, 3, none⟩ = some (.string ⟨#[]⟩) from cell_at hb7); have x0 := (show w7.frozen? ⟨w.heap.size, 0, none⟩ = false from frozen_at hb7); have x1 := (show w7.frozen? ⟨w.heap.size, 1, none⟩ = false from frozen_at hb7); have x2 := (show w7.frozen? ⟨w.heap.size, 2, none⟩ = false from frozen_at hb7); have x3 := (show w7.frozen? ⟨w.heap.size, 3, none⟩ = false from frozen_at hb7); have hb7' := Lib.hid hb7; have h7 := (hf6.trans hf7).keep h5'.out (by simp); have q0 := (show w7.cell? ⟨rb, 0, none⟩ = some (.int .i64 sq) from cell_at h7); have q1 := (show w7.cell? ⟨rb, 1, none⟩ = some (.int .i64 bk) from cell_at h7); have q2 := (show w7.cell? ⟨rb, 2, none⟩ = some (.int .i64 st) from cell_at h7); have q3 := (show w7.cell? ⟨rb, 3, none⟩ = some (.string d) from cell_at h7); have lr7 := lt_of_block h7; clear hb7 h7))
      have h4 := set4 hb7'.out (.int .i64 0) (.int .i64 0) (.int .i64 0) (.string ⟨#[]⟩)
      have f4 := fr_set4 w7 w.heap.size (.int .i64 0) (.int .i64 0) (.int .i64 0) (.string ⟨#[]⟩)
      obtain ⟨wf, hwf⟩ : ∃ wf, wf = (((w7.setCell ⟨w.heap.size, 0, none⟩ (.int .i64 0)).setCell ⟨w.heap.size, 1, none⟩ (.int .i64 0)).setCell ⟨w.heap.size, 2, none⟩ (.int .i64 0)).setCell ⟨w.heap.size, 3, none⟩ (.string ⟨#[]⟩) := ⟨_, rfl⟩
      rw [← hwf] at h4 f4 ⊢
      have y0 := (show wf.cell? ⟨w.heap.size, 0, none⟩ = some (.int .i64 0) from cell_at h4)
      have y1 := (show wf.cell? ⟨w.heap.size, 1, none⟩ = some (.int .i64 0) from cell_at h4)
      have y2 := (show wf.cell? ⟨w.heap.size, 2, none⟩ = some (.int .i64 0) from cell_at h4)
      have y3 := (show wf.cell? ⟨w.heap.size, 3, none⟩ = some (.string ⟨#[]⟩) from cell_at h4)
      refine bodyPost_ret (v := joinV none) (by simp [results, Try.results12, go_sem, joinV, aggR, zeroR, y0, y1, y2, y3]) rfl ?_
      exact ⟨by rw [ho2'.out], ((hf5w'.out.trans hf6).trans hf7).andThen f4 (fun t ht => .inr (Nat.le_of_eq (show t = w.heap.size from by simpa using ht).symm))⟩
  · have e1 : ((errR R) != 0) = true := by simpa using her
    have ho2 := hov'.out
    rw [if_neg (fun hh => her hh.1)] at ho2
    have ho2' := Lib.hid ho2
    clear ho2
    obtain ⟨E, hE⟩ : ∃ E, E = errR R := ⟨_, rfl⟩
    rw [← hE] at hpt e1
    have hpt' := Lib.hid hpt
    clear hpt hE her
    go_wp2_with (first | (go_at_call 9; refine hpt'.out.mono ?_; rintro e w6 ⟨v6, rfl, hf6, ho6⟩; have hb6 := hf6.keep hb5'.out (by simp); have hl6 := lt_of_block hb6; have u0 := (show w6.cell? ⟨w.heap.size, 0, none⟩ = some (.int .i64 0) from cell_at hb6); have u1 := (show w6.cell? ⟨w.heap.size, 1, none⟩ = some (.int .i64 0) from cell_at hb6); have u2 := (show w6.cell? ⟨w.heap.size, 2, none⟩ = some (.int .i64 0) from cell_at hb6); have u3 := (show w6.cell? ⟨w.heap.size, 3, none⟩ = some (.string ⟨#[]⟩) from cell_at hb6); have x0 := (show w6.frozen? ⟨w.heap.size, 0, none⟩ = false from frozen_at hb6); have x1 := (show w6.frozen? ⟨w.heap.size, 1, none⟩ = false from frozen_at hb6); have x2 := (show w6.frozen? ⟨w.heap.size, 2, none⟩ = false from frozen_at hb6); have x3 := (show w6.frozen? ⟨w.heap.size, 3, none⟩ = false from frozen_at hb6); have hb6' := Lib.hid hb6; clear hb6))
    have h4 := set4 hb6'.out (.int .i64 0) (.int .i64 0) (.int .i64 0) (.string ⟨#[]⟩)
    have f4 := fr_set4 w6 w.heap.size (.int .i64 0) (.int .i64 0) (.int .i64 0) (.string ⟨#[]⟩)
    obtain ⟨wf, hwf⟩ : ∃ wf, wf = (((w6.setCell ⟨w.heap.size, 0, none⟩ (.int .i64 0)).setCell ⟨w.heap.size, 1, none⟩ (.int .i64 0)).setCell ⟨w.heap.size, 2, none⟩ (.int .i64 0)).setCell ⟨w.heap.size, 3, none⟩ (.string ⟨#[]⟩) := ⟨_, rfl⟩
    rw [← hwf] at h4 f4 ⊢
    have y0 := (show wf.cell? ⟨w.heap.size, 0, none⟩ = some (.int .i64 0) from cell_at h4)
    have y1 := (show wf.cell? ⟨w.heap.size, 1, none⟩ = some (.int .i64 0) from cell_at h4)
    have y2 := (show wf.cell? ⟨w.heap.size, 2, none⟩ = some (.int .i64 0) from cell_at h4)
    have y3 := (show wf.cell? ⟨w.heap.size, 3, none⟩ = some (.string ⟨#[]⟩) from cell_at h4)
    refine bodyPost_ret (v := joinV none) (by simp [results, Try.results12, go_sem, joinV, aggR, zeroR, y0, y1, y2, y3]) rfl ?_
    exact ⟨by rw [ho2'.out], (hf5w'.out.trans hf6).andThen f4 (fun t ht => .inr (Nat.le_of_eq (show t = w.heap.size from by simpa using ht).symm))⟩
theorem join_any {B : Nat → Prop} (v : Value) (ps : List ByteArray) (w : World) (h : SliceIs w B encS v ps) : Calls Try.prog 12 #[v] w fun e w' => e = .returned (joinV (joinP ps)) ∧ Fr [] w w' := by
  by_cases hw : wideP ps = true
  · have hw2 := hw
    unfold wideP at hw2
    rw [Bool.and_eq_true, beq_iff_eq] at hw2
    obtain ⟨hl, hall⟩ := hw2
    match ps, hl, hall, h, hw with
    | [p0, p1, p2], _, hall, h, hw =>
      simp only [List.all_cons, List.all_nil, Bool.and_true, Bool.and_eq_true, beq_iff_eq] at hall
      obtain ⟨h0, h1, h2⟩ := hall
      by_cases hb : 16 < lenOf [p0, p1, p2] ∨ 1099511627776 < (recOf [p0, p1, p2]).2.2.1
      · have hj : joinP [p0, p1, p2] = none := by
          unfold joinP
          rw [if_neg]
          rintro ⟨_, h16, he, _⟩
          have := (errR_zero he).2.2.2.2.2.1
          omega
        rw [hj]
        exact join_big v p0 p1 p2 w h h0 h1 h2 hb
      · have hd := join_dec v p0 p1 p2 w h h0 h1 h2 (by omega) (by omega) _ rfl
        have hj : joinP [p0, p1, p2] = if errR (recOf [p0, p1, p2]) = 0 ∧ partsP (recOf [p0, p1, p2]) = [p0, p1, p2] then some (recOf [p0, p1, p2]) else none := by
          unfold joinP
          by_cases hc : errR (recOf [p0, p1, p2]) = 0 ∧ partsP (recOf [p0, p1, p2]) = [p0, p1, p2]
          · rw [if_pos hc, if_pos ⟨hw, by omega, hc⟩]
          · rw [if_neg hc, if_neg (fun hh => hc hh.2.2)]
        rw [hj]
        exact hd
  · have hj : joinP ps = none := by unfold joinP; exact if_neg (fun hh => hw hh.1)
    rw [hj]
    by_cases hn : ps.length = 3
    · refine join_odd v ps w h hn ?_
      have hne : ps.all (fun s => s.size == 16) = false := by
        unfold wideP at hw
        rw [hn] at hw
        simpa using hw
      rw [List.all_eq_not_any_not] at hne
      simpa using hne
    · exact join_len v ps w h hn
end Go.Proofs.Ytcbccogpogdbmaa
