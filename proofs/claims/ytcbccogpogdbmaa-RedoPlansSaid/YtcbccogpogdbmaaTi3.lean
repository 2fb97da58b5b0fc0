/- The reference's value, Writer.Num, Writer.Bytes, number, Zeros: walked. -/
import Derived.Test.YtcbccogpogdbmaaTi2
import Derived.Lib.SlBytesRow
import Derived.Deep.OwnRows
import Derived.Laws.OwnMore
namespace Go.Proofs.Ytcbccogpogdbmaa
open Go.RowKit Go.Maps Go.Lib Go.Sort
attribute [local go_sem ↓] Go.wp_at_zero Go.wp_at_succ
theorem val_drop (l : List UInt8) (i : Nat) (b : UInt8) (h : l[i]? = some b) : valB (l.drop i) = b.toNat + 256 * valB (l.drop (i + 1)) := by
  obtain ⟨h1, h2⟩ := List.getElem?_eq_some_iff.1 h
  rw [List.drop_eq_getElem_cons h1, h2]
  rfl
theorem val_drop_le : ∀ (l : List UInt8) (i : Nat), valB (l.drop i) ≤ valB l
  | [], i => by simp
  | b :: l, 0 => Nat.le_refl _
  | b :: l, i + 1 => by
    have := val_drop_le l i
    simp only [List.drop_succ_cons, valB]
    omega
set_option maxRecDepth 100000 in
set_option maxHeartbeats 4000000 in
theorem rvalue_any (s : ByteArray) (hs : valB s.data.toList < 9223372036854775808) (hz : s.size < 1000000000) (w : World) :
    Calls Try.prog 40 #[.string s] w fun e w' => e = .returned (.int .i64 (valB s.data.toList)) ∧ w' = w := by
  go_enter Try.func40, Try.ntmps40
  go_wp2
  go_loopg [3, 4] s.size (fun gk vv iv wr => ∃ (i : Nat), i ≤ s.size ∧ gk = i ∧ iv = .int .i64 ((i : Int) - 1) ∧ vv = .int .i64 (valB (s.data.toList.drop i)) ∧ wr = w)
  case atStart => exact ⟨s.size, Nat.le_refl _, rfl, rfl, by rw [List.drop_of_length_le (by simp)]; rfl, rfl⟩
  case round =>
    obtain ⟨i, hi, hgk, rfl, rfl, rfl⟩ := hrel
    have hgk' := Lib.hid hgk; clear hgk
    cases i with
    | zero =>
      go_wp2
      go_ret
      exact ⟨rfl, rfl⟩
    | succ i =>
      have hx : s.data.toList[i]? = some s[i] := by
        rw [List.getElem?_eq_getElem (by simp; omega)]; rfl
      have hv := val_drop _ _ _ hx
      have hle := val_drop_le s.data.toList i
      have hvb : valB (s.data.toList.drop (i + 1)) * 256 + s[i].toNat < 9223372036854775808 := by omega
      obtain ⟨V, hV⟩ : ∃ V, V = valB (s.data.toList.drop (i + 1)) := ⟨_, rfl⟩
      rw [← hV] at hv hvb ⊢
      have hv' := Lib.hid hv
      clear hv hV hle
      go_wp2
      go_roundg i
      case rel => exact ⟨i, by omega, rfl, by go_num, by rw [hv'.out]; go_num, rfl⟩
      case measure => rw [hgk'.out]; omega
/-- A Writer in memory: its bytes, in a row of its own beyond 'base'. -/
def WrAt (base : Nat) (w : World) (b : Nat) (L : List UInt8) : Prop := base ≤ b ∧ ∃ v, w.heap[b]? = some (.cells #[v] 110 (0, 0)) ∧ w.ownsRow base 5 1 v L.length (L.flatMap encU)
theorem Fr.thenBelow {S : List Nat} {B : Nat} {a b c : World} (h : Fr S a b) (k : Below B b c) (hB : a.heap.size ≤ B) : Fr S a c :=
  ⟨k.os.trans h.os, k.tape.trans h.tape, k.output.trans h.output, Nat.le_trans h.size k.size, fun i hi hs => (k.block i (by omega)).trans (h.block i hi hs)⟩
theorem owns_apart1 {w : World} {v : Value} {base : Nat} {e t : TypeId} {k n b : Nat} {xs : List Value} {cs : Array Value} (h : w.ownsRow base e k v n xs) (hb : w.heap[b]? = some (.cells cs t (0, 0))) (hne : e ≠ t) : b ∉ v.ownBlock.toList := by
  rcases h.2 with ⟨rfl, _⟩ | ⟨g, cap, cur, rfl, _, hg, _⟩
  · simp [Value.ownBlock]
  · intro hm
    have : b = g := by simpa [Value.ownBlock] using hm
    subst this
    rw [hb] at hg
    injection hg with hg
    injection hg with _ ht
    exact hne ht.symm
theorem set2 {w : World} {b : Nat} {y0 y1 : Value} {t : TypeId} (h : w.heap[b]? = some (.cells #[y0, y1] t (0, 0))) (x0 x1 : Value) : ((w.setCell ⟨b, 0, none⟩ x0).setCell ⟨b, 1, none⟩ x1).heap[b]? = some (.cells #[x0, x1] t (0, 0)) := by
  rw [setCell_at (setCell_at h x0) x1]; rfl
theorem fr_set2 (w : World) (b : Nat) (x0 x1 : Value) : Fr [b] w ((w.setCell ⟨b, 0, none⟩ x0).setCell ⟨b, 1, none⟩ x1) :=
  ((Fr.refl [b] w).setCell _ _ (.inl (by simp))).setCell _ _ (.inl (by simp))
theorem wide8_any (w : World) : Calls Try.prog 55 #[.int .i64 8] w fun e w' => e = .returned (.bool true) ∧ w' = w := by
  go_enter Try.func55, Try.ntmps55
  go_wp2
  go_ret
  exact ⟨rfl, rfl⟩
set_option maxRecDepth 100000 in
set_option maxHeartbeats 4000000 in
/-- 'Num(n, 8)'. -/
theorem wnum8_any {base b : Nat} (L : List UInt8) (w : World) (h : WrAt base w b L) (hb : base ≤ w.heap.size) (n : Nat) (hn : n < 9223372036854775808) (hL : L.length < 1000000) :
    Calls Try.prog 51 #[.pointer (some ⟨b, 0, none⟩), .int .i64 n, .int .i64 8] w fun e w' => e = .returned (.agg #[.slice none 0 0, .int .i64 0]) ∧ WrAt base w' b (L ++ leB n 8) ∧ Below base w w' := by
  obtain ⟨hbb, v, hbox, hown⟩ := h
  have hlt := lt_of_block hbox
  obtain ⟨W, hW⟩ : ∃ W, W = w.alloc (.cells #[.slice none 0 0, .int .i64 0] 113) := ⟨_, rfl⟩
  have hwd := wide8_any (w.alloc (.cells #[.slice none 0 0, .int .i64 0] 113))
  have hF1 : Fr [] w W := by rw [hW]; exact (Fr.refl [] w).alloc _
  have hr1 : W.heap[w.heap.size]? = some (.cells #[.slice none 0 0, .int .i64 0] 113 (0, 0)) := by rw [hW]; exact heap_alloc_new w _
  have hbox1 := hF1.keep hbox (by simp)
  have hown1 := owns_fr hown hF1 (by simp)
  have hwd' := Lib.hid hwd; have hF1' := Lib.hid hF1; have hr1' := Lib.hid hr1; have hbox1' := Lib.hid hbox1; have hown1' := Lib.hid hown1; have hW' := Lib.hid hW
  clear hwd hF1 hr1 hbox1 hown1 hbox hown hW
  go_enter Try.func51, Try.ntmps51
  go_wp2_with (first | (go_at_call 55; refine hwd'.out.mono ?_; rintro e w1 ⟨rfl, rfl⟩))
  rw [← hW'.out]
  go_loopg [1, 7] 8 (fun gk nv iv wr => ∃ (i : Nat), i ≤ 8 ∧ gk = 8 - i ∧ iv = .int .i64 i ∧ nv = .int .i64 ((n / 256 ^ i : Nat) : Int) ∧ WrAt base wr b (L ++ leB n i) ∧ wr.heap[w.heap.size]? = some (.cells #[.slice none 0 0, .int .i64 0] 113 (0, 0)) ∧ Below base W wr)
  case atStart => exact ⟨0, Nat.zero_le _, rfl, rfl, by simp, ⟨hbb, v, hbox1'.out, by simpa [leB] using hown1'.out⟩, hr1'.out, Below.refl _ _⟩
  case round =>
    obtain ⟨i, hi, hgk, rfl, rfl, ⟨_, v1, hbx, how⟩, hrr, hbel⟩ := hrel
    have hgk' := Lib.hid hgk; clear hgk
    have hm : n / 256 ^ i ≤ n := Nat.div_le_self _ _
    have hln := leB_len i n
    have hzr := hbel.size
    by_cases hlt2 : i < 8
    · have hsn := leB_snoc i n
      have hdv : n / 256 ^ (i + 1) = n / 256 ^ i / 256 := by rw [Nat.pow_succ, Nat.div_div_eq_div_mul]
      obtain ⟨m, hme⟩ : ∃ m, m = n / 256 ^ i := ⟨_, rfl⟩
      rw [← hme] at hm hsn hdv ⊢
      obtain ⟨M, hM⟩ : ∃ M, M = L ++ leB n i := ⟨_, rfl⟩
      have hMl : M.length < 1000008 := by rw [hM, List.length_append]; omega
      have hsn2 : L ++ leB n (i + 1) = M ++ [UInt8.ofNat m] := by rw [hsn, hM, List.append_assoc]
      rw [← hM] at how
      have hmb : (#[Value.int .u8 ((m : Int) % 256)] : Array Value).toList = encU (UInt8.ofNat m) := by
        unfold encU
        simp
      have hl9 : (M ++ [UInt8.ofNat m]).length = M.length + 1 := by simp
      have hap := owns_apart1 how hbx (by decide)
      have hap2 := owns_apart1 how hrr (by decide)
      have k0 := (show wr.cell? ⟨b, 0, none⟩ = some v1 from cell_at hbx)
      have kz := (show wr.frozen? ⟨b, 0, none⟩ = false from frozen_at hbx)
      have lb := lt_of_cell k0
      have hob := how.lt
      have hne : w.heap.size ≠ b := by omega
      have hzW : W.heap.size = w.heap.size + 1 := by rw [hW'.out]; simp
      have hbw : base ≤ wr.heap.size := by omega
      have hbx' := Lib.hid hbx; have hrr' := Lib.hid hrr; have hbel' := Lib.hid hbel; have how' := Lib.hid how; have hmb' := Lib.hid hmb; have hsn' := Lib.hid hsn2; have hdv' := Lib.hid hdv; have hap' := Lib.hid hap; have hap2' := Lib.hid hap2
      clear hsn hsn2 hdv hme hM hbx hrr hbel how hmb hap hap2
      go_wp2_with (first | (at_builtin; refine wpList_push wr _ _ rfl _ _ 37 rfl base 5 Try.underlying37 infoU rfl (by omega) v1 M rfl how'.out (UInt8.ofNat m) hmb'.out encU_len (one_encU _) rfl (by omega) (by omega) hbw ?_; intro v' w3 hown3 hf3; obtain ⟨a9, c9, rfl, _, _, _⟩ := SliceIs.of_owns hown3 rfl; rw [hl9] at hown3; have hown3' := Lib.hid hown3; clear hown3; have j0 := hf3.keep hbx'.out hap'.out; have hj0' := Lib.hid j0; have j1 := (show w3.cell? ⟨b, 0, none⟩ = some v1 from cell_at j0); have jz := (show w3.frozen? ⟨b, 0, none⟩ = false from frozen_at j0); clear j0))
      have hc9 := setCell_at (i := 0) hj0'.out (.slice a9 (M.length + 1) c9)
      have f9 : Fr [b] w3 (w3.setCell ⟨b, 0, none⟩ (.slice a9 (M.length + 1) c9)) := (Fr.refl [b] w3).setCell _ _ (.inl (by simp))
      have hown9 := owns_fr2 hown3'.out f9 (fun g hg hm => by
        have e : g = b := by simpa using hm
        subst e
        exact owns_apart1 hown3'.out hj0'.out (by decide) (by simpa using hg))
      have hr9 := f9.keep (hf3.keep hrr'.out hap2'.out) (by simpa using hne)
      have hb9 := hbel'.out.trans ((hf3.below hbw (fun t ht => (hob t (by simpa using ht)).1)).trans (f9.below (by have := hf3.size; omega) (by simp; omega)))
      go_roundg (8 - (i + 1))
      case rel => exact ⟨i + 1, by omega, rfl, by go_num, by rw [hdv'.out]; go_num, ⟨hbb, _, by rw [hc9]; rfl, by rw [hsn'.out, hl9]; exact hown9⟩, hr9, hb9⟩
      case measure => rw [hgk'.out]; omega
    · have hik : i = 8 := by omega
      subst hik
      have q0 := (show wr.cell? ⟨w.heap.size, 0, none⟩ = some (.slice none 0 0) from cell_at hrr)
      have q1 := (show wr.cell? ⟨w.heap.size, 1, none⟩ = some (.int .i64 0) from cell_at hrr)
      have z0 := (show wr.frozen? ⟨w.heap.size, 0, none⟩ = false from frozen_at hrr)
      have z1 := (show wr.frozen? ⟨w.heap.size, 1, none⟩ = false from frozen_at hrr)
      have hrl := lt_of_cell q0
      have hne : w.heap.size ≠ b := by omega
      have hbx' := Lib.hid hbx; have hrr' := Lib.hid hrr; have hbel' := Lib.hid hbel; have how' := Lib.hid how
      clear hbx hrr hbel how
      go_wp2
      have f9 := fr_set2 wr w.heap.size (.slice none 0 0) (.int .i64 0)
      have h9 := set2 hrr'.out (.slice none 0 0) (.int .i64 0)
      have hbx9 := f9.keep hbx'.out (by simpa using Ne.symm hne)
      have how9 := owns_fr2 how'.out f9 (fun g hg hm => by
        have e : g = w.heap.size := by simpa using hm
        subst e
        exact owns_apart1 how'.out hrr'.out (by decide) (by simp [hg]))
      have hb9 := hbel'.out.trans (f9.below (by omega) (by simp; omega))
      obtain ⟨w9, hw9⟩ : ∃ w9, w9 = (wr.setCell ⟨w.heap.size, 0, none⟩ (.slice none 0 0)).setCell ⟨w.heap.size, 1, none⟩ (.int .i64 0) := ⟨_, rfl⟩
      rw [← hw9] at f9 h9 hbx9 how9 hb9 ⊢
      have p0 := (show w9.cell? ⟨w.heap.size, 0, none⟩ = some (.slice none 0 0) from cell_at h9)
      have p1 := (show w9.cell? ⟨w.heap.size, 1, none⟩ = some (.int .i64 0) from cell_at h9)
      refine bodyPost_ret (v := .agg #[.slice none 0 0, .int .i64 0]) (by simp [results, Try.results51, go_sem, p0, p1]) rfl ?_
      exact ⟨rfl, ⟨hbb, _, hbx9, how9⟩, (hF1'.out.below hb (by simp)).trans hb9⟩
theorem bytes_of_owns {base : Nat} {w : World} {g cap : Nat} {L : List UInt8} (h : w.ownsRow base 5 1 (.slice (some ⟨g, 0, none⟩) L.length cap) L.length (L.flatMap encU)) : Bytes w g 0 (mkS L) := by
  intro i hi
  obtain ⟨a, c, hv, _, _, hc⟩ := (SliceIs.of_owns h rfl).at encU_len
  have hiL : i < L.length := by simpa [mkS_size] using hi
  obtain ⟨g', off, ha, _, _, hcells⟩ := hc (by rintro rfl; simp at hiL)
  cases hv
  cases ha
  have := hcells i L[i] 0 (.int .u8 L[i].toNat) (List.getElem?_eq_getElem hiL) rfl
  rw [Nat.mul_one, Nat.add_zero] at this
  rw [this]
  rfl
/-- 'string(bytes)' of a row of one's own. -/
theorem conv_owns {base : Nat} {w : World} {v : Value} {L : List UInt8} (h : w.ownsRow base 5 1 v L.length (L.flatMap encU)) : (convert 37 9 v).run Try.prog w = .ok (.string (mkS L)) w := by
  rcases h.2 with ⟨rfl, h0⟩ | ⟨g, cap, cur, rfl, _, _, _, _⟩
  · have : L = [] := List.eq_nil_of_length_eq_zero h0
    subst this
    exact run_convert_bytes_nil (P := Try.prog) w 37 5 Try.underlying37 Try.underlying5 0 0 9 Try.underlying9
  · have hb := bytes_of_owns h
    have := run_convert_whole (P := Try.prog) w 37 5 9 Try.underlying37 Try.underlying5 Try.underlying9 g 0 (mkS L) hb cap
    rwa [mkS_size] at this
set_option maxRecDepth 100000 in
theorem wbytes_any {base b : Nat} (L : List UInt8) (w : World) (h : WrAt base w b L) : Calls Try.prog 52 #[.pointer (some ⟨b, 0, none⟩)] w fun e w' => e = .returned (.string (mkS L)) ∧ w' = w := by
  obtain ⟨hbb, v, hbox, hown⟩ := h
  have hcv := conv_owns hown
  obtain ⟨a, c, rfl, _, _, _⟩ := SliceIs.of_owns hown rfl
  have k0 := (show w.cell? ⟨b, 0, none⟩ = some (.slice a L.length c) from cell_at hbox)
  clear hown hbox
  go_enter Try.func52, Try.ntmps52
  go_wp2
  go_ret
  exact ⟨rfl, rfl⟩
theorem leB_take : ∀ (j k n : Nat), j ≤ k → (leB n k).take j = leB n j
  | 0, k, n, _ => by simp [leB]
  | j + 1, 0, n, h => by omega
  | j + 1, k + 1, n, h => by simp [leB, leB_take j k (n / 256) (by omega)]
theorem mkS_extract (l : List UInt8) (a b : Nat) : (mkS l).extract a b = mkS ((l.drop a).take (b - a)) := ByteArray.extract_mk l a b
set_option maxRecDepth 100000 in
set_option maxHeartbeats 4000000 in
theorem rnumber_any (n k : Nat) (hn : n < 9223372036854775808) (hk : k ≤ 8) (w : World) : Calls Try.prog 34 #[.int .i64 n, .int .i64 k] w fun e w' => e = .returned (.string (mkS (leB n k))) ∧ Fr [] w w' := by
  have hF : Fr [] w (w.alloc (.cells #[.slice none 0 0] 110)) := (Fr.refl [] w).alloc _
  have hwr : WrAt w.heap.size (w.alloc (.cells #[.slice none 0 0] 110)) w.heap.size [] := ⟨Nat.le_refl _, _, heap_alloc_new w _, by simp, .inl ⟨rfl, by simp⟩⟩
  have hnum := wnum8_any [] _ hwr (by simp) n hn (by simp)
  have hex : (mkS (leB n 8)).extract 0 k = mkS (leB n k) := by rw [mkS_extract, List.drop_zero, Nat.sub_zero, leB_take k 8 n hk]
  have hsz : (mkS (leB n 8)).size = 8 := by rw [mkS_size, leB_len]
  rw [List.nil_append] at hnum
  have hex' := Lib.hid hex; have hF' := Lib.hid hF
  clear hwr hex hF
  go_enter Try.func34, Try.ntmps34
  go_wp2_with (first | (go_at_call 51; refine hnum.mono ?_; rintro e w1 ⟨rfl, hw1, hb1⟩; have hbs := wbytes_any _ _ hw1) | (go_at_call 52; refine hbs.mono ?_; rintro e w2 ⟨rfl, rfl⟩))
  rw [hex'.out]
  go_ret
  exact ⟨rfl, hF'.out.thenBelow hb1 (Nat.le_refl _)⟩
theorem made_bytes (w : World) (n : Nat) (hn : n ≤ maxLen) (B : Nat) (hB : B ≤ w.heap.size) : (w.alloc (.cells (madeCells #[.int .u8 0] n) 5)).ownsRow B 5 1 (.slice (some ⟨w.heap.size, 0, none⟩) n n) (List.replicate n (0 : UInt8)).length ((List.replicate n (0 : UInt8)).flatMap encU) := by
  have h := World.ownsRow_lit (base := B) (e := 5) (size := 1) w (madeCells #[.int .u8 0] n) n hB hn (by simp [size_madeCells])
  have e1 : ∀ m : Nat, (List.replicate m (0 : UInt8)).flatMap encU = List.replicate m (Value.int .u8 0) := by
    intro m
    induction m with
    | zero => rfl
    | succ m ih => rw [List.replicate_succ, List.flatMap_cons, ih, List.replicate_succ]; rfl
  rw [e1, List.length_replicate, ← toList_madeCells_one]
  exact h
set_option maxRecDepth 100000 in
set_option maxHeartbeats 4000000 in
theorem zeros_any (n : Nat) (hn : n < 1000000) (w : World) : Calls Try.prog 35 #[.int .i64 n] w fun e w' => e = .returned (.string (mkS (List.replicate n 0))) ∧ Fr [] w w' := by
  have hmk := run_make_row' (P := Try.prog) 37 5 (.int .u8 0) 1 Try.underlying37 infoU rfl .i64 .i64 n (by omega) (by omega) w
  have hown := made_bytes w n (by unfold maxLen; omega) w.heap.size (Nat.le_refl _)
  have hcv := conv_owns hown
  rw [List.length_replicate] at hown
  clear hown
  go_enter Try.func35, Try.ntmps35
  go_wp2
  go_ret
  exact ⟨rfl, (Fr.refl [] w).alloc _⟩
end Go.Proofs.Ytcbccogpogdbmaa
