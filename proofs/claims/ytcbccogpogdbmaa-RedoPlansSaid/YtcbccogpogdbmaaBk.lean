/- slices.Backward at blocks: the call; its iterator. -/
import Derived.Test.YtcbccogpogdbmaaPl1
import Derived.Test.YtcbccogpogdbmaaTi6
import Derived.RangeFuncNested
namespace Go.Proofs.Ytcbccogpogdbmaa
open Go.RowKit Go.Maps Go.Lib Go.Sort Go.Shelf
def aggB (b : Blk) : Value := .agg #[.int .i64 b.1, .int .i64 b.2.1, .string b.2.2]
set_option maxRecDepth 100000 in
theorem backward_any (a : Option Addr) (len cap : Nat) (w : World) : Calls Try.prog 48 #[.slice a len cap] w fun e w' =>
    e = .returned (.func (.func 54) #[] #[.pointer (some ⟨w.heap.size, 0, none⟩)]) ∧ w' = w.alloc (.cells #[.slice a len cap] 68) := by
  go_enter Try.func48, Try.ntmps48
  go_wp2
  go_ret
  exact ⟨rfl, rfl⟩
def blkAt (Hs : List Blk) (i : Nat) : Blk := Hs[i]?.getD (0, 0, ⟨#[]⟩)
def preP (n m : Nat) : List Nat := (List.range m).map fun j => n - 1 - j
theorem pre_succ (n m : Nat) : preP n (m + 1) = preP n m ++ [n - 1 - m] := by unfold preP; rw [List.range_succ, List.map_append]; rfl
theorem pre_len (n m : Nat) : (preP n m).length = m := by simp [preP]
/-- The box is kept, and all that lay below a mark. -/
def KeepB (c1 B0 : Nat) (W W' : World) : Prop := W'.heap[c1]? = W.heap[c1]? ∧ ∀ k, k < B0 → W'.heap[k]? = W.heap[k]?
theorem KeepB.trans {c1 B0 : Nat} {A B C : World} (h : KeepB c1 B0 A B) (k : KeepB c1 B0 B C) : KeepB c1 B0 A C := ⟨k.1.trans h.1, fun i hi => (k.2 i hi).trans (h.2 i hi)⟩
theorem SliceIs.of_same {α : Type} {enc : α → List Value} {W W' : World} {B0 : Nat} {v : Value} {S : List α} (h : SliceIs W (fun g => g < B0) enc v S) (hk : ∀ k, k < B0 → W'.heap[k]? = W.heap[k]?) : SliceIs W' (fun g => g < B0) enc v S := by
  obtain ⟨a, cap, hv, h1, h2, h3⟩ := h
  refine ⟨a, cap, hv, h1, h2, ?_⟩
  rcases h3 with h3 | ⟨g, off, ha, hb, hg, hc⟩
  · exact .inl h3
  · refine .inr ⟨g, off, ha, hb, ?_, fun j u hj => ?_⟩
    · have := hk g hb
      rw [Array.getElem?_eq_getElem hg] at this
      exact (Array.getElem?_eq_some_iff.1 this).1
    · rw [World.cell?_of_block (w := W) (hk g hb)]
      exact hc j u hj
attribute [local go_sem] Oper.semAt_some
attribute [local go_sem ↓] Go.wp_at_zero Go.wp_at_succ
set_option maxRecDepth 100000 in
set_option maxHeartbeats 4000000 in
theorem back1_in (n : Nat) (hn : 1 ≤ n) (l c1 B0 : Nat) (ha : Option Addr) (cap : Nat) (Hs : List Blk) (hlen : Hs.length ≤ 1000) (J Jx : List Nat → World → Prop)
    (hY : ∀ pre (x : Nat) W, J pre W → pre.length < Hs.length → YieldAt Fence.wide (n - 1) Try.prog l #[.int .i64 x, aggB (blkAt Hs x)] W fun e W' =>
      (e = .returned (.bool true) ∧ J (pre ++ [x]) W' ∧ KeepB c1 B0 W W') ∨ (e = .returned (.bool false) ∧ Jx (pre ++ [x]) W'))
    (W : World) (hs : SliceIs W (fun g => g < B0) encB (.slice ha Hs.length cap) Hs) (h1 : W.heap[c1]? = some (.cells #[.slice ha Hs.length cap] 68 (0, 0))) (h0 : J [] W) :
    CallsIn Fence.wide n Try.prog 54 #[.func (.yield l) #[] #[], .pointer (some ⟨c1, 0, none⟩)] W fun e W' => (∃ v, e = .returned v) ∧
      ((∃ ys, ys = preP Hs.length Hs.length ∧ J ys W') ∨ (∃ pre, True ∧ Jx pre W')) := by
  have k1 := (show W.cell? ⟨c1, 0, none⟩ = some (.slice ha Hs.length cap) from cell_at h1)
  have hs' := Lib.hid hs; have h1' := Lib.hid h1; have hY' := Lib.hid hY; have h0' := Lib.hid h0
  clear hs h1 hY h0
  refine callsIn_of_wp Try.func54 rfl trivial ?_ rfl
  simp only [Try.ntmps54, List.size_toArray, List.length_cons, List.length_nil, Nat.reduceAdd, Nat.reduceSub, Array.replicate_succ, Array.replicate_zero, List.push_toArray, List.append_toArray, List.nil_append, List.cons_append]
  gi_wp2
  gi_loopw [3] (fun i wr => ∃ m : Nat, m ≤ Hs.length ∧ i = .int .i64 ((Hs.length : Int) - 1 - m) ∧ J (preP Hs.length m) wr ∧ SliceIs wr (fun g => g < B0) encB (.slice ha Hs.length cap) Hs ∧ wr.heap[c1]? = some (.cells #[.slice ha Hs.length cap] 68 (0, 0)))
    (fun i _ => (intOf i + 1).toNat)
  case atStart => exact ⟨0, Nat.zero_le _, by simp, h0'.out, hs'.out, h1'.out⟩
  case round =>
    obtain ⟨m, hm, rfl, hJ, hsr, hb⟩ := hrel
    clear k1
    have k1 := (show wr.cell? ⟨c1, 0, none⟩ = some (.slice ha Hs.length cap) from cell_at hb)
    have hJ' := Lib.hid hJ; have hsr' := Lib.hid hsr; have hb' := Lib.hid hb
    clear hJ hsr hb
    by_cases hlt : m < Hs.length
    · obtain ⟨x, hx⟩ : ∃ x, x = Hs.length - 1 - m := ⟨_, rfl⟩
      have hxl : x < Hs.length := by omega
      have hxi : ((Hs.length : Int) - 1 - m) = (x : Int) := by omega
      rw [hxi]
      have hxm := Lib.hid hx
      obtain ⟨y, hy⟩ : ∃ y, Hs[x]? = some y := ⟨_, List.getElem?_eq_getElem hxl⟩
      have hba : blkAt Hs x = y := by unfold blkAt; rw [hy]; rfl
      obtain ⟨g, off, rfl, hg, hat⟩ := hsr'.out.cells2 encB_len (by intro h; rw [h] at hxl; simp at hxl)
      obtain ⟨y0, y1, y2⟩ := y
      have m0 := hat x _ 0 _ hy rfl
      have m1 := hat x _ 1 _ hy rfl
      have m2 := hat x _ 2 _ hy rfl
      rw [Nat.add_zero] at m0
      simp only [← Nat.add_assoc] at m1 m2
      dsimp only at m0 m1 m2
      have lm := lt_of_cell m0
      have yy := hY'.out _ x wr hJ'.out (by rw [pre_len]; exact hlt)
      rw [hba] at yy
      unfold aggB at yy
      dsimp only at yy
      obtain ⟨fn, tmps, assign, body, hy0, hR⟩ := yy
      have hR' := Lib.hid hR
      clear hR hy hba hat hx hxi
      gi_wp2
      refine hR'.out.mono ?_
      rintro e W3 (⟨rfl, hJ3, hk3⟩ | ⟨rfl, hJx3⟩)
      · have e1 := hk3.1.trans hb'.out
        have e2 := hsr'.out.of_same hk3.2
        have hJ4 : J (preP Hs.length (m + 1)) W3 := by rw [pre_succ, ← hxm.out]; exact hJ3
        have hJ4' := Lib.hid hJ4; have e1' := Lib.hid e1; have e2' := Lib.hid e2
        clear hJ3 hk3 e1 e2 hJ4
        gi_wp2
        go_roundw
        case rel => exact ⟨m + 1, by omega, by congr 1; have := hxm.out; omega, hJ4'.out, e2'.out, e1'.out⟩
        case measure => simp [intOf]
      · gi_wp2
        refine bodyPost_ret (results_none rfl _ _ _) rfl ?_
        exact ⟨⟨_, rfl⟩, .inr ⟨_, trivial, hJx3⟩⟩
    · have hme : m = Hs.length := by omega
      subst hme
      rw [show ((Hs.length : Int) - 1 - (Hs.length : Int)) = -1 from by omega]
      gi_wp2
      go_end0
      exact ⟨⟨_, rfl⟩, .inl ⟨_, rfl, hJ'.out⟩⟩
theorem back_stops (n : Nat) (hn : 1 ≤ n) (c1 B0 : Nat) (ha : Option Addr) (cap : Nat) (Hs : List Blk) (hlen : Hs.length ≤ 1000) (w0 : World) (hB : B0 ≤ w0.heap.size) (hs : SliceIs w0 (fun g => g < B0) encB (.slice ha Hs.length cap) Hs) (h1 : w0.heap[c1]? = some (.cells #[.slice ha Hs.length cap] 68 (0, 0))) :
    SeqStopsK Fence.wide n Try.prog 54 #[.pointer (some ⟨c1, 0, none⟩)] (fun x : Nat => #[.int .i64 x, aggB (blkAt Hs x)]) (KeepB c1 B0) (fun xs => xs = preP Hs.length Hs.length) (fun _ => True) Hs.length w0 :=
  fun l J Jx W hW _ _ hY h0 => back1_in n hn l c1 B0 ha cap Hs hlen J Jx hY W
    (hs.of_same fun k hk => hW.block k (by omega)) ((hW.block c1 (Array.getElem?_eq_some_iff.1 h1).1).trans h1) h0
end Go.Proofs.Ytcbccogpogdbmaa
