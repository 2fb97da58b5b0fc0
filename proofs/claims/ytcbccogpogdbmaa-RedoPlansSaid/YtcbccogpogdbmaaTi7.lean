/- slices.Chunk at bytes: the call; the iterator over three chunks of ten. -/
import Derived.Test.YtcbccogpogdbmaaTi3
import Derived.RangeFuncWrites
import Derived.RangeFuncBox
import Derived.RangeFuncLeaves
import Derived.RangeFuncCalls
import Derived.Shelf.Abstract
import Derived.OwnWalkIn
import Derived.TacticsInMore
import Derived.LoopNIn
import Derived.LoopIn
import Derived.Deep.DeepCutAuto
namespace Go.Proofs.Ytcbccogpogdbmaa
open Go.RowKit Go.Maps Go.Lib Go.Sort Go.Shelf
set_option maxRecDepth 100000 in
theorem chunk_any (a : Option Addr) (len cap : Nat) (w : World) : Calls Try.prog 33 #[.slice a len cap, .int .i64 10] w fun e w' =>
    e = .returned (.func (.func 50) #[] #[.pointer (some ⟨w.heap.size, 0, none⟩), .pointer (some ⟨w.heap.size + 1, 0, none⟩)]) ∧ w' = (w.alloc (.cells #[.slice a len cap] 37)).alloc (.cells #[.int .i64 10] 3) := by
  go_enter Try.func33, Try.ntmps33
  go_wp2
  go_ret
  exact ⟨rfl, rfl⟩
/-- The two boxes are kept. -/
def KeepTwo (c1 c2 : Nat) (W W' : World) : Prop := W'.heap[c1]? = W.heap[c1]? ∧ W'.heap[c2]? = W.heap[c2]?
theorem KeepTwo.trans {c1 c2 : Nat} {A B C : World} (h : KeepTwo c1 c2 A B) (k : KeepTwo c1 c2 B C) : KeepTwo c1 c2 A C := ⟨k.1.trans h.1, k.2.trans h.2⟩
def three : Nat → List (Fin 3)
  | 0 => []
  | 1 => [0]
  | 2 => [0, 1]
  | _ => [0, 1, 2]
attribute [local go_sem] Oper.semAt_some
attribute [local go_sem ↓] Go.wp_at_zero Go.wp_at_succ
set_option maxRecDepth 100000 in
set_option maxHeartbeats 4000000 in
theorem chunk1_in (n : Nat) (hn : 1 ≤ n) (l c1 c2 g cap : Nat) (hcap : 30 ≤ cap) (J Jx : List (Fin 3) → World → Prop) (hJ : ∀ pre (X : World) q, J pre X → J pre (X.drewN q))
    (hY : ∀ pre x W, J pre W → pre.length < 3 → YieldAt Fence.wide (n - 1) Try.prog l #[.slice (some ⟨g, 10 * x.val, none⟩) 10 10] W fun e W' =>
      (e = .returned (.bool true) ∧ J (pre ++ [x]) W' ∧ KeepTwo c1 c2 W W') ∨ (e = .returned (.bool false) ∧ Jx (pre ++ [x]) W'))
    (W : World) (h1 : W.heap[c1]? = some (.cells #[.slice (some ⟨g, 0, none⟩) 30 cap] 37 (0, 0))) (h2 : W.heap[c2]? = some (.cells #[.int .i64 10] 3 (0, 0))) (h0 : J [] W) :
    CallsIn Fence.wide n Try.prog 50 #[.func (.yield l) #[] #[], .pointer (some ⟨c1, 0, none⟩), .pointer (some ⟨c2, 0, none⟩)] W fun e W' => (∃ v, e = .returned v) ∧
      ((∃ ys, ys = three 3 ∧ J ys W') ∨ (∃ pre, True ∧ Jx pre W')) := by
  refine callsIn_of_wp Try.func50 rfl trivial ?_ rfl
  simp only [Try.ntmps50, List.size_toArray, List.length_cons, List.length_nil, Nat.reduceAdd, Nat.reduceSub, Array.replicate_succ, Array.replicate_zero, List.push_toArray, List.append_toArray, List.nil_append, List.cons_append]
  gi_wp2
  gi_loopw [4] (fun i wr => (i = .int .i64 0 ∧ J [] wr ∨ i = .int .i64 10 ∧ J [0] wr ∨ i = .int .i64 20 ∧ J [0, 1] wr ∨ i = .int .i64 30 ∧ J [0, 1, 2] wr) ∧ wr.heap[c1]? = some (.cells #[.slice (some ⟨g, 0, none⟩) 30 cap] 37 (0, 0)) ∧ wr.heap[c2]? = some (.cells #[.int .i64 10] 3 (0, 0)))
    (fun i _ => 30 - (intOf i).toNat)
  case atStart => exact ⟨.inl ⟨rfl, h0⟩, h1, h2⟩
  case round =>
    obtain ⟨hcs, hb1, hb2⟩ := hrel
    have k1 := (show wr.cell? ⟨c1, 0, none⟩ = some (.slice (some ⟨g, 0, none⟩) 30 cap) from cell_at hb1)
    have k2 := (show wr.cell? ⟨c2, 0, none⟩ = some (.int .i64 10) from cell_at hb2)
    have hb1' := Lib.hid hb1; have hb2' := Lib.hid hb2
    clear hb1 hb2
    rcases hcs with ⟨rfl, hJs⟩ | ⟨rfl, hJs⟩ | ⟨rfl, hJs⟩ | ⟨rfl, hJs⟩
    · have hJd := fun q => hJ _ _ q hJs
      have y := fun q => hY _ 0 (wr.drewN q) (hJd q) (by simp)
      have y' := Lib.hid y
      clear y hJd hJs
      gi_wp2
      refine wpIn_wide.2 ?_
      refine wp_region_quiet_lit (by kernel_rfl) (by kernel_rfl) ?_
      repeat (go_big_quiet_step (fail))
      refine wpQuiet_nil ?_
      rintro w2 ⟨q, rfl⟩
      rw [show min (10 : Int) 30 = 10 from rfl]
      have d1 := (show (wr.drewN q).cell? ⟨c1, 0, none⟩ = some (.slice (some ⟨g, 0, none⟩) 30 cap) from k1)
      have d2 := (show (wr.drewN q).cell? ⟨c2, 0, none⟩ = some (.int .i64 10) from k2)
      have db1 := (show (wr.drewN q).heap[c1]? = some (.cells #[.slice (some ⟨g, 0, none⟩) 30 cap] 37 (0, 0)) from hb1'.out)
      have db2 := (show (wr.drewN q).heap[c2]? = some (.cells #[.int .i64 10] 3 (0, 0)) from hb2'.out)
      obtain ⟨fn, tmps, assign, body, hy0, hR⟩ := y'.out q
      have hy : (Instr.yield l #[.slice (some ⟨g, 0, none⟩) 10 10]).run Try.prog (wr.drewN q) = .ok (.round l fn tmps assign body) (wr.drewN q) := hy0
      clear hy0
      have hR' := Lib.hid hR; have db1' := Lib.hid db1; have db2' := Lib.hid db2
      clear hR db1 db2
      gi_wp2
      refine hR'.out.mono ?_
      rintro e W3 (⟨rfl, hJ3, hk3⟩ | ⟨rfl, hJx3⟩)
      · have e1 := hk3.1.trans db1'.out
        have e2 := hk3.2.trans db2'.out
        have f2 := (show W3.cell? ⟨c2, 0, none⟩ = some (.int .i64 10) from cell_at e2)
        have e1' := Lib.hid e1; have e2' := Lib.hid e2
        clear e1 e2
        gi_wp2
        go_roundw
        case rel => exact ⟨.inr (.inl ⟨rfl, hJ3⟩), e1'.out, e2'.out⟩
        case measure => simp [intOf]
      · gi_wp2
        refine bodyPost_ret (results_none rfl _ _ _) rfl ?_
        exact ⟨⟨_, rfl⟩, .inr ⟨_, trivial, hJx3⟩⟩
    · have hJd := fun q => hJ _ _ q hJs
      have y := fun q => hY _ 1 (wr.drewN q) (hJd q) (by simp)
      have y' := Lib.hid y
      clear y hJd hJs
      gi_wp2
      refine wpIn_wide.2 ?_
      refine wp_region_quiet_lit (by kernel_rfl) (by kernel_rfl) ?_
      repeat (go_big_quiet_step (fail))
      refine wpQuiet_nil ?_
      rintro w2 ⟨q, rfl⟩
      rw [show min (10 : Int) 20 = 10 from rfl]
      have d1 := (show (wr.drewN q).cell? ⟨c1, 0, none⟩ = some (.slice (some ⟨g, 0, none⟩) 30 cap) from k1)
      have d2 := (show (wr.drewN q).cell? ⟨c2, 0, none⟩ = some (.int .i64 10) from k2)
      have db1 := (show (wr.drewN q).heap[c1]? = some (.cells #[.slice (some ⟨g, 0, none⟩) 30 cap] 37 (0, 0)) from hb1'.out)
      have db2 := (show (wr.drewN q).heap[c2]? = some (.cells #[.int .i64 10] 3 (0, 0)) from hb2'.out)
      obtain ⟨fn, tmps, assign, body, hy0, hR⟩ := y'.out q
      have hy : (Instr.yield l #[.slice (some ⟨g, 10, none⟩) 10 10]).run Try.prog (wr.drewN q) = .ok (.round l fn tmps assign body) (wr.drewN q) := hy0
      clear hy0
      have hR' := Lib.hid hR; have db1' := Lib.hid db1; have db2' := Lib.hid db2
      clear hR db1 db2
      gi_wp2
      refine hR'.out.mono ?_
      rintro e W3 (⟨rfl, hJ3, hk3⟩ | ⟨rfl, hJx3⟩)
      · have e1 := hk3.1.trans db1'.out
        have e2 := hk3.2.trans db2'.out
        have f2 := (show W3.cell? ⟨c2, 0, none⟩ = some (.int .i64 10) from cell_at e2)
        have e1' := Lib.hid e1; have e2' := Lib.hid e2
        clear e1 e2
        gi_wp2
        go_roundw
        case rel => exact ⟨.inr (.inr (.inl ⟨rfl, hJ3⟩)), e1'.out, e2'.out⟩
        case measure => simp [intOf]
      · gi_wp2
        refine bodyPost_ret (results_none rfl _ _ _) rfl ?_
        exact ⟨⟨_, rfl⟩, .inr ⟨_, trivial, hJx3⟩⟩
    · have hJd := fun q => hJ _ _ q hJs
      have y := fun q => hY _ 2 (wr.drewN q) (hJd q) (by simp)
      have y' := Lib.hid y
      clear y hJd hJs
      gi_wp2
      refine wpIn_wide.2 ?_
      refine wp_region_quiet_lit (by kernel_rfl) (by kernel_rfl) ?_
      repeat (go_big_quiet_step (fail))
      refine wpQuiet_nil ?_
      rintro w2 ⟨q, rfl⟩
      have d1 := (show (wr.drewN q).cell? ⟨c1, 0, none⟩ = some (.slice (some ⟨g, 0, none⟩) 30 cap) from k1)
      have d2 := (show (wr.drewN q).cell? ⟨c2, 0, none⟩ = some (.int .i64 10) from k2)
      have db1 := (show (wr.drewN q).heap[c1]? = some (.cells #[.slice (some ⟨g, 0, none⟩) 30 cap] 37 (0, 0)) from hb1'.out)
      have db2 := (show (wr.drewN q).heap[c2]? = some (.cells #[.int .i64 10] 3 (0, 0)) from hb2'.out)
      obtain ⟨fn, tmps, assign, body, hy0, hR⟩ := y'.out q
      have hy : (Instr.yield l #[.slice (some ⟨g, 20, none⟩) 10 10]).run Try.prog (wr.drewN q) = .ok (.round l fn tmps assign body) (wr.drewN q) := hy0
      clear hy0
      have hR' := Lib.hid hR; have db1' := Lib.hid db1; have db2' := Lib.hid db2
      clear hR db1 db2
      gi_wp2
      refine hR'.out.mono ?_
      rintro e W3 (⟨rfl, hJ3, hk3⟩ | ⟨rfl, hJx3⟩)
      · have e1 := hk3.1.trans db1'.out
        have e2 := hk3.2.trans db2'.out
        have f2 := (show W3.cell? ⟨c2, 0, none⟩ = some (.int .i64 10) from cell_at e2)
        have e1' := Lib.hid e1; have e2' := Lib.hid e2
        clear e1 e2
        gi_wp2
        go_roundw
        case rel => exact ⟨.inr (.inr (.inr ⟨rfl, hJ3⟩)), e1'.out, e2'.out⟩
        case measure => simp [intOf]
      · gi_wp2
        refine bodyPost_ret (results_none rfl _ _ _) rfl ?_
        exact ⟨⟨_, rfl⟩, .inr ⟨_, trivial, hJx3⟩⟩
    · gi_wp2
      go_end0
      exact ⟨⟨_, rfl⟩, .inl ⟨_, rfl, hJs⟩⟩
theorem grownBy_drewN (w : World) (q : Nat) : w.grownBy (w.drewN q) none := ⟨rfl, rfl, rfl, Nat.le_refl _, fun _ _ _ => rfl⟩
theorem chunk_stops (n : Nat) (hn : 1 ≤ n) (c1 c2 g cap : Nat) (hcap : 30 ≤ cap) (w0 : World) (h1 : w0.heap[c1]? = some (.cells #[.slice (some ⟨g, 0, none⟩) 30 cap] 37 (0, 0))) (h2 : w0.heap[c2]? = some (.cells #[.int .i64 10] 3 (0, 0))) :
    SeqStopsK Fence.wide n Try.prog 50 #[.pointer (some ⟨c1, 0, none⟩), .pointer (some ⟨c2, 0, none⟩)] (fun x : Fin 3 => #[.slice (some ⟨g, 10 * x.val, none⟩) 10 10]) (KeepTwo c1 c2) (fun xs => xs = three 3) (fun _ => True) 3 w0 :=
  fun l J Jx W hW hJ _ hY h0 => chunk1_in n hn l c1 c2 g cap hcap J Jx (fun pre X q hj => hJ pre X _ none hj (grownBy_drewN X q) (by simp)) hY W
    ((hW.block c1 (Array.getElem?_eq_some_iff.1 h1).1).trans h1) ((hW.block c2 (Array.getElem?_eq_some_iff.1 h2).1).trans h2) h0
end Go.Proofs.Ytcbccogpogdbmaa
