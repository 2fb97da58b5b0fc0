/- Timers (chapter 6): the key of an alarm, the order of alarms, the closures. -/
import Derived.Test.YtcnihacjkcicfaaLst
import Derived.Test.YtcnihacjkcicfaaRows
import Derived.WalkKit
import Derived.WalkSpells
import Derived.Deep.RegionHeld3
import Derived.Deep.LoopGhost
import Derived.BigQuiet
import Derived.StillTailTactics
import Derived.KernelRfl
import Derived.Test.YtcnihacjkcicfaaShelf
namespace Go.Proofs.Ytcnihacjkcicfaa
open Go.RowKit Go.Lib Go.Sort

/-- An alarm: node, time, tag. -/
abbrev Al := Int × Int × Int
def encAl (x : Al) : List Value := [.int .i64 x.1, .int .i64 x.2.1, .int .i64 x.2.2]
def aggAl (x : Al) : Value := .agg #[.int .i64 x.1, .int .i64 x.2.1, .int .i64 x.2.2]
theorem encAl_len (x : Al) : (encAl x).length = 3 := rfl
def encKey (p : Int × Int) : Value := .agg #[.int .i64 p.1, .int .i64 p.2]
def encI (x : Int) : Value := .int .i64 x
def toAl (p : (Int × Int) × Int) : Al := (p.1.1, p.2, p.1.2)

theorem key_eq (a b : Int × Int) (w : World) : (Op.equal 59 (encKey a) (encKey b)).run Try.prog w = .ok (decide (a = b)) w := by
  unfold Op.equal encKey Op.maxDepth
  rw [run_equalIn_agg (P := Try.prog) w 9999 59 _ _ (by kernel_rfl) (by kernel_rfl)]
  obtain ⟨a1, a2⟩ := a
  obtain ⟨b1, b2⟩ := b
  unfold Program.fieldsOf
  rw [Try.underlying59]
  simp only [Op.eqFields]
  go_simp
  by_cases h1 : a1 = b1 <;> by_cases h2 : a2 = b2 <;> simp [h1, h2]
theorem key_check (a : Int × Int) (em : Bool) (w : World) : (Instr.checkKey em 10000 59 (encKey a)).run Try.prog w = .ok () w := by
  unfold encKey
  rw [Instr.checkKey]
  simp only [Sem.run_bind, run_underlying Try.underlying59, Result.andThen]
  rw [← Array.forIn_toList]
  simp only [List.forIn_cons, List.forIn_nil]
  have ci : ∀ x : Int, ∀ w, (Instr.checkKey em 9999 3 (.int .i64 x)).run Try.prog w = .ok () w := fun x w => Go.MapKept.run_checkKey (k := .int .i64 x) Try.underlying3 rfl em 9998
  go_simp
theorem keyK : KeyEnc Try.prog 59 encKey :=
  ⟨⟨_, Try.underlying59, .inr ⟨fun _ _ => rfl, key_eq⟩⟩, key_check, fun a => by simp [encKey, Instr.sameBits]⟩

theorem lt_of_cell {w : World} {b o : Nat} {v : Value} (h : w.cell? ⟨b, o, none⟩ = some v) : b < w.heap.size := World.block_lt_of_cell? w _ h

def or3 (x y z : Int) : Int := if x = 0 then (if y = 0 then z else y) else x
set_option maxHeartbeats 400000 in
theorem or_any (b : Nat) (x y z : Int) (w : World) (h0 : w.cell? ⟨b, 0, none⟩ = some (.int .i64 x)) (h1 : w.cell? ⟨b, 1, none⟩ = some (.int .i64 y)) (h2 : w.cell? ⟨b, 2, none⟩ = some (.int .i64 z)) (c : Nat) :
    Calls Try.prog 36 #[.slice (some ⟨b, 0, none⟩) 3 c] w fun e w' => e = .returned (.int .i64 (or3 x y z)) ∧ w' = w := by
  by_cases hx : x = 0
  · by_cases hy : y = 0
    · by_cases hz : z = 0
      · subst hx hy hz
        go_enter Try.func36, Try.ntmps36
        go_wp2
        refine wp_loop_rounds 4 ?_
        iterate 4 (rw [rounds_succ]; go_wp2)
        go_ret
        exact ⟨rfl, rfl⟩
      · have hz' : (z != 0) = true := by simpa using hz
        subst hx hy
        go_enter Try.func36, Try.ntmps36
        go_wp2
        refine wp_loop_rounds 4 ?_
        iterate 3 (rw [rounds_succ]; go_wp2)
        go_ret
        exact ⟨rfl, rfl⟩
    · have hy' : (y != 0) = true := by simpa using hy
      have e1 : or3 0 y z = y := by simp [or3, hy]
      subst hx
      rw [e1]; clear e1
      go_enter Try.func36, Try.ntmps36
      go_wp2
      refine wp_loop_rounds 4 ?_
      iterate 2 (rw [rounds_succ]; go_wp2)
      go_ret
      exact ⟨rfl, rfl⟩
  · have hx' : (x != 0) = true := by simpa using hx
    have e1 : or3 x y z = x := by simp [or3, hx]
    rw [e1]; clear e1
    go_enter Try.func36, Try.ntmps36
    go_wp2
    refine wp_loop_rounds 4 ?_
    iterate 1 (rw [rounds_succ]; go_wp2)
    go_ret
    exact ⟨rfl, rfl⟩

def cfA (a b : Al) : Int := or3 (Lib.compareInt a.1 b.1) (Lib.compareInt a.2.1 b.2.1) (Lib.compareInt a.2.2 b.2.2)
set_option maxHeartbeats 1000000 in
theorem order_raw (n a t n' a' t' : Int) (w : World) :
    Calls Try.prog 33 #[.agg #[.int .i64 n, .int .i64 a, .int .i64 t], .agg #[.int .i64 n', .int .i64 a', .int .i64 t']] w fun e w' => e = .returned (.int .i64 (cfA (n, a, t) (n', a', t'))) ∧ ∃ o1 o2 o3, w' = (((w.alloc o1).alloc o2).alloc o3).drew := by
  unfold cfA
  have hor := or_any (w.heap.size + 1 + 1) (Lib.compareInt n n') (Lib.compareInt a a') (Lib.compareInt t t') (((w.alloc (Obj.cells #[.int .i64 n, .int .i64 a, .int .i64 t] 32)).alloc (Obj.cells #[.int .i64 n', .int .i64 a', .int .i64 t'] 32)).alloc
    (Obj.cells #[.int .i64 (compareInt n n'), .int .i64 (compareInt a a'), .int .i64 (compareInt t t')] 3)).drew (by go_simp) (by go_simp) (by go_simp) 3
  go_enter Try.func33, Try.ntmps33
  go_wp2
  go_region_held3 (fun w' => w'.cell? ⟨w.heap.size, 0, none⟩ = some (.int .i64 n) ∧ w'.cell? ⟨w.heap.size, 1, none⟩ = some (.int .i64 a) ∧ w'.cell? ⟨w.heap.size, 2, none⟩ = some (.int .i64 t) ∧ w'.cell? ⟨w.heap.size + 1, 0, none⟩ = some (.int .i64 n') ∧ w'.cell? ⟨w.heap.size + 1, 1, none⟩ = some (.int .i64 a') ∧ w'.cell? ⟨w.heap.size + 1, 2, none⟩ = some (.int .i64 t')) (go_keep)
    (first | (go_at_call 37; refine (cmp_int _ _ _).mono ?_; rintro e w' ⟨rfl, rfl⟩) | (go_at_call 36; refine hor.mono ?_; rintro e w' ⟨rfl, rfl⟩))
  all_goals go_wp2
  go_ret
  exact ⟨rfl, _, _, _, rfl⟩

theorem order_any (x y : Al) (w : World) : Calls Try.prog 33 #[aggAl x, aggAl y] w fun e w' => e = .returned (.int .i64 (cfA x y)) ∧ ∃ q os, w' = grow (w.drewN q) os := by
  refine (order_raw x.1 x.2.1 x.2.2 y.1 y.2.1 y.2.2 w).mono ?_
  rintro e w' ⟨rfl, o1, o2, o3, rfl⟩
  refine ⟨rfl, 1, #[o1, o2, o3], ?_⟩
  simp [grow, World.drewN]
  rfl

/-- How a wish answers: from a world on, and in all that have grown from it. -/
def WishOk (g : Nat) (cb : Array Value) (p : Al → Bool) (w : World) : Prop :=
  ∀ (x : Al) (W : World), Fr [] w W → Calls Try.prog g (#[aggAl x] ++ cb) W fun e w' => e = .returned (.bool (p x)) ∧ Fr [] W w'
theorem WishOk.later {g : Nat} {cb : Array Value} {p : Al → Bool} {w w' : World} (h : WishOk g cb p w) (hf : Fr [] w w') : WishOk g cb p w' := fun x W hW => h x W (hf.trans hW)

set_option maxHeartbeats 400000 in
theorem due1 (n a t : Int) (b1 b2 : Nat) (x y : Int) (w : World) (h1 : w.cell? ⟨b1, 0, none⟩ = some (.int .i64 x)) (h2 : w.cell? ⟨b2, 0, none⟩ = some (.int .i64 y)) :
    Calls Try.prog 25 #[.agg #[.int .i64 n, .int .i64 a, .int .i64 t], .pointer (some ⟨b1, 0, none⟩), .pointer (some ⟨b2, 0, none⟩)] w fun e w' => e = .returned (.bool (decide (n = x ∧ a ≤ y))) ∧ ∃ o, w' = w.alloc o := by
  have l1 := lt_of_cell h1
  have l2 := lt_of_cell h2
  by_cases hx : n = x
  · subst hx
    go_enter Try.func25, Try.ntmps25
    go_wp2
    go_ret
    exact ⟨by simp, _, rfl⟩
  · have hx' : (n == x) = false := by simpa using hx
    go_enter Try.func25, Try.ntmps25
    go_wp2
    go_ret
    exact ⟨by simp [hx], _, rfl⟩
set_option maxHeartbeats 400000 in
theorem stop1 (n a t : Int) (b1 b2 : Nat) (x y : Int) (w : World) (h1 : w.cell? ⟨b1, 0, none⟩ = some (.int .i64 x)) (h2 : w.cell? ⟨b2, 0, none⟩ = some (.int .i64 y)) :
    Calls Try.prog 31 #[.agg #[.int .i64 n, .int .i64 a, .int .i64 t], .pointer (some ⟨b1, 0, none⟩), .pointer (some ⟨b2, 0, none⟩)] w fun e w' => e = .returned (.bool (decide (n = x ∧ t = y))) ∧ ∃ o, w' = w.alloc o := by
  have l1 := lt_of_cell h1
  have l2 := lt_of_cell h2
  by_cases hx : n = x
  · subst hx
    go_enter Try.func31, Try.ntmps31
    go_wp2
    go_ret
    exact ⟨by simp; rfl, _, rfl⟩
  · have hx' : (n == x) = false := by simpa using hx
    go_enter Try.func31, Try.ntmps31
    go_wp2
    go_ret
    exact ⟨by simp [hx], _, rfl⟩
set_option maxHeartbeats 400000 in
theorem next1 (n a t : Int) (b1 : Nat) (x : Int) (w : World) (h1 : w.cell? ⟨b1, 0, none⟩ = some (.int .i64 x)) :
    Calls Try.prog 28 #[.agg #[.int .i64 n, .int .i64 a, .int .i64 t], .pointer (some ⟨b1, 0, none⟩)] w fun e w' => e = .returned (.bool (decide (n = x))) ∧ ∃ o, w' = w.alloc o := by
  have l1 := lt_of_cell h1
  go_enter Try.func28, Try.ntmps28
  go_wp2
  go_ret
  exact ⟨by simp; rfl, _, rfl⟩
set_option maxHeartbeats 400000 in
theorem list1 (n a t : Int) (w : World) :
    Calls Try.prog 27 #[.agg #[.int .i64 n, .int .i64 a, .int .i64 t]] w fun e w' => e = .returned (.bool true) ∧ ∃ o, w' = w.alloc o := by
  go_enter Try.func27, Try.ntmps27
  go_wp2
  go_ret
  exact ⟨rfl, _, rfl⟩
end Go.Proofs.Ytcnihacjkcicfaa
