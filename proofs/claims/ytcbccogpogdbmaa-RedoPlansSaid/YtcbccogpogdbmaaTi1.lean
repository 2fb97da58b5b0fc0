/- redo.little, walked. -/
import Derived.Test.YtcbccogpogdbmaaRd
import Derived.Test.YtcbccogpogdbmaaHlp
import Derived.Test.YtcbccogpogdbmaaProg
import Derived.Test.YtcbccogpogdbmaaStep
import Derived.Test.YtcbccogpogdbmaaRel
import Derived.WalkKit
import Derived.WalkSpells
import Derived.Deep.LoopGhost
import Derived.BigQuiet
import Derived.BigRegion
import Derived.KernelRfl
import Derived.Deep.RegionLaw
import Derived.Deep.DrawnRows
namespace Go.Proofs.Ytcbccogpogdbmaa
open Go.RowKit Go.Maps Go.Lib Go.Sort
def encU (b : UInt8) : List Value := [.int .u8 b.toNat]
theorem encU_len (b : UInt8) : (encU b).length = 1 := rfl
theorem one_encU (b : UInt8) : ∀ u ∈ encU b, u.oneCell' = true := by simp [encU, Value.oneCell']
theorem infoU : (Try.prog.info? 5).map (fun i => (i.zero, i.size, i.bytes)) = some (some (.int .u8 0), 1, 1) := by kernel_rfl
theorem leB_snoc : ∀ (k n : Nat), leB n (k + 1) = leB n k ++ [UInt8.ofNat (n / 256 ^ k)]
  | 0, n => by simp [leB]
  | k + 1, n => by
    have := leB_snoc k (n / 256)
    rw [leB, this, Nat.div_div_eq_div_mul, ← Nat.pow_succ']
    rfl
theorem byte_shift (n i : Nat) : (#[Value.int .u8 ((n : Int) / 2 ^ (8 * i) % 256)] : Array Value).toList = encU (UInt8.ofNat (n / 256 ^ i)) := by
  have e : (256 : Nat) ^ i = 2 ^ (8 * i) := by rw [Nat.pow_mul]
  have e2 : (UInt8.ofNat (n / 256 ^ i)).toNat = n / 2 ^ (8 * i) % 256 := by rw [e]; simp
  unfold encU
  rw [e2]
  simp
attribute [local go_sem ↓] Go.wp_at_zero Go.wp_at_succ
set_option maxRecDepth 100000 in
set_option maxHeartbeats 4000000 in
theorem little_any (n k : Nat) (hk : k ≤ 8) (w : World) :
    Calls Try.prog 32 #[.int .i64 n, .int .i64 k] w fun e w' => ∃ v, e = .returned v ∧ Fr [] w w' ∧ w'.ownsRow w.heap.size 5 1 v (leB n k).length ((leB n k).flatMap encU) := by
  go_enter Try.func32, Try.ntmps32
  go_wp2
  go_loopg [5, 8] k (fun gk lv iv wr => ∃ (i : Nat), i ≤ k ∧ gk = k - i ∧ iv = .int .i64 i ∧ wr.ownsRow w.heap.size 5 1 lv (leB n i).length ((leB n i).flatMap encU) ∧ Fr [] w wr)
  case atStart => exact ⟨0, Nat.zero_le _, rfl, rfl, ⟨by simp [leB], .inl ⟨rfl, by simp [leB]⟩⟩, Fr.refl _ _⟩
  case round =>
    obtain ⟨i, hi, hgk, rfl, hown, hfr⟩ := hrel
    have hgk' := Lib.hid hgk; clear hgk
    have hlen := leB_len i n
    by_cases hlt : i < k
    · have hsn := leB_snoc i n
      have hby := byte_shift n i
      obtain ⟨R, hR⟩ : ∃ R, R = leB n i := ⟨_, rfl⟩
      rw [← hR] at hown hlen hsn
      have hsn' := Lib.hid hsn; have hby' := Lib.hid hby
      have hb := hfr.size
      have hob := hown.lt
      clear hR hsn hby
      go_wp2_with (first | (at_builtin; refine wpList_push wr _ _ rfl _ _ 37 rfl w.heap.size 5 Try.underlying37 infoU rfl (by omega) u5 R rfl hown (UInt8.ofNat (n / 256 ^ i)) hby'.out encU_len (one_encU _) rfl (by omega) (by omega) hb ?_; intro v' w3 hown3 hf3))
      go_roundg (k - (i + 1))
      case rel => exact ⟨i + 1, by omega, rfl, by go_num, by rw [hsn'.out]; exact hown3, hfr.andThen hf3 (fun t ht' => by have := hob t (by simpa using ht'); omega)⟩
      case measure => rw [hgk'.out]; omega
    · have hik : i = k := by omega
      subst hik
      go_wp2
      go_ret
      exact ⟨_, rfl, hfr, hown⟩
end Go.Proofs.Ytcbccogpogdbmaa
