/- redo.number, walked. -/
import Derived.Test.YtcbccogpogdbmaaTi1
import Derived.Laws.Bits64b
namespace Go.Proofs.Ytcbccogpogdbmaa
open Go.RowKit Go.Maps Go.Lib Go.Sort
theorem val_take : ∀ (l : List UInt8) (i : Nat) (b : UInt8), l[i]? = some b → valB (l.take (i + 1)) = valB (l.take i) + 2 ^ (8 * i) * b.toNat
  | [], i, b, h => by simp at h
  | x :: l, 0, b, h => by
    simp only [List.getElem?_cons_zero, Option.some.injEq] at h
    subst h
    simp [valB]
  | x :: l, i + 1, b, h => by
    simp only [List.getElem?_cons_succ] at h
    simp only [List.take_succ_cons, valB, val_take l i b h]
    have : 2 ^ (8 * (i + 1)) = 256 * 2 ^ (8 * i) := by rw [Nat.mul_add, Nat.pow_add]; omega
    rw [this, Nat.mul_add, Nat.mul_assoc]
    omega
theorem or_byte (l : List UInt8) (i : Nat) (b : UInt8) (h : l[i]? = some b) (hi : i < 8) : bits BinOp.or IntKind.u64 (↑(valB (l.take i))) (IntKind.u64.wrap (IntKind.u64.wrap ↑b.toNat * 2 ^ (8 * i))) = ↑(valB (l.take (i + 1))) := by
  have hb : b.toNat < 256 := b.toNat_lt
  have hv : valB (l.take i) < 2 ^ (8 * i) := by
    have := valB_lt (l.take i)
    have e : (256 : Nat) ^ (l.take i).length = 2 ^ (8 * (l.take i).length) := by rw [Nat.pow_mul]
    have hle : (l.take i).length ≤ i := by rw [List.length_take]; omega
    have h2 : 2 ^ (8 * (l.take i).length) ≤ 2 ^ (8 * i) := Nat.pow_le_pow_right (by omega) (by omega)
    omega
  have hp : b.toNat * 2 ^ (8 * i) < 18446744073709551616 := by
    have h1 : b.toNat * 2 ^ (8 * i) < 2 ^ 8 * 2 ^ (8 * i) := Nat.mul_lt_mul_of_pos_right hb (Nat.two_pow_pos _)
    have h3 : 2 ^ 8 * 2 ^ (8 * i) = 2 ^ (8 + 8 * i) := by rw [Nat.pow_add]
    have h2 : 2 ^ (8 + 8 * i) ≤ 2 ^ 64 := Nat.pow_le_pow_right (by omega) (by omega)
    have h4 : (2 : Nat) ^ 64 = 18446744073709551616 := by decide
    omega
  have hv2 : valB (l.take i) < 18446744073709551616 := by
    have h2 : 2 ^ (8 * i) ≤ 2 ^ 64 := Nat.pow_le_pow_right (by omega) (by omega)
    have h4 : (2 : Nat) ^ 64 = 18446744073709551616 := by decide
    omega
  have wr : ∀ n : Nat, n < 18446744073709551616 → IntKind.u64.wrap (n : Int) = (n : Int) := fun n hn => by
    simp only [IntKind.wrap, IntKind.bits, IntKind.signed]
    simp
    omega
  have e1 : IntKind.u64.wrap (IntKind.u64.wrap ↑b.toNat * 2 ^ (8 * i)) = ((b.toNat * 2 ^ (8 * i) : Nat) : Int) := by
    rw [wr _ (by omega)]
    have : ((b.toNat : Int) * 2 ^ (8 * i)) = ((b.toNat * 2 ^ (8 * i) : Nat) : Int) := by simp
    rw [this, wr _ hp]
  rw [e1, bits_or_u64_nat _ _ hv2 hp, val_take l i b h]
  congr 1
  rw [Nat.or_comm, Nat.mul_comm, ← Nat.two_pow_add_eq_or_of_lt hv]
  omega
attribute [local go_sem ↓] Go.wp_at_zero Go.wp_at_succ
set_option maxRecDepth 100000 in
set_option maxHeartbeats 4000000 in
theorem number_any (s : ByteArray) (hs : s.size ≤ 8) (w : World) :
    Calls Try.prog 38 #[.string s] w fun e w' => e = .returned (.int .u64 (valB s.data.toList)) ∧ w' = w := by
  go_enter Try.func38, Try.ntmps38
  go_wp2
  go_loopg [3, 7] s.size (fun gk vv iv wr => ∃ (i : Nat), i ≤ s.size ∧ gk = s.size - i ∧ iv = .int .i64 i ∧ vv = .int .u64 (valB (s.data.toList.take i)) ∧ wr = w)
  case atStart => exact ⟨0, Nat.zero_le _, rfl, rfl, rfl, rfl⟩
  case round =>
    obtain ⟨i, hi, hgk, rfl, rfl, rfl⟩ := hrel
    have hgk' := Lib.hid hgk; clear hgk
    by_cases hlt : i < s.size
    · have hx : s.data.toList[i]? = some s[i] := by
        rw [List.getElem?_eq_getElem (by simpa using hlt)]; rfl
      have hor := or_byte s.data.toList i s[i] hx (by omega)
      have hor' := Lib.hid hor; clear hor
      go_wp2
      rw [hor'.out]
      go_roundg (s.size - (i + 1))
      case rel => exact ⟨i + 1, by omega, rfl, by go_num, rfl, rfl⟩
      case measure => rw [hgk'.out]; omega
    · have hik : i = s.size := by omega
      subst hik
      go_wp2
      go_ret
      refine ⟨?_, rfl⟩
      rw [List.take_of_length_le (by simp)]
      rfl
end Go.Proofs.Ytcbccogpogdbmaa
