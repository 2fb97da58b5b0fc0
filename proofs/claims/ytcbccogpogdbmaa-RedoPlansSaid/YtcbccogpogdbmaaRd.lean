/- Records and their parts, in plain words. -/
import Derived.Lib.Strings
import Derived.Laws.Strings
namespace Go.Proofs.Ytcbccogpogdbmaa
open Go.Lib
/-- A number in so many bytes, the lowest first; and back. -/
def leB : Nat → Nat → List UInt8
  | _, 0 => []
  | n, k + 1 => UInt8.ofNat n :: leB (n / 256) k
def valB : List UInt8 → Nat
  | [] => 0
  | b :: l => b.toNat + 256 * valB l
theorem leB_len : ∀ (k n : Nat), (leB n k).length = k
  | 0, _ => rfl
  | k + 1, n => by simp [leB, leB_len k]
theorem valB_leB : ∀ (k n : Nat), n < 256 ^ k → valB (leB n k) = n
  | 0, n, h => by simp at h; subst h; rfl
  | k + 1, n, h => by
    have h2 : n / 256 < 256 ^ k := by rw [Nat.div_lt_iff_lt_mul (by omega)]; rw [Nat.pow_succ] at h; exact h
    simp only [leB, valB, valB_leB k _ h2]
    have : (UInt8.ofNat n).toNat = n % 256 := by simp
    omega
theorem valB_lt : ∀ (l : List UInt8), valB l < 256 ^ l.length
  | [] => by simp [valB]
  | b :: l => by
    have h1 := valB_lt l
    have h2 : b.toNat < 256 := b.toNat_lt
    simp only [valB, List.length_cons, Nat.pow_succ]
    omega
theorem leB_valB : ∀ (l : List UInt8), leB (valB l) l.length = l
  | [] => rfl
  | b :: l => by
    have h2 : b.toNat < 256 := b.toNat_lt
    simp only [valB, List.length_cons, leB]
    have e1 : (b.toNat + 256 * valB l) / 256 = valB l := by omega
    rw [e1, leB_valB l]
    congr 1
    apply UInt8.toNat_inj.1
    simp
def mkS (l : List UInt8) : ByteArray := ⟨l.toArray⟩
theorem mkS_toList (l : List UInt8) : (mkS l).toList = l := by simp [mkS]
theorem mkS_data (l : List UInt8) : (mkS l).data.toList = l := rfl
theorem mkS_size (l : List UInt8) : (mkS l).size = l.length := by simp [mkS, ByteArray.size]
theorem mkS_self (s : ByteArray) : mkS s.data.toList = s := by simp [mkS]
theorem mkS_inj {a b : List UInt8} (h : mkS a = mkS b) : a = b := by rw [← mkS_data a, h, mkS_data]
/-- Number, block, stamp, data. -/
abbrev Rec := Int × Int × Int × ByteArray
def errR (r : Rec) : Int := if r.1 < 1 ∨ 1099511627776 < r.1 ∨ r.2.1 < 0 ∨ 256 ≤ r.2.1 ∨ r.2.2.1 < 1 ∨ 1099511627776 < r.2.2.1 then 1 else if 16 < r.2.2.2.size then 11 else 0
def headB (r : Rec) : List UInt8 := leB r.2.1.toNat 2 ++ leB r.2.2.1.toNat 8 ++ leB r.2.2.2.size 1 ++ r.2.2.2.data.toList
def bodyB (r : Rec) : List UInt8 := headB r ++ List.replicate (30 - (headB r).length) 0
def partB (r : Rec) (i : Nat) : List UInt8 := leB r.1.toNat 6 ++ ((bodyB r).drop (10 * i)).take 10
def partsP (r : Rec) : List ByteArray := if errR r = 0 then [mkS (partB r 0), mkS (partB r 1), mkS (partB r 2)] else []
theorem errR_zero {r : Rec} (h : errR r = 0) : 1 ≤ r.1 ∧ r.1 ≤ 1099511627776 ∧ 0 ≤ r.2.1 ∧ r.2.1 < 256 ∧ 1 ≤ r.2.2.1 ∧ r.2.2.1 ≤ 1099511627776 ∧ r.2.2.2.size ≤ 16 := by
  unfold errR at h
  split at h
  · omega
  · split at h <;> omega
theorem headB_len (r : Rec) : (headB r).length = 11 + r.2.2.2.size := by simp [headB, leB_len]; omega
theorem bodyB_len {r : Rec} (h : errR r = 0) : (bodyB r).length = 30 := by
  have := errR_zero h
  have e := headB_len r
  simp only [bodyB, List.length_append, List.length_replicate]
  omega
theorem partB_len {r : Rec} (h : errR r = 0) {i : Nat} (hi : i < 3) : (partB r i).length = 16 := by
  have := bodyB_len h
  simp only [partB, List.length_append, leB_len, List.length_take, List.length_drop]
  omega
/-- What three texts say. -/
def psAt (ps : List ByteArray) (i : Nat) : List UInt8 := ((ps[i]?).map fun s => s.data.toList).getD []
def bodyOf (ps : List ByteArray) : List UInt8 := (psAt ps 0).drop 6 ++ (psAt ps 1).drop 6 ++ (psAt ps 2).drop 6
def lenOf (ps : List ByteArray) : Nat := ((bodyOf ps)[10]?.getD 0).toNat
def recOf (ps : List ByteArray) : Rec := (valB ((psAt ps 0).take 6), valB ((bodyOf ps).take 2), valB (((bodyOf ps).drop 2).take 8), mkS (((bodyOf ps).drop 11).take (lenOf ps)))
def wideP (ps : List ByteArray) : Bool := ps.length == 3 && ps.all (·.size == 16)
def joinP (ps : List ByteArray) : Option Rec := if wideP ps = true ∧ lenOf ps ≤ 16 ∧ errR (recOf ps) = 0 ∧ partsP (recOf ps) = ps then some (recOf ps) else none
theorem join_some {ps : List ByteArray} {r : Rec} (h : joinP ps = some r) : errR r = 0 ∧ partsP r = ps := by
  unfold joinP at h
  split at h
  · rename_i hh
    cases h
    exact ⟨hh.2.2.1, hh.2.2.2⟩
  · cases h
theorem body_split (r : Rec) (h : errR r = 0) : ((bodyB r).drop (10 * 0)).take 10 ++ ((bodyB r).drop (10 * 1)).take 10 ++ ((bodyB r).drop (10 * 2)).take 10 = bodyB r := by
  have hl := bodyB_len h
  have e3 : ((bodyB r).drop 20).take 10 = (bodyB r).drop 20 := List.take_of_length_le (by simp [hl])
  have e2 : (bodyB r).drop 20 = ((bodyB r).drop 10).drop 10 := by rw [List.drop_drop]
  show ((bodyB r).drop 0).take 10 ++ ((bodyB r).drop 10).take 10 ++ ((bodyB r).drop 20).take 10 = _
  rw [e3, e2, List.append_assoc, List.take_append_drop, List.drop_zero, List.take_append_drop]
theorem body_of_parts {r : Rec} (h : errR r = 0) : bodyOf (partsP r) = bodyB r := by
  have hd : ∀ i, (partB r i).drop 6 = ((bodyB r).drop (10 * i)).take 10 := fun i => by
    unfold partB
    rw [List.drop_append_of_le_length (by rw [leB_len]; omega), List.drop_of_length_le (by rw [leB_len]; omega), List.nil_append]
  unfold partsP bodyOf
  rw [if_pos h]
  simp only [psAt, List.getElem?_cons_zero, List.getElem?_cons_succ, Option.map_some, Option.getD_some, mkS_data, hd]
  exact body_split r h
theorem rec_of_parts {r : Rec} (h : errR r = 0) : recOf (partsP r) = r ∧ lenOf (partsP r) = r.2.2.2.size := by
  have hb := body_of_parts h
  obtain ⟨h1, h2, h3, h4, h5, h6, h7⟩ := errR_zero h
  obtain ⟨seq, blk, st, d⟩ := r
  dsimp only at h1 h2 h3 h4 h5 h6 h7
  have e0 : bodyB (seq, blk, st, d) = leB blk.toNat 2 ++ (leB st.toNat 8 ++ (leB d.size 1 ++ (d.data.toList ++ List.replicate (30 - (headB (seq, blk, st, d)).length) 0))) := by simp [bodyB, headB, List.append_assoc]
  have l2 : (leB blk.toNat 2).length = 2 := leB_len _ _
  have l8 : (leB st.toNat 8).length = 8 := leB_len _ _
  have l1 : (leB d.size 1).length = 1 := leB_len _ _
  have hlen : lenOf (partsP (seq, blk, st, d)) = d.size := by
    unfold lenOf
    rw [hb, e0]
    rw [List.getElem?_append_right (by omega), List.getElem?_append_right (by omega), List.getElem?_append_left (by omega)]
    simp only [l2, l8]
    have : leB d.size 1 = [UInt8.ofNat d.size] := rfl
    rw [this]
    simp
    omega
  refine ⟨?_, hlen⟩
  unfold recOf
  rw [hlen, hb, e0]
  refine Prod.ext ?_ (Prod.ext ?_ (Prod.ext ?_ ?_))
  · show ((valB _ : Nat) : Int) = seq
    unfold partsP
    rw [if_pos h]
    simp only [psAt, List.getElem?_cons_zero, Option.map_some, Option.getD_some, mkS_data]
    unfold partB
    rw [List.take_append_of_le_length (by rw [leB_len]; omega), List.take_of_length_le (by rw [leB_len]; omega), valB_leB 6 _ (by show seq.toNat < 256 ^ 6; omega)]
    omega
  · show ((valB _ : Nat) : Int) = blk
    rw [List.take_append_of_le_length (by omega), List.take_of_length_le (by omega), valB_leB 2 _ (by omega)]
    omega
  · show ((valB _ : Nat) : Int) = st
    rw [List.drop_append_of_le_length (by omega), List.drop_of_length_le (by omega), List.nil_append, List.take_append_of_le_length (by omega), List.take_of_length_le (by omega), valB_leB 8 _ (by omega)]
    omega
  · show mkS _ = d
    rw [show (11 : Nat) = 2 + (8 + 1) from rfl, ← List.drop_drop, ← List.drop_drop]
    rw [List.drop_append_of_le_length (by omega), List.drop_of_length_le (l := leB blk.toNat 2) (by omega), List.nil_append]
    rw [List.drop_append_of_le_length (by omega), List.drop_of_length_le (l := leB st.toNat 8) (by omega), List.nil_append]
    rw [List.drop_append_of_le_length (by omega), List.drop_of_length_le (l := leB d.size 1) (by omega), List.nil_append]
    rw [List.take_append_of_le_length (by simp), List.take_of_length_le (by simp), mkS_self]
theorem wide_parts {r : Rec} (h : errR r = 0) : wideP (partsP r) = true := by
  unfold wideP partsP
  rw [if_pos h]
  simp [mkS_size, partB_len h]
theorem join_parts {r : Rec} (h : errR r = 0) : joinP (partsP r) = some r := by
  obtain ⟨h1, h2⟩ := rec_of_parts h
  have := errR_zero h
  unfold joinP
  rw [if_pos ⟨wide_parts h, by rw [h2]; omega, by rw [h1]; exact h, by rw [h1]⟩, h1]
theorem join_none {r : Rec} (h : errR r ≠ 0) : joinP (partsP r) = none := by
  unfold joinP partsP
  rw [if_neg h, if_neg]
  rintro ⟨h, _⟩
  simp [wideP] at h
theorem parts_inj {r q : Rec} (h : errR r = 0) (hq : errR q = 0) (he : partsP r = partsP q) : r = q := by
  have := join_parts h
  rw [he, join_parts hq] at this
  exact (Option.some.inj this).symm
end Go.Proofs.Ytcbccogpogdbmaa
