/- slices.Reverse of a row of records of one's own. -/
import Derived.Test.YtcbccogpogdbmaaShelfR
import Derived.Test.YtcbccogpogdbmaaTi5
namespace Go.Proofs.Ytcbccogpogdbmaa
open Go.RowKit Go.Maps Go.Lib Go.Sort
theorem one_encR (r : Rec) : ∀ u ∈ encR r, u.oneCell' = true := by simp [encR, Value.oneCell']
instance : Inhabited Rec := ⟨(0, 0, 0, ⟨#[]⟩)⟩
theorem owns_putRowK {α : Type} [Inhabited α] {enc : α → List Value} {k : Nat} (hk : ∀ x, (enc x).length = k) (hk0 : 0 < k) {w : World} {base g cap : Nat} {e : TypeId} {S : List α} (h : w.ownsRow base e k (.slice (some ⟨g, 0, none⟩) S.length cap) S.length (S.flatMap enc)) (d : List α) (hd : d.length = S.length) (q : Nat) :
    (putRowK enc k (Sort.ahead w q) g 0 d.toArray).ownsRow base e k (.slice (some ⟨g, 0, none⟩) S.length cap) S.length (d.flatMap enc) := by
  have hfl : (d.flatMap enc).length = S.length * k := by rw [flat_len hk, hd]
  rcases h.2 with ⟨hv, _⟩ | ⟨g', cap', cur, hv, hb, hg, hnc, hcm, hcs, htake⟩
  · cases hv
  · cases hv
    refine ⟨hfl, .inr ⟨g, cap, putCells id 0 (d.flatMap enc).toArray cur, rfl, hb, ?_, hnc, hcm, by unfold putCells; simpa using hcs, ?_⟩⟩
    · unfold putRowK putRow mapBlock Sort.ahead
      rw [flatK_eq hk hk0]
      simp only [Array.getElem?_modify, hg, if_true, Option.map_some, onCells]
    · have hle : S.length * k ≤ cur.size := by rw [hcs]; exact Nat.mul_le_mul_right _ hnc
      unfold putCells
      apply List.ext_getElem?
      intro i
      rw [List.getElem?_take]
      by_cases hi : i < S.length * k
      · have hic : i < cur.size := by omega
        rw [if_pos hi]
        simp only [Array.getElem?_toList, Array.getElem?_mapIdx, Array.getElem?_eq_getElem hic, Option.map_some]
        rw [if_pos ⟨by omega, by simpa [hfl] using hi⟩, List.getElem?_eq_getElem (by omega)]
        simp [getElem!_pos, hfl, hi]
      · rw [if_neg hi, List.getElem?_eq_none (by omega)]
theorem rev_any {base : Nat} {v : Value} {K : List Rec} {w : World} (h : w.ownsRow base 23 4 v K.length (K.flatMap encR)) (hl : K.length < 9223372036854775807) :
    Calls Try.prog 41 #[v] w fun e w' => e = .returned (.tuple #[]) ∧ Fr v.ownBlock.toList w w' ∧ w'.ownsRow base 23 4 v K.reverse.length (K.reverse.flatMap encR) := by
  rcases h.2 with ⟨rfl, h0⟩ | ⟨g, cap, cur, rfl, hb, hg, hnc, hcm, hcs, htake⟩
  · have hK : K = [] := List.eq_nil_of_length_eq_zero h0
    subst hK
    have hc := AnyQ.slices_Reverse_empty Try.revL none 0 w
    change Calls Try.prog 41 _ _ _ at hc
    refine hc.mono ?_
    rintro e w' ⟨rfl, rfl⟩
    exact ⟨rfl, Fr.refl _ _, h⟩
  · have hH := holdsK_of_owns encR_len (by omega) h
    have hc := AnyQ.slices_Reverse Try.revL 4 (fun _ => by kernel_rfl) (fun _ => by kernel_rfl) encR encR_len one_encR g 0 cap K.toArray w hH (by simp; omega)
    change Calls Try.prog 41 _ _ _ at hc
    have hsz : K.toArray.size = K.length := by simp
    rw [hsz] at hc
    refine hc.mono ?_
    rintro e w' ⟨rfl, q, rfl⟩
    refine ⟨rfl, ?_, ?_⟩
    · unfold putRowK putRow
      have h1 : Fr [g] w (Sort.ahead w q) := ⟨rfl, rfl, rfl, Nat.le_refl _, fun _ _ _ => rfl⟩
      exact (h1.trans (fr_mapBlock _ g _)).mono (by simp [Value.ownBlock])
    · have := owns_putRowK encR_len (by omega) h K.reverse (by simp) q
      rw [List.length_reverse]
      simpa using this
end Go.Proofs.Ytcbccogpogdbmaa
