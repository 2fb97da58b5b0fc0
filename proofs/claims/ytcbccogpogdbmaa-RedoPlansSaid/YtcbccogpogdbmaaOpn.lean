/- Arguments opened: a slice whose elements are of k cells. -/
import Derived.Test.YtcbccogpogdbmaaLst
import Derived.Deep.Slices
import Derived.ProofKit
import Derived.ChangeOld
namespace Go.Proofs.Ytcbccogpogdbmaa
open Go.RowKit Go.ChangeShapes Go.WideShapes
section
variable {H : Type} {ec : TypeId × Value → H} {P : Program} {W : World}

/-- WHATEVER READS AS THIS TYPE IS MADE SO. -/
def Made (ec : TypeId × Value → H) (P : Program) (W : World) (e : TypeId) {α : Type} (enc : α → List Value) : Prop :=
  ∀ (n : Nat) (cs : List Value) (y : DataW H × List MemPlace), DataW.trod ec P W 0 (fun _ => true) true n e cs = some y → ∃ x, cs = enc x

theorem made_int {e : TypeId} {k : IntKind} (he : P.underlying e = some (.int k)) : Made ec P W e (fun x : Int => [.int k x]) := by
  intro n cs y h
  obtain ⟨x, rfl, _, _⟩ := DataW.trod_int he h
  exact ⟨x, rfl⟩

theorem open_rows {α : Type} {enc : α → List Value} {k : Nat} {t e : TypeId} {a0 : Option Addr} {len cap : Nat} {d : DataW H} {p : List MemPlace} (hk : ∀ x, (enc x).length = k) (hk0 : 0 < k) (ht : P.underlying t = some (.slice e)) (hce : P.cellsOf e = k) (hel : Made ec P W e enc)
    (h : ∃ fuel, DataW.trod ec P W 0 (fun _ => true) true fuel t (Value.slice a0 len cap).cells.toList = some (d, p)) : ∃ S : List α, S.length = len ∧ SliceIs W (fun _ => True) enc (.slice a0 len cap) S := by
  obtain ⟨fuel, hf⟩ := h
  rcases Deep.open_slice ht hf with ⟨hcs, _⟩ | ⟨a, len', cap', m, n, D, Pl, hcs, _, hl, hm, hmm, _, hcell⟩
  · simp [Value.cells] at hcs
    obtain ⟨rfl, rfl, rfl⟩ := hcs
    exact ⟨[], rfl, SliceIs.nil _ _ _⟩
  · simp [Value.cells] at hcs
    obtain ⟨rfl, rfl, rfl⟩ := hcs
    simp only [if_true] at hmm
    subst hmm
    have hx : ∀ i, i < len → ∃ x, ∀ j u, (enc x)[j]? = some u → W.cell? ((a.add (i * k)).add j) = some u := by
      intro i hi
      obtain ⟨cs', hc, htr⟩ := hcell i (by omega)
      obtain ⟨x, rfl⟩ := hel _ _ _ htr
      refine ⟨x, fun j u hj => ?_⟩
      rw [hce] at hc
      obtain ⟨_, h2, h3⟩ := World.cells?_some hc
      rw [h3 j (by rw [← h2]; exact (List.getElem?_eq_some_iff.1 hj).1)]; exact hj
    by_cases h0 : len = 0
    · subst h0
      exact ⟨[], rfl, _, m, rfl, Nat.zero_le _, hm, .inl rfl⟩
    · obtain ⟨x0, _⟩ := hx 0 (by omega)
      have : Inhabited α := ⟨x0⟩
      obtain ⟨f, hf⟩ := Deep.choose_lt (α := α) hx
      have hspot : a.spot = none := by
        have h1 : 0 < (enc (f 0)).length := by rw [hk]; exact hk0
        have := hf 0 (by omega) 0 _ (List.getElem?_eq_getElem h1)
        simpa [Addr.add] using World.cell?_spot this
      obtain ⟨b, off, spot⟩ := a
      simp only at hspot
      subst hspot
      have hadd : ∀ i j, ((⟨b, off, none⟩ : Addr).add i).add j = ⟨b, off + (i + j), none⟩ := by
        intro i j
        rw [Deep.add_add]; unfold Addr.add; split
        · rename_i h; rw [h]; rfl
        · rfl
      have hlt : b < W.heap.size := by
        have h1 : 0 < (enc (f 0)).length := by rw [hk]; exact hk0
        have := hf 0 (by omega) 0 _ (List.getElem?_eq_getElem h1)
        rw [hadd] at this
        exact World.block_lt_of_cell? W _ this
      refine ⟨(List.range len).map f, by simp, some ⟨b, off, none⟩, m, by simp, by simpa using hl, hm, .inr ⟨b, off, rfl, trivial, hlt, ?_⟩⟩
      intro j u hj
      have hjl : j < len * k := by
        have := (List.getElem?_eq_some_iff.1 hj).1
        rw [flat_len hk] at this; simpa using this
      have hq : j / k < len := (Nat.div_lt_iff_lt_mul hk0).2 hjl
      have hx' : ((List.range len).map f)[j / k]? = some (f (j / k)) := by simp [hq]
      have hmod : j % k < (enc (f (j / k))).length := by rw [hk]; exact Nat.mod_lt _ hk0
      have h2 := flat_get hk _ (j / k) _ (j % k) _ hx' (List.getElem?_eq_getElem hmod)
      rw [Nat.mul_comm (j / k) k, Nat.div_add_mod] at h2
      rw [h2] at hj
      have h3 := hf (j / k) hq (j % k) u (by rw [List.getElem?_eq_getElem hmod]; exact hj)
      rw [hadd, Nat.mul_comm (j / k) k, Nat.div_add_mod] at h3
      exact h3
end
end Go.Proofs.Ytcbccogpogdbmaa
