/- Contracts and words, several texts in one. -/
import Derived.Maps.AppendAt
import Derived.Test.YthhpamaeibjpaaaDoorZx1
section
namespace Go.Proofs.YthhpamaeibjpaaaDoor
open Go.RowKit Go.Maps Go.Sort
theorem owns_fr2 {w w' : World} {v : Value} {k : Nat} {base : Nat} {e : TypeId} {n : Nat} {xs : List Value} {T : List Nat} (h : w.ownsRow base e k v n xs) (hf : Fr T w w') (hT : ∀ g, v.ownBlock = some g → g ∉ T) : w'.ownsRow base e k v n xs := by
  refine ⟨h.1, ?_⟩
  rcases h.2 with h0 | ⟨g, cap, cur, rfl, hb, hg, rest⟩
  · exact .inl h0
  · exact .inr ⟨g, cap, cur, rfl, hb, hf.keep hg (hT g rfl), rest⟩
end Go.Proofs.YthhpamaeibjpaaaDoor
end
section
namespace Go.Proofs.YthhpamaeibjpaaaDoor
open Go.RowKit Go.Maps Go.Sort
theorem run_append_no {P : Program} {w : World} (base : Nat) (t ty e : TypeId) (i : TypeInfo) (size : Nat) (ht : P.underlying t = some (.slice e)) (hi : P.info? e = some i)
    (v : Value) (n : Nat) (xs : List Value) (hown : w.ownsRow base e size v n xs) (c : Nat) : (Builtin.append_ #[t, t] ty #[v, .slice none 0 c]).run P w = .ok v w := by
  rcases hown.2 with ⟨rfl, rfl⟩ | ⟨g, cap, cur, rfl, _, _, hnc, _⟩
  · simp [Builtin.append_, run_underlying ht, sizeOf, typeInfo, hi, Builtin.lenOf, Builtin.firstCells]
  · simp [Builtin.append_, run_underlying ht, sizeOf, typeInfo, hi, Builtin.lenOf, Builtin.firstCells, hnc, storeCells]
theorem run_more {α : Type} {enc : α → List Value} {k : Nat} {P : Program} (w : World) (base : Nat) (t ty e : TypeId) {z : Value} {bytes : Nat} (ht : P.underlying t = some (.slice e)) (hinfo : (P.info? e).map (fun i => (i.zero, i.size, i.bytes)) = some (some z, k, bytes)) (hzs : z.cells.size = k) (hk0 : 0 < k)
    (v : Value) (S : List α) (hown : w.ownsRow base e k v S.length (S.flatMap enc)) {B : Nat → Prop} (u : Value) (T : List α) (hT : SliceIs w B enc u T) (hk : ∀ x, (enc x).length = k) (hone : ∀ x, ∀ u ∈ enc x, u.oneCell' = true)
    (hn : S.length + T.length < 1099511627776) (hb : bytes ≤ 100) (hbase : base ≤ w.heap.size) :
    ∃ v' w', (Builtin.append_ #[t, t] ty #[v, u]).run P w = .ok v' w' ∧ w'.ownsRow base e k v' (S ++ T).length ((S ++ T).flatMap enc) ∧ Fr v.ownBlock.toList w w' ∧ (v'.ownBlock = v.ownBlock ∨ v'.ownBlock = some w.heap.size) := by
  obtain ⟨i, hi, hz0, hz1, hz2⟩ := info_parts hinfo
  obtain ⟨a, cap, rfl, h1, h2, h3⟩ := hT
  cases a with
  | none =>
    have hT : T = [] := by
      rcases h3 with h3 | ⟨g, off, ha, _⟩
      · exact h3
      · cases ha
    subst hT
    exact ⟨v, w, run_append_no base t ty e i k ht hi v S.length _ hown cap, by simpa using hown, Fr.refl _ _, .inl rfl⟩
  | some ad =>
    have hcells : ∀ j u, (T.flatMap enc)[j]? = some u → w.cell? (ad.add j) = some u := by
      intro j u hj
      rcases h3 with h3 | ⟨g, off, ha, _, _, hc⟩
      · subst h3; simp at hj
      · cases ha
        have := hc j u hj
        have e : (⟨g, off, none⟩ : Addr).add j = ⟨g, off + j, none⟩ := by unfold Addr.add; split <;> simp_all
        rw [e]; exact this
    have hb2 : (S.length + T.length) * bytes ≤ 140737488355328 := by
      have : (S.length + T.length) * bytes ≤ 1099511627776 * 100 := Nat.mul_le_mul (by omega) hb
      omega
    obtain ⟨v', w', hrun, q1, q2, _, q4⟩ := run_append_own_at (P := P) w base t ty e i z k bytes ht hi hz0 hz1 hz2 hzs hk0 v S.length (S.flatMap enc) hown ad T.length cap (T.flatMap enc) (flat_len hk T) hcells (by
      intro u hu
      obtain ⟨x, _, hx⟩ := List.mem_flatMap.1 hu
      exact hone x u hx) (by unfold maxLen; omega) hb2 hbase
    exact ⟨v', w', hrun, by rw [List.flatMap_append, List.length_append]; exact q1, Fr.of_grown q2, q4⟩
theorem wpList_more {α : Type} {enc : α → List Value} {k : Nat} {P : Program} (w : World) {ops : Array Oper} {rest : List Oper} {o : Oper} {a : Act} {Q : Exit → Act → World → Prop} (hgd : o.guard = none) (s x : Operand) (t : TypeId)
    (ho : o.op = .call { callee := .builtin .append, args := #[s, x], argTypes := #[t, t] })
    (base : Nat) (e : TypeId) {z : Value} {bytes : Nat} (ht : P.underlying t = some (.slice e)) (hinfo : (P.info? e).map (fun i => (i.zero, i.size, i.bytes)) = some (some z, k, bytes)) (hzs : z.cells.size = k) (hk0 : 0 < k)
    (v : Value) (S : List α) (hs : a.eval s = v) (hown : w.ownsRow base e k v S.length (S.flatMap enc)) {B : Nat → Prop} (u : Value) (T : List α) (hx : a.eval x = u) (hT : SliceIs w B enc u T) (hk : ∀ x, (enc x).length = k) (hone : ∀ x, ∀ u ∈ enc x, u.oneCell' = true)
    (hn : S.length + T.length < 1099511627776) (hb : bytes ≤ 100) (hbase : base ≤ w.heap.size)
    (h : ∀ v' w', w'.ownsRow base e k v' (S ++ T).length ((S ++ T).flatMap enc) → Fr v.ownBlock.toList w w' → (v'.ownBlock = v.ownBlock ∨ v'.ownBlock = some w.heap.size) → wpList P ops Q rest (a.put o.dst v') w') : wpList P ops Q (o :: rest) a w := by
  refine wpList_plain hgd fun K hK => ?_
  obtain ⟨v', w', hrun, q1, q2, q3⟩ := run_more w base t o.type e ht hinfo hzs hk0 v S hown u T hT hk hone hn hb hbase
  unfold Oper.wp
  simp [execOp, ho, resolve, invoke, builtin, hs, hx, hrun, Result.andThen]
  exact hK _ _ (h v' w' q1 q2 q3)
end Go.Proofs.YthhpamaeibjpaaaDoor
end
section
namespace Go.Proofs.YthhpamaeibjpaaaDoor
open Go.RowKit Go.Maps Go.Sort
theorem flat_set {α : Type} {enc : α → List Value} {k : Nat} (hk : ∀ x, (enc x).length = k) : ∀ (S : List α) (i : Nat) (x x' : α) (j : Nat) (u : Value), S[i]? = some x → j < k → enc x' = (enc x).set j u → (S.set i x').flatMap enc = (S.flatMap enc).set (i * k + j) u
  | [], i, x, x', j, u, h, _, _ => by simp at h
  | y :: S, 0, x, x', j, u, h, hj, he => by
    simp only [List.getElem?_cons_zero, Option.some.injEq] at h
    subst h
    rw [List.set_cons_zero, List.flatMap_cons, List.flatMap_cons, he, List.set_append_left _ _ (by rw [hk]; omega)]
    simp
  | y :: S, i + 1, x, x', j, u, h, hj, he => by
    rw [List.getElem?_cons_succ] at h
    rw [List.set_cons_succ, List.flatMap_cons, List.flatMap_cons, flat_set hk S i x x' j u h hj he, List.set_append_right _ _ (by rw [hk, Nat.succ_mul]; omega)]
    congr 2
    rw [hk, Nat.succ_mul]; omega
theorem owns_cell {w : World} {v : Value} {base : Nat} {e : TypeId} {α : Type} {enc : α → List Value} {k : Nat} {S : List α} (h : w.ownsRow base e k v S.length (S.flatMap enc)) (hk : ∀ x, (enc x).length = k) (hS : S ≠ []) : ∃ g cap, v = .slice (some ⟨g, 0, none⟩) S.length cap ∧ base ≤ g ∧ g < w.heap.size ∧ S.length ≤ cap ∧ (∀ j, w.frozen? ⟨g, j, none⟩ = false) ∧
    ∀ i x j u, S[i]? = some x → (enc x)[j]? = some u → w.cell? ⟨g, i * k + j, none⟩ = some u := by
  have hsl := SliceIs.of_owns h rfl
  obtain ⟨a, cap0, hv, _, _, hc⟩ := hsl.at hk
  rcases h.2 with ⟨rfl, h0⟩ | ⟨g, cap, cur, rfl, hb, hg, hnc, hcm, hcs, htake⟩
  · exact absurd (List.eq_nil_of_length_eq_zero h0) hS
  · obtain ⟨g', off, ha, _, hlt, hcells⟩ := hc hS
    cases hv
    cases ha
    refine ⟨g, _, rfl, hb, hlt, hnc, fun j => by simp [World.frozen?, hg], fun i x j u hi hj => ?_⟩
    have := hcells i x j u hi hj
    rwa [Nat.zero_add] at this
theorem owns_setAt {w : World} {base g n cap : Nat} {e : TypeId} {α : Type} {enc : α → List Value} {k : Nat} {S : List α} (h : w.ownsRow base e k (.slice (some ⟨g, 0, none⟩) n cap) S.length (S.flatMap enc)) (hk : ∀ x, (enc x).length = k) (i : Nat) (x x' : α) (j : Nat) (u : Value)
    (hx : S[i]? = some x) (hj : j < k) (he : enc x' = (enc x).set j u) : (w.setCell ⟨g, i * k + j, none⟩ u).ownsRow base e k (.slice (some ⟨g, 0, none⟩) n cap) (S.set i x').length ((S.set i x').flatMap enc) := by
  rcases h.2 with ⟨hv, _⟩ | ⟨g', cap', cur, hv, hb, hg, hnc, hcm, hcs, htake⟩
  · cases hv
  · cases hv
    refine ⟨by rw [flat_len hk], .inr ⟨g, cap, cur.setIfInBounds (i * k + j) u, by rw [List.length_set], hb, ?_, by rw [List.length_set]; exact hnc, hcm, by simpa using hcs, ?_⟩⟩
    · simp [World.setCell, Array.getElem?_modify, hg]
    · rw [flat_set hk S i x x' j u hx hj he, List.length_set, ← htake]
      simp only [Array.toList_setIfInBounds]
      rw [List.take_set]
end Go.Proofs.YthhpamaeibjpaaaDoor
end
