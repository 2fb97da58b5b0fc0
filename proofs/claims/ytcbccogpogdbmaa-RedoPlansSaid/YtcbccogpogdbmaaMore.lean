/- Slices: append of a whole slice; s[:i], s[i:]. -/
import Derived.Test.YtcbccogpogdbmaaLst2
namespace Go.Proofs.Ytcbccogpogdbmaa
open Go.RowKit Go.Maps Go.Sort
theorem run_append_no {P : Program} {w : World} (base : Nat) (t ty e : TypeId) (i : TypeInfo) (size : Nat) (ht : P.underlying t = some (.slice e)) (hi : P.info? e = some i)
    (v : Value) (n : Nat) (xs : List Value) (hown : w.ownsRow base e size v n xs) (c : Nat) : (Builtin.append_ #[t, t] ty #[v, .slice none 0 c]).run P w = .ok v w := by
  rcases hown.2 with ⟨rfl, rfl⟩ | ⟨g, cap, cur, rfl, _, _, hnc, _⟩
  · simp [Builtin.append_, run_underlying ht, sizeOf, typeInfo, hi, Builtin.lenOf, Builtin.firstCells]
  · simp [Builtin.append_, run_underlying ht, sizeOf, typeInfo, hi, Builtin.lenOf, Builtin.firstCells, hnc, storeCells]
/-- 'l = append(l, xs...)' on a slice of the call's own; xs comes in, nil or not. -/
theorem run_more {α : Type} {enc : α → List Value} {k : Nat} {P : Program} (w : World) (base : Nat) (t ty e : TypeId) {z : Value} {bytes : Nat} (ht : P.underlying t = some (.slice e)) (hinfo : (P.info? e).map (fun i => (i.zero, i.size, i.bytes)) = some (some z, k, bytes)) (hzs : z.cells.size = k) (hk0 : 0 < k)
    (v : Value) (S : List α) (hown : w.ownsRow base e k v S.length (S.flatMap enc)) {B : Nat → Prop} (u : Value) (T : List α) (hT : SliceIs w B enc u T) (hk : ∀ x, (enc x).length = k) (hone : ∀ x, ∀ u ∈ enc x, u.oneCell' = true)
    (hn : S.length + T.length < 1099511627776) (hb : bytes ≤ 100) (hbase : base ≤ w.heap.size) :
    ∃ v' w', (Builtin.append_ #[t, t] ty #[v, u]).run P w = .ok v' w' ∧ w'.ownsRow base e k v' (S ++ T).length ((S ++ T).flatMap enc) ∧ Fr v.ownBlock.toList w w' ∧ (v'.ownBlock = v.ownBlock ∨ v'.ownBlock = some w.heap.size) := by
  obtain ⟨i, hi, hz0, hz1, hz2⟩ := info_parts hinfo
  obtain ⟨a, cap, rfl, h1, h2, h3⟩ := hT
  cases a with
  | none =>
    have hT : T = [] := by
      rcases h3 with h3 | ⟨g, off, ha, _⟩
      · exact h3
      · cases ha
    subst hT
    exact ⟨v, w, run_append_no base t ty e i k ht hi v S.length _ hown cap, by simpa using hown, Fr.refl _ _, .inl rfl⟩
  | some ad =>
    have hcells : ∀ j u, (T.flatMap enc)[j]? = some u → w.cell? (ad.add j) = some u := by
      intro j u hj
      rcases h3 with h3 | ⟨g, off, ha, _, _, hc⟩
      · subst h3; simp at hj
      · cases ha
        have := hc j u hj
        have e : (⟨g, off, none⟩ : Addr).add j = ⟨g, off + j, none⟩ := by unfold Addr.add; split <;> simp_all
        rw [e]; exact this
    have hb2 : (S.length + T.length) * bytes ≤ 140737488355328 := by
      have : (S.length + T.length) * bytes ≤ 1099511627776 * 100 := Nat.mul_le_mul (by omega) hb
      omega
    obtain ⟨v', w', hrun, q1, q2, _, q4⟩ := run_append_own_at (P := P) w base t ty e i z k bytes ht hi hz0 hz1 hz2 hzs hk0 v S.length (S.flatMap enc) hown ad T.length cap (T.flatMap enc) (flat_len hk T) hcells (by
      intro u hu
      obtain ⟨x, _, hx⟩ := List.mem_flatMap.1 hu
      exact hone x u hx) (by unfold maxLen; omega) hb2 hbase
    exact ⟨v', w', hrun, by rw [List.flatMap_append, List.length_append]; exact q1, Fr.of_grown q2, q4⟩
theorem wpList_more {α : Type} {enc : α → List Value} {k : Nat} {P : Program} (w : World) {ops : Array Oper} {rest : List Oper} {o : Oper} {a : Act} {Q : Exit → Act → World → Prop} (hgd : o.guard = none) (s x : Operand) (t : TypeId)
    (ho : o.op = .call { callee := .builtin .append, args := #[s, x], argTypes := #[t, t] })
    (base : Nat) (e : TypeId) {z : Value} {bytes : Nat} (ht : P.underlying t = some (.slice e)) (hinfo : (P.info? e).map (fun i => (i.zero, i.size, i.bytes)) = some (some z, k, bytes)) (hzs : z.cells.size = k) (hk0 : 0 < k)
    (v : Value) (S : List α) (hs : a.eval s = v) (hown : w.ownsRow base e k v S.length (S.flatMap enc)) {B : Nat → Prop} (u : Value) (T : List α) (hx : a.eval x = u) (hT : SliceIs w B enc u T) (hk : ∀ x, (enc x).length = k) (hone : ∀ x, ∀ u ∈ enc x, u.oneCell' = true)
    (hn : S.length + T.length < 1099511627776) (hb : bytes ≤ 100) (hbase : base ≤ w.heap.size)
    (h : ∀ v' w', w'.ownsRow base e k v' (S ++ T).length ((S ++ T).flatMap enc) → Fr v.ownBlock.toList w w' → (v'.ownBlock = v.ownBlock ∨ v'.ownBlock = some w.heap.size) → wpList P ops Q rest (a.put o.dst v') w') : wpList P ops Q (o :: rest) a w := by
  refine wpList_plain hgd fun K hK => ?_
  obtain ⟨v', w', hrun, q1, q2, q3⟩ := run_more w base t o.type e ht hinfo hzs hk0 v S hown u T hT hk hone hn hb hbase
  unfold Oper.wp
  simp [execOp, ho, resolve, invoke, builtin, hs, hx, hrun, Result.andThen]
  exact hK _ _ (h v' w' q1 q2 q3)
/-- 's[:i]', 's[i:]' of what a slice has. -/
theorem SliceIs.take {w : World} {B : Nat → Prop} {α : Type} {enc : α → List Value} {a : Option Addr} {n cap : Nat} {S : List α} (h : SliceIs w B enc (.slice a n cap) S) (i : Nat) (hi : i ≤ n) : SliceIs w B enc (.slice a i cap) (S.take i) := by
  obtain ⟨a', cap', hv, h1, h2, h3⟩ := h
  cases hv
  refine ⟨a, cap, by rw [List.length_take]; congr 1; omega, by rw [List.length_take]; omega, h2, ?_⟩
  rcases h3 with h3 | ⟨g, off, ha, hb, hg, hc⟩
  · left; rw [h3]; simp
  · right
    refine ⟨g, off, ha, hb, hg, fun j u hj => hc j u ?_⟩
    have : S.flatMap enc = (S.take i).flatMap enc ++ (S.drop i).flatMap enc := by rw [← List.flatMap_append, List.take_append_drop]
    rw [this, List.getElem?_append_left (List.getElem?_eq_some_iff.1 hj).1]
    exact hj
theorem SliceIs.drop {w : World} {B : Nat → Prop} {α : Type} {enc : α → List Value} {k : Nat} {a : Option Addr} {n cap : Nat} {S : List α} (h : SliceIs w B enc (.slice a n cap) S) (hk : ∀ x, (enc x).length = k) (i : Nat) (hi : i ≤ n) : SliceIs w B enc (.slice (if cap = i then a else a.map (·.add (i * k))) (n - i) (cap - i)) (S.drop i) := by
  obtain ⟨a', cap', hv, h1, h2, h3⟩ := h
  cases hv
  refine ⟨_, _, by rw [List.length_drop], by rw [List.length_drop]; omega, by omega, ?_⟩
  by_cases hS : S.drop i = []
  · exact .inl hS
  · right
    have hl : i < S.length := by
      refine Nat.lt_of_not_le fun hle => hS ?_
      exact List.drop_of_length_le hle
    rcases h3 with h3 | ⟨g, off, rfl, hb, hg, hc⟩
    · subst h3; simp at hl
    · refine ⟨g, off + i * k, ?_, hb, hg, fun j u hj => ?_⟩
      · rw [if_neg (by omega)]
        have e : (⟨g, off, none⟩ : Addr).add (i * k) = ⟨g, off + i * k, none⟩ := by unfold Addr.add; split <;> simp_all
        simp [e]
      · have : S.flatMap enc = (S.take i).flatMap enc ++ (S.drop i).flatMap enc := by rw [← List.flatMap_append, List.take_append_drop]
        have hlen : ((S.take i).flatMap enc).length = i * k := by rw [flat_len hk, List.length_take]; congr 1; omega
        have h4 := hc (i * k + j) u (by rw [this, List.getElem?_append_right (by omega), hlen, Nat.add_sub_cancel_left]; exact hj)
        rwa [← Nat.add_assoc] at h4
end Go.Proofs.Ytcbccogpogdbmaa
