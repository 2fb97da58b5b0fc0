/- Slices of a call's own: an append that says where the new row lies. -/
import Derived.Test.YtcbccogpogdbmaaLst
import Derived.Maps.AppendAt
namespace Go.Proofs.Ytcbccogpogdbmaa
open Go.RowKit Go.Maps Go.Sort
/-- 'l = append(l, y)' on a slice of the call's own, of elements of k cells; the new row is the old one, or new. -/
theorem wpList_push2 {α : Type} {enc : α → List Value} {k : Nat} {P : Program} {ops : Array Oper} {rest : List Oper} {o : Oper} {a : Act} {Q : Exit → Act → World → Prop} (w0 : World) (cs : Array Value) (e' : TypeId) (hgd : o.guard = none) (s x : Operand) (t : TypeId)
    (ho : o.op = .call { callee := .builtin .append, args := #[s, x], argTypes := #[t, t] })
    (base : Nat) (e : TypeId) {z : Value} {bytes : Nat} (ht : P.underlying t = some (.slice e)) (hinfo : (P.info? e).map (fun i => (i.zero, i.size, i.bytes)) = some (some z, k, bytes)) (hzs : z.cells.size = k) (hk0 : 0 < k)
    (v : Value) (S : List α) (hs : a.eval s = v) (hown : w0.ownsRow base e k v S.length (S.flatMap enc))
    (y : α) (hcs : cs.toList = enc y) (hk : ∀ x, (enc x).length = k) (hone : ∀ u ∈ enc y, u.oneCell' = true) (hx : a.eval x = .slice (some ⟨w0.heap.size, 0, none⟩) 1 1)
    (hn : S.length < 1099511627776) (hb : bytes ≤ 100) (hbase : base ≤ w0.heap.size)
    (h : ∀ v' w', w'.ownsRow base e k v' (S ++ [y]).length ((S ++ [y]).flatMap enc) → Fr v.ownBlock.toList w0 w' → (v'.ownBlock = v.ownBlock ∨ v'.ownBlock = some (w0.heap.size + 1)) → wpList P ops Q rest (a.put o.dst v') w') : wpList P ops Q (o :: rest) a (w0.alloc (.cells cs e')) := by
  obtain ⟨i, hi, hz0, hz1, hz2⟩ := info_parts hinfo
  refine wpList_append_own_at _ hgd s x t ho base e i z k bytes ht hi hz0 hz1 hz2 hzs hk0 v S.length (S.flatMap enc) hs (hown.alloc _) ⟨w0.heap.size, 0, none⟩ 1 1 (enc y) hx (by rw [hk]; omega) ?_ hone (by unfold maxLen; omega) ?_ (by simp; omega) ?_
  · intro j u hj
    rw [← hcs] at hj
    exact cells_new w0 cs e' j u hj
  · have : (S.length + 1) * bytes ≤ 1099511627776 * 100 := Nat.mul_le_mul (by omega) hb
    omega
  · intro v' w' h1 h2 _ h4
    refine h v' w' ?_ ?_ (by simpa using h4)
    · rw [List.flatMap_append, List.length_append]
      simpa using h1
    · have h3 : Fr [] w0 (w0.alloc (.cells cs e')) := (Fr.refl [] w0).alloc _
      refine h3.mono (by simp) |>.andThen (Fr.of_grown h2) ?_
      intro t ht
      exact .inl ht
theorem owns_fr2 {w w' : World} {v : Value} {k : Nat} {base : Nat} {e : TypeId} {n : Nat} {xs : List Value} {T : List Nat} (h : w.ownsRow base e k v n xs) (hf : Fr T w w') (hT : ∀ g, v.ownBlock = some g → g ∉ T) : w'.ownsRow base e k v n xs := by
  refine ⟨h.1, ?_⟩
  rcases h.2 with h0 | ⟨g, cap, cur, rfl, hb, hg, rest⟩
  · exact .inl h0
  · exact .inr ⟨g, cap, cur, rfl, hb, hf.keep hg (hT g rfl), rest⟩
end Go.Proofs.Ytcbccogpogdbmaa
