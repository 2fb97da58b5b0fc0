/- append to a row of one's own: the old slice still owns its elements. -/
import Derived.Test.YtcbccogpogdbmaaLg3
import Derived.Test.YtcbccogpogdbmaaRelX
namespace Go.Proofs.Ytcbccogpogdbmaa
open Go.RowKit Go.Maps Go.Lib Go.Sort
theorem run_push_keep {α : Type} {enc : α → List Value} {k : Nat} {P : Program} (w : World) (t ty e : TypeId) {z : Value} {bytes : Nat} (base : Nat) (ht : P.underlying t = some (.slice e)) (hinfo : (P.info? e).map (fun i => (i.zero, i.size, i.bytes)) = some (some z, k, bytes)) (hzs : z.cells.size = k) (hk0 : 0 < k)
    (v : Value) (S : List α) (hown : w.ownsRow base e k v S.length (S.flatMap enc)) (y : α) (b : Nat) {cs : Array Value} {e' : TypeId} (hb : w.heap[b]? = some (.cells cs e' (0, 0))) (hcs : cs.toList = enc y) (hk : ∀ x, (enc x).length = k) (hone : ∀ u ∈ enc y, u.oneCell' = true)
    (hn : S.length < 1099511627776) (hby : bytes ≤ 100) (hbase : base ≤ w.heap.size) :
    ∃ g cap w', (Builtin.append_ #[t, t] ty #[v, .slice (some ⟨b, 0, none⟩) 1 1]).run P w = .ok (.slice (some ⟨g, 0, none⟩) (S.length + 1) cap) w' ∧ w'.ownsRow base e k (.slice (some ⟨g, 0, none⟩) (S.length + 1) cap) (S ++ [y]).length ((S ++ [y]).flatMap enc) ∧
      Fr v.ownBlock.toList w w' ∧ w'.ownsRow base e k v S.length (S.flatMap enc) ∧ (∀ v', w.ownsRow base e k v' (S.length + 1) ((S ++ [y]).flatMap enc) → w'.ownsRow base e k v' (S.length + 1) ((S ++ [y]).flatMap enc)) ∧ (v.ownBlock = some g ∨ g = w.heap.size) := by
  obtain ⟨i, hi, hz0, hz1, hz2⟩ := info_parts hinfo
  have hle : (S.length + 1) * i.bytes ≤ 140737488355328 := by
    have : (S.length + 1) * i.bytes ≤ 1099511627776 * 100 := Nat.mul_le_mul (by omega) (by omega)
    omega
  obtain ⟨v', w', hr, h2, h3, _, h5⟩ := run_append_own_at (P := P) w base t ty e i z k i.bytes ht hi hz0 hz1 rfl hzs hk0 v S.length (S.flatMap enc) hown ⟨b, 0, none⟩ 1 1 (enc y) (by rw [hk]; omega) (by rw [← hcs]; exact World.news_of_block hb) hone (by unfold maxLen; omega) hle hbase
  obtain ⟨g, cap, rfl, _, hlt⟩ := h2.form (by omega)
  refine ⟨g, cap, w', hr, by rw [List.flatMap_append, List.length_append]; simpa using h2, Fr.of_grown h3, ?_, ?_, ?_⟩
  · rcases hown.2 with ⟨rfl, h0⟩ | ⟨g0, cap0, cur, rfl, hbg, hg, hnc, hcm, hcs0, htake⟩
    · exact ⟨hown.1, .inl ⟨rfl, h0⟩⟩
    · have hxl : (S.flatMap enc).length = S.length * k := hown.1
      by_cases hroom : S.length + 1 ≤ cap0
      · have hfit : S.length * i.size + (enc y).length ≤ cur.size := by rw [hk, hcs0, hz1, ← Nat.succ_mul]; exact Nat.mul_le_mul_right _ hroom
        have hr2 := run_append_room (P := P) w t ty e i ht hi g0 S.length cap0 cur hg ⟨b, 0, none⟩ 1 1 (enc y) (by rw [hk, hz1]; omega) (by rw [← hcs]; exact World.news_of_block hb) hone hroom hfit
        rw [hr] at hr2
        injection hr2 with hr3 hr4
        subst hr4
        refine ⟨hown.1, .inr ⟨g0, cap0, _, rfl, hbg, setRow_heap w g0 cur _ e _ hg, hnc, hcm, ?_, ?_⟩⟩
        · simp only [List.size_toArray, List.length_append, List.length_take, List.length_drop, Array.length_toList]
          omega
        · rw [hz1, htake]
          simp only [List.append_assoc]
          rw [← hxl]
          exact List.take_left
      · have holds : ∀ j u, (S.flatMap enc)[j]? = some u → w.cell? ((⟨g0, 0, none⟩ : Addr).add j) = some u := hown.cells (g := g0) rfl
        have hr2 := run_append_grow (P := P) w t ty e i z ht hi hz0 ⟨g0, 0, none⟩ S.length cap0 (S.flatMap enc) (by rw [hz1]; exact hxl) holds ⟨b, 0, none⟩ 1 1 (enc y) (by rw [hk, hz1]; omega) (by rw [← hcs]; exact World.news_of_block hb) (by omega) (by omega) (growslice_fits (by omega) hle)
        rw [hr] at hr2
        injection hr2 with hr3 hr4
        subst hr4
        exact owns_fr2 hown (((Fr.refl [] w).drew).alloc _) (by simp)
  · intro v' hv'
    rcases hown.2 with ⟨rfl, h0⟩ | ⟨g0, cap0, cur, rfl, hbg, hg, hnc, hcm, hcs0, htake⟩
    · exact owns_fr2 hv' (Fr.of_grown h3) (by simp [Value.ownBlock])
    · have hxl : (S.flatMap enc).length = S.length * k := hown.1
      by_cases hroom : S.length + 1 ≤ cap0
      · by_cases hg' : v'.ownBlock = some g0
        · have hfit : S.length * i.size + (enc y).length ≤ cur.size := by rw [hk, hcs0, hz1, ← Nat.succ_mul]; exact Nat.mul_le_mul_right _ hroom
          have hr2 := run_append_room (P := P) w t ty e i ht hi g0 S.length cap0 cur hg ⟨b, 0, none⟩ 1 1 (enc y) (by rw [hk, hz1]; omega) (by rw [← hcs]; exact World.news_of_block hb) hone hroom hfit
          rw [hr] at hr2
          injection hr2 with hr3 hr4
          subst hr4
          rcases hv'.2 with ⟨rfl, _⟩ | ⟨g1, cap1, cur1, rfl, hbg1, hg1, hnc1, hcm1, hcs1, _⟩
          · simp [Value.ownBlock] at hg'
          · have e1 : g1 = g0 := by simpa [Value.ownBlock] using hg'
            subst e1
            rw [hg] at hg1
            injection hg1 with hg1
            injection hg1 with hg1 _ _
            subst hg1
            refine ⟨hv'.1, .inr ⟨g1, cap1, _, rfl, hbg1, setRow_heap w g1 cur _ e _ hg, hnc1, hcm1, ?_, ?_⟩⟩
            · simp only [List.size_toArray, List.length_append, List.length_take, List.length_drop, Array.length_toList]
              omega
            · rw [hz1, htake, ← hv'.1, List.flatMap_append]
              simp only [List.flatMap_cons, List.flatMap_nil, List.append_nil]
              exact List.take_left
        · refine owns_fr2 hv' (Fr.of_grown h3) (fun g' h1 h2 => hg' ?_)
          have : g' = g0 := by simpa [Value.ownBlock] using h2
          rw [h1, this]
      · have holds : ∀ j u, (S.flatMap enc)[j]? = some u → w.cell? ((⟨g0, 0, none⟩ : Addr).add j) = some u := hown.cells (g := g0) rfl
        have hr2 := run_append_grow (P := P) w t ty e i z ht hi hz0 ⟨g0, 0, none⟩ S.length cap0 (S.flatMap enc) (by rw [hz1]; exact hxl) holds ⟨b, 0, none⟩ 1 1 (enc y) (by rw [hk, hz1]; omega) (by rw [← hcs]; exact World.news_of_block hb) (by omega) (by omega) (growslice_fits (by omega) hle)
        rw [hr] at hr2
        injection hr2 with hr3 hr4
        subst hr4
        exact owns_fr2 hv' (((Fr.refl [] w).drew).alloc _) (by simp)
  · rcases h5 with h5 | h5
    · exact .inl (by rw [← h5]; rfl)
    · right
      simpa [Value.ownBlock] using h5
theorem wpList_push_keep {α : Type} {enc : α → List Value} {k : Nat} {P : Program} {ops : Array Oper} {rest : List Oper} {o : Oper} {a : Act} {Q : Exit → Act → World → Prop} (w : World) (hgd : o.guard = none) (s x : Operand) (t : TypeId)
    (ho : o.op = .call { callee := .builtin .append, args := #[s, x], argTypes := #[t, t] }) (base : Nat) (e : TypeId) {z : Value} {bytes : Nat} (ht : P.underlying t = some (.slice e)) (hinfo : (P.info? e).map (fun i => (i.zero, i.size, i.bytes)) = some (some z, k, bytes)) (hzs : z.cells.size = k) (hk0 : 0 < k)
    (v : Value) (S : List α) (hs : a.eval s = v) (hown : w.ownsRow base e k v S.length (S.flatMap enc)) (y : α) (b : Nat) {cs : Array Value} {e' : TypeId} (hx : a.eval x = .slice (some ⟨b, 0, none⟩) 1 1) (hb : w.heap[b]? = some (.cells cs e' (0, 0))) (hcs : cs.toList = enc y) (hk : ∀ x, (enc x).length = k) (hone : ∀ u ∈ enc y, u.oneCell' = true)
    (hn : S.length < 1099511627776) (hby : bytes ≤ 100) (hbase : base ≤ w.heap.size)
    (h : ∀ g cap w', w'.ownsRow base e k (.slice (some ⟨g, 0, none⟩) (S.length + 1) cap) (S ++ [y]).length ((S ++ [y]).flatMap enc) → Fr v.ownBlock.toList w w' → w'.ownsRow base e k v S.length (S.flatMap enc) → (∀ v', w.ownsRow base e k v' (S.length + 1) ((S ++ [y]).flatMap enc) → w'.ownsRow base e k v' (S.length + 1) ((S ++ [y]).flatMap enc)) → (v.ownBlock = some g ∨ g = w.heap.size) → wpList P ops Q rest (a.put o.dst (.slice (some ⟨g, 0, none⟩) (S.length + 1) cap)) w') : wpList P ops Q (o :: rest) a w := by
  refine wpList_plain hgd fun K hK => ?_
  obtain ⟨g, cap, w', hrun, q1, q2, q3, q4, q5⟩ := run_push_keep w t o.type e base ht hinfo hzs hk0 v S hown y b hb hcs hk hone hn hby hbase
  unfold Oper.wp
  simp [execOp, ho, resolve, invoke, builtin, hs, hx, hrun, Result.andThen]
  exact hK _ _ (h g cap w' q1 q2 q3 q4 q5)
end Go.Proofs.Ytcbccogpogdbmaa
