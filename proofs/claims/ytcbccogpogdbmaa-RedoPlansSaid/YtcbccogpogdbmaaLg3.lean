/- append to a full slice; redo.Log's block, Last, Kept, Append. -/
import Derived.Test.YtcbccogpogdbmaaLg2
namespace Go.Proofs.Ytcbccogpogdbmaa
open Go.RowKit Go.Maps Go.Lib Go.Sort
attribute [local go_sem ↓] Go.wp_at_zero Go.wp_at_succ
theorem LogAt.fr {G : Nat → Prop} {w w' : World} {lb ab : Nat} {base slots : Nat} {last : Int} {K F : List Rec} {S : List Nat} (h : LogAt G w lb ab base slots last K F) (hf : Fr S w w') (h2 : ∀ g ∈ S, ¬ G g) : LogAt G w' lb ab base slots last K F := by
  obtain ⟨hB, vk, vf, q1, q2, qG, q3⟩ := h
  exact ⟨hB, vk, vf, hf.keep q1 (fun hm => h2 _ hm hB), owns_fr2 q2 hf (fun g hg hm => h2 g hm (qG g hg)), qG, q3.fr hf (fun g hg _ hm => h2 g hm hg.1)⟩
theorem LogAt.imp {G G' : Nat → Prop} {w : World} {lb ab : Nat} {base slots : Nat} {last : Int} {K F : List Rec} (h : LogAt G w lb ab base slots last K F) (hG : ∀ g, g < w.heap.size → G g → G' g) : LogAt G' w lb ab base slots last K F := by
  obtain ⟨hB, vk, vf, q1, q2, qG, q3⟩ := h
  exact ⟨hG _ (lt_of_block q1) hB, vk, vf, q1, q2, fun g hg => hG g (q2.lt g hg).2 (qG g hg), q3.imp (fun g hl hg => ⟨hG g hl hg.1, hg.2⟩)⟩
theorem LogAt.at {G : Nat → Prop} {w : World} {lb ab : Nat} {base slots : Nat} {last : Int} {K F : List Rec} (h : LogAt G w lb ab base slots last K F) : G lb ∧ lb < w.heap.size := by
  obtain ⟨hB, vk, vf, q1, -⟩ := h
  exact ⟨hB, lt_of_block q1⟩
/-- append of one element to a slice that has no room. -/
theorem run_fresh {α : Type} {enc : α → List Value} {k : Nat} {P : Program} (w : World) (t ty e : TypeId) {z : Value} {bytes : Nat} (ht : P.underlying t = some (.slice e)) (hinfo : (P.info? e).map (fun i => (i.zero, i.size, i.bytes)) = some (some z, k, bytes))
    (ad : Option Addr) (S : List α) {B : Nat → Prop} (hS : SliceIs w B enc (.slice ad S.length S.length) S) (y : α) (b : Nat) {cs : Array Value} {e' : TypeId} (hb : w.heap[b]? = some (.cells cs e' (0, 0))) (hcs : cs.toList = enc y) (hk : ∀ x, (enc x).length = k) (hone : ∀ u ∈ enc y, u.oneCell' = true)
    (hn : S.length < 1099511627776) (hby : bytes ≤ 100) :
    ∃ cap w', (Builtin.append_ #[t, t] ty #[.slice ad S.length S.length, .slice (some ⟨b, 0, none⟩) 1 1]).run P w = .ok (.slice (some ⟨w.heap.size, 0, none⟩) (S.length + 1) cap) w' ∧ SliceIs w' (fun g => w.heap.size ≤ g) enc (.slice (some ⟨w.heap.size, 0, none⟩) (S.length + 1) cap) (S ++ [y]) ∧ Fr [] w w' := by
  obtain ⟨i, hi, hz0, hz1, hz2⟩ := info_parts hinfo
  have hold : (Builtin.firstCells i.size S.length (.slice ad S.length S.length)).run P w.drew = .ok (S.flatMap enc).toArray w.drew := by
    obtain ⟨a', cap', hv, h1, h2, h3⟩ := hS
    cases hv
    cases ad with
    | none =>
      rcases h3 with h3 | ⟨g, off, ha, _⟩
      · subst h3
        exact run_firstCells_none w.drew _ _ _ _
      · cases ha
    | some ad =>
      refine run_firstCells_some w.drew i.size S.length ad _ _ _ (by rw [flat_len hk, hz1]) (fun j u hj => ?_)
      rcases h3 with h3 | ⟨g, off, ha, _, _, hc⟩
      · subst h3; simp at hj
      · cases ha
        have e1 : (⟨g, off, none⟩ : Addr).add j = ⟨g, off + j, none⟩ := by unfold Addr.add; split <;> simp_all
        rw [e1]
        exact hc j u hj
  have hsrc : Src P i.size t (.slice (some ⟨b, 0, none⟩) 1 1) 1 (enc y) w := Src.ofSlice w ht ⟨b, 0, none⟩ 1 1 (enc y) (by rw [hk, hz1]; omega) (by rw [← hcs]; exact World.news_of_block hb) hone
  have hle : (S.length + 1) * i.bytes ≤ 140737488355328 := by
    have : (S.length + 1) * i.bytes ≤ 1099511627776 * 100 := Nat.mul_le_mul (by omega) (by omega)
    omega
  refine ⟨_, _, run_append_grow_src (P := P) w t t ty e i z ht hi hz0 ad S.length S.length _ hold _ 1 (enc y) hsrc (by omega) (by omega) (growslice_fits (by omega) hle), ?_, ((Fr.refl [] w).drew).alloc _⟩
  refine ⟨_, _, by rw [List.length_append]; rfl, by rw [List.length_append]; exact grownCap_ge w _ _ e, grownCap_le_maxLen w _ _ e (by unfold maxLen; omega), .inr ⟨w.heap.size, 0, rfl, Nat.le_refl _, by simp, fun j u hj => ?_⟩⟩
  rw [List.flatMap_append] at hj
  simp only [List.flatMap_cons, List.flatMap_nil, List.append_nil] at hj
  rw [show w.heap.size = w.drew.heap.size from rfl, cell_at (heap_alloc_new w.drew _)]
  rw [Nat.zero_add, Array.getElem?_append_left (by have := (List.getElem?_eq_some_iff.1 hj).1; simpa using this)]
  simpa using hj
theorem wpList_fresh {α : Type} {enc : α → List Value} {k : Nat} {P : Program} {ops : Array Oper} {rest : List Oper} {o : Oper} {a : Act} {Q : Exit → Act → World → Prop} (w : World) (hgd : o.guard = none) (s x : Operand) (t : TypeId)
    (ho : o.op = .call { callee := .builtin .append, args := #[s, x], argTypes := #[t, t] }) (e : TypeId) {z : Value} {bytes : Nat} (ht : P.underlying t = some (.slice e)) (hinfo : (P.info? e).map (fun i => (i.zero, i.size, i.bytes)) = some (some z, k, bytes))
    (ad : Option Addr) (S : List α) (hs : a.eval s = .slice ad S.length S.length) {B : Nat → Prop} (hS : SliceIs w B enc (.slice ad S.length S.length) S) (y : α) (b : Nat) {cs : Array Value} {e' : TypeId} (hx : a.eval x = .slice (some ⟨b, 0, none⟩) 1 1) (hb : w.heap[b]? = some (.cells cs e' (0, 0))) (hcs : cs.toList = enc y) (hk : ∀ x, (enc x).length = k) (hone : ∀ u ∈ enc y, u.oneCell' = true)
    (hn : S.length < 1099511627776) (hby : bytes ≤ 100)
    (h : ∀ cap w', SliceIs w' (fun g => w.heap.size ≤ g) enc (.slice (some ⟨w.heap.size, 0, none⟩) (S.length + 1) cap) (S ++ [y]) → Fr [] w w' → wpList P ops Q rest (a.put o.dst (.slice (some ⟨w.heap.size, 0, none⟩) (S.length + 1) cap)) w') : wpList P ops Q (o :: rest) a w := by
  refine wpList_plain hgd fun K hK => ?_
  obtain ⟨cap, w', hrun, q1, q2⟩ := run_fresh w t o.type e ht hinfo ad S hS y b hb hcs hk hone hn hby
  unfold Oper.wp
  simp [execOp, ho, resolve, invoke, builtin, hs, hx, hrun, Result.andThen]
  exact hK _ _ (h cap w' q1 q2)
set_option maxRecDepth 100000 in
theorem block_any {w : World} {lb : Nat} {av vk vf : Value} {last : Int} (base slots : Nat) (h : w.heap[lb]? = some (.cells #[av, .int .i64 base, .int .i64 slots, .int .i64 last, vk, vf] 90 (0, 0))) (seq : Nat) (h1 : 1 ≤ seq) (h2 : seq ≤ 1099511627776) (h3 : 1 ≤ slots) (h4 : slots ≤ 20) (h5 : base ≤ 256) :
    Calls Try.prog 42 #[.pointer (some ⟨lb, 0, none⟩), .int .i64 seq] w fun e w' => e = .returned (.int .i64 ((base + (seq - 1) % slots * 3 : Nat) : Int)) ∧ Fr [] w w' := by
  have y0 := (show w.cell? ⟨lb, 1, none⟩ = some (.int .i64 base) from cell_at h)
  have y1 := (show w.cell? ⟨lb, 2, none⟩ = some (.int .i64 slots) from cell_at h)
  have ly := lt_of_block h
  have hm : ((seq : Int) - 1).tmod (slots : Int) = (((seq - 1) % slots : Nat) : Int) := by
    rw [Int.tmod_eq_emod_of_nonneg (by omega), show ((seq : Int) - 1) = ((seq - 1 : Nat) : Int) from by omega]
    rfl
  have hml : (seq - 1) % slots < slots := Nat.mod_lt _ (by omega)
  obtain ⟨q, hq⟩ : ∃ q, q = (seq - 1) % slots := ⟨_, rfl⟩
  rw [← hq] at hm hml ⊢
  clear h hq
  go_enter Try.func42, Try.ntmps42
  go_upto_region 1 with (fail)
  go_region
  go_wp2
  go_ret
  exact ⟨by simp, (Fr.refl _ _).drew⟩
set_option maxRecDepth 100000 in
theorem last_any {G : Nat → Prop} {w : World} {lb ab : Nat} {base slots : Nat} {last : Int} {K F : List Rec} (h : LogAt G w lb ab base slots last K F) :
    Calls Try.prog 19 #[.pointer (some ⟨lb, 0, none⟩)] w fun e w' => e = .returned (.int .i64 last) ∧ w' = w := by
  obtain ⟨_, vk, vf, h1, _, _⟩ := h
  have y0 := (show w.cell? ⟨lb, 3, none⟩ = some (.int .i64 last) from cell_at h1)
  have ly := lt_of_block h1
  clear h1
  go_enter Try.func19, Try.ntmps19
  go_wp2
  go_ret
  exact ⟨rfl, rfl⟩
set_option maxRecDepth 100000 in
theorem kept_any {G : Nat → Prop} {w : World} {lb ab : Nat} {base slots : Nat} {last : Int} {K F : List Rec} (h : LogAt G w lb ab base slots last K F) :
    Calls Try.prog 28 #[.pointer (some ⟨lb, 0, none⟩)] w fun e w' => e = .returned (.int .i64 K.length) ∧ w' = w := by
  obtain ⟨_, vk, vf, h1, h2, _⟩ := h
  obtain ⟨a, cap, rfl, _, _, _⟩ := SliceIs.of_owns h2 rfl
  have y0 := (show w.cell? ⟨lb, 4, none⟩ = some (.slice a K.length cap) from cell_at h1)
  have ly := lt_of_block h1
  clear h1 h2
  go_enter Try.func28, Try.ntmps28
  go_wp2
  go_ret
  exact ⟨rfl, rfl⟩
/-- What Append answers, and what is fresh then. -/
def appendP (slots : Nat) (last : Int) (K F : List Rec) (b s : Int) (d : ByteArray) : Int × Int × List Rec :=
  let r : Rec := (min (last + F.length + 1) 1099511627776, b, s, d)
  if errR r ≠ 0 then (0, errR r, F) else if 1099511627776 ≤ last + F.length then (0, 6, F) else if slots ≤ K.length + F.length then (0, 180, F) else (r.1, 0, F ++ [r])
set_option maxRecDepth 100000 in
set_option maxHeartbeats 4000000 in
set_option linter.constructorNameAsVariable false in
theorem append_any {G : Nat → Prop} {w : World} {lb ab : Nat} {base slots : Nat} {last : Int} {K F : List Rec} (h : LogAt G w lb ab base slots last K F) (hn : ∀ g, w.heap.size ≤ g → G g) (hs : slots ≤ 20) (hl0 : 0 ≤ last) (hl1 : last ≤ 1099511627776) (hK : K.length ≤ 1000) (hF : F.length ≤ 1000) (b s : Int) (d : ByteArray) :
    Calls Try.prog 17 #[.pointer (some ⟨lb, 0, none⟩), .int .i64 b, .int .i64 s, .string d] w fun e w' => e = .returned (.tuple #[.int .i64 (appendP slots last K F b s d).1, .int .i64 (appendP slots last K F b s d).2.1]) ∧ Fr [lb] w w' ∧ LogAt G w' lb ab base slots last K (appendP slots last K F b s d).2.2 := by
  have h' := Lib.hid h
  have hn' := Lib.hid hn
  clear hn
  obtain ⟨-, vk, vf, h1, h2, -, h3⟩ := h
  obtain ⟨ak, ck, rfl, _, hck, _⟩ := SliceIs.of_owns h2 rfl
  obtain ⟨af, cf, rfl, hcf, hcfm, hc3⟩ := h3
  have y3 := (show w.cell? ⟨lb, 3, none⟩ = some (.int .i64 last) from cell_at h1)
  have y2 := (show w.cell? ⟨lb, 2, none⟩ = some (.int .i64 slots) from cell_at h1)
  have y4 := (show w.cell? ⟨lb, 4, none⟩ = some (.slice ak K.length ck) from cell_at h1)
  have y5 := (show w.cell? ⟨lb, 5, none⟩ = some (.slice af F.length cf) from cell_at h1)
  have ly := lt_of_block h1
  obtain ⟨m, hm⟩ : ∃ m, m = min (last + F.length + 1) 1099511627776 := ⟨_, rfl⟩
  have hmb : m ≤ 1099511627776 := by omega
  have hmm := Lib.hid hm
  unfold appendP
  rw [← hm]
  dsimp only
  obtain ⟨X, hX⟩ : ∃ X, X = (w.alloc (.cells #[.int .i64 m, .int .i64 b, .int .i64 s, .string d] 23)).drew := ⟨_, rfl⟩
  have hFX : Fr [] w X := by rw [hX]; exact ((Fr.refl [] w).alloc _).drew
  have hbx : X.heap[w.heap.size]? = some (.cells #[.int .i64 m, .int .i64 b, .int .i64 s, .string d] 23 (0, 0)) := by rw [hX]; exact heap_alloc_new w _
  have hpar := parts_any (m, b, s, d) X
  unfold aggR at hpar
  dsimp only at hpar
  have hpar' := Lib.hid hpar; have hFX' := Lib.hid hFX; have hbx' := Lib.hid hbx; have hX' := Lib.hid hX; have h1' := Lib.hid h1; have hc3' := Lib.hid hc3
  clear hpar hFX hbx hX h1 h2 hc3 hm
  have x0 := (show X.cell? ⟨w.heap.size, 0, none⟩ = some (.int .i64 m) from cell_at hbx'.out)
  have x1 := (show X.cell? ⟨w.heap.size, 1, none⟩ = some (.int .i64 b) from cell_at hbx'.out)
  have x2 := (show X.cell? ⟨w.heap.size, 2, none⟩ = some (.int .i64 s) from cell_at hbx'.out)
  have x3 := (show X.cell? ⟨w.heap.size, 3, none⟩ = some (.string d) from cell_at hbx'.out)
  have lx := lt_of_block hbx'.out
  by_cases hE : errR (m, b, s, d) = 0
  · rw [if_neg (by simp [hE])]
    by_cases hn : 1099511627776 ≤ last + F.length
    · rw [if_pos hn]
      rw [hE] at hpar'
      go_enter Try.func17, Try.ntmps17
      go_upto_region 1 with (fail)
      go_region
      go_upto_region 3 with (fail)
      rw [← hmm.out, ← hX'.out]
      go_wp2_with (first | (go_at_call 9; refine hpar'.out.mono ?_; rintro e w2 ⟨v, rfl, hf2, _⟩; have hFw2 := hFX'.out.trans hf2; have z2 := hFw2.at0 y2; have z3 := hFw2.at0 y3; have z4 := hFw2.at0 y4; have z5 := hFw2.at0 y5; have b0 := hf2.at0 x0; have b1 := hf2.at0 x1; have b2 := hf2.at0 x2; have b3 := hf2.at0 x3; have zx := hf2.size; have zl := hFw2.size))
      go_ret2
      exact ⟨rfl, hFw2.mono (by simp), LogAt.fr h'.out hFw2 (by simp)⟩
    · rw [if_neg hn]
      rw [hE] at hpar'
      by_cases hfull : slots ≤ K.length + F.length
      · rw [if_pos hfull]
        go_enter Try.func17, Try.ntmps17
        go_upto_region 1 with (fail)
        go_region
        go_upto_region 3 with (fail)
        rw [← hmm.out, ← hX'.out]
        go_upto_region 8 with (first | (go_at_call 9; refine hpar'.out.mono ?_; rintro e w2 ⟨v, rfl, hf2, _⟩; have hFw2 := hFX'.out.trans hf2; have z2 := hFw2.at0 y2; have z3 := hFw2.at0 y3; have z4 := hFw2.at0 y4; have z5 := hFw2.at0 y5; have b0 := hf2.at0 x0; have b1 := hf2.at0 x1; have b2 := hf2.at0 x2; have b3 := hf2.at0 x3; have zx := hf2.size; have zl := hFw2.size))
        go_region
        go_wp2
        go_ret2
        exact ⟨rfl, hFw2.drew.mono (by simp), LogAt.fr h'.out hFw2.drew (by simp)⟩
      · rw [if_neg hfull]
        go_enter Try.func17, Try.ntmps17
        go_upto_region 1 with (fail)
        go_region
        go_upto_region 3 with (fail)
        rw [← hmm.out, ← hX'.out]
        go_upto_region 8 with (first | (go_at_call 9; refine hpar'.out.mono ?_; rintro e w2 ⟨v, rfl, hf2, _⟩; have hFw2 := hFX'.out.trans hf2; have z2 := hFw2.at0 y2; have z3 := hFw2.at0 y3; have z4 := hFw2.at0 y4; have z5 := hFw2.at0 y5; have b0 := hf2.at0 x0; have b1 := hf2.at0 x1; have b2 := hf2.at0 x2; have b3 := hf2.at0 x3; have zx := hf2.size; have zl := hFw2.size))
        go_region
        go_upto_region 10 with (fail)
        obtain ⟨Y, hY⟩ : ∃ Y, Y = w2.drew := ⟨_, rfl⟩
        have hFY : Fr [] w Y := by rw [hY]; exact hFw2.drew
        have hbY : Y.heap[w.heap.size]? = some (.cells #[.int .i64 m, .int .i64 b, .int .i64 s, .string d] 23 (0, 0)) := by rw [hY]; exact hf2.keep hbx'.out (by simp)
        have hlY : Y.heap[lb]? = some (.cells #[areaV ab, .int .i64 base, .int .i64 slots, .int .i64 last, .slice ak K.length ck, .slice af F.length cf] 90 (0, 0)) := by rw [hY]; exact hFw2.keep h1'.out (by simp)
        rw [← hY]
        clear z2 z3 z4 z5 b0 b1 b2 b3 y2 y3 y4 y5 x0 x1 x2 x3 hY
        have y5 := (show Y.cell? ⟨lb, 5, none⟩ = some (.slice af F.length cf) from cell_at hlY)
        have x0 := (show Y.cell? ⟨w.heap.size, 0, none⟩ = some (.int .i64 m) from cell_at hbY)
        have x1 := (show Y.cell? ⟨w.heap.size, 1, none⟩ = some (.int .i64 b) from cell_at hbY)
        have x2 := (show Y.cell? ⟨w.heap.size, 2, none⟩ = some (.int .i64 s) from cell_at hbY)
        have x3 := (show Y.cell? ⟨w.heap.size, 3, none⟩ = some (.string d) from cell_at hbY)
        have hzY := hFY.size
        have lb1 := lt_of_block hbY
        have hFY' := Lib.hid hFY; have hlY' := Lib.hid hlY; have hbY' := Lib.hid hbY
        clear hFY hlY hbY
        refine wp_region_rel 21 (fun w w' => Fr [] w w') (by kernel_rfl) (by kernel_rfl) (by kernel_rfl) (fun h k => h.trans k) (Fr.refl [] _).drew ?_
        simp only [List.take_succ_cons, List.take_zero, List.drop_succ_cons, List.drop_zero]
        iterate 17
          apply RelW.still
          · intro s' V hX
            have j0 := hX.at0 x0
            have j1 := hX.at0 x1
            have j2 := hX.at0 x2
            have j3 := hX.at0 x3
            have j5 := hX.at0 y5
            have jl := hX.size
            go_wp2
            refine ⟨rfl, rfl, Fr.refl _ _, ?_⟩
            simp only [slotOf, List.getElem?_toArray, List.getElem?_cons_succ, List.getElem?_cons_zero, Option.getD_some]
            rfl
          · intro s'
            simp only [Act.put, List.setIfInBounds_toArray, List.set_cons_succ, List.set_cons_zero]
            rfl
        apply RelW.owes (fun v V => ∃ g, v = .slice (some ⟨g, 0, none⟩) 1 1 ∧ V.heap[g]? = some (.cells #[.int .i64 m, .int .i64 b, .int .i64 s, .string d] 23 (0, 0)))
        · rintro v u u' hf ⟨g, rfl, hg⟩
          exact ⟨g, rfl, hf.keep hg (by simp)⟩
        · intro s' V hX hd
          clear hd
          go_wp2
          refine ⟨rfl, rfl, (Fr.refl [] V).alloc _, ?_⟩
          simp only [slotOf, List.getElem?_toArray, List.getElem?_cons_succ, List.getElem?_cons_zero, Option.getD_some]
          exact ⟨_, rfl, heap_alloc_new V _⟩
        · intro s'
          simp only [Act.put, List.setIfInBounds_toArray, List.set_cons_succ, List.set_cons_zero, Nat.zero_add, Nat.reduceAdd]
          rfl
        have hSY : SliceIs Y (fun _ => True) encR (.slice af F.length F.length) F := by
          refine ⟨af, F.length, rfl, Nat.le_refl _, Nat.le_trans hcf hcfm, ?_⟩
          rcases hc3'.out with h0 | ⟨g, off, ha, _, hg, hc⟩
          · exact .inl h0
          · exact .inr ⟨g, off, ha, trivial, by omega, fun j u hj => hFY'.out.at0 (hc j u hj)⟩
        have hSY' := Lib.hid hSY
        clear hSY
        apply RelW.owes (fun v V => ∃ g cap, v = .slice (some ⟨g, 0, none⟩) (F.length + 1) cap ∧ SliceIs V (fun g => Y.heap.size ≤ g) encR v (F ++ [(m, b, s, d)]))
        · rintro v u u' hf ⟨g, cap, rfl, hg⟩
          exact ⟨g, cap, rfl, hg.fr hf (by simp)⟩
        · intro s' V hX hd
          simp [depPhi, Region.binds] at hd
          have hSV' := Lib.hid (hSY'.out.fr hX (by simp))
          have hVs := hX.size
          obtain ⟨-, g, hg1, hg2⟩ := hd
          have hg2' := Lib.hid hg2
          clear hg2
          generalize s' 17 = v17 at hg1 ⊢
          subst hg1
          go_wp2_with (first | (at_builtin; refine wpList_fresh V rfl _ _ 55 rfl 23 Try.underlying55 infoR af F rfl hSV'.out (m, b, s, d) g rfl hg2'.out rfl encR_len (one_encR _) (by omega) (by omega) ?_; intro cap9 w9 hs9 hf9; have hs9' := Lib.hid hs9; have hf9' := Lib.hid hf9; clear hs9 hf9))
          refine ⟨rfl, rfl, hf9'.out, ?_⟩
          simp only [slotOf, List.getElem?_toArray, List.getElem?_cons_succ, List.getElem?_cons_zero, Option.getD_some]
          exact ⟨⟨_, _, rfl⟩, hs9'.out.imp (fun g _ hg => by omega)⟩
        · intro s'
          simp only [Act.put, List.setIfInBounds_toArray, List.set_cons_succ, List.set_cons_zero, Nat.zero_add, Nat.reduceAdd]
          rfl
        iterate 2
          apply RelW.still
          · intro s' V hX
            have j0 := hX.at0 x0
            have j1 := hX.at0 x1
            have j2 := hX.at0 x2
            have j3 := hX.at0 x3
            have j5 := hX.at0 y5
            have jl := hX.size
            go_wp2
            refine ⟨rfl, rfl, Fr.refl _ _, ?_⟩
            simp only [slotOf, List.getElem?_toArray, List.getElem?_cons_succ, List.getElem?_cons_zero, Option.getD_some]
            rfl
          · intro s'
            simp only [Act.put, List.setIfInBounds_toArray, List.set_cons_succ, List.set_cons_zero]
            rfl
        intro s' V hX hall
        dsimp only
        simp only [List.nil_append, List.cons_append, allPhi, Nat.zero_add, Nat.reduceAdd] at hall
        obtain ⟨-, -, -, -, -, -, -, -, -, -, -, -, -, -, -, -, -, -, ⟨g, cap, hg1, hg2⟩, -⟩ := hall
        generalize s' 18 = v18 at hg1 hg2 ⊢
        subst hg1
        have hlV := hX.keep hlY'.out (by simp)
        have j5 := (show V.cell? ⟨lb, 5, none⟩ = some (.slice af F.length cf) from cell_at hlV)
        have jz := (show V.frozen? ⟨lb, 5, none⟩ = false from frozen_at hlV)
        have j0 := hX.at0 x0
        have jl := hX.size
        have hlV' := Lib.hid hlV; have hg2' := Lib.hid hg2; have hX' := Lib.hid hX
        clear hlV hg2 hX
        go_wp2
        go_ret2
        have f9 : Fr [lb] V (V.setCell ⟨lb, 5, none⟩ (.slice (some ⟨g, 0, none⟩) (F.length + 1) cap)) := (Fr.refl _ _).setCell _ _ (.inl (by simp))
        have hFV : Fr [] w V := hFY'.out.trans hX'.out
        refine ⟨rfl, (hFV.mono (by simp)).trans f9, ?_⟩
        obtain ⟨hB9, vk9, vf9, q1, q2, qG9, q3⟩ := h'.out
        have e1 := hlV'.out
        rw [hFV.keep q1 (by simp)] at e1
        injection e1 with e1
        injection e1 with e1 _ _
        have e2 : vk9 = .slice ak K.length ck := by
          have := congrArg (fun a => a[4]?) e1
          simpa using this
        subst e2
        refine ⟨hB9, _, _, setCell_at hlV'.out _, ?_, qG9, ?_⟩
        · refine owns_fr2 (owns_fr2 q2 hFV (by simp)) f9 (fun g' hg' hm => ?_)
          exact owns_apart1 q2 q1 (by decide) (by rw [hg', show g' = lb from by simpa using hm]; simp)
        · exact (hg2'.out.fr f9 (fun g' h1 h2 hm => by
            have : g' = lb := by simpa using hm
            omega)).imp (fun g' _ h1 => ⟨hn'.out g' (by omega), by omega, fun e => by
            have := (q2.lt g' e).2
            omega⟩)
  · rw [if_pos hE]
    have hE2 : ((errR (m, b, s, d) : Int) != 0) = true := by simp [hE]
    obtain ⟨er, her⟩ : ∃ er, er = errR (m, b, s, d) := ⟨_, rfl⟩
    rw [← her] at hpar' hE2 ⊢
    clear her hE
    go_enter Try.func17, Try.ntmps17
    go_upto_region 1 with (fail)
    go_region
    go_upto_region 3 with (fail)
    rw [← hmm.out, ← hX'.out]
    go_wp2_with (first | (go_at_call 9; refine hpar'.out.mono ?_; rintro e w2 ⟨v, rfl, hf2, _⟩; have hFw2 := hFX'.out.trans hf2; have z2 := hFw2.at0 y2; have z3 := hFw2.at0 y3; have z4 := hFw2.at0 y4; have z5 := hFw2.at0 y5; have b0 := hf2.at0 x0; have b1 := hf2.at0 x1; have b2 := hf2.at0 x2; have b3 := hf2.at0 x3; have zx := hf2.size; have zl := hFw2.size))
    go_ret2
    exact ⟨rfl, hFw2.mono (by simp), LogAt.fr h'.out hFw2 (by simp)⟩
end Go.Proofs.Ytcbccogpogdbmaa
