/- redo.Parts: refused; up to the range over Chunk. -/
import Derived.Test.YtcbccogpogdbmaaTi5
import Derived.Lib.ConvBytes
import Derived.Test.YtcbccogpogdbmaaTi7
import Derived.Test.YtcbccogpogdbmaaRelP
namespace Go.Proofs.Ytcbccogpogdbmaa
open Go.RowKit Go.Maps Go.Lib Go.Sort Go.Shelf
attribute [local go_sem] Oper.semAt_some
attribute [local go_sem ↓] Go.wp_at_zero Go.wp_at_succ
set_option maxRecDepth 100000 in
set_option maxHeartbeats 4000000 in
theorem parts_bad (seq blk st : Int) (d : ByteArray) (h : seq < 1 ∨ 1099511627776 < seq ∨ blk < 0 ∨ 256 ≤ blk ∨ st < 1 ∨ 1099511627776 < st) (w : World) :
    Calls Try.prog 9 #[.agg #[.int .i64 seq, .int .i64 blk, .int .i64 st, .string d]] w fun e w' => e = .returned (.tuple #[.slice none 0 0, .int .i64 1]) ∧ Fr [] w w' := by
  go_enter Try.func9, Try.ntmps9
  go_wp2
  all_goals
    go_ret2
    exact ⟨rfl, (Fr.refl [] w).alloc _⟩
set_option maxRecDepth 100000 in
set_option maxHeartbeats 4000000 in
theorem parts_long (seq blk st : Int) (d : ByteArray) (h1 : 1 ≤ seq) (h2 : seq ≤ 1099511627776) (h3 : 0 ≤ blk) (h4 : blk < 256) (h5 : 1 ≤ st) (h6 : st ≤ 1099511627776) (h7 : 16 < d.size) (w : World) :
    Calls Try.prog 9 #[.agg #[.int .i64 seq, .int .i64 blk, .int .i64 st, .string d]] w fun e w' => e = .returned (.tuple #[.slice none 0 0, .int .i64 11]) ∧ Fr [] w w' := by
  go_enter Try.func9, Try.ntmps9
  go_wp2
  go_ret2
  exact ⟨rfl, (Fr.refl [] w).alloc _⟩
theorem fr_bytesWorld (w : World) (e : TypeId) (s : ByteArray) : Fr [] w (bytesWorld w e s) :=
  ⟨rfl, rfl, rfl, by rw [bytesWorld_size]; omega, fun k hk _ => bytesWorld_at_old w e s k hk⟩
theorem slice_bytesWorld (w : World) (e : TypeId) (s : ByteArray) (hs : s.size < 1000000) : SliceIs (bytesWorld w e s) (fun _ => True) encU (.slice (some ⟨w.heap.size, 0, none⟩) s.size (grownCap w s.size 0 e)) s.data.toList := by
  have hl : s.data.toList.length = s.size := by simp
  refine ⟨_, _, by rw [hl], by rw [hl]; exact grownCap_ge _ _ _ _, grownCap_le_maxLen _ _ _ _ (by unfold maxLen; omega), .inr ⟨w.heap.size, 0, rfl, trivial, by rw [bytesWorld_size]; omega, fun j u hj => ?_⟩⟩
  have hfl : (s.data.toList.flatMap encU)[j]? = (s.data.toList[j]?).map fun b => Value.int .u8 b.toNat := by
    have : s.data.toList.flatMap encU = s.data.toList.map fun b => Value.int .u8 b.toNat := by
      induction s.data.toList with
      | nil => rfl
      | cons x l ih => rw [List.flatMap_cons, ih]; rfl
    rw [this, List.getElem?_map]
  rw [hfl] at hj
  obtain ⟨b, hb, rfl⟩ := Option.map_eq_some_iff.1 hj
  have hjl : j < s.size := by rw [← hl]; exact (List.getElem?_eq_some_iff.1 hb).1
  rw [Nat.zero_add, bytesWorld_cell w e s j hjl]
  simp [List.getD, hb]
theorem slice_made (w : World) (n : Nat) (hn : n ≤ maxLen) : SliceIs (w.alloc (.cells (madeCells #[.int .u8 0] n) 5)) (fun _ => True) encU (.slice (some ⟨w.heap.size, 0, none⟩) n n) (List.replicate n 0) := by
  exact (SliceIs.of_owns (made_bytes w n hn w.heap.size (Nat.le_refl _)) rfl).imp (fun _ _ _ => trivial)
/-- 'append' of an element that lies in a block of its own, wherever that is. -/
theorem wpList_pushB {α : Type} {enc : α → List Value} {k : Nat} {P : Program} {ops : Array Oper} {rest : List Oper} {o : Oper} {a : Act} {Q : Exit → Act → World → Prop} (X : World) (b : Nat) (cs : Array Value) (e' : TypeId) (hnew : X.heap[b]? = some (.cells cs e' (0, 0))) (hgd : o.guard = none) (s x : Operand) (t : TypeId)
    (ho : o.op = .call { callee := .builtin .append, args := #[s, x], argTypes := #[t, t] })
    (base : Nat) (e : TypeId) {z : Value} {bytes : Nat} (ht : P.underlying t = some (.slice e)) (hinfo : (P.info? e).map (fun i => (i.zero, i.size, i.bytes)) = some (some z, k, bytes)) (hzs : z.cells.size = k) (hk0 : 0 < k)
    (v : Value) (S : List α) (hs : a.eval s = v) (hown : X.ownsRow base e k v S.length (S.flatMap enc))
    (y : α) (hcs : cs.toList = enc y) (hk : ∀ x, (enc x).length = k) (hone : ∀ u ∈ enc y, u.oneCell' = true) (hx : a.eval x = .slice (some ⟨b, 0, none⟩) 1 1)
    (hn : S.length < 1099511627776) (hb : bytes ≤ 100) (hbase : base ≤ X.heap.size)
    (h : ∀ g cap w', w'.ownsRow base e k (.slice (some ⟨g, 0, none⟩) (S.length + 1) cap) (S ++ [y]).length ((S ++ [y]).flatMap enc) → Fr v.ownBlock.toList X w' → (v.ownBlock = some g ∨ g = X.heap.size) → wpList P ops Q rest (a.put o.dst (.slice (some ⟨g, 0, none⟩) (S.length + 1) cap)) w') : wpList P ops Q (o :: rest) a X := by
  obtain ⟨i, hi, hz0, hz1, hz2⟩ := info_parts hinfo
  refine wpList_append_own_at _ hgd s x t ho base e i z k bytes ht hi hz0 hz1 hz2 hzs hk0 v S.length (S.flatMap enc) hs hown ⟨b, 0, none⟩ 1 1 (enc y) hx (by rw [hk]; omega) ?_ hone (by unfold maxLen; omega) ?_ hbase ?_
  · intro j u hj
    rw [← hcs] at hj
    rw [addr_add, cell_at hnew]
    simpa using hj
  · have : (S.length + 1) * bytes ≤ 1099511627776 * 100 := Nat.mul_le_mul (by omega) hb
    omega
  · intro v' w' h1 h2 _ h4
    rcases h1.2 with ⟨_, h0⟩ | ⟨g, cap, cur, rfl, hb1, hb2, hb3⟩
    · simp at h0
    · refine h g cap w' ?_ (Fr.of_grown h2) ?_
      · rw [List.flatMap_append, List.length_append]
        simpa using h1
      · rcases h4 with h4 | h4
        · left; rw [← h4]; rfl
        · right; simpa [Value.ownBlock] using h4
theorem conv_slice {w : World} {B : Nat → Prop} {v : Value} {L : List UInt8} (h : SliceIs w B encU v L) (hL : L ≠ []) : (convert 37 9 v).run Try.prog w = .ok (.string (mkS L)) w := by
  obtain ⟨a, cap, rfl, _, _, hat⟩ := h.at encU_len
  obtain ⟨g, off, rfl, _, _, hc⟩ := hat hL
  have hb : Bytes w g off (mkS L) := by
    intro i hi
    have hiL : i < L.length := by simpa [mkS_size] using hi
    have := hc i L[i] 0 (.int .u8 L[i].toNat) (List.getElem?_eq_getElem hiL) rfl
    rw [Nat.mul_one, Nat.add_zero] at this
    rw [this]
    rfl
  have := run_convert_whole (P := Try.prog) w 37 5 9 Try.underlying37 Try.underlying5 Try.underlying9 g off (mkS L) hb cap
  rwa [mkS_size] at this
theorem infoS : (Try.prog.info? 9).map (fun i => (i.zero, i.size, i.bytes)) = some (some (.string ⟨#[]⟩), 1, 16) := by kernel_rfl
theorem one_encS (s : ByteArray) : ∀ u ∈ encS s, u.oneCell' = true := by simp [encS, Value.oneCell']
theorem own_block_at {w : World} {v : Value} {base : Nat} {e : TypeId} {k n g : Nat} {xs : List Value} (h : w.ownsRow base e k v n xs) (hg : v.ownBlock = some g) : ∃ cs, w.heap[g]? = some (.cells cs e (0, 0)) := by
  rcases h.2 with ⟨rfl, _⟩ | ⟨g', cap, cur, rfl, _, hh, _⟩
  · simp [Value.ownBlock] at hg
  · have : g' = g := by simpa [Value.ownBlock] using hg
    subst this
    exact ⟨cur, hh⟩
/-- What is no cells is kept, where only blocks of cells have turned. -/
theorem keepsFrom_of {B : Nat} {S : List Nat} {A A' : World} (h : Fr S A A') (hS : ∀ t ∈ S, ∃ cs e, A.heap[t]? = some (.cells cs e (0, 0))) : KeepsFrom B A A' :=
  ⟨h.size, fun k o _ hk ho => by
    refine h.keep hk (fun hm => ?_)
    obtain ⟨cs, e, hc⟩ := hS k hm
    rw [hk] at hc
    cases hc
    simp [Obj.isCells] at ho⟩
theorem owns_some {w : World} {v : Value} {base : Nat} {L : List UInt8} (h : w.ownsRow base 5 1 v L.length (L.flatMap encU)) (h0 : 0 < L.length) : ∃ g cap cur, v = .slice (some ⟨g, 0, none⟩) L.length cap ∧ base ≤ g ∧ w.heap[g]? = some (.cells cur 5 (0, 0)) ∧ L.length ≤ cap := by
  rcases h.2 with ⟨_, h1⟩ | ⟨g, cap, cur, rfl, hb, hg, hnc, _⟩
  · omega
  · exact ⟨g, cap, cur, rfl, hb, hg, hnc⟩
set_option maxRecDepth 100000 in
set_option maxHeartbeats 4000000 in
theorem parts_ok (seq blk st : Nat) (d : ByteArray) (h1 : 1 ≤ seq) (h2 : seq ≤ 1099511627776) (h4 : blk < 256) (h5 : 1 ≤ st) (h6 : st ≤ 1099511627776) (h7 : d.size ≤ 16) (w : World) :
    Calls Try.prog 9 #[.agg #[.int .i64 seq, .int .i64 blk, .int .i64 st, .string d]] w (OutParts (partsP (seq, blk, st, d)) 0 w) := by
  obtain ⟨W, hW⟩ : ∃ W, W = w.alloc (.cells #[.int .i64 seq, .int .i64 blk, .int .i64 st, .string d] 23) := ⟨_, rfl⟩
  have hFW : Fr [] w W := by rw [hW]; exact (Fr.refl _ _).alloc _
  have hbx : W.heap[w.heap.size]? = some (.cells #[.int .i64 seq, .int .i64 blk, .int .i64 st, .string d] 23 (0, 0)) := by rw [hW]; exact heap_alloc_new w _
  have k0 := (show W.cell? ⟨w.heap.size, 0, none⟩ = some (.int .i64 seq) from cell_at hbx)
  have k1 := (show W.cell? ⟨w.heap.size, 1, none⟩ = some (.int .i64 blk) from cell_at hbx)
  have k2 := (show W.cell? ⟨w.heap.size, 2, none⟩ = some (.int .i64 st) from cell_at hbx)
  have k3 := (show W.cell? ⟨w.heap.size, 3, none⟩ = some (.string d) from cell_at hbx)
  have lk := lt_of_cell k0
  have hW' := Lib.hid hW; have hbx' := Lib.hid hbx; have hF5' := Lib.hid hFW
  clear hW hbx hFW
  have hcv := fun X => Lib.run_convert_string_bytes (P := Try.prog) X 9 37 5 d Try.underlying9 Try.underlying37 Try.underlying5
  have hmk := fun X => run_make_row' (P := Try.prog) 37 5 (.int .u8 0) 1 Try.underlying37 infoU rfl .i64 .i64 30 (by omega) (by omega) X
  have hcv' := Lib.hid hcv; have hmk' := Lib.hid hmk
  clear hcv hmk
  refine callsIn_wide.1 (callsIn_of_wp_marks (n := 9) Try.func9 rfl trivial ?_ rfl)
  refine wpIn_wide.2 ?_
  simp only [Try.ntmps9, List.size_toArray, List.length_cons, List.length_nil, Nat.reduceAdd, Nat.reduceSub, Array.replicate_succ, Array.replicate_zero, List.push_toArray, List.append_toArray, List.nil_append, List.cons_append]
  go_upto_region 5 with (fail)
  rw [← hW'.out]
  go_wp2
  refine wp_region_rel 14 (fun w w' => Fr [] w w') (by kernel_rfl) (by kernel_rfl) (by kernel_rfl) (fun h k => h.trans k) (Fr.refl [] _).drew ?_
  simp only [List.take_succ_cons, List.take_zero, List.drop_succ_cons, List.drop_zero]
  iterate 2
    apply RelW.still
    · intro s X hX
      have j1 := hX.at0 k1
      have j2 := hX.at0 k2
      have j3 := hX.at0 k3
      go_wp2
      refine ⟨rfl, rfl, Fr.refl _ _, ?_⟩
      simp only [slotOf, List.getElem?_toArray, List.getElem?_cons_succ, List.getElem?_cons_zero, Option.getD_some]
      rfl
    · intro s
      simp only [Act.put, List.setIfInBounds_toArray, List.set_cons_succ, List.set_cons_zero]
      rfl
  apply RelW.owes (fun v X => SliceIs X (fun _ => True) encU v (leB blk 2))
  · exact fun _ _ _ hf h => h.fr hf (by simp)
  · intro s X hX _
    have hli := little_any blk 2 (by omega) X
    go_wp2_with (first | (go_at_call 32; refine hli.mono ?_; rintro e w1 ⟨v, rfl, hf1, ho1⟩))
    refine ⟨rfl, rfl, hf1, ?_⟩
    simp only [slotOf, List.getElem?_toArray, List.getElem?_cons_succ, List.getElem?_cons_zero, Option.getD_some]
    exact (SliceIs.of_owns ho1 rfl).imp (fun _ _ _ => trivial)
  · intro s
    simp only [Act.put, List.setIfInBounds_toArray, List.set_cons_succ, List.set_cons_zero, Nat.zero_add, Nat.reduceAdd]
    rfl
  iterate 2
    apply RelW.still
    · intro s X hX
      have j1 := hX.at0 k1
      have j2 := hX.at0 k2
      have j3 := hX.at0 k3
      go_wp2
      refine ⟨rfl, rfl, Fr.refl _ _, ?_⟩
      simp only [slotOf, List.getElem?_toArray, List.getElem?_cons_succ, List.getElem?_cons_zero, Option.getD_some]
      rfl
    · intro s
      simp only [Act.put, List.setIfInBounds_toArray, List.set_cons_succ, List.set_cons_zero]
      rfl
  apply RelW.owes (fun v X => SliceIs X (fun _ => True) encU v (leB st 8))
  · exact fun _ _ _ hf h => h.fr hf (by simp)
  · intro s X hX _
    have hli := little_any st 8 (by omega) X
    go_wp2_with (first | (go_at_call 32; refine hli.mono ?_; rintro e w1 ⟨v, rfl, hf1, ho1⟩))
    refine ⟨rfl, rfl, hf1, ?_⟩
    simp only [slotOf, List.getElem?_toArray, List.getElem?_cons_succ, List.getElem?_cons_zero, Option.getD_some]
    exact (SliceIs.of_owns ho1 rfl).imp (fun _ _ _ => trivial)
  · intro s
    simp only [Act.put, List.setIfInBounds_toArray, List.set_cons_succ, List.set_cons_zero, Nat.zero_add, Nat.reduceAdd]
    rfl
  iterate 3
    apply RelW.still
    · intro s X hX
      have j1 := hX.at0 k1
      have j2 := hX.at0 k2
      have j3 := hX.at0 k3
      go_wp2
      refine ⟨rfl, rfl, Fr.refl _ _, ?_⟩
      simp only [slotOf, List.getElem?_toArray, List.getElem?_cons_succ, List.getElem?_cons_zero, Option.getD_some]
      rfl
    · intro s
      simp only [Act.put, List.setIfInBounds_toArray, List.set_cons_succ, List.set_cons_zero]
      rfl
  apply RelW.owes (fun v X => SliceIs X (fun _ => True) encU v (leB d.size 1))
  · exact fun _ _ _ hf h => h.fr hf (by simp)
  · intro s X hX _
    have hli := little_any d.size 1 (by omega) X
    go_wp2_with (first | (go_at_call 32; refine hli.mono ?_; rintro e w1 ⟨v, rfl, hf1, ho1⟩))
    refine ⟨rfl, rfl, hf1, ?_⟩
    simp only [slotOf, List.getElem?_toArray, List.getElem?_cons_succ, List.getElem?_cons_zero, Option.getD_some]
    exact (SliceIs.of_owns ho1 rfl).imp (fun _ _ _ => trivial)
  · intro s
    simp only [Act.put, List.setIfInBounds_toArray, List.set_cons_succ, List.set_cons_zero, Nat.zero_add, Nat.reduceAdd]
    rfl
  iterate 2
    apply RelW.still
    · intro s X hX
      have j1 := hX.at0 k1
      have j2 := hX.at0 k2
      have j3 := hX.at0 k3
      go_wp2
      refine ⟨rfl, rfl, Fr.refl _ _, ?_⟩
      simp only [slotOf, List.getElem?_toArray, List.getElem?_cons_succ, List.getElem?_cons_zero, Option.getD_some]
      rfl
    · intro s
      simp only [Act.put, List.setIfInBounds_toArray, List.set_cons_succ, List.set_cons_zero]
      rfl
  apply RelW.owes (fun v X => SliceIs X (fun _ => True) encU v (d.data.toList))
  · exact fun _ _ _ hf h => h.fr hf (by simp)
  · intro s X hX _
    have hc := hcv'.out X
    go_wp2
    refine ⟨rfl, rfl, fr_bytesWorld X 5 d, ?_⟩
    simp only [slotOf, List.getElem?_toArray, List.getElem?_cons_succ, List.getElem?_cons_zero, Option.getD_some]
    exact slice_bytesWorld X 5 d (by omega)
  · intro s
    simp only [Act.put, List.setIfInBounds_toArray, List.set_cons_succ, List.set_cons_zero, Nat.zero_add, Nat.reduceAdd]
    rfl
  apply RelW.owes (fun v X => SliceIs X (fun _ => True) encU v (List.replicate 30 0))
  · exact fun _ _ _ hf h => h.fr hf (by simp)
  · intro s X hX _
    have hm : (Instr.makeSlice 37 (.int .i64 30) (.int .i64 30)).run Try.prog X = .ok (.slice (some ⟨X.heap.size, 0, none⟩) 30 30) (X.alloc (.cells (madeCells #[.int .u8 0] 30) 5)) := hmk'.out X
    go_wp2
    refine ⟨rfl, rfl, (Fr.refl [] X).alloc _, ?_⟩
    simp only [slotOf, List.getElem?_toArray, List.getElem?_cons_succ, List.getElem?_cons_zero, Option.getD_some]
    exact slice_made X 30 (by unfold maxLen; omega)
  · intro s
    simp only [Act.put, List.setIfInBounds_toArray, List.set_cons_succ, List.set_cons_zero, Nat.zero_add, Nat.reduceAdd]
    rfl
  intro s X hX hall
  dsimp only
  simp only [List.nil_append, List.cons_append, allPhi, Nat.zero_add, Nat.reduceAdd] at hall
  obtain ⟨-, -, a2, -, -, a5, -, -, -, a9, -, -, a12, a13, -⟩ := hall
  generalize s 2 = v2 at a2 ⊢
  generalize s 5 = v5 at a5 ⊢
  generalize s 9 = v9 at a9 ⊢
  generalize s 12 = v12 at a12 ⊢
  generalize s 13 = v13 at a13 ⊢
  have b2 := a2; have b5 := a5; have b9 := a9; have b12 := a12; have b13 := a13
  obtain ⟨x2, c2, rfl, _, _, _⟩ := b2
  obtain ⟨x5, c5, rfl, _, _, _⟩ := b5
  obtain ⟨x9, c9, rfl, _, _, _⟩ := b9
  obtain ⟨x12, c12, rfl, _, _, _⟩ := b12
  obtain ⟨x13, c13, rfl, _, _, _⟩ := b13
  obtain ⟨Y, hY⟩ : ∃ Y, Y = X.alloc (.cells #[.slice x2 (leB blk 2).length c2, .slice x5 (leB st 8).length c5, .slice x9 (leB d.size 1).length c9, .slice x12 d.data.toList.length c12, .slice x13 (List.replicate 30 (0 : UInt8)).length c13] 37) := ⟨_, rfl⟩
  have hFY : Fr [] X Y := by rw [hY]; exact (Fr.refl _ _).alloc _
  have hyb : Y.heap[X.heap.size]? = some (.cells #[.slice x2 (leB blk 2).length c2, .slice x5 (leB st 8).length c5, .slice x9 (leB d.size 1).length c9, .slice x12 d.data.toList.length c12, .slice x13 (List.replicate 30 (0 : UInt8)).length c13] 37 (0, 0)) := by rw [hY]; exact heap_alloc_new X _
  have hcc := concat_any (g := X.heap.size) [(.slice x2 (leB blk 2).length c2, leB blk 2), (.slice x5 (leB st 8).length c5, leB st 8), (.slice x9 (leB d.size 1).length c9, leB d.size 1), (.slice x12 d.data.toList.length c12, d.data.toList), (.slice x13 (List.replicate 30 (0 : UInt8)).length c13, List.replicate 30 0)] Y ?hcells (by simp) (by simp [lensP, leB_len]; omega)
  case hcells =>
    intro i p hp
    match i, hp with
    | 0, hp => simp at hp; subst hp; exact ⟨by rw [cell_at hyb]; rfl, a2.fr hFY (by simp)⟩
    | 1, hp => simp at hp; subst hp; exact ⟨by rw [cell_at hyb]; rfl, a5.fr hFY (by simp)⟩
    | 2, hp => simp at hp; subst hp; exact ⟨by rw [cell_at hyb]; rfl, a9.fr hFY (by simp)⟩
    | 3, hp => simp at hp; subst hp; exact ⟨by rw [cell_at hyb]; rfl, a12.fr hFY (by simp)⟩
    | 4, hp => simp at hp; subst hp; exact ⟨by rw [cell_at hyb]; rfl, a13.fr hFY (by simp)⟩
    | i + 5, hp => simp at hp
  rw [hY] at hcc hFY
  change Calls Try.prog 31 #[.slice (some ⟨X.heap.size, 0, none⟩) 5 5] _ _ at hcc
  have hflat : flatP [(.slice x2 (leB blk 2).length c2, leB blk 2), (.slice x5 (leB st 8).length c5, leB st 8), (.slice x9 (leB d.size 1).length c9, leB d.size 1), (.slice x12 d.data.toList.length c12, d.data.toList), (.slice x13 (List.replicate 30 (0 : UInt8)).length c13, List.replicate 30 0)] = headB (seq, blk, st, d) ++ List.replicate 30 0 := by
    simp [flatP, headB]
  rw [hflat] at hcc
  obtain ⟨V, hV⟩ : ∃ V, V = headB (seq, blk, st, d) ++ List.replicate 30 (0 : UInt8) := ⟨_, rfl⟩
  have hVl : V.length = 41 + d.size := by rw [hV, List.length_append, headB_len]; simp; omega
  rw [← hV] at hcc
  have hV' := Lib.hid hV; have hX' := Lib.hid hX; have hFY' := Lib.hid hFY
  clear hY hFY hyb hX a2 a5 a9 a12 a13 hflat hV
  have hcc' := Lib.hid hcc
  clear hcc
  go_wp2_with (first | (go_at_call 31; refine hcc'.out.mono ?_; rintro e w1 ⟨v, rfl, hf1, ho1⟩; obtain ⟨g, cap, cur, rfl, hgb, hgc, hgl⟩ := owns_some ho1 (by omega); have hch := chunk_any (some ⟨g, 0, none⟩) 30 cap (w1.alloc (.cells #[.slice none 0 0] 24))) | (go_at_call 33; refine hch.mono ?_; rintro e w2 ⟨rfl, rfl⟩))
  have hF1 : Fr [] w w1 := ((hF5'.out.trans hX'.out).trans hFY'.out).trans hf1
  have m0 : w1.cell? ⟨w.heap.size, 0, none⟩ = some (.int .i64 seq) := ((hX'.out.trans hFY'.out).trans hf1).at0 k0
  have hbyt := bytes_of_owns ho1
  have hg1 := lt_of_block hgc
  obtain ⟨Z, hZ⟩ : ∃ Z, Z = ((w1.alloc (.cells #[.slice none 0 0] 24)).alloc (.cells #[.slice (some ⟨g, 0, none⟩) 30 cap] 37)).alloc (.cells #[.int .i64 10] 3) := ⟨_, rfl⟩
  have hFZ : Fr [] w1 Z := by rw [hZ]; exact (((Fr.refl [] w1).alloc _).alloc _).alloc _
  have hzZ : Z.heap.size = w1.heap.size + 3 := by rw [hZ]; simp
  have hZ0 : Z.heap[w1.heap.size]? = some (.cells #[.slice none 0 0] 24 (0, 0)) := by rw [hZ]; exact (((Fr.refl [] _).alloc _).alloc _).keep (heap_alloc_new w1 _) (by simp)
  have hZ1 : Z.heap[w1.heap.size + 1]? = some (.cells #[.slice (some ⟨g, 0, none⟩) 30 cap] 37 (0, 0)) := by rw [hZ]; have := ((Fr.refl [] _).alloc (.cells #[.int .i64 10] 3)).keep (heap_alloc_new (w1.alloc (.cells #[.slice none 0 0] 24)) (.cells #[.slice (some ⟨g, 0, none⟩) 30 cap] 37)) (by simp); simpa using this
  have hZ2 : Z.heap[w1.heap.size + 2]? = some (.cells #[.int .i64 10] 3 (0, 0)) := by rw [hZ]; have := heap_alloc_new ((w1.alloc (.cells #[.slice none 0 0] 24)).alloc (.cells #[.slice (some ⟨g, 0, none⟩) 30 cap] 37)) (.cells #[.int .i64 10] 3); simpa using this
  rw [← hZ]
  obtain ⟨lb, hlb⟩ : ∃ lb, lb = w1.heap.size := ⟨_, rfl⟩
  rw [← hlb] at hg1 hzZ hZ0 hZ1 hZ2 ⊢
  have hmZ := hFZ.at0 m0
  have hbZ : Bytes Z g 0 (mkS V) := fun i hi => hFZ.at0 (hbyt i hi)
  have hFwZ := hF1.trans hFZ
  have hlw : w.heap.size < lb := by rw [hlb]; exact lt_of_cell m0
  clear hZ hbyt hF1 hFZ m0 hgc ho1 hf1 hlb
  clear hcc' hch hcv' hmk' hgb
  have hgne : g ≠ lb := by omega
  have hpart : ∀ j : Nat, j < 3 → mkS (leB seq 6) ++ (mkS V).extract (10 * j) (10 * j + 10) = mkS (partB (seq, blk, st, d) j) := by
    intro j hj
    rw [mkS_extract]
    apply ByteArray.ext
    have hVb : V.take 30 = bodyB (seq, blk, st, d) := by
      rw [hV'.out, bodyB, List.take_append, List.take_of_length_le (by rw [headB_len]; dsimp only; omega), List.take_replicate, Nat.min_eq_left (by omega)]
    have : ((bodyB (seq, blk, st, d)).drop (10 * j)).take 10 = (V.drop (10 * j)).take 10 := by
      rw [← hVb, List.drop_take, List.take_take, Nat.min_eq_left (by omega)]
    simp [mkS, partB, this]
  have hpart' := Lib.hid hpart; have hV2' := hV'
  clear hpart
  refine (wpIn_wide (n := 9)).1 ?_
  refine wpIn_rangeFunc_ownG rfl (by omega) (gf := 50) (lb := #[.pointer (some ⟨lb + 1, 0, none⟩), .pointer (some ⟨lb + 2, 0, none⟩)]) rfl trivial (enters_of Try.func50 (by kernel_rfl) rfl) (chunk_stops (9 - 1) (by omega) (lb + 1) (lb + 2) g cap (by omega) Z hZ1 hZ2) (fun h k => h.trans k) ?qKb (Below.refl _ _) (fun _ => rfl)
    (fun pre W => (∃ v, W.heap[lb]? = some (.cells #[v] 24 (0, 0)) ∧ W.ownsRow Z.heap.size 9 1 v (pre.map fun j : Fin 3 => mkS (partB (seq, blk, st, d) j.val)).length ((pre.map fun j : Fin 3 => mkS (partB (seq, blk, st, d) j.val)).flatMap encS)) ∧ Fr [lb] Z W)
    (fun _ _ _ => False) ?qI ?qIx ?q0 ?qa ?qassign ?qbody ?qdone ?qstop
  case qKb =>
    intro A l o o' hl ho _ _
    have hne1 : lb + 1 ≠ l := by omega
    have hne2 : lb + 2 ≠ l := by omega
    exact ⟨World.putObj_heap_other hne1, World.putObj_heap_other hne2⟩
  case qI =>
    intro pre A A' row hs hg hr
    obtain ⟨⟨v, hv, ho⟩, hf⟩ := hs
    have hrow : ∀ (k : Nat) (cs : Array Value) (t : TypeId), A.heap[k]? = some (.cells cs t (0, 0)) → A'.heap[k]? = some (.cells cs t (0, 0)) := by
      intro k cs t hk
      rw [hg.block k (Array.getElem?_eq_some_iff.1 hk).1 (fun e => by
        obtain ⟨_, o, ho, hc⟩ := hr k e.symm
        rw [hk] at ho
        cases ho
        simp [Obj.isCells] at hc)]
      exact hk
    refine ⟨⟨v, hrow _ _ _ hv, ⟨ho.1, ?_⟩⟩, hf.grown hg (fun k e => .inr (hr k e).1)⟩
    rcases ho.2 with h0 | ⟨g', cap', cur', rfl, hb, hgg, rest⟩
    · exact .inl h0
    · exact .inr ⟨g', cap', cur', rfl, hb, hrow _ _ _ hgg, rest⟩
  case qIx => exact fun _ _ _ _ _ h _ _ => h.elim
  case q0 => exact ⟨⟨_, hZ0, by simp, .inl ⟨rfl, by simp⟩⟩, Fr.refl _ _⟩
  case qassign =>
    intro l x A K hK
    gi_wp2
    exact hK
  case qbody =>
    rintro l pre x A ⟨⟨v, hv, ho⟩, hf⟩ hlen
    have hcx : ∀ X, Fr [] A X → (convert 37 9 (.slice (some ⟨g, 10 * x.val, none⟩) 10 10)).run Try.prog X = .ok (.string ((mkS V).extract (10 * x.val) (10 * x.val + 10))) X := by
      intro X hX
      have hbx : Bytes X g 0 (mkS V) := fun i hi => hX.at0 (by rw [hf.cell (p := ⟨g, _, none⟩) (by show g < _; omega) (by simpa using hgne)]; exact hbZ i hi)
      have := run_convert_window (P := Try.prog) X 37 5 9 Try.underlying37 Try.underlying5 Try.underlying9 g 0 (mkS V) hbx (10 * x.val) 10 10 (by rw [mkS_size, hVl]; have := x.isLt; omega)
      rwa [Nat.zero_add] at this
    have hsz : ((mkS V).extract (10 * x.val) (10 * x.val + 10)).size = 10 := by rw [ByteArray.size_extract, mkS_size, hVl]; have := x.isLt; omega
    have hpx := hpart'.out x.val x.isLt
    obtain ⟨ch, hch⟩ : ∃ ch, ch = (mkS V).extract (10 * x.val) (10 * x.val + 10) := ⟨_, rfl⟩
    rw [← hch] at hcx hsz hpx
    obtain ⟨S6, hS6⟩ : ∃ S, S = mkS (leB seq 6) := ⟨_, rfl⟩
    have hz6 : S6.size = 6 := by rw [hS6, mkS_size, leB_len]
    rw [← hS6] at hpx
    obtain ⟨off, hoff⟩ : ∃ off, off = 10 * x.val := ⟨_, rfl⟩
    rw [← hoff] at hcx ⊢
    have y0 : A.cell? ⟨lb, 0, none⟩ = some v := cell_at hv
    have y1 : A.cell? ⟨w.heap.size, 0, none⟩ = some (.int .i64 seq) := by
      rw [hf.cell (p := ⟨w.heap.size, _, none⟩) (by show w.heap.size < _; omega) (by simp; omega)]; exact hmZ
    have ylb : lb < A.heap.size := lt_of_cell y0
    have hv' := Lib.hid hv; have ho' := Lib.hid ho; have hf' := Lib.hid hf; have hcx' := Lib.hid hcx; have hS6' := Lib.hid hS6; have hpx' := Lib.hid hpx
    clear hv ho hf hcx hch hS6 hpx hoff
    gi_wp2
    refine regionIn_rel 9 (fun w w' => Fr [] w w') (by rintro ⟨_, _, h⟩; exact h) (by kernel_rfl) (by kernel_rfl) (by kernel_rfl) (by kernel_rfl) (fun h k => h.trans k) (Fr.refl [] _).drew ?_
    simp only [List.take_succ_cons, List.take_zero, List.drop_succ_cons, List.drop_zero]
    iterate 3
      apply RelW.still
      · intro s X hX
        have j0 := hX.at0 y0
        have j1 := hX.at0 y1
        go_wp2
        refine ⟨rfl, rfl, Fr.refl _ _, ?_⟩
        simp only [slotOf, List.getElem?_toArray, List.getElem?_cons_succ, List.getElem?_cons_zero, Option.getD_some]
        rfl
      · intro s
        simp only [Act.put, List.setIfInBounds_toArray, List.set_cons_succ, List.set_cons_zero]
        rfl
    apply RelW.owes (fun v X => SliceIs X (fun _ => True) encU v (leB seq 6))
    · exact fun _ _ _ hf h => h.fr hf (by simp)
    · intro s X hX hd
      clear hd
      have hli := little_any seq 6 (by omega) X
      go_wp2_with (first | (go_at_call 32; refine hli.mono ?_; rintro e w1 ⟨v, rfl, hf1, ho1⟩))
      refine ⟨rfl, rfl, hf1, ?_⟩
      simp only [slotOf, List.getElem?_toArray, List.getElem?_cons_succ, List.getElem?_cons_zero, Option.getD_some]
      exact (SliceIs.of_owns ho1 rfl).imp (fun _ _ _ => trivial)
    · intro s
      simp only [Act.put, List.setIfInBounds_toArray, List.set_cons_succ, List.set_cons_zero, Nat.zero_add, Nat.reduceAdd]
      rfl
    apply RelW.owes (fun v _ => v = .string S6)
    · exact fun _ _ _ _ h => h
    · intro s X hX hd
      simp [depPhi, Region.binds] at hd
      have hcv := conv_slice hd (by simp [leB])
      rw [← hS6'.out] at hcv
      generalize s 3 = v3 at hcv ⊢
      go_wp2
      refine ⟨rfl, rfl, Fr.refl _ _, ?_⟩
      simp only [slotOf, List.getElem?_toArray, List.getElem?_cons_succ, List.getElem?_cons_zero, Option.getD_some]
    · intro s
      simp only [Act.put, List.setIfInBounds_toArray, List.set_cons_succ, List.set_cons_zero, Nat.zero_add, Nat.reduceAdd]
      rfl
    iterate 2
      apply RelW.still
      · intro s X hX
        have hc6 := hcx'.out X hX
        go_wp2
        refine ⟨rfl, rfl, Fr.refl _ _, ?_⟩
        simp only [slotOf, List.getElem?_toArray, List.getElem?_cons_succ, List.getElem?_cons_zero, Option.getD_some]
        rfl
      · intro s
        simp only [Act.put, List.setIfInBounds_toArray, List.set_cons_succ, List.set_cons_zero]
        rfl
    apply RelW.owes (fun v _ => v = .string (S6 ++ ch))
    · exact fun _ _ _ _ h => h
    · intro s X hX hd
      simp [depPhi, Region.binds] at hd
      obtain ⟨hd, -⟩ := hd
      generalize s 4 = v4 at hd ⊢
      subst hd
      go_wp2
      refine ⟨rfl, rfl, Fr.refl _ _, ?_⟩
      simp only [slotOf, List.getElem?_toArray, List.getElem?_cons_succ, List.getElem?_cons_zero, Option.getD_some]
    · intro s
      simp only [Act.put, List.setIfInBounds_toArray, List.set_cons_succ, List.set_cons_zero, Nat.zero_add, Nat.reduceAdd]
      rfl
    apply RelW.owes (fun v X => ∃ b, v = .slice (some ⟨b, 0, none⟩) 1 1 ∧ X.heap[b]? = some (.cells #[.string (S6 ++ ch)] 9 (0, 0)))
    · exact fun _ _ _ hf h => by obtain ⟨b, h1, h2⟩ := h; exact ⟨b, h1, hf.keep h2 (by simp)⟩
    · intro s X hX hd
      simp [depPhi, Region.binds] at hd
      generalize s 7 = v7 at hd ⊢
      subst hd
      go_wp2
      refine ⟨rfl, rfl, (Fr.refl [] X).alloc _, ?_⟩
      simp only [slotOf, List.getElem?_toArray, List.getElem?_cons_succ, List.getElem?_cons_zero, Option.getD_some]
      exact ⟨_, rfl, heap_alloc_new X _⟩
    · intro s
      simp only [Act.put, List.setIfInBounds_toArray, List.set_cons_succ, List.set_cons_zero, Nat.zero_add, Nat.reduceAdd]
      rfl
    intro s X hX hall
    dsimp only
    simp only [List.nil_append, List.cons_append, allPhi, Nat.zero_add, Nat.reduceAdd] at hall
    obtain ⟨-, -, -, -, -, -, -, -, a8, -⟩ := hall
    generalize s 8 = v8 at a8 ⊢
    obtain ⟨b8, rfl, hb8⟩ := a8
    have hb8' := Lib.hid hb8
    clear hb8
    obtain ⟨T, hT⟩ : ∃ T, T = pre.map fun j : Fin 3 => mkS (partB (seq, blk, st, d) j.val) := ⟨_, rfl⟩
    have hTl : T.length < 3 := by rw [hT, List.length_map]; exact hlen
    have hoA := ho'.out
    rw [← hT] at hoA
    have hoX := owns_fr hoA hX (by simp)
    have hvX := hX.keep hv'.out (by simp)
    have hap := owns_apart1 hoX hvX (by decide)
    have hsA := hf'.out.size
    have hsX := hX.size
    have hob := hoX.lt
    have z0 : X.cell? ⟨lb, 0, none⟩ = some v := cell_at hvX
    have hoX' := Lib.hid hoX; have hX' := Lib.hid hX; have hT' := Lib.hid hT; have hoA' := Lib.hid hoA; have hvX' := Lib.hid hvX
    clear hoX hX hT hoA hvX
    go_wp2_with (first | (at_builtin; refine wpList_pushB X b8 #[.string (S6 ++ ch)] 9 hb8'.out rfl _ _ 24 rfl Z.heap.size 9 Try.underlying24 infoS rfl (by omega) v T rfl hoX'.out (S6 ++ ch) rfl encS_len (one_encS _) rfl (by omega) (by omega) (by omega) ?_; intro g9 c9 w9 ho9 hf9 hat9; have q9 := hf9.keep hvX'.out hap; have hq9' := Lib.hid q9; have r9 := (show w9.cell? ⟨lb, 0, none⟩ = some v from cell_at q9); have s9 := (show w9.frozen? ⟨lb, 0, none⟩ = false from frozen_at q9); clear q9; have ho9' := Lib.hid ho9; clear ho9))
    have hFX : Fr [lb] Z X := hf'.out.trans (hX'.out.mono (by simp))
    have f9 : Fr (lb :: v.ownBlock.toList) X (w9.setCell ⟨lb, 0, none⟩ (.slice (some ⟨g9, 0, none⟩) (T.length + 1) c9)) :=
      (hf9.mono (T := lb :: v.ownBlock.toList) (fun t ht => List.mem_cons_of_mem _ ht)).setCell _ _ (.inl (by simp))
    have hvo : ∀ t, t ∈ v.ownBlock.toList → Z.heap.size ≤ t := fun t ht => (hob t (by simpa using ht)).1
    have hle : lb + 3 ≤ X.heap.size := by omega
    refine ⟨(keepsFrom_of (S := lb :: v.ownBlock.toList) ((hX'.out.mono (by simp)).trans f9) ?_), ⟨?_, ?_⟩, ⟨.slice (some ⟨g9, 0, none⟩) (T.length + 1) c9, ?_, ?_⟩, ?_⟩
    · intro t ht
      rcases List.mem_cons.1 ht with rfl | ht
      · exact ⟨_, _, hv'.out⟩
      · obtain ⟨cs, hc⟩ := own_block_at hoA'.out (g := t) (by simpa using ht)
        exact ⟨cs, _, hc⟩
    · rw [f9.block (lb + 1) (by omega) (fun hm => by
        rcases List.mem_cons.1 hm with h | h
        · omega
        · have := hvo _ h; omega)]
      exact hX'.out.block (lb + 1) (by omega) (by simp)
    · rw [f9.block (lb + 2) (by omega) (fun hm => by
        rcases List.mem_cons.1 hm with h | h
        · omega
        · have := hvo _ h; omega)]
      exact hX'.out.block (lb + 2) (by omega) (by simp)
    · rw [setCell_at hq9'.out]; rfl
    · have hTe : (pre ++ [x]).map (fun j : Fin 3 => mkS (partB (seq, blk, st, d) j.val)) = T ++ [S6 ++ ch] := by rw [List.map_append, ← hT'.out, hpx'.out]; rfl
      rw [hTe]
      have fs : Fr [lb] w9 (w9.setCell ⟨lb, 0, none⟩ (.slice (some ⟨g9, 0, none⟩) (T.length + 1) c9)) := (Fr.refl [lb] w9).setCell _ _ (.inl (by simp))
      exact owns_fr2 ho9'.out fs (fun gg hg hm => by
        have e1 : gg = lb := by simpa using hm
        subst e1
        exact owns_apart1 ho9'.out hq9'.out (by decide) (by simpa using hg))
    · refine hFX.andThen f9 (fun t ht => ?_)
      rcases List.mem_cons.1 ht with rfl | ht
      · exact .inl (by simp)
      · exact .inr (hvo t ht)
  case qdone =>
    rintro D xs A hD rfl ⟨⟨v, hv, ho⟩, hf⟩ hK
    have y0 : A.cell? ⟨lb, 0, none⟩ = some v := cell_at hv
    have hv' := Lib.hid hv; have ho' := Lib.hid ho; have hf' := Lib.hid hf; have hK' := Lib.hid hK
    clear hv ho hf hK
    go_wp2
    refine ⟨by simp, .inl ⟨_, _, rfl, run_takeDeferred hK'.out, ?_⟩⟩
    refine ⟨_, results_tmp2 rfl _ _ _, ?_⟩
    have hown := ho'.out
    have hmap : (three 3).map (fun j : Fin 3 => mkS (partB (seq, blk, st, d) j.val)) = partsP (seq, blk, st, d) := by
      unfold partsP
      rw [if_pos (by unfold errR; simp only; rw [if_neg (by omega), if_neg (by omega)])]
      rfl
    rw [hmap] at hown
    have hsA := hf'.out.size
    have fD : Fr [D] A (A.putObj D (.deferred none)) := Fr.of_grown (grownBy_putObj' A D (.deferred none))
    refine ⟨v, rfl, ?_, ?_⟩
    · exact (hFwZ.andThen hf'.out (fun t ht => .inr (by have e : t = lb := by simpa using ht
                                                        omega))).andThen fD (fun t ht => .inr (by have e : t = D := by simpa using ht
                                                                                                  omega))
    · refine owns_base (owns_fr2 hown fD (fun gg hg hm => ?_)) (by omega)
      have e1 : gg = D := by simpa using hm
      subst e1
      obtain ⟨cs, hc⟩ := own_block_at hown hg
      rw [hK'.out] at hc
      cases hc
  case qstop =>
    intro D c pre A _ _ h _
    exact h.elim
end Go.Proofs.Ytcbccogpogdbmaa
