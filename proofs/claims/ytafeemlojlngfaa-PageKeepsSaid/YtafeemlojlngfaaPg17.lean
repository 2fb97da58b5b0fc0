/- Pages (chapter 19): the links of a range (within). -/
import Derived.Test.YtafeemlojlngfaaPg16
namespace Go.Proofs.Ytafeemlojlngfaa
open Go.RowKit Go.Maps
section
variable {α β γ : Type} [DecidableEq α]
/-- What a range over a map has brought so far, of what is wished. -/
def got (p : α × β → Bool) (f : α × β → γ) (L : List (α × β)) (left : α → Bool) (acc : List γ) : Prop := acc.Perm (((L.filter fun e => !left e.1).filter p).map f)
theorem filter_add {L : List (α × β)} {left : α → Bool} {y : α} {u : β} (hn : (L.map (·.1)).Nodup) (hy : (y, u) ∈ L) (hl : left y = true) :
    (L.filter fun e => !(left e.1 && decide (e.1 ≠ y))).Perm ((L.filter fun e => !left e.1) ++ [(y, u)]) ∧ (L.filter fun e => left e.1 && decide (e.1 ≠ y)).length < (L.filter fun e => left e.1).length := by
  induction L with
  | nil => simp at hy
  | cons e L ih =>
    simp only [List.map_cons, List.nodup_cons] at hn
    rcases List.mem_cons.1 hy with rfl | hy'
    · have hne : ∀ q ∈ L, q.1 ≠ y := fun q hq e => hn.1 (List.mem_map.2 ⟨q, hq, e⟩)
      have e1 : L.filter (fun e => !(left e.1 && decide (e.1 ≠ y))) = L.filter (fun e => !left e.1) := List.filter_congr fun q hq => by simp [hne q hq]
      have e2 : L.filter (fun e => left e.1 && decide (e.1 ≠ y)) = L.filter (fun e => left e.1) := List.filter_congr fun q hq => by simp [hne q hq]
      refine ⟨?_, ?_⟩
      · simp only [List.filter_cons, hl, ne_eq, not_true_eq_false, decide_false, Bool.and_false, Bool.not_false, if_true, Bool.not_true, Bool.false_eq_true, if_false]
        have e1' := e1; simp only [ne_eq] at e1'; rw [e1']
        exact (List.perm_append_singleton _ _).symm
      · simp only [List.filter_cons, hl, ne_eq, not_true_eq_false, decide_false, Bool.and_false, Bool.false_eq_true, if_false, if_true]
        have e2' := e2; simp only [ne_eq] at e2'; rw [e2']
        simp
    · have hne : e.1 ≠ y := fun h => hn.1 (List.mem_map.2 ⟨(y, u), hy', h.symm⟩)
      obtain ⟨i1, i2⟩ := ih hn.2 hy'
      refine ⟨?_, ?_⟩
      · simp only [List.filter_cons]
        simp only [ne_eq, hne, not_false_eq_true, decide_true, Bool.and_true]
        split
        · exact List.Perm.cons _ i1
        · exact i1
      · simp only [List.filter_cons]
        simp only [ne_eq, hne, not_false_eq_true, decide_true, Bool.and_true]
        split
        · simpa using i2
        · exact i2
theorem got_step {p : α × β → Bool} {f : α × β → γ} {L : List (α × β)} {left : α → Bool} {acc : List γ} {y : α} {u : β} (hn : (L.map (·.1)).Nodup) (hy : (y, u) ∈ L) (hl : left y = true) (hg : got p f L left acc) :
    got p f L (fun z => left z && decide (z ≠ y)) (if p (y, u) = true then acc ++ [f (y, u)] else acc) := by
  unfold got at *
  have h := ((filter_add hn hy hl).1.filter p).map f
  refine List.Perm.trans ?_ h.symm
  rw [List.filter_append, List.map_append]
  by_cases hp : p (y, u) = true
  · rw [if_pos hp]
    refine hg.append ?_
    simp [hp]
  · rw [if_neg hp, List.filter_cons_of_neg hp, List.filter_nil, List.map_nil, List.append_nil]
    exact hg
omit [DecidableEq α] in
theorem got_end {p : α × β → Bool} {f : α × β → γ} {L : List (α × β)} {left : α → Bool} {acc : List γ} (h : ∀ e ∈ L, left e.1 = false) (hg : got p f L left acc) : acc.Perm ((L.filter p).map f) := by
  unfold got at hg
  have e1 : L.filter (fun e => !left e.1) = L := List.filter_eq_self.2 (fun e he => by rw [h e he]; rfl)
  rwa [e1] at hg
omit [DecidableEq α] in
theorem got_len {p : α × β → Bool} {f : α × β → γ} {L : List (α × β)} {left : α → Bool} {acc : List γ} (hg : got p f L left acc) : acc.length ≤ L.length := by
  have := hg.length_eq
  rw [List.length_map] at this
  have h1 := List.length_filter_le p (L.filter fun e => !left e.1)
  have h2 := List.length_filter_le (fun e => !left e.1) L
  omega
end
theorem owns_base {w : World} {v : Value} {k : Nat} {base base' : Nat} {e : TypeId} {n : Nat} {xs : List Value} (h : w.ownsRow base e k v n xs) (hb : base' ≤ base) : w.ownsRow base' e k v n xs := by
  refine ⟨h.1, ?_⟩
  rcases h.2 with h0 | ⟨g, cap, cur, rfl, hg, rest⟩
  · exact .inl h0
  · exact .inr ⟨g, cap, cur, rfl, Nat.le_trans hb hg, rest⟩
def encPtr (b : Nat) : List Value := [ptr b]
theorem encPtr_len (b : Nat) : (encPtr b).length = 1 := rfl
theorem encPtr1 (x : Nat) : ∀ u ∈ encPtr x, u.oneCell' = true := by intro v hv; simp [encPtr] at hv; subst hv; rfl
theorem infoPtr : (Try.prog.info? 61).map (fun i => (i.zero, i.size, i.bytes)) = some (some (.pointer none), 1, 8) := by kernel_rfl
/-- The links of pages in a range. -/
def inR (r1 r2 : Int) (b : Int) : Bool := decide (r1 ≤ b ∧ b < r2)
set_option maxRecDepth 100000 in
set_option maxHeartbeats 2000000 in
theorem within_any {cb bm rg n : Nat} {Q : List (Nat × Pg)} {w : World} (h : CacheAt w cb bm rg n Q) (r1 r2 : Int) :
    Calls Try.prog 35 #[.pointer (some ⟨cb, 0, none⟩), .agg #[.int .i64 r1, .int .i64 r2]] w fun e w' => ∃ (v : Value) (R : List Nat), e = .returned v ∧ Fr [] w w' ∧ w'.ownsRow w.heap.size 61 1 v R.length (R.flatMap encPtr) ∧ R.Perm ((Q.filter fun q => inR r1 r2 q.2.1).map (·.1)) := by
  obtain ⟨L, m, pm⟩ := h.map
  have c1 : w.cell? ⟨cb, 1, none⟩ = some (.map (some bm)) := by rw [cell_at h.top]; rfl
  have lc := lt_of_cell c1
  have lm := m.lt
  have hnd := m.once
  have hLl : L.length ≤ 64 := by have h1 := pm.length_eq; rw [List.length_map] at h1; have := h.few; omega
  have hfin : ∀ acc : List Nat, acc.Perm ((L.filter fun e => inR r1 r2 e.1).map (·.2)) → acc.Perm ((Q.filter fun q => inR r1 r2 q.2.1).map (·.1)) := by
    intro acc ha
    refine ha.trans (((pm.filter _).map _).trans (List.Perm.of_eq ?_))
    rw [List.filter_map, List.map_map]
    rfl
  have hfin' := Lib.hid hfin
  have m0 := m.fr ((Fr.refl [] w).alloc (.cells #[.int .i64 r1, .int .i64 r2] 33)) (by simp)
  clear h pm hfin m
  go_enter Try.func35, Try.ntmps35
  go_wp2_with (first | (at_range; refine wpList_range _ rfl _ 60 rfl Try.underlying60 rfl m0 ?_; intro w0 hr0 hf0 hs0))
  have hZ : (w.alloc (.cells #[.int .i64 r1, .int .i64 r2] 33)).heap.size = w.heap.size + 1 := by simp
  have b0 : w0.cell? ⟨w.heap.size, 0, none⟩ = some (.int .i64 r1) := by rw [hf0.cell (p := ⟨w.heap.size, 0, none⟩) (by rw [hZ]; exact Nat.lt_succ_self _) (List.not_mem_nil)]; go_simp
  have b1 : w0.cell? ⟨w.heap.size, 1, none⟩ = some (.int .i64 r2) := by rw [hf0.cell (p := ⟨w.heap.size, 1, none⟩) (by rw [hZ]; exact Nat.lt_succ_self _) (List.not_mem_nil)]; go_simp
  have lb := lt_of_cell b0
  have hfw : Fr [] w w0 := ((Fr.refl [] w).alloc _).trans hf0
  obtain ⟨ib, hib⟩ : ∃ ib, ib = (w.alloc (.cells #[.int .i64 r1, .int .i64 r2] 33)).heap.size := ⟨_, rfl⟩
  rw [← hib] at hr0 ⊢
  have hib2 : ib = w.heap.size + 1 := hib.trans hZ
  have hnb : w.heap.size ∉ [ib] := by simp; omega
  have hib' := Lib.hid hib2; have hs0' := Lib.hid hs0
  clear hZ hs0 hf0 hib hib2
  go_frame
  go_loopg [5, 6, 7] L.length (fun gk v kv xv wr => ∃ (left : Int → Bool) (acc : List Nat), RangeOf wr encI ptr bm ib L left ∧ got (fun e => inR r1 r2 e.1) (·.2) L left acc ∧ wr.ownsRow (w.heap.size + 2) 61 1 v acc.length (acc.flatMap encPtr) ∧ Fr [ib] w0 wr ∧ gk = (L.filter fun e => left e.1).length)
  case atStart =>
    exact ⟨fun _ => true, [], hr0, by simp [got], World.ownsRow_nil _ _ _ _, Fr.refl _ _, by rw [List.filter_eq_self.2 (by simp)]⟩
  case round =>
    obtain ⟨left, acc, hr, hg, hown, hf, hk⟩ := hrel
    have hk' := Lib.hid hk; clear hk
    have hg' := Lib.hid hg; clear hg
    have hri := hr.iter_lt
    have d0 : wr.cell? ⟨w.heap.size, 0, none⟩ = some (.int .i64 r1) := by rw [hf.cell (p := ⟨w.heap.size, 0, none⟩) lb hnb]; exact b0
    have d1 : wr.cell? ⟨w.heap.size, 1, none⟩ = some (.int .i64 r2) := by rw [hf.cell (p := ⟨w.heap.size, 1, none⟩) lb hnb]; exact b1
    go_wp2_with (first | (at_next; refine wpList_next _ rfl _ rfl rfl hr ?_ ?_; intro hdone; have hdone' := Lib.hid hdone; clear hdone; rotate_left; intro y u w1 hy hl hr1 hf1 hs1 hen; have hs1' := Lib.hid hs1; clear hs1; have e0 := (show w1.cell? ⟨w.heap.size, 0, none⟩ = some (.int .i64 r1) from by rw [hf1.cell (p := ⟨w.heap.size, 0, none⟩) (lt_of_cell d0) hnb]; exact d0); have e1 := (show w1.cell? ⟨w.heap.size, 1, none⟩ = some (.int .i64 r2) from by rw [hf1.cell (p := ⟨w.heap.size, 1, none⟩) (lt_of_cell d1) hnb]; exact d1); have le := lt_of_cell e0; have hown1 := owns_fr hown hf1 (by intro t ht'; simp at ht'; have := hib'.out; omega); have hal := got_len hg'.out; have hsz1 : w.heap.size + 2 ≤ w1.heap.size := (by have := hr1.iter_lt; have := hib'.out; omega); dsimp only [encI] at hen ⊢; unfold ptr at hen ⊢; rotate_right) | (at_builtin; refine wpList_push w1 _ _ rfl _ _ 71 rfl (w.heap.size + 2) 61 Try.underlying71 infoPtr rfl (by omega) u5 acc rfl hown1 u rfl encPtr_len (encPtr1 _) rfl (by omega) (by omega) (by omega) ?_; intro v' w3 hown3 hf3))
    · go_ret
      have hw' : w.heap.size ≤ ib := by have := hib'.out; omega
      exact ⟨_, acc, rfl, hfw.andThen hf (fun t ht => by simp only [List.mem_singleton] at ht; exact .inr (by omega)), owns_base hown (by omega), hfin'.out acc (got_end hdone'.out hg'.out)⟩
    · have hgs := got_step hnd hy hl hg'.out
      have hml := (filter_add hnd hy hl).2
      have hob := hown1.lt
      have hin : inR r1 r2 y = true := by unfold inR; simp only [decide_eq_true_eq]; omega
      rw [if_pos hin] at hgs
      have hib := hib'.out
      go_roundg (L.filter fun e => left e.1 && decide (e.1 ≠ y)).length
      case rel => exact ⟨_, _, hr1.fr hf3 (by intro hm'; have := hob _ (by simpa using hm'); omega) (by intro hm'; have := hob _ (by simpa using hm'); omega), hgs, hown3, (hf.trans hf1).andThen hf3 (fun t ht' => .inr (by have := hob t (by simpa using ht'); have h0 := hs0'.out; rw [show (w.alloc (Obj.cells #[Value.int IntKind.i64 r1, Value.int IntKind.i64 r2] 33)).heap.size = w.heap.size + 1 from by simp] at h0; omega)), rfl⟩
      case measure => rw [hk'.out]; exact hml
    all_goals
      have hgs := got_step hnd hy hl hg'.out
      have hml := (filter_add hnd hy hl).2
      have hin : ¬ inR r1 r2 y = true := by unfold inR; simp only [decide_eq_true_eq]; omega
      rw [if_neg hin] at hgs
      go_roundg (L.filter fun e => left e.1 && decide (e.1 ≠ y)).length
      case rel => exact ⟨_, _, hr1, hgs, hown1, hf.trans hf1, rfl⟩
      case measure => rw [hk'.out]; exact hml
end Go.Proofs.Ytafeemlojlngfaa
