/- Timers (chapter 6): Next, Clear. -/
import Derived.Test.YtcnihacjkcicfaaTm4
namespace Go.Proofs.Ytcnihacjkcicfaa
open Go.RowKit Go.Lib Go.Sort Go.Shelf
theorem cell_blk {w : World} {b : Nat} {cs : Array Value} {t : TypeId} {fr : Nat × Nat} (h : w.heap[b]? = some (.cells cs t fr)) (i : Nat) : w.cell? ⟨b, i, none⟩ = cs[i]? := by simp [World.cell?, h]
theorem free_blk {w : World} {b : Nat} {cs : Array Value} {t : TypeId} (h : w.heap[b]? = some (.cells cs t (0, 0))) (i : Nat) : w.frozen? ⟨b, i, none⟩ = false := by simp [World.frozen?, h]
theorem aggAl_of (x : Al) : aggAl x = .agg #[.int .i64 x.1, .int .i64 x.2.1, .int .i64 x.2.2] := rfl
set_option maxRecDepth 100000 in
set_option maxHeartbeats 1000000 in
theorem next_any (tb bm : Nat) (T : List Al) (n : Int) (w : World) (h : TimersAt w tb bm T) :
    Calls Try.prog 17 #[.pointer (some ⟨tb, 0, none⟩), .int .i64 n] w fun e w' => e = .returned (.tuple #[aggAl ((T.filter fun a => decide (a.1 = n)).headD (0, 0, 0)), .bool (!(T.filter fun a => decide (a.1 = n)).isEmpty)]) ∧ Fr [] w w' := by
  obtain ⟨L, hm, hp⟩ := h.map
  obtain ⟨l1, l2⟩ := h.lt
  have hf : Fr [] w ((w.alloc (Obj.cells #[.int .i64 n] 3)).alloc (Obj.cells #[.int .i64 0, .int .i64 0, .int .i64 0] 32)) := ((Fr.refl [] w).alloc _).alloc _
  have hw : WishOk 28 #[.pointer (some ⟨w.heap.size, 0, none⟩)] (fun a => decide (a.1 = n)) ((w.alloc (Obj.cells #[.int .i64 n] 3)).alloc (Obj.cells #[.int .i64 0, .int .i64 0, .int .i64 0] 32)) := by
    intro x W hW
    refine (next1 x.1 x.2.1 x.2.2 w.heap.size n W ?_).mono ?_
    · rw [hW.cell (p := ⟨w.heap.size, 0, none⟩) (by simp; omega) (by simp)]; go_simp
    · rintro e w' ⟨rfl, o, rfl⟩
      exact ⟨rfl, (Fr.refl _ _).alloc _⟩
  have ht := some_any tb bm 28 _ _ L T _ (by rw [hf.cell (p := ⟨tb, 0, none⟩) l1 (by simp)]; exact h.field) (hm.fr hf (by simp)) (Try.call28) hw (by have := hp.length_eq; have := h.few; simp at *; omega) h.srt hp
  generalize hpp : (fun a : Al => decide (a.1 = n)) = p at ht ⊢
  clear h hm hpp hw
  obtain ⟨S, hS⟩ : ∃ S, S = T.filter p := ⟨_, rfl⟩
  rw [← hS] at ht ⊢
  clear hS
  cases S with
  | nil =>
    go_enter Try.func17, Try.ntmps17
    go_wp2_with (first | (go_at_call 26; refine ht.mono ?_; rintro e w1 ⟨v, rfl, hf1, hs1⟩; obtain ⟨a, cap, rfl, hlc, hcm, hat⟩ := hs1.at encAl_len; have hat' := Lib.hid hat; clear hat; have zb : w1.heap[w.heap.size + 1]? = some (.cells #[.int .i64 0, .int .i64 0, .int .i64 0] 32 (0, 0)) := (hf1.keep (by rw [← heap_alloc_new (w.alloc (Obj.cells #[.int .i64 n] 3)) (.cells #[.int .i64 0, .int .i64 0, .int .i64 0] 32)]; simp) (by simp)); have z0 := cell_blk zb 0; have z1 := cell_blk zb 1; have z2 := cell_blk zb 2; have y0 := free_blk zb 0; have y1 := free_blk zb 1; have y2 := free_blk zb 2; clear zb; simp at z0 z1 z2))
    refine bodyPost_ret (v := .tuple #[.agg #[.int .i64 0, .int .i64 0, .int .i64 0], .bool false]) (by simp [results, Try.results17, go_sem, z0, z1, z2]) rfl ?_
    exact ⟨rfl, (((hf.trans hf1).setCell _ _ (.inr (by simp))).setCell _ _ (.inr (by simp))).setCell _ _ (.inr (by simp))⟩
  | cons x S =>
    go_enter Try.func17, Try.ntmps17
    go_wp2_with (first | (go_at_call 26; refine ht.mono ?_; rintro e w1 ⟨v, rfl, hf1, hs1⟩; obtain ⟨a, cap, rfl, hlc, hcm, hat⟩ := hs1.at encAl_len; obtain ⟨g', off, rfl, hg1, hg2, hcells⟩ := hat (by simp); have k0 := hcells 0 x 0 _ rfl rfl; have k1 := hcells 0 x 1 _ rfl rfl; have k2 := hcells 0 x 2 _ rfl rfl; simp only [Nat.zero_mul, Nat.zero_add, Nat.add_zero] at k0 k1 k2; clear hat hcells; have zb : w1.heap[w.heap.size + 1]? = some (.cells #[.int .i64 0, .int .i64 0, .int .i64 0] 32 (0, 0)) := (hf1.keep (by rw [← heap_alloc_new (w.alloc (Obj.cells #[.int .i64 n] 3)) (.cells #[.int .i64 0, .int .i64 0, .int .i64 0] 32)]; simp) (by simp)); have z0 := cell_blk zb 0; have z1 := cell_blk zb 1; have z2 := cell_blk zb 2; have y0 := free_blk zb 0; have y1 := free_blk zb 1; have y2 := free_blk zb 2; clear zb; simp at z0 z1 z2))
    refine bodyPost_ret (v := .tuple #[.agg #[.int .i64 x.1, .int .i64 x.2.1, .int .i64 x.2.2], .bool true]) (by simp [results, Try.results17, go_sem, z0, z1, z2]) rfl ?_
    exact ⟨rfl, (((hf.trans hf1).setCell _ _ (.inr (by simp))).setCell _ _ (.inr (by simp))).setCell _ _ (.inr (by simp))⟩

theorem clr_one {L Lc : List ((Int × Int) × Int)} {left : Int × Int → Bool} {n y1 y2 u : Int} (hn : (L.map (·.1)).Nodup) (hL : Lc = L.filter fun e => left e.1 || !decide (e.1.1 = n)) (hy : ((y1, y2), u) ∈ Lc) (hl : left (y1, y2) = true) :
    (L.filter fun e => !(left e.1 && decide (e.1 ≠ (y1, y2))) && decide (e.1.1 = n)).length = (L.filter fun e => !left e.1 && decide (e.1.1 = n)).length + (if y1 = n then 1 else 0) ∧
    (Lc.filter fun e => left e.1 && decide (e.1 ≠ (y1, y2))).length < (Lc.filter fun e => left e.1).length ∧
    (y1 = n → erase Lc (y1, y2) = L.filter fun e => (left e.1 && decide (e.1 ≠ (y1, y2))) || !decide (e.1.1 = n)) ∧
    (y1 ≠ n → Lc = L.filter fun e => (left e.1 && decide (e.1 ≠ (y1, y2))) || !decide (e.1.1 = n)) := by
  subst hL
  have hyL := (List.mem_filter.1 hy).1
  have hnc : ((L.filter fun e => left e.1 || !decide (e.1.1 = n)).map (·.1)).Nodup := hn.sublist (List.filter_sublist.map _)
  refine ⟨?_, (filter_add hnc hy hl).2, ?_, ?_⟩
  · have h := ((filter_add hn hyL hl).1.filter fun e => decide (e.1.1 = n)).length_eq
    rw [List.filter_append, List.length_append, List.filter_filter, List.filter_filter] at h
    have e1 : (L.filter fun e => !(left e.1 && decide (e.1 ≠ (y1, y2))) && decide (e.1.1 = n)) = L.filter fun e => decide (e.1.1 = n) && !(left e.1 && decide (e.1 ≠ (y1, y2))) := List.filter_congr fun e _ => Bool.and_comm _ _
    have e2 : (L.filter fun e => !left e.1 && decide (e.1.1 = n)) = L.filter fun e => decide (e.1.1 = n) && !left e.1 := List.filter_congr fun e _ => Bool.and_comm _ _
    rw [e1, e2, h]
    congr 1
    by_cases hyn : y1 = n <;> simp [hyn]
  · intro hyn
    unfold erase
    rw [List.filter_filter]
    apply List.filter_congr
    intro e _
    by_cases he : e.1 = (y1, y2)
    · rw [he]; simp [hyn]
    · have he' : (y1, y2) ≠ e.1 := fun h => he h.symm
      simp [he, he']
  · intro hyn
    apply List.filter_congr
    intro e _
    by_cases he : e.1 = (y1, y2)
    · rw [he]; simp [hyn]
    · simp [he]
theorem clr_end {L Lc : List ((Int × Int) × Int)} {left : Int × Int → Bool} {n : Int} (hL : Lc = L.filter fun e => left e.1 || !decide (e.1.1 = n)) (h : ∀ e ∈ Lc, left e.1 = false) :
    Lc = (L.filter fun e => !decide (e.1.1 = n)) ∧ (L.filter fun e => !left e.1 && decide (e.1.1 = n)) = L.filter fun e => decide (e.1.1 = n) := by
  have hl : ∀ e ∈ L, left e.1 = false := by
    intro e he
    cases hb : left e.1 with
    | false => rfl
    | true => have := h e (by rw [hL]; exact List.mem_filter.2 ⟨he, by simp [hb]⟩); rw [hb] at this; cases this
  constructor
  · rw [hL]; apply List.filter_congr; intro e he; rw [hl e he]; rfl
  · apply List.filter_congr; intro e he; rw [hl e he]; rfl

set_option maxRecDepth 100000 in
set_option maxHeartbeats 1000000 in
theorem clear_any (tb bm : Nat) (T : List Al) (n : Int) (w : World) (h : TimersAt w tb bm T) :
    Calls Try.prog 20 #[.pointer (some ⟨tb, 0, none⟩), .int .i64 n] w fun e w' => e = .returned (.int .i64 (T.filter fun a => decide (a.1 = n)).length) ∧ Fr [bm] w w' ∧ TimersAt w' tb bm (T.filter fun a => !decide (a.1 = n)) := by
  obtain ⟨L, hm, hp⟩ := h.map
  obtain ⟨lt, lm⟩ := h.lt
  have ht := h.field
  have hne := h.ne
  have hlL : L.length ≤ 64 := by have := hp.length_eq; have := h.few; simp at *; omega
  have hh := Lib.hid h; clear h
  go_enter Try.func20, Try.ntmps20
  go_wp2_with (first | (at_range; refine wpList_range _ rfl _ 55 rfl Try.underlying55 rfl hm ?_; intro w0 hr0 hf0 hs0))
  go_frame
  go_loopg [5] L.length (fun gk cv wr => ∃ (left : Int × Int → Bool) (Lc : List ((Int × Int) × Int)), RangeOf wr encKey encI bm w.heap.size Lc left ∧ Lc = (L.filter fun e => left e.1 || !decide (e.1.1 = n)) ∧ cv = .int .i64 (L.filter fun e => !left e.1 && decide (e.1.1 = n)).length ∧ Fr [bm] w wr ∧ gk = (Lc.filter fun e => left e.1).length)
  case atStart =>
    exact ⟨fun _ => true, L, hr0, (List.filter_eq_self.2 (by simp)).symm, by rw [List.filter_eq_nil_iff.2 (by simp)]; rfl, hf0.mono (by simp), by rw [List.filter_eq_self.2 (by simp)]⟩
  case round =>
    obtain ⟨left, Lc, hr, hL, hcv, hf, hk⟩ := hrel
    obtain ⟨c, hc⟩ : ∃ c, c = (L.filter fun e => !left e.1 && decide (e.1.1 = n)).length := ⟨_, rfl⟩
    rw [← hc] at hcv
    subst hcv
    have hc64 : c ≤ 64 := by rw [hc]; exact Nat.le_trans (List.length_filter_le _ _) hlL
    have hk' := Lib.hid hk; clear hk
    have hL' := Lib.hid hL; clear hL
    have hc' := Lib.hid hc; clear hc
    have hri := hr.iter_lt
    go_wp2_with (first | (at_next; refine wpList_next _ rfl _ rfl rfl hr ?_ ?_; intro hdone; have hdone' := Lib.hid hdone; clear hdone; rotate_left; intro y u w1 hy hl hr1 hf1 hs1 hen; have hs1' := Lib.hid hs1; clear hs1; obtain ⟨y1, y2⟩ := y; have hlt1 := hr1.iter_lt; dsimp only [encKey, encI] at hen ⊢; rotate_right))
    · obtain ⟨e1, e2⟩ := clr_end hL'.out hdone'.out
      have hpf : ((L.filter fun e => !decide (e.1.1 = n)).map toAl).Perm (T.filter fun a => !decide (a.1 = n)) := by
        have : (L.filter fun e => !decide (e.1.1 = n)).map toAl = (L.map toAl).filter (fun a => !decide (a.1 = n)) := by rw [List.filter_map]; rfl
        rw [this]; exact hp.filter _
      have hcl : c = (T.filter fun a => decide (a.1 = n)).length := by
        rw [hc'.out, e2]
        have : (L.filter fun e => decide (e.1.1 = n)).length = ((L.map toAl).filter (fun a => decide (a.1 = n))).length := by rw [List.filter_map, List.length_map]; rfl
        rw [this]; exact (hp.filter _).length_eq
      rw [hcl]
      go_ret
      refine ⟨rfl, hf, ?_, hne, ⟨_, hr.map, by rw [e1]; exact hpf⟩, hh.out.srt.filter _, Nat.le_trans (List.length_filter_le _ _) hh.out.few⟩
      rw [hf.cell (p := ⟨tb, 0, none⟩) lt (by simpa using hne)]; exact ht
    · have hyn0 : n = y1 := (eq_of_beq (by assumption : (y1 == n) = true)).symm
      subst hyn0
      obtain ⟨d1, d2, d3, _⟩ := clr_one hm.once hL'.out hy hl
      have hyn : n = n := rfl
      have hf1' : Fr [bm] w w1 := hf.andThen hf1 (by intro t ht'; simp at ht'; omega)
      have hfa : Fr [] w1 ((w1.alloc (Obj.cells #[.int .i64 n, .int .i64 y2] 59)).drew) := ((Fr.refl [] w1).alloc _).drew
      have hr2 := hr1.fr hfa (by simp) (by simp)
      have htr : w1.cell? ⟨tb, 0, none⟩ = some (.map (some bm)) := by rw [hf1'.cell (p := ⟨tb, 0, none⟩) lt (by simpa using hne)]; exact ht
      have ltr := lt_of_cell htr
      refine wp_region_still_tail 5 (by kernel_rfl) (by kernel_rfl) ?_
      simp only [List.take_succ_cons, List.take_zero, List.drop_succ_cons, List.drop_zero]
      change wpStill Try.prog _ (World.drew _) _ _ _
      repeat still_step
      refine wpStill_nil ?_
      change wpList _ _ _ _ _ (World.drew _)
      have d1' := Lib.hid d1; have d2' := Lib.hid d2; have d3' := Lib.hid d3; have hyn' := Lib.hid hyn; clear d1 d2 d3 hyn
      go_wp2_with (first | (at_delete; refine wpList_del_ranged _ rfl _ _ 55 59 rfl keyK Try.underlying55 rfl hr2 (n, y2) rfl ?_; intro w3 hr3 hf3 hs3))
      go_roundg ((erase Lc (n, y2)).filter fun e => left e.1 && decide (e.1 ≠ (n, y2))).length
      case rel => exact ⟨_, _, hr3, d3'.out hyn'.out, by rw [d1'.out, if_pos hyn'.out, ← hc'.out]; go_num, (hf1'.trans (hfa.mono (by simp))).trans hf3, rfl⟩
      case measure =>
        rw [hk'.out]
        refine Nat.lt_of_le_of_lt ?_ d2'.out
        exact (List.filter_sublist.filter _).length_le
    · obtain ⟨d1, d2, _, d4⟩ := clr_one hm.once hL'.out hy hl
      have hyn : y1 ≠ n := by simpa using (by assumption : (y1 == n) = false)
      have hf1' : Fr [bm] w w1 := hf.andThen hf1 (by intro t ht'; simp at ht'; omega)
      have hfa : Fr [] w1 (w1.alloc (Obj.cells #[.int .i64 y1, .int .i64 y2] 59)) := (Fr.refl [] w1).alloc _
      go_roundg (Lc.filter fun e => left e.1 && decide (e.1 ≠ (y1, y2))).length
      case rel => exact ⟨_, _, hr1.fr hfa (by simp) (by simp), d4 hyn, by rw [d1, if_neg hyn, ← hc'.out]; rfl, hf1'.trans (hfa.mono (by simp)), rfl⟩
      case measure => rw [hk'.out]; exact d2
end Go.Proofs.Ytcnihacjkcicfaa
