/- Pages (chapter 19): put, where a clean page goes. -/
import Derived.Test.YtafeemlojlngfaaPg11
import Derived.BigQuiet
import Derived.StillTailTactics
import Derived.Deep.RegionWith
namespace Go.Proofs.Ytafeemlojlngfaa
open Go.RowKit Go.Maps
theorem evictQ_sub (Q : List (Nat × Pg)) : ∀ b, b ∈ (evictQ Q).map (·.1) → b ∈ Q.map (·.1) := by
  intro b hb
  unfold evictQ at hb
  split at hb
  · exact hb
  · exact cutQ_sub hb
theorem evictQ_len {Q : List (Nat × Pg)} {y : Nat × Pg} {n : Nat} (h : lastClean Q = some y) (hn : Q.length ≤ n) : (evictQ Q).length < n := by
  unfold evictQ
  rw [h]
  have hy : y ∈ Q := by
    have := List.mem_of_find?_eq_some h
    exact List.mem_reverse.1 this
  have : (cutQ Q y.1).length < Q.length := by
    unfold cutQ
    rcases Nat.lt_or_ge (List.filter (fun q => decide (q.1 ≠ y.1)) Q).length Q.length with h | h
    · exact h
    · have h2 := List.length_filter_eq_length_iff.1 (Nat.le_antisymm (List.length_filter_le _ _) h) y hy
      simp at h2
  show (cutQ Q y.1).length < n
  omega
theorem evictQ_at {Q : List (Nat × Pg)} {b : Int} (h : atQ Q b = none) : atQ (evictQ Q) b = none := by
  unfold atQ at h ⊢
  rw [List.find?_eq_none] at h ⊢
  intro q hq
  refine h q ?_
  unfold evictQ at hq
  split at hq
  · exact hq
  · exact (List.mem_filter.1 hq).1
set_option maxRecDepth 100000 in
set_option maxHeartbeats 4000000 in
theorem put_evict {cb bm rg n : Nat} {Q : List (Nat × Pg)} {w : World} {fv : Value} (h : CacheAt w cb bm rg n Q) (p : Pg) (sq : Bool) (hb : badPg p sq = 0) (hat : atQ Q p.1 = none) (hfull : n ≤ Q.length) {y : Nat × Pg} (hlc : lastClean Q = some y) :
    Calls Try.prog 32 #[.pointer (some ⟨cb, 0, none⟩), aggPg p, .bool sq, fv] w fun e w' => ∃ x, e = .returned (.int .i64 0) ∧ w.heap.size ≤ x ∧ Fr (bm :: rg :: Q.map (·.1)) w w' ∧ CacheAt w' cb bm rg n ((x, p) :: evictQ Q) := by
  obtain ⟨b1, b2, b3, b4, rfl, b6⟩ := badPg_ok hb
  have hf0 : Fr [] w (w.alloc (.cells #[.int .i64 p.1, .int .i64 p.2.1, .string p.2.2.1, .int .i64 p.2.2.2] 31)) := (Fr.refl _ _).alloc _
  have h0 := h.fr0 hf0
  have hlk : ∀ nq, (Instr.lookup 60 (.map (some bm)) (.int .i64 p.1) false).run Try.prog ((w.alloc (.cells #[.int .i64 p.1, .int .i64 p.2.1, .string p.2.2.1, .int .i64 p.2.2.2] 31)).drewN nq) = .ok (.pointer none) ((w.alloc (.cells #[.int .i64 p.1, .int .i64 p.2.1, .string p.2.2.1, .int .i64 p.2.2.2] 31)).drewN nq) := by
    intro nq
    have := (h0.fr0 ((Fr.refl [] _).drewN nq)).look p.1 false
    rw [hat] at this
    exact this
  have c1 : w.cell? ⟨cb, 1, none⟩ = some (.map (some bm)) := by rw [cell_at h.top]; rfl
  have lc := lt_of_cell c1
  have hl : (Q.length : Int) ≥ n := by omega
  have hev1 := fun W (hW : CacheAt W cb bm rg n Q) => evict_any hW
  rw [hlc] at hev1
  have hev' := Lib.hid hev1; clear hev1
  have hsub := evictQ_sub Q
  have hsub' := Lib.hid hsub
  have hroom' := Lib.hid (evictQ_len hlc h.few.1)
  have hat2 := Lib.hid (evictQ_at hat)
  clear hsub hlc
  have hbx : (w.alloc (.cells #[.int .i64 p.1, .int .i64 p.2.1, .string p.2.2.1, .int .i64 p.2.2.2] 31)).heap[w.heap.size]? = some (.cells #[.int .i64 p.1, .int .i64 p.2.1, .string p.2.2.1, .int .i64 p.2.2.2] 31 (0, 0)) := heap_alloc_new w _
  have hsz : (w.alloc (.cells #[.int .i64 p.1, .int .i64 p.2.1, .string p.2.2.1, .int .i64 p.2.2.2] 31)).heap.size = w.heap.size + 1 := by simp
  have hlt := h.lt
  have hf0' := Lib.hid hf0; have h0' := Lib.hid h0; have hbx' := Lib.hid hbx; have hsz' := Lib.hid hsz; have hlt' := Lib.hid hlt; have hat' := Lib.hid hat
  have hfw := h.few
  clear h0 hb hat h hf0 hbx hsz hlt
  obtain ⟨p1, p2, p3, p4⟩ := p
  unfold aggPg
  dsimp only at *
  go_enter Try.func32, Try.ntmps32
  go_wp2
  go_quiet (fail)
  have hW := hf0'.out.drewN nq
  have hC := h0'.out.fr0 ((Fr.refl [] _).drewN nq)
  have hB := ((Fr.refl [] (w.alloc (.cells #[.int .i64 p1, .int .i64 p2, .string p3, .int .i64 p4] 31))).drewN nq).keep hbx'.out (by simp)
  have hZ : ((w.alloc (.cells #[.int .i64 p1, .int .i64 p2, .string p3, .int .i64 p4] 31)).drewN nq).heap.size = w.heap.size + 1 := hsz'.out
  obtain ⟨W, hWe⟩ : ∃ W, W = (w.alloc (.cells #[.int .i64 p1, .int .i64 p2, .string p3, .int .i64 p4] 31)).drewN nq := ⟨_, rfl⟩
  rw [← hWe] at hW hC hB hZ ⊢
  clear hWe hlk
  have d0 : W.cell? ⟨cb, 0, none⟩ = some (.int .i64 n) := by rw [cell_at hC.top]; rfl
  have d1 : W.cell? ⟨cb, 1, none⟩ = some (.map (some bm)) := by rw [cell_at hC.top]; rfl
  have ld := lt_of_cell d0
  have hln : ∀ ty, (Builtin.len_ #[60] ty #[.map (some bm)]).run Try.prog W.drew = .ok (.int .i64 Q.length) W.drew := fun ty => (hC.fr0 ((Fr.refl [] W).drew)).len' ty
  have hev := hev'.out W.drew (hC.fr0 ((Fr.refl [] W).drew))
  have hC' := Lib.hid hC; have hB' := Lib.hid hB; have hZ' := Lib.hid hZ
  have nq0 : w.heap.size ∉ bm :: rg :: Q.map (·.1) := fun hm => by have := hlt'.out _ (List.mem_cons_of_mem _ hm); omega
  have nq0' := Lib.hid nq0
  clear c1 lc hC hB hZ nq0
  go_wp2
  go_region_with (first | (go_at_call 49; refine hev.mono ?_; rintro e V ⟨rfl, hfV, hCV⟩))
  all_goals
    have hfV' := ((Fr.refl (bm :: rg :: Q.map (·.1)) W).drew).trans hfV
    have hV : Fr (bm :: rg :: Q.map (·.1)) w V := (hW.mono (by simp)).trans hfV'
    have hBV := hfV'.keep hB'.out nq0'.out
    have hZV : w.heap.size + 1 ≤ V.heap.size := by have := hfV'.size; have := hZ'.out; omega
    clear hln d0 d1 ld hl hev hfV
    have hfl : Fr [] V (V.alloc (.cells #[.int .i64 0, .int .i64 0, .string ⟨#[]⟩, .int .i64 0, .pointer none, .pointer none] 63)) := (Fr.refl [] V).alloc _
    have hx : LinkV (V.alloc (.cells #[.int .i64 0, .int .i64 0, .string ⟨#[]⟩, .int .i64 0, .pointer none, .pointer none] 63)) V.heap.size (0, 0, ⟨#[]⟩, 0) (.pointer none) (.pointer none) := heap_alloc_new V _
    obtain ⟨L, hm0, hpm⟩ := hCV.map
    have hm1 := (hm0.fr hfl (by simp)).drew
    have e0 : V.cell? ⟨w.heap.size, 0, none⟩ = some (.int .i64 p1) := cell_at hBV
    have e1 : V.cell? ⟨w.heap.size, 1, none⟩ = some (.int .i64 p2) := cell_at hBV
    have e2 : V.cell? ⟨w.heap.size, 2, none⟩ = some (.string p3) := cell_at hBV
    have e3 : V.cell? ⟨w.heap.size, 3, none⟩ = some (.int .i64 p4) := cell_at hBV
    have d1 : V.cell? ⟨cb, 1, none⟩ = some (.map (some bm)) := by rw [cell_at hCV.top]; rfl
    have le := lt_of_cell e0
    have ld := lt_of_cell d1
    have hCV' := Lib.hid hCV; have hBV' := Lib.hid hBV; have hx' := Lib.hid hx; have hpm' := Lib.hid hpm; have hZV' := Lib.hid hZV
    clear hCV hBV hx hpm hZV
    go_wp2
    refine wp_region_still_tail 7 (by kernel_rfl) (by kernel_rfl) ?_
    simp only [List.take_succ_cons, List.take_zero, List.drop_succ_cons, List.drop_zero]
    change wpStill Try.prog _ (World.drew _) _ _ _
    repeat still_step
    refine wpStill_nil ?_
    change wpList _ _ _ _ _ (World.drew _)
    have nb : w.heap.size ∉ [bm] := by have := hlt'.out bm (by simp); simp; omega
    have nx : V.heap.size ∉ [bm] := by have := hlt'.out bm (by simp); have := hZV'.out; simp; omega
    have nb' := Lib.hid nb; have nx' := Lib.hid nx; clear nb nx
    go_wp2_with (first | (at_mapUpdate; refine wpList_update _ rfl _ _ _ 60 rfl keyI Try.underlying60 rfl hm1 p1 rfl V.heap.size rfl ?_; intro w2 hm2 hf2 hsz2; have hsz2' := Lib.hid hsz2; clear hsz2; have hfX : Fr [bm] V w2 := ((hfl.drew).mono (by simp)).trans hf2; have hb2 := hfX.keep hBV'.out nb'.out; have hx2 := hx'.out.drew.fr hf2 nx'.out; obtain ⟨y0, y1, y2, y3, _, _⟩ := hx2.cells; have ly := lt_of_cell y0; have u0 := hx2.free 0; have u1 := hx2.free 1; have u2 := hx2.free 2; have u3 := hx2.free 3; have v0 := (show w2.cell? ⟨w.heap.size, 0, none⟩ = some (.int .i64 p1) from cell_at hb2); have v1 := (show w2.cell? ⟨w.heap.size, 1, none⟩ = some (.int .i64 p2) from cell_at hb2); have v2 := (show w2.cell? ⟨w.heap.size, 2, none⟩ = some (.string p3) from cell_at hb2); have v3 := (show w2.cell? ⟨w.heap.size, 3, none⟩ = some (.int .i64 p4) from cell_at hb2); have lv := lt_of_cell v0; have hx2' := Lib.hid hx2; clear hb2 hx2))
    have h3 : HalfAt w2 cb bm rg n (evictQ Q) p1 V.heap.size (0, 0, ⟨#[]⟩, 0) := hCV'.out.fresh hat2.out hroom'.out hfX hx2'.out (Nat.le_refl _) L hm0 hpm'.out hm2
    have hs4 := h3.setPg (p1, p2, p3, p4)
    have huse := use_half (p := (p1, p2, p3, p4)) hs4
    unfold setPg at huse
    dsimp only at huse
    refine huse.mono ?_
    rintro e w4 ⟨rfl, hf4, h4⟩
    go_wp2
    go_ret
    have hxw : w.heap.size ≤ V.heap.size := by have := hZV'.out; omega
    refine ⟨V.heap.size, rfl, hxw, ?_, h4⟩
    have f1 : Fr (bm :: rg :: Q.map (·.1)) w w2 := hV.trans (hfX.mono (by simp))
    have f2 : Fr (bm :: rg :: Q.map (·.1)) w (setPg w2 V.heap.size (p1, p2, p3, p4)) := f1.andThen (setPg_fr w2 V.heap.size (p1, p2, p3, p4)) (by intro t ht; simp only [List.mem_singleton] at ht; exact .inr (by omega))
    refine f2.andThen hf4 ?_
    intro t ht
    rcases List.mem_cons.1 ht with rfl | ht
    · exact .inr hxw
    · refine .inl (List.mem_cons_of_mem _ ?_)
      rcases List.mem_cons.1 ht with rfl | ht
      · simp
      · exact List.mem_cons_of_mem _ (hsub'.out _ ht)
end Go.Proofs.Ytafeemlojlngfaa
