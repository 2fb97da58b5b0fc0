/- Pages (chapter 19): put, where there is room. -/
import Derived.Test.YtafeemlojlngfaaPg9
import Derived.BigQuiet
import Derived.StillTailTactics
import Derived.Deep.RegionWith
namespace Go.Proofs.Ytafeemlojlngfaa
open Go.RowKit Go.Maps
theorem CacheAt.len' {w : World} {cb bm rg n : Nat} {Q : List (Nat × Pg)} (h : CacheAt w cb bm rg n Q) (ty : TypeId) : (Builtin.len_ #[60] ty #[.map (some bm)]).run Try.prog w = .ok (.int .i64 Q.length) w := by
  obtain ⟨L, m, pm⟩ := h.map
  have := m.run_len Try.underlying60 ty
  rw [pm.length_eq, List.length_map] at this
  exact this
theorem upsert_new {L : List (Int × Nat)} {k : Int} {x : Nat} (h : look L k = none) : upsert L k x = L ++ [(k, x)] := by
  unfold upsert
  rw [if_neg]
  intro ha
  unfold look at h
  rw [Option.map_eq_none_iff, List.find?_eq_none] at h
  obtain ⟨p, hp, hd⟩ := List.any_eq_true.1 ha
  exact h p hp hd
/-- A new link and its key: the cache, half. -/
theorem CacheAt.fresh {w w2 : World} {cb bm rg n : Nat} {Q : List (Nat × Pg)} {k : Int} {x : Nat} {q : Pg} {va vh : Value} (h : CacheAt w cb bm rg n Q) (hk : atQ Q k = none) (hn : Q.length < n)
    (hf : Fr [bm] w w2) (hx : LinkV w2 x q va vh) (hxn : w.heap.size ≤ x) (L : List (Int × Nat)) (m : MapOf w encI ptr bm L) (pm : L.Perm (keysQ Q)) (hm : MapOf w2 encI ptr bm (upsert L k x)) : HalfAt w2 cb bm rg n Q k x q := by
  have hlt := h.lt
  obtain ⟨t, _, ⟨ah, bh, pg, lk, s, hq⟩, a, f⟩ := h
  have hnd := a
  simp only [List.nodup_cons, List.mem_cons, not_or] at hnd
  obtain ⟨⟨a1, a2, a3⟩, ⟨a4, a5⟩, a6, a7⟩ := hnd
  have hl := look_keys pm m.once k
  rw [hk] at hl
  have hxQ : ∀ b ∈ cb :: bm :: rg :: Q.map (·.1), b ≠ x := fun b hb e => by have := hlt b hb; omega
  refine ⟨hf.keep t (by simpa using a1), ⟨_, hm, ?_⟩, ⟨ah, bh, pg, lk.fr hf ?_, s, hq⟩, ⟨va, vh, hx⟩, ?_, hn, f.2⟩
  · rw [upsert_new hl]
    exact (List.perm_append_singleton _ _).trans (pm.cons _)
  · intro b hb hbm
    simp only [List.mem_singleton] at hbm
    subst hbm
    rcases List.mem_cons.1 hb with h | h
    · exact a4 h
    · exact a5 h
  · have n1 := hxQ cb (by simp); have n2 := hxQ bm (by simp); have n3 := hxQ rg (by simp)
    simp only [List.nodup_cons, List.mem_cons, not_or]
    exact ⟨⟨a1, a2, n1, a3⟩, ⟨a4, n2, a5⟩, ⟨n3, a6⟩, fun hm => hxQ x (List.mem_cons_of_mem _ (List.mem_cons_of_mem _ (List.mem_cons_of_mem _ hm))) rfl, a7⟩
set_option maxRecDepth 100000 in
set_option maxHeartbeats 4000000 in
theorem put_new {cb bm rg n : Nat} {Q : List (Nat × Pg)} {w : World} {fv : Value} (h : CacheAt w cb bm rg n Q) (p : Pg) (sq : Bool) (hb : badPg p sq = 0) (hat : atQ Q p.1 = none) (hroom : Q.length < n) :
    Calls Try.prog 32 #[.pointer (some ⟨cb, 0, none⟩), aggPg p, .bool sq, fv] w fun e w' => ∃ x, e = .returned (.int .i64 0) ∧ w.heap.size ≤ x ∧ Fr (bm :: rg :: Q.map (·.1)) w w' ∧ CacheAt w' cb bm rg n ((x, p) :: Q) := by
  obtain ⟨b1, b2, b3, b4, rfl, b6⟩ := badPg_ok hb
  have hf0 : Fr [] w (w.alloc (.cells #[.int .i64 p.1, .int .i64 p.2.1, .string p.2.2.1, .int .i64 p.2.2.2] 31)) := (Fr.refl _ _).alloc _
  have h0 := h.fr0 hf0
  have hlk : ∀ nq, (Instr.lookup 60 (.map (some bm)) (.int .i64 p.1) false).run Try.prog ((w.alloc (.cells #[.int .i64 p.1, .int .i64 p.2.1, .string p.2.2.1, .int .i64 p.2.2.2] 31)).drewN nq) = .ok (.pointer none) ((w.alloc (.cells #[.int .i64 p.1, .int .i64 p.2.1, .string p.2.2.1, .int .i64 p.2.2.2] 31)).drewN nq) := by
    intro nq
    have := (h0.fr0 ((Fr.refl [] _).drewN nq)).look p.1 false
    rw [hat] at this
    exact this
  have c1 : w.cell? ⟨cb, 1, none⟩ = some (.map (some bm)) := by rw [cell_at h.top]; rfl
  have lc := lt_of_cell c1
  have hl : decide (n ≤ Q.length) = false := by simp; omega
  have hbx : (w.alloc (.cells #[.int .i64 p.1, .int .i64 p.2.1, .string p.2.2.1, .int .i64 p.2.2.2] 31)).heap[w.heap.size]? = some (.cells #[.int .i64 p.1, .int .i64 p.2.1, .string p.2.2.1, .int .i64 p.2.2.2] 31 (0, 0)) := heap_alloc_new w _
  have hsz : (w.alloc (.cells #[.int .i64 p.1, .int .i64 p.2.1, .string p.2.2.1, .int .i64 p.2.2.2] 31)).heap.size = w.heap.size + 1 := by simp
  have hlt := h.lt
  have hf0' := Lib.hid hf0; have h0' := Lib.hid h0; have hbx' := Lib.hid hbx; have hsz' := Lib.hid hsz; have hlt' := Lib.hid hlt; have hat' := Lib.hid hat
  have hfw := h.few
  clear h0 hb hat h hf0 hbx hsz hlt
  obtain ⟨p1, p2, p3, p4⟩ := p
  unfold aggPg
  dsimp only at *
  go_enter Try.func32, Try.ntmps32
  go_wp2
  go_quiet (fail)
  have hW := hf0'.out.drewN nq
  have hC := h0'.out.fr0 ((Fr.refl [] _).drewN nq)
  have hB := ((Fr.refl [] (w.alloc (.cells #[.int .i64 p1, .int .i64 p2, .string p3, .int .i64 p4] 31))).drewN nq).keep hbx'.out (by simp)
  have hZ : ((w.alloc (.cells #[.int .i64 p1, .int .i64 p2, .string p3, .int .i64 p4] 31)).drewN nq).heap.size = w.heap.size + 1 := hsz'.out
  obtain ⟨W, hWe⟩ : ∃ W, W = (w.alloc (.cells #[.int .i64 p1, .int .i64 p2, .string p3, .int .i64 p4] 31)).drewN nq := ⟨_, rfl⟩
  rw [← hWe] at hW hC hB hZ ⊢
  clear hWe hlk
  have d0 : W.cell? ⟨cb, 0, none⟩ = some (.int .i64 n) := by rw [cell_at hC.top]; rfl
  have d1 : W.cell? ⟨cb, 1, none⟩ = some (.map (some bm)) := by rw [cell_at hC.top]; rfl
  have ld := lt_of_cell d0
  have hln : ∀ nq, (Builtin.len_ #[60] 3 #[.map (some bm)]).run Try.prog (W.drewN nq) = .ok (.int .i64 Q.length) (W.drewN nq) := fun nq => (hC.fr0 ((Fr.refl [] W).drewN nq)).len' 3
  have hC' := Lib.hid hC; have hB' := Lib.hid hB; have hZ' := Lib.hid hZ
  clear c1 lc hC hB hZ
  go_wp2
  go_quiet (fail)
  have hV := hW.drewN nq
  have hCV := hC'.out.fr0 ((Fr.refl [] W).drewN nq)
  have hBV := ((Fr.refl [] W).drewN nq).keep hB'.out (by simp)
  have hZV : (W.drewN nq).heap.size = w.heap.size + 1 := hZ'.out
  obtain ⟨V, hVe⟩ : ∃ V, V = W.drewN nq := ⟨_, rfl⟩
  rw [← hVe] at hV hCV hBV hZV ⊢
  clear hVe hln d0 d1 ld hl
  have hfl : Fr [] V (V.alloc (.cells #[.int .i64 0, .int .i64 0, .string ⟨#[]⟩, .int .i64 0, .pointer none, .pointer none] 63)) := (Fr.refl [] V).alloc _
  have hx : LinkV (V.alloc (.cells #[.int .i64 0, .int .i64 0, .string ⟨#[]⟩, .int .i64 0, .pointer none, .pointer none] 63)) V.heap.size (0, 0, ⟨#[]⟩, 0) (.pointer none) (.pointer none) := heap_alloc_new V _
  obtain ⟨L, hm0, hpm⟩ := hCV.map
  have hm1 := (hm0.fr hfl (by simp)).drew
  have e0 : V.cell? ⟨w.heap.size, 0, none⟩ = some (.int .i64 p1) := cell_at hBV
  have e1 : V.cell? ⟨w.heap.size, 1, none⟩ = some (.int .i64 p2) := cell_at hBV
  have e2 : V.cell? ⟨w.heap.size, 2, none⟩ = some (.string p3) := cell_at hBV
  have e3 : V.cell? ⟨w.heap.size, 3, none⟩ = some (.int .i64 p4) := cell_at hBV
  have d1 : V.cell? ⟨cb, 1, none⟩ = some (.map (some bm)) := by rw [cell_at hCV.top]; rfl
  have le := lt_of_cell e0
  have ld := lt_of_cell d1
  have hCV' := Lib.hid hCV; have hBV' := Lib.hid hBV; have hx' := Lib.hid hx; have hpm' := Lib.hid hpm; have hZV' := Lib.hid hZV
  clear hCV hBV hx hpm hZV
  go_wp2
  refine wp_region_still_tail 7 (by kernel_rfl) (by kernel_rfl) ?_
  simp only [List.take_succ_cons, List.take_zero, List.drop_succ_cons, List.drop_zero]
  change wpStill Try.prog _ (World.drew _) _ _ _
  repeat still_step
  refine wpStill_nil ?_
  change wpList _ _ _ _ _ (World.drew _)
  have nb : w.heap.size ∉ [bm] := by have := hlt'.out bm (by simp); simp; omega
  have nx : V.heap.size ∉ [bm] := by have := hlt'.out bm (by simp); have := hZV'.out; simp; omega
  have nb' := Lib.hid nb; have nx' := Lib.hid nx; clear nb nx
  go_wp2_with (first | (at_mapUpdate; refine wpList_update _ rfl _ _ _ 60 rfl keyI Try.underlying60 rfl hm1 p1 rfl V.heap.size rfl ?_; intro w2 hm2 hf2 hsz2; have hsz2' := Lib.hid hsz2; clear hsz2; have hfX : Fr [bm] V w2 := ((hfl.drew).mono (by simp)).trans hf2; have hb2 := hfX.keep hBV'.out nb'.out; have hx2 := hx'.out.drew.fr hf2 nx'.out; obtain ⟨y0, y1, y2, y3, _, _⟩ := hx2.cells; have ly := lt_of_cell y0; have u0 := hx2.free 0; have u1 := hx2.free 1; have u2 := hx2.free 2; have u3 := hx2.free 3; have v0 := (show w2.cell? ⟨w.heap.size, 0, none⟩ = some (.int .i64 p1) from cell_at hb2); have v1 := (show w2.cell? ⟨w.heap.size, 1, none⟩ = some (.int .i64 p2) from cell_at hb2); have v2 := (show w2.cell? ⟨w.heap.size, 2, none⟩ = some (.string p3) from cell_at hb2); have v3 := (show w2.cell? ⟨w.heap.size, 3, none⟩ = some (.int .i64 p4) from cell_at hb2); have lv := lt_of_cell v0; have hx2' := Lib.hid hx2; clear hb2 hx2))
  have h3 : HalfAt w2 cb bm rg n Q p1 V.heap.size (0, 0, ⟨#[]⟩, 0) := hCV'.out.fresh hat'.out hroom hfX hx2'.out (Nat.le_refl _) L hm0 hpm'.out hm2
  have hs4 := h3.setPg (p1, p2, p3, p4)
  have huse := use_half (p := (p1, p2, p3, p4)) hs4
  unfold setPg at huse
  dsimp only at huse
  refine huse.mono ?_
  rintro e w4 ⟨rfl, hf4, h4⟩
  go_wp2
  go_ret
  have hxw : w.heap.size ≤ V.heap.size := by have := hZV'.out; omega
  refine ⟨V.heap.size, rfl, hxw, ?_, h4⟩
  have f1 : Fr (bm :: rg :: Q.map (·.1)) w w2 := (hV.mono (by simp)).trans (hfX.mono (by simp))
  have f2 : Fr (bm :: rg :: Q.map (·.1)) w (setPg w2 V.heap.size (p1, p2, p3, p4)) := f1.andThen (setPg_fr w2 V.heap.size (p1, p2, p3, p4)) (by intro t ht; simp only [List.mem_singleton] at ht; exact .inr (by omega))
  refine f2.andThen hf4 ?_
  intro t ht
  rcases List.mem_cons.1 ht with rfl | ht
  · exact .inr hxw
  · exact .inl (List.mem_cons_of_mem _ ht)
end Go.Proofs.Ytafeemlojlngfaa
