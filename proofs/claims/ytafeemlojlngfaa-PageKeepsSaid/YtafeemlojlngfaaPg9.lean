/- Pages (chapter 19): put, where the block has a page. -/
import Derived.Test.YtafeemlojlngfaaPg8
import Derived.BigQuiet
namespace Go.Proofs.Ytafeemlojlngfaa
open Go.RowKit Go.Maps
theorem badPg_ok {p : Pg} {sq : Bool} (h : badPg p sq = 0) : ¬ p.1 < 0 ∧ ¬ 256 ≤ p.1 ∧ ¬ p.2.1 < 0 ∧ ¬ 1099511627776 < p.2.1 ∧ sq = true ∧ ¬ 16 < p.2.2.1.size := by
  unfold badPg at h
  split at h
  · cases h
  · split at h
    · cases h
    · split at h
      · cases h
      · rename_i h1 h2 h3
        cases sq
        · simp at h2
        · simp at h2; exact ⟨by omega, by omega, by omega, by omega, rfl, h3⟩
/-- A page laid into a link. -/
def setPg (w : World) (x : Nat) (p : Pg) : World := (((w.setCell ⟨x, 0, none⟩ (.int .i64 p.1)).setCell ⟨x, 1, none⟩ (.int .i64 p.2.1)).setCell ⟨x, 2, none⟩ (.string p.2.2.1)).setCell ⟨x, 3, none⟩ (.int .i64 p.2.2.2)
theorem setPg_fr (w : World) (x : Nat) (p : Pg) : Fr [x] w (setPg w x p) := ((((Fr.refl [x] w).setCell ⟨x, 0, none⟩ _ (.inl (by simp))).setCell ⟨x, 1, none⟩ _ (.inl (by simp))).setCell ⟨x, 2, none⟩ _ (.inl (by simp))).setCell ⟨x, 3, none⟩ _ (.inl (by simp))
theorem LinkV.setPg {w : World} {x : Nat} {q : Pg} {a h : Value} (k : LinkV w x q a h) (p : Pg) : LinkV (setPg w x p) x p a h := by
  have k1 := setCell_at (i := 3) (setCell_at (i := 2) (setCell_at (i := 1) (setCell_at (i := 0) k (.int .i64 p.1)) (.int .i64 p.2.1)) (.string p.2.2.1)) (.int .i64 p.2.2.2)
  exact k1
theorem HalfAt.setPg {w : World} {cb bm rg n : Nat} {Q : List (Nat × Pg)} {k : Int} {x : Nat} {q : Pg} (h : HalfAt w cb bm rg n Q k x q) (p : Pg) : HalfAt (setPg w x p) cb bm rg n Q k x p := by
  obtain ⟨t, ⟨L, m, pm⟩, ⟨ah, bh, pg, lk, s, hq⟩, ⟨va, vh, lx⟩, a, f⟩ := h
  have hf := setPg_fr w x p
  have hnd := a
  simp only [List.nodup_cons, List.mem_cons, not_or] at hnd
  obtain ⟨⟨a1, a2, a3, a4⟩, ⟨a5, a6, a7⟩, ⟨a8, a9⟩, a10, a11⟩ := hnd
  refine ⟨hf.keep t (by simpa using a3), ⟨L, m.fr hf (by simpa using a6), pm⟩, ⟨ah, bh, pg, lk.fr hf ?_, s, hq⟩, ⟨va, vh, lx.setPg p⟩, a, f⟩
  intro b hb hm
  simp only [List.mem_singleton] at hm
  subst hm
  rcases List.mem_cons.1 hb with h | h
  · exact a8 h.symm
  · exact a10 h
set_option maxRecDepth 100000 in
set_option maxHeartbeats 4000000 in
theorem put_old {cb bm rg n : Nat} {Q : List (Nat × Pg)} {w : World} {g : Nat} {cbv : Array Value} {wish : Pg → Bool} {x : Nat} {q0 : Pg} (h : CacheAt w cb bm rg n Q) (p : Pg) (sq : Bool) (hb : badPg p sq = 0) (hat : atQ Q p.1 = some (x, q0))
    (eg : ∀ args w, (callFunc g args).run Try.prog w = .ok (.enter g args) w) (hwish : WishOk g cbv wish w) (hw : wish q0 = false) :
    Calls Try.prog 32 #[.pointer (some ⟨cb, 0, none⟩), aggPg p, .bool sq, .func (.func g) #[] cbv] w fun e w' => e = .returned (.int .i64 5) ∧ Fr [] w w' := by
  obtain ⟨b1, b2, b3, b4, rfl, b6⟩ := badPg_ok hb
  have hf0 : Fr [] w (w.alloc (.cells #[.int .i64 p.1, .int .i64 p.2.1, .string p.2.2.1, .int .i64 p.2.2.2] 31)) := (Fr.refl _ _).alloc _
  have h0 := h.fr0 hf0
  have hlk : ∀ nq, (Instr.lookup 60 (.map (some bm)) (.int .i64 p.1) false).run Try.prog ((w.alloc (.cells #[.int .i64 p.1, .int .i64 p.2.1, .string p.2.2.1, .int .i64 p.2.2.2] 31)).drewN nq) = .ok (.pointer (some ⟨x, 0, none⟩)) ((w.alloc (.cells #[.int .i64 p.1, .int .i64 p.2.1, .string p.2.2.1, .int .i64 p.2.2.2] 31)).drewN nq) := by
    intro nq
    have := (h0.fr0 ((Fr.refl [] _).drewN nq)).look p.1 false
    rw [hat] at this
    exact this
  have c1 : w.cell? ⟨cb, 1, none⟩ = some (.map (some bm)) := by rw [cell_at h.top]; rfl
  have lc := lt_of_cell c1
  obtain ⟨va, vh, hlx⟩ := h.page (atQ_split hat).2
  obtain ⟨k0, k1, k2, k3, _, _⟩ := hlx.cells
  have lx := lt_of_cell k0
  have hcall := fun nq => hwish q0 _ (hf0.drewN nq)
  rw [hw] at hcall
  have hcall' := Lib.hid hcall
  have hf0' := Lib.hid hf0
  clear hwish hcall h0 hlx hb hat h hf0
  obtain ⟨p1, p2, p3, p4⟩ := p
  obtain ⟨s1, s2, s3, s4⟩ := q0
  unfold aggPg at hcall' ⊢
  dsimp only at *
  go_enter Try.func32, Try.ntmps32
  go_wp2
  go_quiet (fail)
  go_wp2
  refine (hcall'.out nq).mono ?_
  rintro e w2 ⟨rfl, hf2⟩
  go_wp2
  go_ret
  exact ⟨rfl, (hf0'.out.drewN nq).trans hf2⟩
set_option maxRecDepth 100000 in
set_option maxHeartbeats 4000000 in
theorem put_over {cb bm rg n : Nat} {Q : List (Nat × Pg)} {w : World} {g : Nat} {cbv : Array Value} {wish : Pg → Bool} {x : Nat} {q0 : Pg} (h : CacheAt w cb bm rg n Q) (p : Pg) (sq : Bool) (hb : badPg p sq = 0) (hat : atQ Q p.1 = some (x, q0))
    (eg : ∀ args w, (callFunc g args).run Try.prog w = .ok (.enter g args) w) (hwish : WishOk g cbv wish w) (hw : wish q0 = true) :
    Calls Try.prog 32 #[.pointer (some ⟨cb, 0, none⟩), aggPg p, .bool sq, .func (.func g) #[] cbv] w fun e w' => e = .returned (.int .i64 0) ∧ Fr (rg :: Q.map (·.1)) w w' ∧ CacheAt w' cb bm rg n ((x, p) :: cutQ Q x) := by
  obtain ⟨b1, b2, b3, b4, rfl, b6⟩ := badPg_ok hb
  have hf0 : Fr [] w (w.alloc (.cells #[.int .i64 p.1, .int .i64 p.2.1, .string p.2.2.1, .int .i64 p.2.2.2] 31)) := (Fr.refl _ _).alloc _
  have h0 := h.fr0 hf0
  have hlk : ∀ nq, (Instr.lookup 60 (.map (some bm)) (.int .i64 p.1) false).run Try.prog ((w.alloc (.cells #[.int .i64 p.1, .int .i64 p.2.1, .string p.2.2.1, .int .i64 p.2.2.2] 31)).drewN nq) = .ok (.pointer (some ⟨x, 0, none⟩)) ((w.alloc (.cells #[.int .i64 p.1, .int .i64 p.2.1, .string p.2.2.1, .int .i64 p.2.2.2] 31)).drewN nq) := by
    intro nq
    have := (h0.fr0 ((Fr.refl [] _).drewN nq)).look p.1 false
    rw [hat] at this
    exact this
  have c1 : w.cell? ⟨cb, 1, none⟩ = some (.map (some bm)) := by rw [cell_at h.top]; rfl
  have lc := lt_of_cell c1
  obtain ⟨va, vh, hlx⟩ := h.page (atQ_split hat).2
  obtain ⟨k0, k1, k2, k3, _, _⟩ := hlx.cells
  have lx := lt_of_cell k0
  have hcall := fun nq => hwish q0 _ (hf0.drewN nq)
  rw [hw] at hcall
  have hcall' := Lib.hid hcall
  have hf0' := Lib.hid hf0
  have hqQ := (atQ_split hat).2
  have hkey := (atQ_split hat).1
  have hcut : ∀ W, CacheAt W cb bm rg n Q → _ := fun W hW => cut_half hW hqQ
  have hcut' := Lib.hid hcut; have h' := Lib.hid h
  have hlt := h.lt
  have hxm : x ∈ Q.map (·.1) := List.mem_map_of_mem (f := (·.1)) hqQ
  have hno : w.heap.size ∉ rg :: Q.map (·.1) := fun hm => by have := hlt _ (List.mem_cons_of_mem _ (List.mem_cons_of_mem _ hm)); omega
  have hno' := Lib.hid hno; have hxm' := Lib.hid hxm; have hkey' := Lib.hid hkey
  clear hwish hcall h0 hlx hb hat h hf0 hqQ hcut hlt hxm hno hkey
  obtain ⟨p1, p2, p3, p4⟩ := p
  obtain ⟨s1, s2, s3, s4⟩ := q0
  unfold aggPg at hcall' ⊢
  dsimp only at *
  go_enter Try.func32, Try.ntmps32
  go_wp2
  go_quiet (fail)
  go_wp2
  refine (hcall'.out nq).mono ?_
  rintro e w2 ⟨rfl, hf2⟩
  have hF2 : Fr [] w w2 := (hf0'.out.drewN nq).trans hf2
  have hbox : w2.heap[w.heap.size]? = some (.cells #[.int .i64 p1, .int .i64 p2, .string p3, .int .i64 p4] 31 (0, 0)) := (((Fr.refl [] (w.alloc (.cells #[.int .i64 p1, .int .i64 p2, .string p3, .int .i64 p4] 31))).drewN nq).trans hf2).keep (heap_alloc_new w _) (by simp)
  have hbox' := Lib.hid hbox; clear hbox
  have hct := hcut'.out w2 (h'.out.fr0 hF2)
  go_wp2_with (go_at_call 30; refine hct.mono ?_; rintro e w3 ⟨rfl, hf3, h3⟩; have hb3 := hf3.keep hbox'.out hno'.out; have h3' := Lib.hid h3; obtain ⟨_, _, _, ⟨va3, vh3, lx3⟩, _, _⟩ := h3; obtain ⟨y0, y1, y2, y3, _, _⟩ := lx3.cells; have ly := lt_of_cell y0; have u0 := lx3.free 0; have u1 := lx3.free 1; have u2 := lx3.free 2; have u3 := lx3.free 3; have v0 := (show w3.cell? ⟨w.heap.size, 0, none⟩ = some (.int .i64 p1) from cell_at hb3); have v1 := (show w3.cell? ⟨w.heap.size, 1, none⟩ = some (.int .i64 p2) from cell_at hb3); have v2 := (show w3.cell? ⟨w.heap.size, 2, none⟩ = some (.string p3) from cell_at hb3); have v3 := (show w3.cell? ⟨w.heap.size, 3, none⟩ = some (.int .i64 p4) from cell_at hb3); have lv := lt_of_cell v0; clear hb3)
  have hs4 := h3'.out.setPg (p1, p2, p3, p4)
  have hs1 : s1 = p1 := hkey'.out
  rw [hs1] at hs4
  have huse := use_half (p := (p1, p2, p3, p4)) hs4
  unfold setPg at huse
  dsimp only at huse
  refine huse.mono ?_
  rintro e w4 ⟨rfl, hf4, h4⟩
  go_wp2
  go_ret
  refine ⟨rfl, ((hF2.mono (by simp)).trans hf3).trans (((setPg_fr w3 x (p1, p2, p3, p4)).mono ?_).trans (hf4.mono ?_)), h4⟩
  · intro y hy
    simp only [List.mem_singleton] at hy
    subst hy
    exact List.mem_cons_of_mem _ hxm'.out
  · intro y hy
    rcases List.mem_cons.1 hy with rfl | hy
    · exact List.mem_cons_of_mem _ hxm'.out
    · rcases List.mem_cons.1 hy with rfl | hy
      · simp
      · exact List.mem_cons_of_mem _ (cutQ_sub hy)
end Go.Proofs.Ytafeemlojlngfaa
