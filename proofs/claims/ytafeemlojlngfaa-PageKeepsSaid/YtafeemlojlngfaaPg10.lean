/- Pages (chapter 19): put, where no page can go. -/
import Derived.Test.YtafeemlojlngfaaPg9
import Derived.BigQuiet
import Derived.Deep.RegionWith
import Derived.StillTailTactics
namespace Go.Proofs.Ytafeemlojlngfaa
open Go.RowKit Go.Maps
theorem CacheAt.len {w : World} {cb bm rg n : Nat} {Q : List (Nat × Pg)} (h : CacheAt w cb bm rg n Q) (ty : TypeId) : (Builtin.len_ #[60] ty #[.map (some bm)]).run Try.prog w = .ok (.int .i64 Q.length) w := by
  obtain ⟨L, m, pm⟩ := h.map
  have := m.run_len Try.underlying60 ty
  rw [pm.length_eq, List.length_map] at this
  exact this
set_option maxRecDepth 100000 in
set_option maxHeartbeats 4000000 in
theorem put_full {cb bm rg n : Nat} {Q : List (Nat × Pg)} {w : World} {fv : Value} (h : CacheAt w cb bm rg n Q) (p : Pg) (sq : Bool) (hb : badPg p sq = 0) (hat : atQ Q p.1 = none) (hfull : n ≤ Q.length) (hlc : lastClean Q = none) :
    Calls Try.prog 32 #[.pointer (some ⟨cb, 0, none⟩), aggPg p, .bool sq, fv] w fun e w' => e = .returned (.int .i64 190) ∧ Fr (bm :: rg :: Q.map (·.1)) w w' ∧ CacheAt w' cb bm rg n Q := by
  obtain ⟨b1, b2, b3, b4, rfl, b6⟩ := badPg_ok hb
  have hf0 : Fr [] w (w.alloc (.cells #[.int .i64 p.1, .int .i64 p.2.1, .string p.2.2.1, .int .i64 p.2.2.2] 31)) := (Fr.refl _ _).alloc _
  have h0 := h.fr0 hf0
  have hlk : ∀ nq, (Instr.lookup 60 (.map (some bm)) (.int .i64 p.1) false).run Try.prog ((w.alloc (.cells #[.int .i64 p.1, .int .i64 p.2.1, .string p.2.2.1, .int .i64 p.2.2.2] 31)).drewN nq) = .ok (.pointer none) ((w.alloc (.cells #[.int .i64 p.1, .int .i64 p.2.1, .string p.2.2.1, .int .i64 p.2.2.2] 31)).drewN nq) := by
    intro nq
    have := (h0.fr0 ((Fr.refl [] _).drewN nq)).look p.1 false
    rw [hat] at this
    exact this
  have c1 : w.cell? ⟨cb, 1, none⟩ = some (.map (some bm)) := by rw [cell_at h.top]; rfl
  have lc := lt_of_cell c1
  have hl : (Q.length : Int) ≥ n := by omega
  have hf0' := Lib.hid hf0; have h0' := Lib.hid h0; have hlc' := Lib.hid hlc
  have hfw := h.few
  clear h0 hb hat h hf0 hlc
  obtain ⟨p1, p2, p3, p4⟩ := p
  unfold aggPg
  dsimp only at *
  go_enter Try.func32, Try.ntmps32
  go_wp2
  go_quiet (fail)
  have hW := hf0'.out.drewN nq
  have hC := h0'.out.fr0 ((Fr.refl [] _).drewN nq)
  obtain ⟨W, hWe⟩ : ∃ W, W = (w.alloc (.cells #[.int .i64 p1, .int .i64 p2, .string p3, .int .i64 p4] 31)).drewN nq := ⟨_, rfl⟩
  rw [← hWe] at hW hC ⊢
  clear hWe hlk
  have d0 : W.cell? ⟨cb, 0, none⟩ = some (.int .i64 n) := by rw [cell_at hC.top]; rfl
  have d1 : W.cell? ⟨cb, 1, none⟩ = some (.map (some bm)) := by rw [cell_at hC.top]; rfl
  have ld := lt_of_cell d0
  have hln : ∀ ty, (Builtin.len_ #[60] ty #[.map (some bm)]).run Try.prog W.drew = .ok (.int .i64 Q.length) W.drew := fun ty => (hC.fr0 ((Fr.refl [] W).drew)).len ty
  have hev := evict_any (hC.fr0 ((Fr.refl [] W).drew))
  rw [hlc'.out] at hev
  have hev' : Calls Try.prog 49 #[.pointer (some ⟨cb, 0, none⟩)] W.drew fun e w' => e = .returned (.bool false) ∧ Fr (bm :: rg :: Q.map (·.1)) W.drew w' ∧ CacheAt w' cb bm rg n Q := by
    refine hev.mono ?_
    rintro e w' ⟨h1, h2, h3⟩
    refine ⟨h1, h2, ?_⟩
    unfold evictQ at h3
    rw [hlc'.out] at h3; exact h3
  clear hev c1 lc hC
  go_wp2
  go_region_with (first | (go_at_call 49; refine hev'.mono ?_; rintro e w2 ⟨rfl, hf2, h2⟩))
  all_goals
    go_wp2
    go_ret
    exact ⟨rfl, (hW.mono (by simp)).trans ((((Fr.refl (bm :: rg :: Q.map (·.1)) W).drew).trans hf2)), h2⟩
end Go.Proofs.Ytafeemlojlngfaa
