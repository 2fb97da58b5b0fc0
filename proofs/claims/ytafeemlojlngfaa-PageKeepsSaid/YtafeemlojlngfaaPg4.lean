/- Pages (chapter 19): gone. -/
import Derived.Test.YtafeemlojlngfaaPg3
import Derived.BigQuiet
namespace Go.Proofs.Ytafeemlojlngfaa
open Go.RowKit Go.Maps
theorem erase_perm {α β : Type} [DecidableEq α] {L M : List (α × β)} (h : L.Perm M) (a : α) : (erase L a).Perm (erase M a) := h.filter _
theorem erase_head {k : Int} {x : Nat} {Q : List (Nat × Pg)} (h : (((k, x) :: keysQ Q).map (·.1)).Nodup) : erase ((k, x) :: keysQ Q) k = keysQ Q := by
  simp only [List.map_cons, List.nodup_cons] at h
  unfold erase
  rw [List.filter_cons, if_neg (by simp), List.filter_eq_self]
  intro a ha
  have : a.1 ≠ k := fun e => h.1 (by rw [← e]; exact List.mem_map_of_mem ha)
  simpa using this.symm
set_option maxRecDepth 100000 in
set_option maxHeartbeats 2000000 in
theorem gone_any {cb bm rg n : Nat} {Q : List (Nat × Pg)} {x : Nat} {p : Pg} {w : World} (h : CacheAt w cb bm rg n Q) (hx : (x, p) ∈ Q) :
    Calls Try.prog 38 #[.pointer (some ⟨cb, 0, none⟩), .pointer (some ⟨x, 0, none⟩)] w fun e w' => e = .returned (.tuple #[]) ∧ Fr (bm :: rg :: Q.map (·.1)) w w' ∧ CacheAt w' cb bm rg n (cutQ Q x) := by
  have hcut := cut_half h hx
  go_enter Try.func38, Try.ntmps38
  go_wp2_with (go_at_call 30; refine hcut.mono ?_; rintro e w1 ⟨rfl, hf1, h1⟩)
  obtain ⟨t, ⟨L, m, pm⟩, ⟨ah, bh, pg, l, s, q⟩, ⟨va, vh, lx⟩, a, f⟩ := h1
  have c1 : w1.cell? ⟨cb, 1, none⟩ = some (.map (some bm)) := by rw [cell_at t]; rfl
  have x0 := lx.cells.1
  have lc := lt_of_cell c1
  have lx' := lt_of_cell x0
  have hn := m.once
  have hn2 := (pm.map (·.1)).nodup_iff.1 hn
  have he := (erase_perm pm p.1).trans (List.Perm.of_eq (erase_head hn2))
  have m' := m.drew
  have he' := Lib.hid he; have t' := Lib.hid t; have hn' := Lib.hid hn
  clear he hn2 t hn pm hcut
  refine wp_region_still_tail 9 (by kernel_rfl) (by kernel_rfl) ?_
  simp only [List.take_succ_cons, List.take_zero, List.drop_succ_cons, List.drop_zero]
  change wpStill Try.prog _ (World.drew _) _ _ _
  repeat still_step
  refine wpStill_nil ?_
  change wpList _ _ _ _ _ (World.drew _)
  go_wp2_with (first | (at_delete; refine wpList_del _ rfl _ _ 60 3 rfl keyI Try.underlying60 rfl m' p.1 rfl ?_; intro w2 hm2 hf2 hsz2))
  go_end0
  have hf2' : Fr [bm] w1 w2 := ((Fr.refl [bm] w1).drew).trans hf2
  simp only [List.nodup_cons, List.mem_cons, not_or] at a
  obtain ⟨⟨a1, a2, a3, a4⟩, ⟨a5, a6, a7⟩, ⟨a8, a9⟩, a10, a11⟩ := a
  refine ⟨rfl, (hf1.mono (fun b hb => List.mem_cons_of_mem _ hb)).trans (hf2'.mono (by simp)), hf2'.keep t'.out (by simpa using a1), ⟨_, hm2, he'.out⟩, ⟨ah, bh, pg, l.fr hf2' ?_, s, q⟩, ?_, by omega⟩
  · intro b hb hbm
    simp only [List.mem_singleton] at hbm
    subst hbm
    rcases List.mem_cons.1 hb with h | h
    · exact a5 h
    · exact a7 h
  · simp only [List.nodup_cons, List.mem_cons, not_or]
    exact ⟨⟨a1, a2, a4⟩, ⟨a5, a7⟩, a9, a11⟩
end Go.Proofs.Ytafeemlojlngfaa
