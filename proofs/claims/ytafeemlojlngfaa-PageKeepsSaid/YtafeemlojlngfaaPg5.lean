/- Pages (chapter 19): pointers told apart; evict. -/
import Derived.Test.YtafeemlojlngfaaPg4
import Derived.BigQuiet
import Derived.LaidEql
import Derived.Lib.Builder
namespace Go.Proofs.Ytafeemlojlngfaa
open Go.RowKit Go.Maps
theorem Seg.ahead_last {ah bh : Nat → Nat} {x : Nat} : ∀ {l : List Nat} {a : Nat}, Seg ah bh a l x → ah x = l.getLastD a
  | [], a, h => h.2
  | b :: l, a, h => by rw [List.getLastD_cons]; exact Seg.ahead_last h.2.2
theorem link_size : (Try.prog.info? 63).map (·.size) = some 6 := by kernel_rfl
theorem neq_links {w : World} {x y : Nat} {px py : Pg} {a1 h1 a2 h2 : Value} (hx : LinkV w x px a1 h1) (hy : LinkV w y py a2 h2) (hne : x ≠ y) : (binOp .neq 61 (.pointer (some ⟨x, 0, none⟩)) (.pointer (some ⟨y, 0, none⟩))).run Try.prog w = .ok (.bool true) w := by
  have h0 : (sameAddr ⟨x, 0, none⟩ ⟨y, 0, none⟩).run Try.prog w = .ok false w := run_sameAddr_other w (fun h => hne (by cases h; rfl)) hx hy
  obtain ⟨j, hj, hj6⟩ := Option.map_eq_some_iff.1 link_size
  have h : ∀ d : Nat, (Op.equalIn (d + 1) 61 (.pointer (some ⟨x, 0, none⟩)) (.pointer (some ⟨y, 0, none⟩))).run Try.prog w = .ok false w := fun d => by
    simp [Op.equalIn, run_underlying Try.underlying61, sizeOf, typeInfo, hj, hj6, h0]
  simp only [binOp]
  simp [Op.equal, Op.maxDepth, h 9999]
theorem neq_same (x : Nat) (w : World) : (binOp .neq 61 (.pointer (some ⟨x, 0, none⟩)) (.pointer (some ⟨x, 0, none⟩))).run Try.prog w = .ok (.bool false) w := by
  obtain ⟨j, hj, _⟩ := Option.map_eq_some_iff.1 link_size
  exact Go.Lib.run_neq_ptr_same w _ Try.underlying61 hj
/-- The last one of a list of links, or the ring's. -/
def lastB (rg : Nat) (l : List (Nat × Pg)) : Nat := (l.map (·.1)).getLastD rg
theorem lastB_nil (rg : Nat) : lastB rg [] = rg := rfl
theorem lastB_concat (rg : Nat) (l : List (Nat × Pg)) (y : Nat × Pg) : lastB rg (l.concat y) = y.1 := by simp [lastB]
/-- The clean page that was used longest ago. -/
def lastClean (Q : List (Nat × Pg)) : Option (Nat × Pg) := Q.reverse.find? fun q => decide (q.2.2.2.2 = 0)
def evictQ (Q : List (Nat × Pg)) : List (Nat × Pg) := match lastClean Q with | none => Q | some q => cutQ Q q.1
theorem lastClean_hit {l r : List (Nat × Pg)} {q : Nat × Pg} (hr : ∀ a ∈ r, a.2.2.2.2 ≠ 0) (hq : q.2.2.2.2 = 0) : lastClean (l ++ q :: r) = some q := by
  unfold lastClean
  rw [List.reverse_append, List.reverse_cons, List.append_assoc, List.find?_append, List.find?_append]
  have : r.reverse.find? (fun q => decide (q.2.2.2.2 = 0)) = none := by
    rw [List.find?_eq_none]
    intro a ha
    simpa using hr a (List.mem_reverse.1 ha)
  rw [this]
  simp [hq]
theorem lastClean_none {r : List (Nat × Pg)} (hr : ∀ a ∈ r, a.2.2.2.2 ≠ 0) : lastClean r = none := by
  unfold lastClean
  rw [List.find?_eq_none]
  intro a ha
  simpa using hr a (List.mem_reverse.1 ha)
set_option maxRecDepth 100000 in
set_option maxHeartbeats 2000000 in
theorem evict_any {cb bm rg n : Nat} {Q : List (Nat × Pg)} {w : World} (h : CacheAt w cb bm rg n Q) :
    Calls Try.prog 49 #[.pointer (some ⟨cb, 0, none⟩)] w fun e w' => e = .returned (.bool (lastClean Q).isSome) ∧ Fr (bm :: rg :: Q.map (·.1)) w w' ∧ CacheAt w' cb bm rg n (evictQ Q) := by
  have hh := Lib.hid h
  obtain ⟨t, ⟨L, m, pm⟩, ⟨ah, bh, pg, lk, s, q⟩, a, f⟩ := h
  have c2 : w.cell? ⟨cb, 2, none⟩ = some (.pointer (some ⟨rg, 0, none⟩)) := by rw [cell_at t]; rfl
  have lr := lk rg (by simp)
  have r4 : w.cell? ⟨rg, 4, none⟩ = some (.pointer (some ⟨lastB rg Q, 0, none⟩)) := by unfold lastB; rw [← s.ahead_last]; exact lr.cells.2.2.2.2.1
  have lcb := lt_of_cell c2
  have lrg := lt_of_cell r4
  have hrq : rg ∉ Q.map (·.1) := by simp only [List.nodup_cons] at a; exact a.2.2.1
  have s' := Lib.hid s; have lk' := Lib.hid lk; have q' := Lib.hid q; have hrq' := Lib.hid hrq
  clear t m pm a f lr s lk q hrq
  go_enter Try.func49, Try.ntmps49
  go_wp2
  go_loopg [3] Q.length (fun gk xv wr => ∃ l r, Q = l ++ r ∧ (∀ a ∈ r, a.2.2.2.2 ≠ 0) ∧ gk = l.length ∧ xv = .pointer (some ⟨lastB rg l, 0, none⟩) ∧ wr = w)
  case atStart => exact ⟨Q, [], by simp, by simp, rfl, rfl, rfl⟩
  case round =>
    obtain ⟨l, r, hQ, hr, hgk, rfl, hwe⟩ := hrel
    have hwe := hwe.symm
    subst hwe
    have hgk' := Lib.hid hgk; have hQ' := Lib.hid hQ; have hr' := Lib.hid hr
    clear hgk hr
    rcases List.eq_nil_or_concat l with rfl | ⟨l', y, rfl⟩
    · have hl := Lib.hid (lastClean_none hr'.out)
      clear hQ
      rw [lastB_nil]
      have hsm := neq_same rg w
      go_wp2
      go_ret
      have e : Q = r := by simpa using hQ'.out
      refine ⟨by rw [e, hl.out]; rfl, Fr.refl _ _, ?_⟩
      unfold evictQ
      rw [e, hl.out, ← e]; exact hh.out
    · have hQ2 : Q = l' ++ y :: r := by rw [hQ]; simp
      have hyQ : y ∈ Q := by rw [hQ2]; simp
      have hseg : Seg ah bh rg (l'.map (·.1) ++ y.1 :: r.map (·.1)) rg := by have := s'.out; rw [hQ2] at this; simpa using this
      have h4 : ah y.1 = lastB rg l' := hseg.split.1.ahead_last
      have hnq := neq_links (lk'.out y.1 (List.mem_cons_of_mem _ (List.mem_map_of_mem hyQ))) (lk'.out rg (by simp)) (fun e => hrq'.out (by rw [← e]; exact List.mem_map_of_mem hyQ))
      have hlk := lk'.out y.1 (List.mem_cons_of_mem _ (List.mem_map_of_mem hyQ))
      rw [q'.out y hyQ] at hlk
      have hcells := hlk.cells
      rw [h4] at hcells
      have hyr : y.1 ≠ rg := fun e => hrq'.out (by rw [← e]; exact List.mem_map_of_mem hyQ)
      rw [lastB_concat]
      obtain ⟨x, p1, p2, p3, p4⟩ := y
      dsimp only at *
      obtain ⟨k0, k1, k2, k3, k4, k5⟩ := hcells
      have lx := lt_of_cell k0
      have hQ2' := Lib.hid hQ2; have hyr' := hyr.symm
      clear hQ hQ2 hseg h4 hlk k0 k1 k2 k5
      by_cases hz : p4 = 0
      · have hg := gone_any hh.out hyQ
        have hlc := Lib.hid (lastClean_hit (l := l') (q := (x, p1, p2, p3, p4)) hr'.out hz)
        subst hz
        go_wp2_with (go_at_call 38; refine hg.mono ?_; rintro e w2 ⟨rfl, hf2, h2⟩)
        go_ret
        have hl2 : lastClean Q = some (x, p1, p2, p3, 0) := by rw [hQ2'.out]; exact hlc.out
        refine ⟨by rw [hl2]; rfl, hf2, ?_⟩
        unfold evictQ
        rw [hl2]; exact h2
      · have hz' : (p4 == 0) = false := by simpa using hz
        go_wp2
        go_roundg (l'.length)
        case rel => exact ⟨l', (x, p1, p2, p3, p4) :: r, hQ2'.out, by intro a ha; rcases List.mem_cons.1 ha with rfl | ha; exact hz; exact hr'.out a ha, rfl, rfl, rfl⟩
        case measure => rw [hgk'.out]; simp
end Go.Proofs.Ytafeemlojlngfaa
