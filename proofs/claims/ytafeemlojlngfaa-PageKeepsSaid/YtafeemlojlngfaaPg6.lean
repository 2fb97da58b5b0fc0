/- Pages (chapter 19): List. -/
import Derived.Test.YtafeemlojlngfaaPg5
namespace Go.Proofs.Ytafeemlojlngfaa
open Go.RowKit Go.Maps
theorem Seg.behind_head {ah bh : Nat → Nat} {x z : Nat} : ∀ {r : List Nat}, Seg ah bh x r z → bh x = r.headD z
  | [], h => h.1
  | _ :: _, h => h.1
/-- The first one of a list of links, or the ring's. -/
def headB (rg : Nat) (r : List (Nat × Pg)) : Nat := (r.map (·.1)).headD rg
theorem headB_nil (rg : Nat) : headB rg [] = rg := rfl
theorem headB_cons (rg : Nat) (y : Nat × Pg) (r : List (Nat × Pg)) : headB rg (y :: r) = y.1 := rfl
theorem infoPg : (Try.prog.info? 31).map (fun i => (i.zero, i.size, i.bytes)) = some (some (.agg #[.int .i64 0, .int .i64 0, .string ⟨#[]⟩, .int .i64 0]), 4, 40) := by kernel_rfl
theorem enc1 (x : Pg) : ∀ u ∈ encPg x, u.oneCell' = true := by intro v hv; simp [encPg] at hv; rcases hv with rfl | rfl | rfl | rfl <;> rfl
theorem owns_nil (w : World) (base : Nat) (e : TypeId) (k : Nat) : w.ownsRow base e k (.slice none 0 0) 0 [] := ⟨by simp, .inl ⟨rfl, rfl⟩⟩
set_option maxRecDepth 100000 in
set_option maxHeartbeats 2000000 in
theorem list_any {cb bm rg n : Nat} {Q : List (Nat × Pg)} {w : World} (h : CacheAt w cb bm rg n Q) :
    Calls Try.prog 15 #[.pointer (some ⟨cb, 0, none⟩)] w fun e w' => ∃ v, e = .returned v ∧ Fr [] w w' ∧ w'.ownsRow w.heap.size 31 4 v (Q.map (·.2)).length ((Q.map (·.2)).flatMap encPg) := by
  obtain ⟨t, ⟨L, m, pm⟩, ⟨ah, bh, pg, lk, s, q⟩, a, f⟩ := h
  have c2 : w.cell? ⟨cb, 2, none⟩ = some (.pointer (some ⟨rg, 0, none⟩)) := by rw [cell_at t]; rfl
  have lr := lk rg (by simp)
  have r5 : w.cell? ⟨rg, 5, none⟩ = some (.pointer (some ⟨headB rg Q, 0, none⟩)) := by unfold headB; rw [← s.behind_head]; exact lr.cells.2.2.2.2.2
  have lcb := lt_of_cell c2
  have lrg := lt_of_cell r5
  have hrq : rg ∉ Q.map (·.1) := by simp only [List.nodup_cons] at a; exact a.2.2.1
  have hQl : Q.length ≤ 64 := by omega
  have s' := Lib.hid s; have lk' := Lib.hid lk; have q' := Lib.hid q; have hrq' := Lib.hid hrq
  clear t m pm a f lr s lk q hrq
  go_enter Try.func15, Try.ntmps15
  go_wp2
  go_loopg [3, 4] Q.length (fun gk lv xv wr => ∃ l r, Q = l ++ r ∧ gk = r.length ∧ xv = .pointer (some ⟨headB rg r, 0, none⟩) ∧ wr.ownsRow w.heap.size 31 4 lv (l.map (·.2)).length ((l.map (·.2)).flatMap encPg) ∧ Fr [] w wr)
  case atStart => exact ⟨[], Q, rfl, rfl, rfl, owns_nil _ _ _ _, Fr.refl _ _⟩
  case round =>
    obtain ⟨l, r, hQ, hgk, rfl, hown, hfr⟩ := hrel
    have c2r : wr.cell? ⟨cb, 2, none⟩ = some (.pointer (some ⟨rg, 0, none⟩)) := by rw [hfr.cell (p := ⟨cb, 2, none⟩) lcb (by simp)]; exact c2
    have hgk' := Lib.hid hgk; have hQ' := Lib.hid hQ
    have hsz := hfr.size
    clear hgk
    cases r with
    | nil =>
      have e : l = Q := by rw [hQ]; simp
      subst e
      clear hQ
      rw [headB_nil]
      have hsm := neq_same rg wr
      go_wp2
      go_ret
      exact ⟨_, rfl, hfr, by simpa using hown⟩
    | cons y r =>
      have hyQ : y ∈ Q := by rw [hQ]; simp
      have hseg : Seg ah bh rg (l.map (·.1) ++ y.1 :: r.map (·.1)) rg := by have := s'.out; rw [hQ] at this; simpa using this
      have h5 : bh y.1 = headB rg r := hseg.split.2.behind_head
      have lkr := lk'.out.fr hfr (by simp)
      have hnq := neq_links (lkr y.1 (List.mem_cons_of_mem _ (List.mem_map_of_mem hyQ))) (lkr rg (by simp)) (fun e => hrq'.out (by rw [← e]; exact List.mem_map_of_mem hyQ))
      have hlk := lk'.out y.1 (List.mem_cons_of_mem _ (List.mem_map_of_mem hyQ))
      have ly := hlk.lt
      have hlkr := hlk.fr hfr (by simp)
      rw [q'.out y hyQ] at hlkr
      have hcells := hlkr.cells
      rw [h5] at hcells
      have hll : (l.map (·.2)).length < 1000000 := by have := congrArg List.length hQ; simp at this ⊢; omega
      rw [headB_cons]
      obtain ⟨x, p1, p2, p3, p4⟩ := y
      dsimp only at *
      obtain ⟨k0, k1, k2, k3, k4, k5⟩ := hcells
      have lx := lt_of_cell k0
      have hob := hown.lt
      clear hQ hseg h5 hlk hlkr lkr k4
      obtain ⟨R, hR⟩ : ∃ R, R = l.map (·.2) := ⟨_, rfl⟩
      rw [← hR] at hown hll
      have hR' := Lib.hid hR; clear hR
      go_wp2_with (first | (at_builtin; refine wpList_push wr _ _ rfl _ _ 39 rfl w.heap.size 31 Try.underlying39 infoPg rfl (by omega) u3 R rfl hown (p1, p2, p3, p4) rfl encPg_len (enc1 _) rfl (by omega) (by omega) hsz ?_; intro v' w3 hown3 hf3; have k5' := (show w3.cell? ⟨x, 5, none⟩ = some (.pointer (some ⟨headB rg r, 0, none⟩)) from by rw [hf3.cell (p := ⟨x, 5, none⟩) lx (fun hm => by have := hob x (by simpa using hm); omega)]; exact k5); have lx3 := lt_of_cell k5'))
      go_roundg (r.length)
      case rel => exact ⟨l ++ [(x, p1, p2, p3, p4)], r, by rw [hQ'.out]; simp, rfl, rfl, by rw [List.map_append, ← hR'.out]; exact hown3, hfr.andThen hf3 (fun t ht' => by have := hob t (by simpa using ht'); omega)⟩
      case measure => rw [hgk'.out]; simp
end Go.Proofs.Ytafeemlojlngfaa
