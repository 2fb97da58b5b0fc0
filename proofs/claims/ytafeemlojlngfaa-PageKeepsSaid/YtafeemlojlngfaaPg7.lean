/- Pages (chapter 19): Get. -/
import Derived.Test.YtafeemlojlngfaaPg6
namespace Go.Proofs.Ytafeemlojlngfaa
open Go.RowKit Go.Maps
def getQ (Q : List (Nat × Pg)) (b : Int) : List (Nat × Pg) := match atQ Q b with | none => Q | some q => q :: cutQ Q q.1
def aggPg (p : Pg) : Value := .agg #[.int .i64 p.1, .int .i64 p.2.1, .string p.2.2.1, .int .i64 p.2.2.2]
def zeroPg : Pg := (0, 0, ⟨#[]⟩, 0)
theorem CacheAt.look {w : World} {cb bm rg n : Nat} {Q : List (Nat × Pg)} (h : CacheAt w cb bm rg n Q) (b : Int) (c : Bool) :
    (Instr.lookup 60 (.map (some bm)) (.int .i64 b) c).run Try.prog w = .ok (if c then .tuple #[((atQ Q b).map fun q => ptr q.1).getD (.pointer none), .bool (atQ Q b).isSome] else ((atQ Q b).map fun q => ptr q.1).getD (.pointer none)) w := by
  obtain ⟨L, m, pm⟩ := h.map
  have := m.run_look keyI Try.underlying60 (Try.zeroValue61 w) b c
  rw [look_keys pm m.once] at this
  rw [Option.map_map] at this
  have e : (atQ Q b).map (ptr ∘ fun q => q.1) = (atQ Q b).map fun q => ptr q.1 := rfl
  rw [e] at this
  have e2 : (Option.map (fun q => q.1) (atQ Q b)).isSome = (atQ Q b).isSome := by simp
  rw [e2] at this
  exact this
theorem CacheAt.lt {w : World} {cb bm rg n : Nat} {Q : List (Nat × Pg)} (h : CacheAt w cb bm rg n Q) : ∀ b ∈ cb :: bm :: rg :: Q.map (·.1), b < w.heap.size := by
  obtain ⟨t, ⟨L, m, pm⟩, ⟨ah, bh, pg, lk, s, q⟩, a, f⟩ := h
  intro b hb
  rcases List.mem_cons.1 hb with rfl | hb
  · exact lt_of_block t
  · rcases List.mem_cons.1 hb with rfl | hb
    · exact m.lt
    · exact (lk b hb).lt
theorem CacheAt.page {w : World} {cb bm rg n : Nat} {Q : List (Nat × Pg)} {x : Nat} {p : Pg} (h : CacheAt w cb bm rg n Q) (hx : (x, p) ∈ Q) : ∃ va vh, LinkV w x p va vh := by
  obtain ⟨t, ⟨L, m, pm⟩, ⟨ah, bh, pg, lk, s, q⟩, a, f⟩ := h
  have := lk x (List.mem_cons_of_mem _ (List.mem_map_of_mem (f := (·.1)) hx))
  rw [q _ hx] at this
  exact ⟨_, _, this⟩
theorem cutQ_sub {Q : List (Nat × Pg)} {x b : Nat} (h : b ∈ (cutQ Q x).map (·.1)) : b ∈ Q.map (·.1) := by
  obtain ⟨q, hq, rfl⟩ := List.mem_map.1 h
  exact List.mem_map_of_mem (List.mem_filter.1 hq).1
set_option maxRecDepth 100000 in
set_option maxHeartbeats 2000000 in
theorem get_any {cb bm rg n : Nat} {Q : List (Nat × Pg)} {w : World} (h : CacheAt w cb bm rg n Q) (b : Int) :
    Calls Try.prog 18 #[.pointer (some ⟨cb, 0, none⟩), .int .i64 b] w fun e w' => e = .returned (.tuple #[aggPg (((atQ Q b).map (·.2)).getD zeroPg), .bool (atQ Q b).isSome]) ∧ Fr (rg :: Q.map (·.1)) w w' ∧ CacheAt w' cb bm rg n (getQ Q b) := by
  have hf0 : Fr [] w (w.alloc (.cells #[.int .i64 0, .int .i64 0, .string ⟨#[]⟩, .int .i64 0] 31)) := (Fr.refl _ _).alloc _
  have h0 := h.fr0 hf0
  have hlk := h0.look b false
  have c1 : w.cell? ⟨cb, 1, none⟩ = some (.map (some bm)) := by rw [cell_at h.top]; rfl
  have lc := lt_of_cell c1
  cases ha : atQ Q b with
  | none =>
    rw [ha] at hlk
    simp only [Option.map_none, Option.getD_none, Bool.false_eq_true, if_false] at hlk
    have ha' := Lib.hid ha; clear ha
    go_enter Try.func18, Try.ntmps18
    go_wp2
    refine bodyPost_ret (v := .tuple #[aggPg zeroPg, .bool false]) (by simp [results, Try.results18, go_sem]; rfl) rfl ?_
    exact ⟨rfl, hf0.mono (by simp), by unfold getQ; rw [ha'.out]; exact h0⟩
  | some q =>
    rw [ha] at hlk
    simp only [Option.map_some, Option.getD_some, Bool.false_eq_true, if_false] at hlk
    obtain ⟨hqb, hqQ⟩ := atQ_split ha
    obtain ⟨x, p⟩ := q
    have hcut := cut_half h0 hqQ
    have hlt := h.lt
    have hxlt : x < w.heap.size := hlt x (by simp only [List.mem_cons]; exact .inr (.inr (.inr (List.mem_map_of_mem (f := (·.1)) hqQ))))
    have hrv : (w.alloc (.cells #[.int .i64 0, .int .i64 0, .string ⟨#[]⟩, .int .i64 0] 31)).heap[w.heap.size]? = some (.cells #[.int .i64 0, .int .i64 0, .string ⟨#[]⟩, .int .i64 0] 31 (0, 0)) := heap_alloc_new w _
    have hno : w.heap.size ∉ rg :: Q.map (·.1) := fun hm => by have := hlt _ (List.mem_cons_of_mem _ (List.mem_cons_of_mem _ hm)); omega
    have hno2 : w.heap.size ∉ x :: rg :: (cutQ Q x).map (·.1) := by
      intro hm
      rcases List.mem_cons.1 hm with h | hm
      · omega
      · rcases List.mem_cons.1 hm with h | hm
        · exact hno (by rw [h]; simp)
        · exact hno (List.mem_cons_of_mem _ (cutQ_sub hm))
    have hF1 := Lib.hid hno; have hF2 := Lib.hid hno2; have hrv' := Lib.hid hrv; have hQ' := Lib.hid hqQ
    have ha' := Lib.hid ha; have hlt' := Lib.hid hlt
    unfold ptr at hlk
    dsimp only at hlk
    clear hqb ha hno hno2 hrv hlt hqQ
    obtain ⟨p1, p2, p3, p4⟩ := p
    go_enter Try.func18, Try.ntmps18
    go_wp2_with (first | (go_at_call 30; refine hcut.mono ?_; rintro e w1 ⟨rfl, hf1, h1⟩; have huse := use_half h1; have hv1 := hf1.keep hrv'.out hF1.out) | (go_at_call 31; refine huse.mono ?_; rintro e w2 ⟨rfl, hf2, h2⟩; obtain ⟨va, vh, hlx⟩ := h2.page (List.mem_cons_self ..); obtain ⟨k0, k1, k2, k3, _, _⟩ := hlx.cells; have lx := lt_of_cell k0; have hv2 := hf2.keep hv1 hF2.out; have v0 := (show w2.cell? ⟨w.heap.size, 0, none⟩ = some (.int .i64 0) from cell_at hv2); have v1 := (show w2.cell? ⟨w.heap.size, 1, none⟩ = some (.int .i64 0) from cell_at hv2); have v2 := (show w2.cell? ⟨w.heap.size, 2, none⟩ = some (.string ⟨#[]⟩) from cell_at hv2); have v3 := (show w2.cell? ⟨w.heap.size, 3, none⟩ = some (.int .i64 0) from cell_at hv2); have z0 := (show w2.frozen? ⟨w.heap.size, 0, none⟩ = false from frozen_at hv2); have z1 := (show w2.frozen? ⟨w.heap.size, 1, none⟩ = false from frozen_at hv2); have z2 := (show w2.frozen? ⟨w.heap.size, 2, none⟩ = false from frozen_at hv2); have z3 := (show w2.frozen? ⟨w.heap.size, 3, none⟩ = false from frozen_at hv2); have lv := lt_of_cell v0))
    have hw : Fr (rg :: Q.map (·.1)) w w2 := ((hf0.mono (by simp)).trans hf1).trans (hf2.mono (fun y hy => by
      rcases List.mem_cons.1 hy with rfl | hy
      · exact List.mem_cons_of_mem _ (List.mem_map_of_mem (f := (·.1)) hQ'.out)
      · rcases List.mem_cons.1 hy with rfl | hy
        · simp
        · exact List.mem_cons_of_mem _ (cutQ_sub hy)))
    have hz : Fr [w.heap.size] w2 ((((w2.setCell ⟨w.heap.size, 0, none⟩ (.int .i64 p1)).setCell ⟨w.heap.size, 1, none⟩ (.int .i64 p2)).setCell ⟨w.heap.size, 2, none⟩ (.string p3)).setCell ⟨w.heap.size, 3, none⟩ (.int .i64 p4)) :=
      ((((Fr.refl [w.heap.size] w2).setCell ⟨w.heap.size, 0, none⟩ _ (.inl (by simp))).setCell ⟨w.heap.size, 1, none⟩ _ (.inl (by simp))).setCell ⟨w.heap.size, 2, none⟩ _ (.inl (by simp))).setCell ⟨w.heap.size, 3, none⟩ _ (.inl (by simp))
    refine bodyPost_ret (v := .tuple #[aggPg (p1, p2, p3, p4), .bool true]) (by simp [results, Try.results18, go_sem, v0, v1, v2, v3]; rfl) rfl ?_
    refine ⟨rfl, hw.andThen hz (by simp), ?_⟩
    unfold getQ
    rw [ha'.out]
    refine h2.fr hz ?_
    intro y hy hm
    simp only [List.mem_singleton] at hm
    have hy' := hlt'.out y (by
      rcases List.mem_cons.1 hy with rfl | hy
      · simp
      · rcases List.mem_cons.1 hy with rfl | hy
        · simp
        · rcases List.mem_cons.1 hy with rfl | hy
          · simp
          · rcases List.mem_cons.1 hy with rfl | hy
            · simp only [List.mem_cons]; exact .inr (.inr (.inr (List.mem_map_of_mem (f := (·.1)) hQ'.out)))
            · simp only [List.mem_cons]; exact .inr (.inr (.inr (cutQ_sub hy))))
    omega
end Go.Proofs.Ytafeemlojlngfaa
