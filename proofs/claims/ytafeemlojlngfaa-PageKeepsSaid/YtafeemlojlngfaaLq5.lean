/- The law's pages: shown; List and Oldest over both. -/
import Derived.Test.YtafeemlojlngfaaLq4
namespace Go.Proofs.Ytafeemlojlngfaa
open Go.RowKit Go.Maps Go.Lib Go.Sort
def onePg : Pg := (1, 1, ⟨#[120]⟩, 1)
theorem set_one : setP 2 [] onePg = (0, [onePg]) := by decide
theorem old_one : (((dirtyP [onePg] 0 256).head?.map (·.2.2.2)).getD 0) = 1 := by decide
set_option maxRecDepth 100000 in
set_option maxHeartbeats 4000000 in
theorem shown_any (w : World) : Calls Try.prog 9 #[] w fun e w' => e = .returned (.bool true) ∧ Fr [] w w' := by
  have hn := new_any 2 w
  go_enter Try.func9, Try.ntmps9
  go_wp2_with (first | (go_at_call 10; refine hn.mono ?_; rintro e w1 ⟨cb, bm, rg, rfl, hf1, l1, l2, l3, hC⟩; have hf1a : Fr [] w1 (w1.alloc (.cells #[.int .i64 1, .int .i64 1, .string ⟨#[120]⟩, .int .i64 1] 31)) := (Fr.refl _ _).alloc _; have hs := set_any (hC.fr0 hf1a) onePg; have e2 : (max 1 (min (2 : Int) 64)).toNat = 2 := rfl; rw [e2] at hs; rw [show List.map (fun x : Nat × Pg => x.2) [] = ([] : List Pg) from rfl, set_one] at hs; unfold ptr) | (go_at_call 20; refine hs.mono ?_; rintro e w2 ⟨rfl, hf2, Q, hQ, hC2, _⟩; have ho := oldest_any hC2; rw [hQ, old_one] at ho) | (go_at_call 16; refine ho.mono ?_; rintro e w3 ⟨rfl, hf3⟩; have hl3 := list_any (hC2.fr0 hf3); rw [hQ] at hl3) | (go_at_call 15; refine hl3.mono ?_; rintro e w4 ⟨v, rfl, hf4, hown4⟩; obtain ⟨a, cap, rfl, _, _, _⟩ := SliceIs.of_owns hown4 rfl))
  go_ret
  refine ⟨rfl, ?_⟩
  exact ((hf1.trans hf1a).andThen hf2 (by simp; omega)).trans (hf3.trans hf4)
theorem Both.start {w w1 w2 : World} {cb bm rg rb n : Nat} (l1 : w.heap.size ≤ cb) (l2 : w.heap.size ≤ bm) (l3 : w.heap.size ≤ rg) (hC : CacheAt w1 cb bm rg n []) (hf2 : Fr [] w1 w2) (l4 : w.heap.size ≤ rb) (hR : RefC w2 rb n []) : Both w2 w.heap.size w2.heap.size cb bm rg rb n [] := by
  have hlt := hC.lt
  have hz := hf2.size
  have hr := hR.lt
  refine ⟨[], rfl, hC.fr0 hf2, hR, ?_⟩
  intro b hb
  simp only [List.map_nil, List.mem_cons, List.not_mem_nil, or_false] at hb hlt
  rcases hb with rfl | rfl | rfl | rfl
  · exact ⟨l4, hr⟩
  · exact ⟨l1, by have := hlt b (by simp); omega⟩
  · exact ⟨l2, by have := hlt b (by simp); omega⟩
  · exact ⟨l3, by have := hlt b (by simp); omega⟩
theorem blist {w : World} {B M cb bm rg rb n : Nat} {P : List Pg} (h : Both w B M cb bm rg rb n P) :
    Calls Try.prog 15 #[.pointer (some ⟨cb, 0, none⟩)] w fun e w' => ∃ v, e = .returned v ∧ Fr [] w w' ∧ SliceIs w' (w.heap.size ≤ ·) encPg v P := by
  obtain ⟨Q, rfl, h2, _⟩ := h
  refine (list_any h2).mono ?_
  rintro e w' ⟨v, rfl, hf, hown⟩
  exact ⟨v, rfl, hf, SliceIs.of_owns hown rfl⟩
def oldP (P : List Pg) : Int := ((dirtyP P 0 256).head?.map (·.2.2.2)).getD 0
theorem bold {w : World} {B M cb bm rg rb n : Nat} {P : List Pg} (h : Both w B M cb bm rg rb n P) :
    Calls Try.prog 16 #[.pointer (some ⟨cb, 0, none⟩)] w fun e w' => e = .returned (.int .i64 (oldP P)) ∧ Fr [] w w' := by
  obtain ⟨Q, rfl, h2, _⟩ := h
  exact oldest_any h2
theorem brold {w : World} {B M cb bm rg rb n : Nat} {P : List Pg} (h : Both w B M cb bm rg rb n P) :
    Calls Try.prog 17 #[.pointer (some ⟨rb, 0, none⟩)] w fun e w' => e = .returned (.int .i64 (oldP P)) ∧ Fr [] w w' :=
  roldest_any h.ref (by have := h.few; omega)
theorem Both.row {w : World} {B M cb bm rg rb n : Nat} {P : List Pg} (h : Both w B M cb bm rg rb n P) : ∃ v, w.cell? ⟨rb, 0, none⟩ = some v ∧ SliceIs w (· ≠ rb) encPg v P := by
  obtain ⟨a, cap, h1, _, _, h2, _⟩ := h.ref.open
  exact ⟨_, by rw [cell_at h1]; rfl, h2⟩
end Go.Proofs.Ytafeemlojlngfaa
