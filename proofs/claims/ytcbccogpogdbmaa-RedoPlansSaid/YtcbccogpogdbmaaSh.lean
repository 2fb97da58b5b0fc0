/- The anchor of all laws: shown. -/
import Derived.Test.YtcbccogpogdbmaaLp2
namespace Go.Proofs.Ytcbccogpogdbmaa
open Go.RowKit Go.Maps Go.Lib Go.Sort
attribute [local go_sem ↓] Go.wp_at_zero Go.wp_at_succ
theorem okl_nil (slots : Nat) : OkL slots 0 [] [] := ⟨fun j r h => by simp at h, fun r h => by simp at h, by simp, by omega, by simp⟩
theorem open_new {w : World} {ab ag : Nat} {left : Int} (hA : AreaAt w ab ag (List.replicate 256 ⟨#[]⟩) left) (base slots : Nat) (h1 : 1 ≤ slots) (h2 : slots ≤ 20) (h3 : base + 3 * slots ≤ 256) :
    Calls Try.prog 16 #[areaV ab, .int .i64 base, .int .i64 slots] w fun e w' => ∃ lb, e = .returned (.tuple #[.pointer (some ⟨lb, 0, none⟩), .int .i64 0]) ∧ Fr [] w w' ∧ LogAt (w.heap.size ≤ ·) w' lb ab base slots 0 [] [] := by
  refine (open_ok hA base slots h1 h2 h3).mono ?_
  rintro e w' ⟨lb, rfl, hf, hl⟩
  obtain ⟨P, k1, k2, -⟩ := kept_is (area_empty base slots) (okl_nil slots) h1
  rw [k1, k2 rfl, last_is (area_empty base slots) h1 (by omega)] at hl
  exact ⟨lb, rfl, hf, hl⟩
theorem append_x : appendP 2 0 [] [] 1 2 ⟨#[120]⟩ = (1, 0, [(1, 1, 2, ⟨#[120]⟩)]) := by rfl
set_option maxRecDepth 100000 in
set_option maxHeartbeats 2000000 in
theorem shown_any (w : World) : Calls Try.prog 11 #[] w fun e w' => e = .returned (.bool true) ∧ Fr [] w w' := by
  go_enter Try.func11, Try.ntmps11
  go_wp2_with (first
    | (go_at_call 15; refine (newArea_any _).mono ?_; rintro e w1 ⟨rfl, hf1, ha1⟩; have hz1 := ha1.lt; have ho := open_new ha1 0 2 (by omega) (by omega) (by omega); unfold areaV at ho; have ho' := Lib.hid ho; have hf1' := Lib.hid hf1; have ha1' := Lib.hid ha1; clear ho hf1 ha1)
    | (go_at_call 16; refine ho'.out.mono ?_; rintro e w2 ⟨lb, rfl, hf2, hl2⟩; have ha2 := ha1'.out.fr hf2 (by simp) (by simp); have hzz := hf2.size; have hlt := hl2.at; have hap := append_any (hl2.imp (G' := fun g => w1.heap.size ≤ g) (fun g _ h => h)) (fun g hg => by show _ ≤ _; omega) (by omega) (by omega) (by omega) (by simp) (by simp) 1 2 ⟨#[120]⟩; rw [append_x] at hap; dsimp only at hap; have hap' := Lib.hid hap; have hf2' := Lib.hid hf2; have ha2' := Lib.hid ha2; clear hap hf2 hl2 ha2)
    | (go_at_call 17; refine hap'.out.mono ?_; rintro e w3 ⟨rfl, hf3, hl3⟩; have hl3a := hl3; have ha3 := ha2'.out.fr hf3 (by simp; omega) (by simp; omega); have hco := commit_any hl3 (fun g hg => by have := hf3.size; show _ ≤ _; omega) ha3 (by omega) (by omega) (by omega) (by omega) (by omega) (by omega) (by simp) (by intro r hr; rw [List.mem_singleton.1 hr]; rfl); rw [commit_free _ _ _ _ _ _ _ (by omega)] at hco; dsimp only [lastQ, List.nil_append] at hco; have hco' := Lib.hid hco; have hf3' := Lib.hid hf3; clear hco hf3 hl3 hl3a ha3)
    | (go_at_call 18; refine hco'.out.mono ?_; rintro e w4 ⟨rfl, ⟨T, hT, hf4⟩, ha4, hl4⟩; have hla := last_any hl4; have hla' := Lib.hid hla; have hf4' := Lib.hid hf4; have hT' := Lib.hid hT; clear hla hf4 ha4 hl4 hT)
    | (go_at_call 19; refine hla'.out.mono ?_; rintro e w5 ⟨rfl, rfl⟩))
  go_ret
  refine ⟨rfl, ((((hf1'.out.trans hf2'.out).andThen hf3'.out (fun t ht => .inr ?_))).andThen hf4'.out (fun t ht => .inr ?_))⟩
  · have : t = lb := by simpa using ht
    have := hf1'.out.size
    omega
  · have := hf1'.out.size
    rcases hT'.out t ht with h | h | h <;> omega
end Go.Proofs.Ytcbccogpogdbmaa
