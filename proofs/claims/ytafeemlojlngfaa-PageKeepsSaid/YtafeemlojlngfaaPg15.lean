/- Pages (chapter 19): Clean, way by way. -/
import Derived.Test.YtafeemlojlngfaaPg14
namespace Go.Proofs.Ytafeemlojlngfaa
open Go.RowKit Go.Maps
def cleanP (P : List Pg) (b t : Int) : Int × List Pg :=
  match findP P b with
  | none => (3, P)
  | some q => if q.2.2.2 = 0 then (3, P) else if q.2.1 ≠ t then (5, P) else (0, P.map fun p => if p.1 = b then (p.1, p.2.1, p.2.2.1, 0) else p)
set_option maxRecDepth 100000 in
set_option maxHeartbeats 2000000 in
theorem clean_none {cb bm rg n : Nat} {Q : List (Nat × Pg)} {w : World} (h : CacheAt w cb bm rg n Q) (b t : Int) (hat : atQ Q b = none) :
    Calls Try.prog 21 #[.pointer (some ⟨cb, 0, none⟩), .int .i64 b, .int .i64 t] w fun e w' => e = .returned (.int .i64 3) ∧ w' = w := by
  have hlk := h.look b false
  rw [hat] at hlk
  simp only [Option.map_none, Option.getD_none, Bool.false_eq_true, if_false] at hlk
  have c1 : w.cell? ⟨cb, 1, none⟩ = some (.map (some bm)) := by rw [cell_at h.top]; rfl
  have lc := lt_of_cell c1
  clear h hat
  go_enter Try.func21, Try.ntmps21
  go_wp2
  go_ret
  exact ⟨rfl, rfl⟩
set_option maxRecDepth 100000 in
set_option maxHeartbeats 2000000 in
theorem clean_some {cb bm rg n : Nat} {Q : List (Nat × Pg)} {w : World} {x : Nat} {q1 q2 : Int} {q3 : ByteArray} {q4 : Int} (h : CacheAt w cb bm rg n Q) (b t : Int) (hat : atQ Q b = some (x, q1, q2, q3, q4)) :
    Calls Try.prog 21 #[.pointer (some ⟨cb, 0, none⟩), .int .i64 b, .int .i64 t] w fun e w' => (q4 = 0 → e = .returned (.int .i64 3) ∧ w' = w) ∧ (q4 ≠ 0 → q2 ≠ t → e = .returned (.int .i64 5) ∧ w' = w) ∧ (q4 ≠ 0 → q2 = t → e = .returned (.int .i64 0) ∧ w' = w.setCell ⟨x, 3, none⟩ (.int .i64 0)) := by
  have hlk := h.look b false
  rw [hat] at hlk
  simp only [Option.map_some, Option.getD_some, Bool.false_eq_true, if_false] at hlk
  unfold ptr at hlk
  have c1 : w.cell? ⟨cb, 1, none⟩ = some (.map (some bm)) := by rw [cell_at h.top]; rfl
  have lc := lt_of_cell c1
  obtain ⟨va, vh, hlx⟩ := h.page (atQ_split hat).2
  obtain ⟨k0, k1, k2, k3, _, _⟩ := hlx.cells
  have u3 := hlx.free 3
  have lx := lt_of_cell k0
  dsimp only at *
  clear h hat hlx
  by_cases z : q4 = 0
  · subst z
    go_enter Try.func21, Try.ntmps21
    go_wp2
    go_ret
    exact ⟨fun _ => ⟨rfl, rfl⟩, fun h => absurd rfl h, fun h => absurd rfl h⟩
  · have z' : (q4 == 0) = false := by simpa using z
    by_cases s : q2 = t
    · subst s
      go_enter Try.func21, Try.ntmps21
      go_wp2
      go_ret
      exact ⟨fun h => absurd h z, fun _ h => absurd rfl h, fun _ _ => ⟨rfl, rfl⟩⟩
    · have s' : (q2 != t) = true := by simpa using s
      go_enter Try.func21, Try.ntmps21
      go_wp2
      go_ret
      exact ⟨fun h => absurd h z, fun _ _ => ⟨rfl, rfl⟩, fun _ h => absurd h s⟩
end Go.Proofs.Ytafeemlojlngfaa
