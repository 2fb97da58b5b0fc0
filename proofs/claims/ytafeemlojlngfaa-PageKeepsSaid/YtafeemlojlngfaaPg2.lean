/- Pages (chapter 19): a cache in memory; New. -/
import Derived.Test.YtafeemlojlngfaaPg1
import Derived.Lib.Hide
namespace Go.Proofs.Ytafeemlojlngfaa
open Go.RowKit Go.Maps
def encI (x : Int) : Value := .int .i64 x
set_option maxRecDepth 100000 in
set_option maxHeartbeats 4000000 in
theorem new_raw (n : Int) (w : World) : Calls Try.prog 10 #[.int .i64 n] w fun e w' => e = .returned (ptr (w.heap.size + 1 + 1)) ∧ ∃ W, W = (((w.alloc (.map #[] 0)).alloc (.cells #[.int .i64 0, .int .i64 0, .string ⟨#[]⟩, .int .i64 0, .pointer none, .pointer none] 63)).alloc (.cells #[.int .i64 (max 1 (min n 64)), .map (some w.heap.size), .pointer (some ⟨w.heap.size + 1, 0, none⟩)] 65)) ∧
    w' = ((W.setCell ⟨w.heap.size + 1, 4, none⟩ (ptr (w.heap.size + 1))).setCell ⟨w.heap.size + 1, 5, none⟩ (ptr (w.heap.size + 1))).drew := by
  have hmm := @run_makeMap Try.prog
  go_enter Try.func10, Try.ntmps10
  go_wp2
  obtain ⟨W, hW⟩ : ∃ W, W = (((w.alloc (.map #[] 0)).alloc (.cells #[.int .i64 0, .int .i64 0, .string ⟨#[]⟩, .int .i64 0, .pointer none, .pointer none] 63)).alloc (.cells #[.int .i64 (max 1 (min n 64)), .map (some w.heap.size), .pointer (some ⟨w.heap.size + 1, 0, none⟩)] 65)) := ⟨_, rfl⟩
  have c2 : W.cell? ⟨w.heap.size + 1 + 1, 2, none⟩ = some (.pointer (some ⟨w.heap.size + 1, 0, none⟩)) := by rw [hW]; go_simp
  have r4 : W.cell? ⟨w.heap.size + 1, 4, none⟩ = some (.pointer none) := by rw [hW]; go_simp
  have r5 : W.cell? ⟨w.heap.size + 1, 5, none⟩ = some (.pointer none) := by rw [hW]; go_simp
  have f4 : W.frozen? ⟨w.heap.size + 1, 4, none⟩ = false := by rw [hW]; go_simp
  have f5 : W.frozen? ⟨w.heap.size + 1, 5, none⟩ = false := by rw [hW]; go_simp
  have hsz : w.heap.size + 1 + 1 < W.heap.size := by rw [hW]; simp
  rw [← hW]
  obtain ⟨c, hc⟩ : ∃ c, c = w.heap.size + 1 + 1 := ⟨_, rfl⟩
  obtain ⟨r, hr⟩ : ∃ r, r = w.heap.size + 1 := ⟨_, rfl⟩
  have hcr : c ≠ r := by omega
  have hrc : r ≠ c := by omega
  rw [← hr] at hc
  rw [← hr] at c2 r4 r5 f4 f5 hsz ⊢
  rw [← hc] at c2 hsz ⊢
  have l1 : r < W.heap.size := by omega
  have hW' := Lib.hid hW; have hc' := Lib.hid hc; have hr' := Lib.hid hr
  clear hW hc hr hmm
  go_region
  go_wp2
  go_ret
  have h2 := hr'.out; have h1 := hc'.out
  subst h2
  subst h1
  exact ⟨rfl, W, hW'.out, rfl⟩
/-- A cache in memory: its struct's block, its map's, its ring's; its links and their pages, the one used last first. -/
structure CacheAt (w : World) (cb bm rg : Nat) (n : Nat) (Q : List (Nat × Pg)) : Prop where
  top : w.heap[cb]? = some (.cells #[.int .i64 n, .map (some bm), .pointer (some ⟨rg, 0, none⟩)] 65 (0, 0))
  map : ∃ L : List (Int × Nat), MapOf w encI ptr bm L ∧ L.Perm (Q.map fun q => (q.2.1, q.1))
  ring : ∃ ah bh pg, LinksAt w (rg :: Q.map (·.1)) pg ah bh ∧ Seg ah bh rg (Q.map (·.1)) rg ∧ ∀ q ∈ Q, pg q.1 = q.2
  apart : (cb :: bm :: rg :: Q.map (·.1)).Nodup
  few : Q.length ≤ n ∧ n ≤ 64
theorem CacheAt.fr {w w' : World} {cb bm rg n : Nat} {Q : List (Nat × Pg)} {S : List Nat} (h : CacheAt w cb bm rg n Q) (hf : Fr S w w') (hS : ∀ b ∈ cb :: bm :: rg :: Q.map (·.1), b ∉ S) : CacheAt w' cb bm rg n Q := by
  obtain ⟨t, ⟨L, m, p⟩, ⟨ah, bh, pg, l, s, q⟩, a, f⟩ := h
  exact ⟨hf.keep t (hS cb (by simp)), ⟨L, m.fr hf (hS bm (by simp)), p⟩, ⟨ah, bh, pg, l.fr hf (fun b hb => hS b (by simp at hb ⊢; exact .inr (.inr hb))), s, q⟩, a, f⟩
theorem CacheAt.fr0 {w w' : World} {cb bm rg n : Nat} {Q : List (Nat × Pg)} (h : CacheAt w cb bm rg n Q) (hf : Fr [] w w') : CacheAt w' cb bm rg n Q := h.fr hf (by simp)
theorem CacheAt.nodup {w : World} {cb bm rg n : Nat} {Q : List (Nat × Pg)} (h : CacheAt w cb bm rg n Q) : (Q.map (·.2.1)).Nodup := by
  obtain ⟨L, m, p⟩ := h.map
  have h1 := m.once
  have h2 := (p.map (·.1)).nodup_iff.1 h1
  rw [List.map_map] at h2
  exact h2
theorem new_any (n : Int) (w : World) : Calls Try.prog 10 #[.int .i64 n] w fun e w' => ∃ cb bm rg, e = .returned (ptr cb) ∧ Fr [] w w' ∧ w.heap.size ≤ cb ∧ w.heap.size ≤ bm ∧ w.heap.size ≤ rg ∧ CacheAt w' cb bm rg (max 1 (min n 64)).toNat [] := by
  refine (new_raw n w).mono ?_
  rintro e w' ⟨rfl, W, rfl, rfl⟩
  refine ⟨w.heap.size + 1 + 1, w.heap.size, w.heap.size + 1, rfl, ?_, ?_, Nat.le_refl _, ?_, ?_⟩
  · exact (((((Fr.refl [] w).alloc _).alloc _).alloc _).setCell _ _ (.inr (by simp)) |>.setCell _ _ (.inr (by simp))).drew
  · omega
  · omega
  · have hn : ((max 1 (min n 64)).toNat : Int) = max 1 (min n 64) := by omega
    have hfr : Fr [w.heap.size + 1] (((w.alloc (.map #[] 0)).alloc (.cells #[.int .i64 0, .int .i64 0, .string ⟨#[]⟩, .int .i64 0, .pointer none, .pointer none] 63)).alloc (.cells #[.int .i64 (max 1 (min n 64)), .map (some w.heap.size), .pointer (some ⟨w.heap.size + 1, 0, none⟩)] 65)) _ := (((Fr.refl [w.heap.size + 1] _).setCell ⟨w.heap.size + 1, 4, none⟩ (ptr (w.heap.size + 1)) (.inl (by simp))).setCell ⟨w.heap.size + 1, 5, none⟩ (ptr (w.heap.size + 1)) (.inl (by simp))).drew
    have hm0 : MapOf (w.alloc (.map #[] 0)) encI ptr w.heap.size ([] : List (Int × Nat)) := MapOf.made w encI ptr
    refine ⟨?_, ⟨[], ?_, List.Perm.refl _⟩, ⟨fun _ => w.heap.size + 1, fun _ => w.heap.size + 1, fun _ => (0, 0, ⟨#[]⟩, 0), ?_, ⟨rfl, rfl⟩, by simp⟩, by simp; omega, by simp; omega⟩
    · rw [hn]
      refine hfr.keep ?_ (by simp)
      have := heap_alloc_new ((w.alloc (.map #[] 0)).alloc (.cells #[.int .i64 0, .int .i64 0, .string ⟨#[]⟩, .int .i64 0, .pointer none, .pointer none] 63)) (.cells #[.int .i64 (max 1 (min n 64)), .map (some w.heap.size), .pointer (some ⟨w.heap.size + 1, 0, none⟩)] 65)
      simpa using this
    · exact ((hm0.fr ((Fr.refl [] _).alloc _) (by simp)).fr ((Fr.refl [] _).alloc _) (by simp)).fr hfr (by simp)
    · intro b hb
      simp at hb
      subst hb
      have h1 : LinkV ((w.alloc (.map #[] 0)).alloc (.cells #[.int .i64 0, .int .i64 0, .string ⟨#[]⟩, .int .i64 0, .pointer none, .pointer none] 63)) (w.heap.size + 1) (0, 0, ⟨#[]⟩, 0) (.pointer none) (.pointer none) := by
        have := heap_alloc_new (w.alloc (.map #[] 0)) (.cells #[.int .i64 0, .int .i64 0, .string ⟨#[]⟩, .int .i64 0, .pointer none, .pointer none] 63)
        simpa [LinkV] using this
      exact (((h1.fr ((Fr.refl [] _).alloc _) (by simp)).set_ahead _).set_behind _).drew
end Go.Proofs.Ytafeemlojlngfaa
