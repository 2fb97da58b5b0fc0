/- Timers (chapter 6): 'some': a filtered range over the map, sorted. -/
import Derived.Test.YtcnihacjkcicfaaTmP
import Derived.Shelf.Lay
import Derived.Lib.Hide
namespace Go.Proofs.Ytcnihacjkcicfaa
open Go.RowKit Go.Lib Go.Sort Go.Shelf

theorem sort_any (base : Nat) (v : Value) (S T : List Al) (w : World) (h : w.ownsRow base 32 3 v S.length (S.flatMap encAl)) (hlen : S.length < 4611686018427387904) (hT : Srt T) (hp : S.Perm T) :
    Calls Try.prog 32 #[v, .func (.func 33) #[] #[]] w fun e w' => e = .returned (.tuple #[]) ∧ Fr v.ownBlock.toList w w' ∧ SliceIs w' (base ≤ ·) encAl v T := by
  have eg : ∀ args w, (callFunc 33 args).run Try.prog w = .ok (.enter 33 args) w := enters_of Try.func33 (by kernel_rfl) rfl
  have hlT : T.length = S.length := hp.length_eq.symm
  rcases h.2 with ⟨rfl, h0⟩ | ⟨g, cap, cur, rfl, hb, hg, hnc, hcm, hcs, htake⟩
  · have hS : S = [] := List.eq_nil_of_length_eq_zero h0
    subst hS
    have hT0 : T = [] := List.eq_nil_of_length_eq_zero hlT
    subst hT0
    refine (AnyF.slices_SortFunc_none (P := Try.prog) (ρ := Try.sortL_ren) { Try.sortL with } none 0 (.func (.func 33) #[] #[]) w).mono ?_
    rintro e w' ⟨rfl, rfl⟩
    exact ⟨rfl, Fr.refl _ _, SliceIs.nil _ _ _⟩
  · have hH := holdsK_of_owns encAl_len (by omega) h
    have hblk := lt_of_block hg
    have h3 := AnyQ.slices_SortFunc_total Try.sortL 3 Try.isAgg32 Try.sizeOf32 encAl encAl_len (by intro x v hv; simp [encAl] at hv; rcases hv with rfl | rfl | rfl <;> rfl) cfA swoA 33 #[] g 0 cap S.toArray w eg
      (fun m os dk _ x y => order_any x y _) hH hblk (by simpa using hlen) totA
    have h4 : S.toArray.size = S.length := by simp
    rw [h4] at h3
    refine Calls.mono h3 ?_
    rintro e w' ⟨rfl, n, os, rfl⟩
    have h5 : (S.toArray.toList.mergeSort fun x y => !ltOf cfA y x) = T := sorted_is hT hp
    rw [h5]
    exact ⟨rfl, fr_sortWorldK _ _ _ _ _ _ _ _, SliceIs.of_sorted encAl_len (by omega) hH hblk hlT rfl hnc hcm hb⟩

theorem infoAl : (Try.prog.info? 32).map (fun i => (i.zero, i.size, i.bytes)) = some (some (.agg #[.int .i64 0, .int .i64 0, .int .i64 0]), 3, 24) := by kernel_rfl

set_option maxRecDepth 100000 in
set_option maxHeartbeats 1000000 in
theorem some_any (tb bm g : Nat) (cb : Array Value) (p : Al → Bool) (L : List ((Int × Int) × Int)) (T : List Al) (w : World) (ht : w.cell? ⟨tb, 0, none⟩ = some (.map (some bm))) (hm : MapOf w encKey encI bm L)
    (eg : ∀ args w, (callFunc g args).run Try.prog w = .ok (.enter g args) w) (hwish : WishOk g cb p w) (hL : L.length ≤ 64) (hTs : Srt T) (hTp : (L.map toAl).Perm T) :
    Calls Try.prog 26 #[.pointer (some ⟨tb, 0, none⟩), .func (.func g) #[] cb] w fun e w' => ∃ v, e = .returned v ∧ Fr [] w w' ∧ SliceIs w' (w.heap.size ≤ ·) encAl v (T.filter p) := by
  have lt := lt_of_cell ht
  have lm := hm.lt
  have hnd := hm.once
  go_enter Try.func26, Try.ntmps26
  go_wp2_with (first | (at_range; refine wpList_range _ rfl _ 55 rfl Try.underlying55 rfl hm ?_; intro w0 hr0 hf0 hs0))
  go_frame
  go_loopg [5] L.length (fun gk v wr => ∃ (left : Int × Int → Bool) (acc : List Al), RangeOf wr encKey encI bm w.heap.size L left ∧ got p L left acc ∧ wr.ownsRow (w.heap.size + 1) 32 3 v acc.length (acc.flatMap encAl) ∧ Fr [] w wr ∧ gk = (L.filter fun e => left e.1).length)
  case atStart =>
    exact ⟨fun _ => true, [], hr0, by simp [got], World.ownsRow_nil _ _ _ _, hf0, by rw [List.filter_eq_self.2 (by simp)]⟩
  case round =>
    obtain ⟨left, acc, hr, hg, hown, hf, hk⟩ := hrel
    have hk' := Lib.hid hk; clear hk
    have hg' := Lib.hid hg; clear hg
    have hri := hr.iter_lt
    go_wp2_with (first | (at_next; refine wpList_next _ rfl _ rfl rfl hr ?_ ?_; intro hdone; have hdone' := Lib.hid hdone; clear hdone; rotate_left; intro y u w1 hy hl hr1 hf1 hs1 hen; have hs1' := Lib.hid hs1; clear hs1; obtain ⟨y1, y2⟩ := y; dsimp only [encKey, encI] at hen ⊢; rotate_right))
    · have hpm := (got_end hdone'.out hg'.out).trans (hTp.filter p)
      refine (sort_any _ _ acc (T.filter p) _ hown (by have := got_len hg'.out; omega) (hTs.filter p) hpm).mono ?_
      rintro e w2 ⟨rfl, hf2, hsl⟩
      go_wp2
      go_ret
      refine ⟨u5, rfl, ?_, ?_⟩
      · refine hf.andThen hf2 ?_
        intro t ht'
        have := hown.lt t (by simpa using ht')
        omega
      · exact hsl.imp (fun g _ h => by omega)
    · have hfw1 : Fr [] w w1 := hf.andThen hf1 (by intro t ht'; simp at ht'; omega)
      have hlt1 : w.heap.size < w1.heap.size := hr1.iter_lt
      refine (hwish (y1, u, y2) _ ((hfw1.alloc _).alloc _)).mono ?_
      rintro e w2 ⟨rfl, hf2⟩
      have hf12 : Fr [] w1 w2 := (((Fr.refl [] w1).alloc _).alloc _).trans hf2
      have hc0 : w2.cell? ⟨w1.heap.size + 1, 0, none⟩ = some (.int .i64 y1) := by rw [hf2.cell (p := ⟨w1.heap.size + 1, 0, none⟩) (by simp) (by simp)]; go_simp
      have hc1 : w2.cell? ⟨w1.heap.size + 1, 1, none⟩ = some (.int .i64 u) := by rw [hf2.cell (p := ⟨w1.heap.size + 1, 1, none⟩) (by simp) (by simp)]; go_simp
      have hc2 : w2.cell? ⟨w1.heap.size + 1, 2, none⟩ = some (.int .i64 y2) := by rw [hf2.cell (p := ⟨w1.heap.size + 1, 2, none⟩) (by simp) (by simp)]; go_simp
      have hown2 := owns_fr hown (hf1.trans (hf12.mono (by simp))) (by intro t ht'; simp at ht'; omega)
      have hr2 := hr1.fr hf12 (by simp) (by simp)
      have hfw2 := hfw1.trans hf12
      have hgs := got_step hnd hy hl hg'.out
      have hml := (filter_add hnd hy hl).2
      have hgl := got_len hg'.out
      have hsz2 : w.heap.size < w2.heap.size := hr2.iter_lt
      clear hf2 hown hr hr1 hr0 hf0 hs0 hfw1 hf12 hf1 hen hwish eg
      by_cases hp : p (y1, u, y2) = true
      · rw [hp]
        rw [if_pos hp] at hgs
        have hgs' := Lib.hid hgs; clear hgs
        have hml' := Lib.hid hml; clear hml
        have hp' := Lib.hid hp; clear hp
        go_wp2_with (first | (at_builtin; refine wpList_push w2 _ _ rfl _ _ 22 rfl (w.heap.size + 1) 32 Try.underlying22 infoAl rfl (by omega) u5 acc rfl hown2 (y1, u, y2) rfl encAl_len (by intro v hv; simp [encAl] at hv; rcases hv with rfl | rfl | rfl <;> rfl) rfl (by omega) (by omega) (by omega) ?_; intro v' w3 hown3 hf3))
        have hob := hown2.lt
        go_roundg (L.filter fun e => left e.1 && decide (e.1 ≠ (y1, y2))).length
        case rel => exact ⟨_, _, hr2.fr hf3 (by intro hm'; have := hob _ (by simpa using hm'); omega) (by intro hm'; have := hob _ (by simpa using hm'); omega), hgs'.out, hown3, hfw2.andThen hf3 (fun t ht' => by have := hob t (by simpa using ht'); omega), rfl⟩
        case measure => rw [hk'.out]; exact hml'.out
      · have hp0 : p (y1, u, y2) = false := by simpa using hp
        rw [hp0]
        rw [if_neg hp] at hgs
        have hgs' := Lib.hid hgs; clear hgs
        have hml' := Lib.hid hml; clear hml
        clear hp hp0
        go_wp2
        go_roundg (L.filter fun e => left e.1 && decide (e.1 ≠ (y1, y2))).length
        case rel => exact ⟨_, acc, hr2, hgs'.out, hown2, hfw2, rfl⟩
        case measure => rw [hk'.out]; exact hml'.out
end Go.Proofs.Ytcnihacjkcicfaa
