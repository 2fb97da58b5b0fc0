/- Pages (chapter 19): the order of dirty pages; slices.SortFunc over pages. -/
import Derived.Test.YtafeemlojlngfaaPg19
import Derived.Test.YtafeemlojlngfaaShelfP
import Derived.Deep.RegionHeld3
import Derived.Deep.LoopGhost
import Derived.Sort.LotA
namespace Go.Proofs.Ytafeemlojlngfaa
open Go.RowKit Go.Maps Go.Lib Go.Sort Go.Shelf
def or2 (x y : Int) : Int := if x = 0 then y else x
set_option maxHeartbeats 400000 in
theorem or_any (b : Nat) (x y : Int) (w : World) (h0 : w.cell? ⟨b, 0, none⟩ = some (.int .i64 x)) (h1 : w.cell? ⟨b, 1, none⟩ = some (.int .i64 y)) (c : Nat) :
    Calls Try.prog 41 #[.slice (some ⟨b, 0, none⟩) 2 c] w fun e w' => e = .returned (.int .i64 (or2 x y)) ∧ w' = w := by
  by_cases hx : x = 0
  · by_cases hy : y = 0
    · subst hx hy
      go_enter Try.func41, Try.ntmps41
      go_wp2
      refine wp_loop_rounds 3 ?_
      iterate 3 (rw [rounds_succ]; go_wp2)
      go_ret
      exact ⟨rfl, rfl⟩
    · have hy' : (y != 0) = true := by simpa using hy
      have e1 : or2 0 y = y := by simp [or2]
      subst hx
      rw [e1]; clear e1
      go_enter Try.func41, Try.ntmps41
      go_wp2
      refine wp_loop_rounds 3 ?_
      iterate 2 (rw [rounds_succ]; go_wp2)
      go_ret
      exact ⟨rfl, rfl⟩
  · have hx' : (x != 0) = true := by simpa using hx
    have e1 : or2 x y = x := by simp [or2, hx]
    rw [e1]; clear e1
    go_enter Try.func41, Try.ntmps41
    go_wp2
    refine wp_loop_rounds 3 ?_
    iterate 1 (rw [rounds_succ]; go_wp2)
    go_ret
    exact ⟨rfl, rfl⟩
def cfP (a b : Pg) : Int := or2 (Lib.compareInt a.2.2.2 b.2.2.2) (Lib.compareInt a.1 b.1)
set_option maxRecDepth 100000 in
set_option maxHeartbeats 1000000 in
theorem order_raw (b t : Int) (d : ByteArray) (s b' t' : Int) (d' : ByteArray) (s' : Int) (w : World) :
    Calls Try.prog 40 #[.agg #[.int .i64 b, .int .i64 t, .string d, .int .i64 s], .agg #[.int .i64 b', .int .i64 t', .string d', .int .i64 s']] w fun e w' => e = .returned (.int .i64 (cfP (b, t, d, s) (b', t', d', s'))) ∧ ∃ o1 o2 o3, w' = (((w.alloc o1).alloc o2).alloc o3).drew := by
  unfold cfP
  have hor := or_any (w.heap.size + 1 + 1) (Lib.compareInt s s') (Lib.compareInt b b') (((w.alloc (Obj.cells #[.int .i64 b, .int .i64 t, .string d, .int .i64 s] 31)).alloc (Obj.cells #[.int .i64 b', .int .i64 t', .string d', .int .i64 s'] 31)).alloc
    (Obj.cells #[.int .i64 (compareInt s s'), .int .i64 (compareInt b b')] 3)).drew (by go_simp) (by go_simp) 2
  go_enter Try.func40, Try.ntmps40
  go_wp2
  go_region_held3 (fun w' => w'.cell? ⟨w.heap.size, 0, none⟩ = some (.int .i64 b) ∧ w'.cell? ⟨w.heap.size, 3, none⟩ = some (.int .i64 s) ∧ w'.cell? ⟨w.heap.size + 1, 0, none⟩ = some (.int .i64 b') ∧ w'.cell? ⟨w.heap.size + 1, 3, none⟩ = some (.int .i64 s')) (go_keep)
    (first | (go_at_call 42; refine (cmp_int _ _ _).mono ?_; rintro e w' ⟨rfl, rfl⟩) | (go_at_call 41; refine hor.mono ?_; rintro e w' ⟨rfl, rfl⟩))
  all_goals go_wp2
  go_ret
  exact ⟨rfl, _, _, _, rfl⟩
theorem order_any (x y : Pg) (w : World) : Calls Try.prog 40 #[aggPg x, aggPg y] w fun e w' => e = .returned (.int .i64 (cfP x y)) ∧ ∃ q os, w' = grow (w.drewN q) os := by
  refine (order_raw x.1 x.2.1 x.2.2.1 x.2.2.2 y.1 y.2.1 y.2.2.1 y.2.2.2 w).mono ?_
  rintro e w' ⟨rfl, o1, o2, o3, rfl⟩
  refine ⟨rfl, 1, #[o1, o2, o3], ?_⟩
  simp [grow, World.drewN]
  rfl
def ltP (a b : Pg) : Prop := a.2.2.2 < b.2.2.2 ∨ a.2.2.2 = b.2.2.2 ∧ a.1 < b.1
instance (a b : Pg) : Decidable (ltP a b) := by unfold ltP; exact inferInstance
theorem cmp_cases (x y : Int) : (compareInt x y = -1 ∧ x < y) ∨ (compareInt x y = 0 ∧ x = y) ∨ (compareInt x y = 1 ∧ y < x) := by
  unfold compareInt
  by_cases h1 : x < y
  · left; simp [h1]
  · by_cases h2 : x > y
    · right; right; simp [h1, h2]
    · right; left; simp [h1, h2]; omega
theorem cfP_neg (a b : Pg) : cfP a b < 0 ↔ ltP a b := by
  obtain ⟨a1, a2, a3, a4⟩ := a
  obtain ⟨b1, b2, b3, b4⟩ := b
  simp only [cfP, or2, ltP]
  rcases cmp_cases a1 b1 with ⟨h, g⟩ | ⟨h, g⟩ | ⟨h, g⟩ <;> rcases cmp_cases a4 b4 with ⟨h', g'⟩ | ⟨h', g'⟩ | ⟨h', g'⟩ <;> rw [h, h'] <;> simp <;> omega
theorem ltOf_cfP (a b : Pg) : ltOf cfP a b = decide (ltP a b) := by
  unfold ltOf
  by_cases h : ltP a b
  · simp [h, (cfP_neg a b).2 h]
  · have : ¬ cfP a b < 0 := fun q => h ((cfP_neg a b).1 q)
    simp [h]; omega
theorem swoP : SWO (ltOf cfP) where
  irrefl x := by rw [ltOf_cfP]; simp [ltP]
  trans x y z h1 h2 := by simp only [ltOf_cfP, decide_eq_true_eq] at *; unfold ltP at *; omega
  ntrans x y z h1 h2 := by simp only [ltOf_cfP, decide_eq_false_iff_not] at *; unfold ltP at *; omega
/-- Sorted, and no two alike. -/
def SrtP (S : List Pg) : Prop := S.Pairwise ltP
theorem srt_is {d' : List Pg} {T : List Pg} (hn : (T.map (·.1)).Nodup) (hT : SrtP T) (hp : d'.Perm T) (hs : d'.Pairwise fun x y => ¬ ltP y x) : d' = T := by
  refine List.Perm.eq_of_pairwise (le := fun x y => ¬ ltP y x) ?_ hs (hT.imp ?_) hp
  · intro a b ha hb h1 h2
    refine inj_once (f := (·.1)) hn (hp.mem_iff.1 ha) hb ?_
    unfold ltP at h1 h2
    omega
  · intro a b h
    unfold ltP at *; omega
theorem sorted_list {d d' : Array Pg} (hp : PermIn 0 d.size d d') (hs : SortedIn (ltOf cfP) 0 d.size d') : d'.toList.Perm d.toList ∧ d'.toList.Pairwise fun x y => ¬ ltP y x := by
  obtain ⟨h1, _, h3⟩ := hp
  rw [show d.extract 0 d.size = d from by simp, ← h1, show d'.extract 0 d'.size = d' from by simp] at h3
  refine ⟨h3, ?_⟩
  rw [List.pairwise_iff_getElem]
  intro i j hi hj hij
  have := hs i j (Nat.zero_le _) hij (by rw [← h1]; simpa using hj)
  rw [ltOf_cfP, decide_eq_false_iff_not] at this
  simp only [Array.length_toList] at hi hj
  rw [getElem!_pos d' i hi, getElem!_pos d' j hj] at this
  simpa using this
theorem sort_any (base : Nat) (v : Value) (S T : List Pg) (w : World) (h : w.ownsRow base 31 4 v S.length (S.flatMap encPg)) (hlen : S.length < 4611686018427387904) (hT : SrtP T) (hn : (T.map (·.1)).Nodup) (hp : S.Perm T) :
    Calls Try.prog 39 #[v, .func (.func 40) #[] #[]] w fun e w' => e = .returned (.tuple #[]) ∧ Fr v.ownBlock.toList w w' ∧ SliceIs w' (base ≤ ·) encPg v T := by
  have eg : ∀ args w, (callFunc 40 args).run Try.prog w = .ok (.enter 40 args) w := enters_of Try.func40 (by kernel_rfl) rfl
  have hlT : T.length = S.length := hp.length_eq.symm
  rcases h.2 with ⟨rfl, h0⟩ | ⟨g, cap, cur, rfl, hb, hg, hnc, hcm, hcs, htake⟩
  · have hS : S = [] := List.eq_nil_of_length_eq_zero h0
    subst hS
    have hT0 : T = [] := List.eq_nil_of_length_eq_zero hlT
    subst hT0
    refine (AnyF.slices_SortFunc_none (P := Try.prog) (ρ := Try.sortL_ren) { Try.sortL with } none 0 (.func (.func 40) #[] #[]) w).mono ?_
    rintro e w' ⟨rfl, rfl⟩
    exact ⟨rfl, Fr.refl _ _, SliceIs.nil _ _ _⟩
  · have hH := holdsK_of_owns encPg_len (by omega) h
    have hblk := lt_of_block hg
    have h3 := AnyQ.slices_SortFunc Try.sortL 4 Try.isAgg31 Try.sizeOf31 encPg encPg_len enc1 cfP swoP 40 #[] g 0 cap S.toArray w eg
      (fun m os dk _ x y => order_any x y _) hH hblk (by simpa using hlen)
    have h4 : S.toArray.size = S.length := by simp
    rw [h4] at h3
    refine Calls.mono h3 ?_
    rintro e w' ⟨rfl, d', n, os, hpi, hso, rfl⟩
    rw [← h4] at hpi hso
    obtain ⟨q1, q2⟩ := sorted_list hpi hso
    have h5 : d'.toList = T := srt_is hn hT (q1.trans (by simpa using hp)) q2
    have h6 : d' = T.toArray := by rw [← h5]
    rw [h6]
    exact ⟨rfl, fr_sortWorldK _ _ _ _ _ _ _ _, SliceIs.of_sorted encPg_len (by omega) hH hblk hlT rfl hnc hcm hb⟩
end Go.Proofs.Ytafeemlojlngfaa
