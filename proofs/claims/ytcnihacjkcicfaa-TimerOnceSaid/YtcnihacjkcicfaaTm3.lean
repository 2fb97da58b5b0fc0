/- Timers (chapter 6): 'take'. -/
import Derived.Test.YtcnihacjkcicfaaTm2
namespace Go.Proofs.Ytcnihacjkcicfaa
open Go.RowKit Go.Lib Go.Sort Go.Shelf
def cut (L : List ((Int × Int) × Int)) (S : List Al) : List ((Int × Int) × Int) := S.foldl (fun l a => erase l (keyOf a)) L
set_option maxRecDepth 100000 in
set_option maxHeartbeats 1000000 in
theorem take_any (tb bm g : Nat) (cb : Array Value) (p : Al → Bool) (L : List ((Int × Int) × Int)) (T : List Al) (w : World) (ht : w.cell? ⟨tb, 0, none⟩ = some (.map (some bm))) (htb : tb ≠ bm) (hm : MapOf w encKey encI bm L)
    (eg : ∀ args w, (callFunc g args).run Try.prog w = .ok (.enter g args) w) (hwish : WishOk g cb p w) (hL : L.length ≤ 64) (hTs : Srt T) (hTp : (L.map toAl).Perm T) :
    Calls Try.prog 24 #[.pointer (some ⟨tb, 0, none⟩), .func (.func g) #[] cb] w fun e w' => ∃ v, e = .returned v ∧ Fr [bm] w w' ∧ SliceIs w' (w.heap.size ≤ ·) encAl v (T.filter p) ∧ MapOf w' encKey encI bm (cut L (T.filter p)) := by
  have hsome := some_any tb bm g cb p L T w ht hm eg hwish hL hTs hTp
  have lt := lt_of_cell ht
  have lm := hm.lt
  obtain ⟨S, hS⟩ : ∃ S, S = T.filter p := ⟨_, rfl⟩
  rw [← hS] at hsome ⊢
  have hlS : S.length ≤ 64 := by rw [hS]; have := List.length_filter_le p T; have := hTp.length_eq; simp at this; omega
  clear hwish eg hS hTs hTp
  go_enter Try.func24, Try.ntmps24
  go_wp2_with (first | (go_at_call 26; refine hsome.mono ?_; rintro e w1 ⟨v, rfl, hf1, hs1⟩; obtain ⟨a, cap, rfl, hlc, hcm, hat⟩ := hs1.at encAl_len; have hat' := Lib.hid hat; clear hat))
  go_loopg [13] S.length (fun gk iv wr => ∃ i, i ≤ S.length ∧ gk = S.length - i ∧ iv = .int .i64 i ∧ MapOf wr encKey encI bm (cut L (S.take i)) ∧ Fr [bm] w1 wr)
  case atStart => exact ⟨0, Nat.zero_le _, rfl, rfl, hm.fr hf1 (by simp), Fr.refl _ _⟩
  case round =>
    obtain ⟨i, hi, hgk, rfl, hmr, hfr⟩ := hrel
    have hgk' := Lib.hid hgk; clear hgk
    by_cases hlt : i < S.length
    · obtain ⟨g', off, rfl, hg1, hg2, hcells⟩ := hat'.out (by intro h; rw [h] at hlt; simp at hlt)
      obtain ⟨x, hx⟩ : ∃ x, S[i]? = some x := ⟨_, List.getElem?_eq_getElem hlt⟩
      have hne : g' ≠ bm := by omega
      have k0 : wr.cell? ⟨g', off + i * 3, none⟩ = some (.int .i64 x.1) := by rw [hfr.cell (p := ⟨g', _, none⟩) hg2 (by simpa using hne)]; exact hcells i x 0 _ hx rfl
      have k1 : wr.cell? ⟨g', off + i * 3 + 1, none⟩ = some (.int .i64 x.2.1) := by rw [hfr.cell (p := ⟨g', _, none⟩) hg2 (by simpa using hne)]; exact hcells i x 1 _ hx rfl
      have k2 : wr.cell? ⟨g', off + i * 3 + 2, none⟩ = some (.int .i64 x.2.2) := by rw [hfr.cell (p := ⟨g', _, none⟩) hg2 (by simpa using hne)]; exact hcells i x 2 _ hx rfl
      have hcut : cut L (S.take (i + 1)) = erase (cut L (S.take i)) (keyOf x) := by
        unfold cut; rw [List.take_add_one, hx]; simp
      have hcut' := Lib.hid hcut; clear hcut hx hcells
      have htr : wr.cell? ⟨tb, 0, none⟩ = some (.map (some bm)) := by rw [hfr.cell (p := ⟨tb, _, none⟩) (Nat.lt_of_lt_of_le lt hf1.size) (by simpa using htb), hf1.cell (p := ⟨tb, _, none⟩) lt (by simp)]; exact ht
      have ltr := lt_of_cell htr
      go_wp2
      refine wp_region_still_tail 9 (by kernel_rfl) (by kernel_rfl) ?_
      simp only [List.take_succ_cons, List.take_zero, List.drop_succ_cons, List.drop_zero]
      change wpStill Try.prog _ (World.drew _) _ _ _
      repeat still_step
      refine wpStill_nil ?_
      change wpList _ _ _ _ _ (World.drew _)
      have hmr1 := ((hmr.fr ((Fr.refl [] wr).alloc (Obj.cells #[.int .i64 x.1, .int .i64 x.2.1, .int .i64 x.2.2] 32)) (by simp)).drew)
      go_wp2_with (first | (at_delete; refine wpList_del _ rfl _ _ 55 59 rfl keyK Try.underlying55 rfl hmr1 (keyOf x) rfl ?_; intro w2 hm2 hf2 hsz2))
      go_roundg (S.length - (i + 1))
      case rel => exact ⟨i + 1, by omega, rfl, by go_num, by rw [hcut'.out]; exact hm2, (hfr.trans (((Fr.refl _ _).alloc _).drew)).trans hf2⟩
      case measure => rw [hgk'.out]; omega
    · have hiS : i = S.length := by omega
      subst hiS
      go_wp2
      go_ret
      refine ⟨_, rfl, ?_, ?_, ?_⟩
      · exact (hf1.mono (by simp)).trans hfr
      · exact hs1.fr hfr (by intro g' h1 h2 h3; simp at h3; omega)
      · rw [List.take_length] at hmr; exact hmr
theorem new_raw (w : World) : Calls Try.prog 8 #[] w fun e w' => e = .returned (.pointer (some ⟨w.heap.size + 1, 0, none⟩)) ∧ w' = (w.alloc (.map #[] 0)).alloc (.cells #[.map (some w.heap.size)] 57) := by
  have hmm := @run_makeMap Try.prog
  go_enter Try.func8, Try.ntmps8
  go_wp2
  go_ret
  exact ⟨rfl, rfl⟩
set_option maxRecDepth 100000 in
set_option maxHeartbeats 1000000 in
theorem set_bad (tp : Value) (n a t : Int) (w : World) (h : n < 0 ∨ 8 ≤ n ∨ a < 0 ∨ 1099511627776 < a ∨ t < 0 ∨ 255 < t) :
    Calls Try.prog 9 #[tp, .agg #[.int .i64 n, .int .i64 a, .int .i64 t]] w fun e w' => e = .returned (.int .i64 1) ∧ Fr [] w w' := by
  go_enter Try.func9, Try.ntmps9
  go_wp2
  all_goals (go_ret; exact ⟨rfl, (Fr.refl _ _).alloc _⟩)
theorem mapOf_drewN {α β : Type} {encK : α → Value} {encV : β → Value} {w : World} {b : Nat} {L : List (α × β)} (h : MapOf w encK encV b L) (n : Nat) : MapOf (w.drewN n) encK encV b L := h.fr ((Fr.refl [] w).drewN n) (by simp)
/-- What Set comes to, where the alarm may be. -/
def SetOut (bm : Nat) (L : List ((Int × Int) × Int)) (n a t : Int) (b : Bool) (w : World) (e : Ending) (w' : World) : Prop :=
  (b = false ∧ L.length = 64 ∧ e = .returned (.int .i64 2) ∧ Fr [] w w') ∨ ((b = true ∨ L.length < 64) ∧ e = .returned (.int .i64 0) ∧ Fr [bm] w w' ∧ MapOf w' encKey encI bm (upsert L (n, t) a))
set_option maxRecDepth 100000 in
set_option maxHeartbeats 1000000 in
theorem set_ok (tb bm : Nat) (L : List ((Int × Int) × Int)) (n a t : Int) (w : World) (ht : w.cell? ⟨tb, 0, none⟩ = some (.map (some bm))) (hm : MapOf w encKey encI bm L)
    (h1 : 0 ≤ n) (h2 : n < 8) (h3 : 0 ≤ a) (h4 : a ≤ 1099511627776) (h5 : 0 ≤ t) (h6 : t ≤ 255) (hL : L.length ≤ 64) :
    Calls Try.prog 9 #[.pointer (some ⟨tb, 0, none⟩), .agg #[.int .i64 n, .int .i64 a, .int .i64 t]] w (SetOut bm L n a t (look L (n, t)).isSome w) := by
  have lt := lt_of_cell ht
  have lm := hm.lt
  have hw2 : MapOf ((w.alloc (Obj.cells #[.int .i64 n, .int .i64 a, .int .i64 t] 32)).alloc (Obj.cells #[.int .i64 n, .int .i64 t] 59)) encKey encI bm L := hm.fr (((Fr.refl [] w).alloc _).alloc _) (by simp)
  have hlk : ∀ q, (Instr.lookup 55 (.map (some bm)) (.agg #[.int .i64 n, .int .i64 t]) true).run Try.prog (((w.alloc (Obj.cells #[.int .i64 n, .int .i64 a, .int .i64 t] 32)).alloc (Obj.cells #[.int .i64 n, .int .i64 t] 59)).drewN q) =
      .ok (.tuple #[((look L (n, t)).map encI).getD (.int .i64 0), .bool (look L (n, t)).isSome]) (((w.alloc (Obj.cells #[.int .i64 n, .int .i64 a, .int .i64 t] 32)).alloc (Obj.cells #[.int .i64 n, .int .i64 t] 59)).drewN q) := fun q =>
    (mapOf_drewN hw2 q).run_look keyK Try.underlying55 (Try.zeroValue3 _) (n, t) true
  generalize hv : ((look L (n, t)).map encI).getD (.int .i64 0) = v0 at hlk
  clear hv
  generalize hb : (look L (n, t)).isSome = b at hlk ⊢
  clear hb
  have hln : ∀ q, (Builtin.len_ #[55] 3 #[.map (some bm)]).run Try.prog (((w.alloc (Obj.cells #[.int .i64 n, .int .i64 a, .int .i64 t] 32)).alloc (Obj.cells #[.int .i64 n, .int .i64 t] 59)).drewN q) =
      .ok (.int .i64 L.length) (((w.alloc (Obj.cells #[.int .i64 n, .int .i64 a, .int .i64 t] 32)).alloc (Obj.cells #[.int .i64 n, .int .i64 t] 59)).drewN q) := fun q => (mapOf_drewN hw2 q).run_len Try.underlying55 _
  have hfw := ((Fr.refl [] w).alloc (Obj.cells #[.int .i64 n, .int .i64 a, .int .i64 t] 32)).alloc (Obj.cells #[.int .i64 n, .int .i64 t] 59)
  go_enter Try.func9, Try.ntmps9
  go_wp2
  go_quiet (fail)
  have hm3 := (mapOf_drewN hw2 nq).drew
  cases b
  · by_cases hl : L.length = 64
    · rw [hl] at hln
      go_wp2
      go_ret
      exact .inl ⟨rfl, hl, rfl, hfw.drewN nq⟩
    · have hl' : L.length < 64 := by omega
      clear hl
      go_wp2
      refine wp_region_still_tail 7 (by kernel_rfl) (by kernel_rfl) ?_
      simp only [List.take_succ_cons, List.take_zero, List.drop_succ_cons, List.drop_zero]
      change wpStill Try.prog _ (World.drew _) _ _ _
      repeat still_step
      refine wpStill_nil ?_
      change wpList _ _ _ _ _ (World.drew _)
      go_wp2_with (first | (at_mapUpdate; refine wpList_update _ rfl _ _ _ 55 rfl keyK Try.underlying55 rfl hm3 (n, t) rfl a rfl ?_; intro w2 hm2 hf2 hsz2))
      go_ret
      exact .inr ⟨.inr hl', rfl, (((hfw.drewN nq).drew).mono (by simp)).trans hf2, hm2⟩
  · go_wp2
    refine wp_region_still_tail 7 (by kernel_rfl) (by kernel_rfl) ?_
    simp only [List.take_succ_cons, List.take_zero, List.drop_succ_cons, List.drop_zero]
    change wpStill Try.prog _ (World.drew _) _ _ _
    repeat still_step
    refine wpStill_nil ?_
    change wpList _ _ _ _ _ (World.drew _)
    go_wp2_with (first | (at_mapUpdate; refine wpList_update _ rfl _ _ _ 55 rfl keyK Try.underlying55 rfl hm3 (n, t) rfl a rfl ?_; intro w2 hm2 hf2 hsz2))
    go_ret
    exact .inr ⟨.inl rfl, rfl, (((hfw.drewN nq).drew).mono (by simp)).trans hf2, hm2⟩
end Go.Proofs.Ytcnihacjkcicfaa
