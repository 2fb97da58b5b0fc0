/- ConfigApplies: the row and its card. -/
import Derived.Test.YthhpamaeibjpaaaDoorCards
import Derived.Test.YthhpamaeibjpaaaDoorTie
import Derived.SevenTiedAt
import Derived.Lib.SmallJoins
import Derived.Test.YthhpamaeibjpaaaDoorZx21
import Derived.Test.YthhpamaeibjpaaaDoorZx26
section
namespace Go.Proofs.YthhpamaeibjpaaaDoor
open Go.ChangeShapes Go.WideShapes Go.ChangeAt Go.RowKit
section
variable {H : Type} {ec : TypeId × Value → H} {W : World}
set_option maxRecDepth 10000 in
theorem made_pt : Made ec Tryd.prog W 71 encPt := by
  intro n cs y h
  obtain ⟨_, _, _, _, hl, _, _⟩ := DataW.trod_struct Tryd.underlying71 h
  obtain ⟨r, hr⟩ := field_made Tryd.underlying71 h 0 0 2 28 rfl (by kernel_rfl) made_rg
  obtain ⟨x, hx⟩ := field_made Tryd.underlying71 h 1 2 1 3 rfl (by kernel_rfl) (made_int Tryd.underlying3)
  obtain ⟨y, hy⟩ := field_made Tryd.underlying71 h 2 3 1 3 rfl (by kernel_rfl) (made_int Tryd.underlying3)
  have h3 : Tryd.prog.cellsOf 71 = 4 := by kernel_rfl
  rw [h3] at hl
  match cs, hl with
  | [c0, c1, c2, c3], _ =>
    simp at hx hy hr
    obtain ⟨r1, r2⟩ := r
    simp [encRg] at hr
    obtain ⟨rfl, rfl⟩ := hr
    exact ⟨(r1, r2, x, y), by rw [hx, hy]; rfl⟩
end
set_option maxRecDepth 100000 in
theorem configApplies_lifted (os : Os) (started : os.Started) (H : Type) (enc : TypeId × Value → H) :
    ReturnsInHanded {} Tryd.checked os 3 .any (fun w args => (Rows.configAppliesSpec.pre enc Tryd.prog Tryd.f3 [] false w args ∧ laidMetH Tryd.prog lst w) ∧ sizedMet enc Tryd.prog Tryd.f3 (OpenSpec.ofChange Rows.configAppliesSpec) false w args)
      (Rows.configAppliesSpec.post enc Tryd.prog Tryd.f3 false true false false) := by
  refine returnsInHanded_of_change_and (C := Tryd.checked) (X := fun w _ => laidMetH Tryd.prog lst w) (fun _ _ _ hh h => h.of_heap hh) own started (by kernel_rfl) Tryd.func3
    (ChangeSpec.witness_shaped (enc := enc) (C := Tryd.checked) (os := os) (X := fun w _ => laidMetH Tryd.prog lst w) false (World.doorLaid Tryd.prog 600 os) #[.slice none 0 0, .agg #[.int .i64 0, .slice none 0 0, .slice none 0 0, .int .i64 0], .agg #[.int .i64 0, .int .i64 0, .int .i64 0, .int .i64 0, .int .i64 0]] 8 rfl (World.shaped_of_RefB (by kernel_rfl) (by kernel_rfl)) (by kernel_rfl) (by kernel_rfl) (by kernel_rfl) (door_met os _)) ?_
  intro W base args ds gs before hval0 hW _ _ hL _
  have hval : ∀ (j : Nat) t v, Tryd.f3.params[j]? = some t → args[j]? = some v → Value.okWide Tryd.prog W .any base t v := hval0
  have hW' := hW
  obtain ⟨p, q, hA0, hV, rfl, hfz, hnd⟩ := hW
  have hA : DataW.TrodAll enc Tryd.prog W 0 (fun _ => true) true Tryd.f3.params.toList args.toList ds p := hA0
  rw [Tryd.params3] at hA hval
  obtain ⟨v0, vs0, d0, ds0, p0, q0, hargs, rfl, rfl, h0, r0⟩ := trodAll_cons hA
  obtain ⟨v1, vs1, d1, ds1, p1, q1, rfl, rfl, rfl, h1, r1⟩ := trodAll_cons r0
  obtain ⟨v2, vs2, d2, ds2, p2, q2, rfl, rfl, rfl, h2, r2⟩ := trodAll_cons r1
  obtain ⟨rfl, rfl, rfl⟩ := trodAll_nil r2
  obtain rfl : args = #[v0, v1, v2] := by cases args; simp_all
  obtain ⟨rfl, rfl⟩ := trodVars_none hV
  obtain ⟨a0, len0, cap0, rfl⟩ := okWide_slice Tryd.underlying22 (hval 0 22 v0 rfl rfl)
  have k0 := h0
  have lt0 : ∀ x ∈ p0, x.block < W.heap.size := by obtain ⟨m, hm⟩ := k0; exact DataW.trod_lt m _ _ _ hm
  obtain ⟨S0, _, hS0⟩ := open_rows encO_len (by omega) Tryd.underlying22 (by kernel_rfl) made_ord h0
  have k1 := h1
  have lt1 : ∀ x ∈ p1, x.block < W.heap.size := by obtain ⟨m, hm⟩ := k1; exact DataW.trod_lt m _ _ _ hm
  obtain ⟨c10, c11, c12, c13, y10, y11, y12, y13, m1, rfl, hd1, hp1, t10, t11, t12, t13⟩ := Joins.open_agg4 Tryd.underlying26 (by kernel_rfl) (by kernel_rfl) (hval 1 26 v1 rfl rfl) h1
  obtain ⟨ep, e10, -, -⟩ := DataW.trod_int Tryd.underlying3 t10
  obtain ⟨tb, e13, -, -⟩ := DataW.trod_int Tryd.underlying3 t13
  obtain ⟨sa, sl, sc, e11⟩ := Joins.slice_form Tryd.underlying23 t11
  obtain ⟨pa, pl, pc, e12⟩ := Joins.slice_form Tryd.underlying24 t12
  simp only [List.cons.injEq, and_true] at e10 e11 e12 e13
  subst e10 e11 e12 e13
  obtain ⟨S1, rfl, hS1⟩ := open_rows encI_len (by omega) Tryd.underlying23 (by kernel_rfl) (show Made enc Tryd.prog W 3 encI from made_int Tryd.underlying3) ⟨_, t11⟩
  obtain ⟨S2, rfl, hS2⟩ := open_rows encPt_len (by omega) Tryd.underlying24 (by kernel_rfl) made_pt ⟨_, t12⟩
  obtain ⟨cs2, rfl, sz2⟩ := okWide_struct Tryd.underlying30 (hval 2 30 v2 rfl rfl)
  have k2 := h2
  have lt2 : ∀ x ∈ p2, x.block < W.heap.size := by obtain ⟨m, hm⟩ := k2; exact DataW.trod_lt m _ _ _ hm
  obtain ⟨m2, hm2⟩ := h2
  obtain ⟨x2, hx2⟩ := made_ord _ _ _ hm2
  have hx2 := agg_ord hx2
  have hkin := kinds_of_laid hL
  clear hA0 hval0
  have hlaw := applies_walk _ S0 ⟨ep, S1, S2, tb⟩ (.slice sa S1.length sc) (.slice pa S2.length pc) x2 W hS0 ⟨hS1, hS2⟩ hkin
  rw [← hx2] at hlaw
  refine hlaw.mono fun e W' ⟨he, hf⟩ => ?_
  subst he
  have bel : Below W.heap.size W W' := hf.below (Nat.le_refl _) (by simp)
  exact ⟨_, rfl, _, _, _, [], _, [], hW', trodAll_mk1 (shut_bool Tryd.underlying4 _), (trodAll_cons_mk (Below.trod laidOut (by kernel_rfl) (of_decide_eq_true (by kernel_rfl)) k0 bel lt0) (trodAll_cons_mk (Below.trod laidOut (by kernel_rfl) (of_decide_eq_true (by kernel_rfl)) k1 bel lt1) (trodAll_cons_mk (Below.trod laidOut (by kernel_rfl) (of_decide_eq_true (by kernel_rfl)) k2 bel lt2) trodAll_mk0))), rfl, bel.frame _, fun h => by cases h⟩
theorem configApplies_row : Rows.ConfigAppliesSaid :=
  OpenClaim.holds_of_wide 3 Tryd.f3 rfl rfl rfl rfl rfl rfl rfl ⟨rfl, rfl, rfl, rfl, rfl⟩ rfl rfl rfl rfl rfl (by kernel_rfl) Tryd.func3 (by kernel_rfl)
    (of_decide_eq_true (by kernel_rfl)) (by unfold Func.isWrapper; first | (rw [if_pos (by decide +kernel)]; kernel_rfl) | (rw [if_neg (by decide +kernel)]; exact ⟨rfl, rfl⟩))
    (fun os started H enc _ => configApplies_lifted os started H enc)
theorem configApplies_proved : Rows.ConfigAppliesCardSaid :=
  Claim7.holds_tied_plain_at .later [] [.funcs] true (true, "fdf8507e709f80c55a76f2d94aa4077bc4dc6233cf8601fc9754d963815a0646") false
    configApplies_row (fun _ h => by cases h) (by kernel_rfl) (fun _ h => by cases h) configApplies_row_tie rfl ⟨rfl, rfl⟩ (by kernel_rfl) rfl
    (fun f fn hf hfn => by
      obtain rfl : f = 3 := Option.some.inj ((show Tryd.prog.funcNamed "weirkeep/weirkeeplaw12.ConfigApplies" = some 3 by kernel_rfl).symm.trans hf) |>.symm
      obtain rfl : fn = Tryd.f3 := (Option.some.inj (Tryd.func3.symm.trans hfn)).symm
      exact ⟨by kernel_rfl, fun j t ht => by
        rw [Tryd.params3] at ht
        have hm : t ∈ [22, 26, 30] := by simpa using Array.mem_of_getElem? ht
        have hall : ([22, 26, 30].all fun u => !Tryd.prog.wantsStandIn u) = true := by kernel_rfl
        exact (show Tryd.prog.wantsStandIn t = false by simpa using List.all_eq_true.1 hall t hm)⟩)
    (by kernel_rfl)
end Go.Proofs.YthhpamaeibjpaaaDoor
end
