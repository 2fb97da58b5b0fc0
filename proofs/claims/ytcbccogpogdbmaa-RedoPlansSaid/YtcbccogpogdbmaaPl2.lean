/- redo.Plan, walked. -/
import Derived.Test.YtcbccogpogdbmaaBk
namespace Go.Proofs.Ytcbccogpogdbmaa
open Go.RowKit Go.Maps Go.Lib Go.Sort Go.Shelf
attribute [local go_sem] Oper.semAt_some
attribute [local go_sem ↓] Go.wp_at_zero Go.wp_at_succ
def setB (V : Int → Int) (y : Blk) : Int → Int := fun b => if b = y.1 then y.2.1 else V b
def versP (Hs : List Blk) (pre : List Nat) : Int → Int := pre.foldl (fun V i => setB V (blkAt Hs i)) (fun _ => 0)
theorem vers_all (Hs : List Blk) : ∀ m, m ≤ Hs.length → versP Hs (preP Hs.length m) = verP (Hs.drop (Hs.length - m))
  | 0, _ => by rw [Nat.sub_zero, List.drop_length]; rfl
  | m + 1, h => by
    rw [pre_succ]
    unfold versP
    rw [List.foldl_append]
    have ih := vers_all Hs m (by omega)
    unfold versP at ih
    rw [ih]
    obtain ⟨y, hy⟩ : ∃ y, Hs[Hs.length - 1 - m]? = some y := ⟨_, List.getElem?_eq_getElem (by omega)⟩
    funext b
    have e := ver_drop hy b
    rw [show Hs.length - (m + 1) = Hs.length - 1 - m by omega, e, show Hs.length - 1 - m + 1 = Hs.length - m by omega]
    have hb : blkAt Hs (Hs.length - 1 - m) = y := by unfold blkAt; rw [hy]; rfl
    simp only [List.foldl_cons, List.foldl_nil, setB, hb]
    by_cases h1 : b = y.1
    · rw [if_pos h1, if_pos h1.symm]
    · rw [if_neg h1, if_neg (fun h => h1 h.symm)]
/-- A map of versions. -/
def VerMap (w : World) (mb : Nat) (V : Int → Int) : Prop := ∃ M, MapOf w encK encK mb M ∧ ∀ b, (look M b).getD 0 = V b
set_option maxRecDepth 100000 in
set_option maxHeartbeats 8000000 in
theorem plan_any {B C : Nat → Prop} (v u : Value) (L : List Rec) (Hs : List Blk) (w : World) (h : SliceIs w B encR v L) (h2 : SliceIs w C encB u Hs) (hl : L.length ≤ 1000) (hh : Hs.length ≤ 1000) :
    Calls Try.prog 29 #[v, u] w fun e w' => ∃ a c, e = .returned (.slice a (planF (verP Hs) L).length c) ∧ Fr [] w w' ∧ w'.ownsRow w.heap.size 23 4 (.slice a (planF (verP Hs) L).length c) (planF (verP Hs) L).length ((planF (verP Hs) L).flatMap encR) := by
  have h' := Lib.hid h; have h2' := Lib.hid h2
  obtain ⟨a, cap, rfl, hc1, hc2, -⟩ := h.at encR_len
  obtain ⟨b, cap2, rfl, hd1, hd2, -⟩ := h2.at encB_len
  clear h h2
  refine callsIn_wide.1 (callsIn_of_wp_marks (n := 9) Try.func29 rfl trivial ?_ rfl)
  refine wpIn_wide.2 ?_
  simp only [Try.ntmps29, List.size_toArray, List.length_cons, List.length_nil, Nat.reduceAdd, Nat.reduceSub, Array.replicate_succ, Array.replicate_zero, List.push_toArray, List.append_toArray, List.nil_append, List.cons_append]
  have hmm := @run_makeMap Try.prog
  go_wp2_with (first | (go_at_call 48; refine (backward_any _ _ _ _).mono ?_; rintro e w2 ⟨rfl, rfl⟩))
  clear hmm
  obtain ⟨Z, hZ⟩ : ∃ Z, Z = ((w.alloc (.map #[] 0)).alloc (.cells #[.map (some w.heap.size)] 101)).alloc (.cells #[.slice b Hs.length cap2] 68) := ⟨_, rfl⟩
  have hFZ : Fr [] w Z := by rw [hZ]; exact (((Fr.refl [] w).alloc _).alloc _).alloc _
  have hzZ : Z.heap.size = w.heap.size + 3 := by rw [hZ]; simp
  have hZ0 : MapOf Z encK encK w.heap.size ([] : List (Int × Int)) := by rw [hZ]; exact ((MapOf.made (α := Int) (β := Int) w encK encK).fr ((Fr.refl [] _).alloc _) (by simp)).fr ((Fr.refl [] _).alloc _) (by simp)
  have hZ1 : Z.heap[w.heap.size + 1]? = some (.cells #[.map (some w.heap.size)] 101 (0, 0)) := by
    rw [hZ]
    have := ((Fr.refl [] _).alloc (.cells #[.slice b Hs.length cap2] 68)).keep (heap_alloc_new (w.alloc (.map #[] 0)) (.cells #[.map (some w.heap.size)] 101)) (by simp)
    simpa using this
  have hZ2 : Z.heap[w.heap.size + 2]? = some (.cells #[.slice b Hs.length cap2] 68 (0, 0)) := by
    rw [hZ]
    have := heap_alloc_new ((w.alloc (.map #[] 0)).alloc (.cells #[.map (some w.heap.size)] 101)) (.cells #[.slice b Hs.length cap2] 68)
    simpa using this
  rw [← hZ]
  rw [show w.heap.size + 1 + 1 = w.heap.size + 2 from rfl]
  obtain ⟨mb, hmb⟩ : ∃ mb, mb = w.heap.size := ⟨_, rfl⟩
  rw [← hmb] at hzZ hZ0 hZ1 hZ2 ⊢
  have hsZ : SliceIs Z (fun g => g < mb) encB (.slice b Hs.length cap2) Hs := ((h2'.out.imp (B' := fun g => g < mb) (fun g hg _ => by omega)).fr hFZ (by simp))
  have hLZ := Lib.hid ((h'.out.imp (B' := fun g => g < mb) (fun g hg _ => by omega)).fr hFZ (by simp))
  have hFZ' := Lib.hid hFZ; have hmb' := Lib.hid hmb
  clear hZ hFZ hmb
  refine (wpIn_wide (n := 9)).1 ?_
  refine wpIn_rangeFunc_ownH rfl (by omega) (gf := 54) (lb := #[.pointer (some ⟨mb + 2, 0, none⟩)]) rfl trivial (enters_of Try.func54 (by kernel_rfl) rfl) (back_stops (9 - 1) (by omega) (mb + 2) mb b cap2 Hs hh Z (by omega) hsZ hZ2) (fun h k => h.trans k) ?qKb (Below.refl _ _) (fun _ => rfl)
    (fun pre W => VerMap W mb (versP Hs pre) ∧ W.heap[mb + 1]? = some (.cells #[.map (some mb)] 101 (0, 0)) ∧ Fr [mb] Z W)
    (fun _ _ _ => False) ?qI ?qIx ?q0
    (fun x a' W => ∃ bb, Z.heap.size ≤ bb ∧ W.heap[bb]? = some (.cells #[.int .i64 (blkAt Hs x).1, .int .i64 (blkAt Hs x).2.1, .string (blkAt Hs x).2.2] 72 (0, 0)) ∧ a' = { tmps := #[.slice a L.length cap, .slice b Hs.length cap2, undef, undef, .slice none 0 0, .pointer (some ⟨mb + 1, 0, none⟩), undef, .pointer (some ⟨bb, 0, none⟩), undef, undef, undef, .map (some mb), .slice b Hs.length cap2, .func (.func 54) #[] #[.pointer (some ⟨mb + 2, 0, none⟩)], .int .i64 x, aggB (blkAt Hs x), undef, undef, undef, undef, undef, undef, undef, undef, undef, undef, undef, undef, undef, undef, undef, undef, undef, undef, undef, undef, undef, undef, undef, undef, undef, undef, undef, undef, undef], defers := [] }) ?qAx ?qassign ?qbody ?qdone ?qstop
  case qKb =>
    intro A l o o' hl ho _ _
    have hne1 : mb + 2 ≠ l := by omega
    exact ⟨World.putObj_heap_other hne1, fun k hk => World.putObj_heap_other (by omega)⟩
  case qI =>
    rintro pre A A' row ⟨⟨M, hM, hlk⟩, hv, hf⟩ hg hr
    have hfr := Fr.of_grown hg
    have hrow : ∀ t ∈ row.toList, Z.heap.size ≤ t := fun t ht => (hr t (by simpa using ht)).1
    exact ⟨⟨M, hM.fr hfr (fun hm => by have := hrow _ hm; omega), hlk⟩, hfr.keep hv (fun hm => by have := hrow _ hm; omega), hf.grown hg (fun k e => .inr (hr k e).1)⟩
  case qIx => exact fun _ _ _ _ _ h _ _ => h.elim
  case q0 => exact ⟨⟨[], hZ0, fun _ => rfl⟩, hZ1, Fr.refl _ _⟩
  case qAx =>
    rintro x a' _ A A' row ⟨bb, h1, h3, h4⟩ hg hr
    refine ⟨bb, h1, ?_, h4⟩
    rw [hg.block bb (Array.getElem?_eq_some_iff.1 h3).1 (fun e => by
        obtain ⟨_, o, ho, hc⟩ := hr bb e.symm
        rw [h3] at ho
        cases ho
        simp [Obj.isCells] at hc)]
    exact h3
  case qassign =>
    rintro l pre x A K ⟨⟨M, hM, hlk⟩, hv, hf⟩ hK
    obtain ⟨y, hy⟩ : ∃ y, y = blkAt Hs x := ⟨_, rfl⟩
    rw [← hy] at hK ⊢
    have hK' := Lib.hid hK; have hM' := Lib.hid hM; have hlk' := Lib.hid hlk; have hv' := Lib.hid hv; have hf' := Lib.hid hf
    have hsz := hf.size
    clear hK hM hlk hv hf
    obtain ⟨y0, y1, y2⟩ := y
    unfold aggB
    dsimp only
    gi_wp2
    have fA : Fr [] A (A.alloc (.cells #[.int .i64 y0, .int .i64 y1, .string y2] 72)) := (Fr.refl [] A).alloc _
    refine hK'.out _ _ ?_ ?_ ⟨⟨M, hM'.out.fr fA (by simp), hlk'.out⟩, fA.keep hv'.out (by simp), hf'.out.trans (fA.mono (by simp))⟩ ⟨A.heap.size, hsz, heap_alloc_new A _, rfl⟩
    · exact ⟨fA.size, fun k o _ hk _ => fA.keep hk (by simp)⟩
    · exact ⟨fA.block (mb + 2) (by omega) (by simp), fun k hk => fA.block k (by omega) (by simp)⟩
  case qbody =>
    rintro l pre x a' A hl _ ⟨⟨M, hM, hlk⟩, hv, hf⟩ ⟨bb, hbz, hbb, rfl⟩ hlen
    obtain ⟨y, hy⟩ : ∃ y, y = blkAt Hs x := ⟨_, rfl⟩
    have hvs : versP Hs (pre ++ [x]) = setB (versP Hs pre) y := by unfold versP; rw [List.foldl_append, hy]; rfl
    rw [← hy] at hbb ⊢
    obtain ⟨y0, y1, y2⟩ := y
    dsimp only at hbb
    have c0 := (show A.cell? ⟨bb, 0, none⟩ = some (.int .i64 y0) from cell_at hbb)
    have c1 := (show A.cell? ⟨bb, 1, none⟩ = some (.int .i64 y1) from cell_at hbb)
    have c2 := (show A.cell? ⟨mb + 1, 0, none⟩ = some (.map (some mb)) from cell_at hv)
    have lb := lt_of_cell c0
    have lv := lt_of_cell c2
    have hM' := Lib.hid hM; have hlk' := Lib.hid hlk; have hv' := Lib.hid hv; have hf' := Lib.hid hf; have hvs' := Lib.hid hvs
    clear hM hlk hv hf hvs hbb hy
    unfold aggB
    dsimp only
    refine wpIn_block ?_
    refine wpIn_region_lit ?_
    refine wpListIn_of (by rintro ⟨_, _, h⟩; exact h) _ _ _ (by kernel_rfl) ?_
    go_wp2_with (first | (at_mapUpdate; refine wpList_update _ rfl _ _ _ 101 rfl keyI Try.underlying101 rfl hM'.out y0 rfl y1 rfl ?_; intro w6 hm6 hf6 hsz6; have hm6' := Lib.hid hm6; have hf6' := Lib.hid hf6; clear hm6 hf6 hsz6))
    refine ⟨⟨hf6'.out.size, fun k o hk ho _ => hf6'.out.keep ho (by simp; omega)⟩, ⟨hf6'.out.block (mb + 2) (by have := hf'.out.size; omega) (by simp), fun k hk => hf6'.out.block k (by have := hf'.out.size; omega) (by simp; omega)⟩, ⟨_, hm6'.out, fun b => ?_⟩, hf6'.out.keep hv'.out (by simp), hf'.out.trans hf6'.out⟩
    rw [look_upsert, hvs'.out]
    unfold setB
    dsimp only
    by_cases hb : b = y0
    · rw [if_pos hb, if_pos hb]; rfl
    · rw [if_neg hb, if_neg hb]; exact hlk'.out b
  case qdone =>
    rintro D xs A hD rfl ⟨⟨M0, hM0, hlk0⟩, hv, hf⟩ hK
    obtain ⟨V, hV⟩ : ∃ V, V = verP Hs := ⟨_, rfl⟩
    have hva := vers_all Hs Hs.length (Nat.le_refl _)
    rw [Nat.sub_self, List.drop_zero, ← hV] at hva
    rw [hva] at hlk0
    have hV' := Lib.hid hV
    have hzv : ∀ X, (zeroValue 3).run Try.prog X = .ok (encK 0) X := fun _ => by kernel_rfl
    have hLA := Lib.hid (hLZ.out.fr hf (fun g hg _ hm => by
      have e1 : g = mb := by simpa using hm
      have hg1 : g < mb := hg
      omega))
    have hAz := hf.size
    have hM0' := Lib.hid hM0; have hlk0' := Lib.hid hlk0; have hv' := Lib.hid hv; have hf' := Lib.hid hf; have hK' := Lib.hid hK; have hzv' := Lib.hid hzv
    have hDl := lt_of_block hK
    have hvl := lt_of_block hv
    clear hM0 hlk0 hv hf hK hV hva hzv
    go_wp2
    go_loopg [8, 23] L.length (fun gk pv iv wr => ∃ (i : Nat) (pa : Option Addr) (pc : Nat), i ≤ L.length ∧ gk = L.length - i ∧ iv = .int .i64 i ∧ pv = .slice pa (planF V (L.take i)).length pc ∧ wr.ownsRow A.heap.size 23 4 (.slice pa (planF V (L.take i)).length pc) (planF V (L.take i)).length ((planF V (L.take i)).flatMap encR) ∧ VerMap wr mb (updV V (planF V (L.take i))) ∧ Fr [mb] A wr)
    case atStart =>
      have e0 : planF V (L.take 0) = [] := by rw [List.take_zero]; rfl
      exact ⟨0, none, 0, Nat.zero_le _, rfl, rfl, by rw [e0]; rfl, by rw [e0]; exact ⟨by simp, .inl ⟨rfl, by simp⟩⟩, ⟨M0, hM0'.out, by rw [e0]; exact hlk0'.out⟩, Fr.refl _ _⟩
    case round =>
      obtain ⟨i, pa, pc, hi, hgk, rfl, rfl, hown, ⟨M, hM, hlk⟩, hfr⟩ := hrel
      obtain ⟨U, hU⟩ : ∃ U, U = wr := ⟨_, rfl⟩
      rw [← hU] at hfr hown hM ⊢
      clear hU
      obtain ⟨O, hO⟩ : ∃ O, O = planF V (L.take i) := ⟨_, rfl⟩
      have hOl : O.length ≤ i := by rw [hO]; exact Nat.le_trans (plan_len _ _) (by rw [List.length_take]; omega)
      rw [← hO] at hown hlk ⊢
      have hO' := Lib.hid hO; have hgk' := Lib.hid hgk; have hown' := Lib.hid hown; have hfr' := Lib.hid hfr; have hM' := Lib.hid hM; have hlk' := Lib.hid hlk
      have hUz := hfr.size
      have hvU := hfr.keep hv'.out (show mb + 1 ∉ [mb] by simp)
      have hLU := hLA.out.fr hfr (fun g hg _ hm => by
        have e1 : g = mb := by simpa using hm
        have hg1 : g < mb := hg
        omega)
      have hob := hown.lt
      have hvU' := Lib.hid hvU; have hLU' := Lib.hid hLU; have hob' := Lib.hid hob
      clear hO hgk hown hfr hM hlk hvU hLU hob
      by_cases hlt : i < L.length
      · obtain ⟨g, off, rfl, hg, hcells⟩ := hLU'.out.cells2 encR_len (by intro h; rw [h] at hlt; simp at hlt)
        obtain ⟨x, hx⟩ : ∃ x, L[i]? = some x := ⟨_, List.getElem?_eq_getElem hlt⟩
        obtain ⟨x0, x1, x2, x3⟩ := x
        have k0 := hcells i _ 0 _ hx rfl
        have k1 := hcells i _ 1 _ hx rfl
        have k2 := hcells i _ 2 _ hx rfl
        have k3 := hcells i _ 3 _ hx rfl
        rw [Nat.add_zero] at k0
        simp only [← Nat.add_assoc] at k1 k2 k3
        dsimp only at k0 k1 k2 k3
        have lk := lt_of_cell k0
        have hsn := plan_snoc (L.take i) V (x0, x1, x2, x3)
        have htk : L.take (i + 1) = L.take i ++ [(x0, x1, x2, x3)] := by rw [List.take_add_one, hx]; rfl
        rw [← htk, ← hO'.out] at hsn
        dsimp only at hsn
        have hsn' := Lib.hid hsn
        clear hcells hx hsn htk
        obtain ⟨vr, hvr⟩ : ∃ vr, vr = updV V O x1 := ⟨_, rfl⟩
        have hres : ((look M x1).map encK).getD (encK 0) = .int .i64 vr := by
          rw [hvr, ← hlk'.out x1]
          cases look M x1 <;> rfl
        have hres' := Lib.hid hres; have hvr' := Lib.hid hvr
        clear hres hvr
        obtain ⟨Y, hY⟩ : ∃ Y, Y = U.alloc (.cells #[.int .i64 x0, .int .i64 x1, .int .i64 x2, .string x3] 23) := ⟨_, rfl⟩
        have hFY : Fr [] U Y := by rw [hY]; exact (Fr.refl [] U).alloc _
        have hbY : Y.heap[U.heap.size]? = some (.cells #[.int .i64 x0, .int .i64 x1, .int .i64 x2, .string x3] 23 (0, 0)) := by rw [hY]; exact heap_alloc_new U _
        have hY' := Lib.hid hY; have hFY' := Lib.hid hFY; have hbY' := Lib.hid hbY
        have hMY := Lib.hid (hM'.out.fr hFY (by simp))
        have hzY := hFY.size
        clear hY hFY hbY
        go_upto_region 9 with (fail)
        rw [← hY'.out]
        clear k0 k1 k2 k3
        have y0 := (show Y.cell? ⟨U.heap.size, 0, none⟩ = some (.int .i64 x0) from cell_at hbY'.out)
        have y1 := (show Y.cell? ⟨U.heap.size, 1, none⟩ = some (.int .i64 x1) from cell_at hbY'.out)
        have y2 := (show Y.cell? ⟨U.heap.size, 2, none⟩ = some (.int .i64 x2) from cell_at hbY'.out)
        have y3 := (show Y.cell? ⟨U.heap.size, 3, none⟩ = some (.string x3) from cell_at hbY'.out)
        have yv := (show Y.cell? ⟨mb + 1, 0, none⟩ = some (.map (some mb)) from cell_at (hFY'.out.keep hvU'.out (by simp)))
        have ly := lt_of_cell y0
        have lyv := lt_of_cell yv
        by_cases hgt : vr < x2
        · go_wp2_with (first
            | (at_lookup; refine wpList_look _ rfl _ _ 101 false rfl keyI Try.underlying101 hzv'.out rfl hMY.out x1 rfl ?_; rw [hres'.out, if_neg (by simp)])
            | (at_mapUpdate; refine wpList_update _ rfl _ _ _ 101 rfl keyI Try.underlying101 rfl hMY.out x1 rfl x2 rfl ?_; intro w6 hm6 hf6 hsz6; have z0 := (show w6.cell? ⟨U.heap.size, 0, none⟩ = some (.int .i64 x0) from cell_at (hf6.keep hbY'.out (by simp; omega))); have z1 := (show w6.cell? ⟨U.heap.size, 1, none⟩ = some (.int .i64 x1) from cell_at (hf6.keep hbY'.out (by simp; omega))); have z2 := (show w6.cell? ⟨U.heap.size, 2, none⟩ = some (.int .i64 x2) from cell_at (hf6.keep hbY'.out (by simp; omega))); have z3 := (show w6.cell? ⟨U.heap.size, 3, none⟩ = some (.string x3) from cell_at (hf6.keep hbY'.out (by simp; omega))); have lz := lt_of_cell z0; have hz66 := hf6.size; have hm6' := Lib.hid hm6; have hf6' := Lib.hid hf6; have hown6 := Lib.hid (owns_fr2 (owns_fr2 hown'.out hFY'.out (by simp)) hf6 (fun g hg hm => by have := (hob'.out g hg).1; have e1 : g = mb := (by simpa using hm); omega)); clear hm6 hf6 hsz6)
            | (at_builtin; refine wpList_push _ _ _ rfl _ _ 55 rfl A.heap.size 23 Try.underlying55 infoR rfl (by omega) (.slice pa O.length pc) O rfl hown6.out (x0, x1, x2, x3) rfl encR_len (one_encR _) rfl (by omega) (by omega) (by omega) ?_; intro v' w3 hown3 hf3; obtain ⟨na, nc, rfl, -, -⟩ := (SliceIs.of_owns hown3 rfl).at encR_len; have hown3' := Lib.hid hown3; have hf3' := Lib.hid hf3; clear hown3 hf3))
          go_roundg (L.length - (i + 1))
          case rel =>
            have e10 : (O ++ [(x0, x1, x2, x3)]).length = O.length + 1 := by simp
            have h9 := hown3'.out
            rw [e10] at h9
            have e9 : planF V (L.take (i + 1)) = O ++ [(x0, x1, x2, x3)] := by rw [hsn'.out, ← hvr'.out, if_pos hgt]
            have hob6 := hown6.out.lt
            have hne : mb ∉ (Value.slice pa O.length pc).ownBlock.toList := fun hm => by have := (hob6 mb (by simpa using hm)).1; omega
            have hf63 : Fr (mb :: (Value.slice pa O.length pc).ownBlock.toList) U w3 := ((hFY'.out.mono (by simp)).trans (hf6'.out.mono (by simp))).trans (hf3'.out.mono (fun t ht => List.mem_cons_of_mem _ ht))
            refine ⟨i + 1, na, nc, by omega, rfl, by go_num, by rw [e9, e10], by rw [e9, e10]; exact h9, ⟨_, hm6'.out.fr hf3'.out hne, fun b => ?_⟩, hfr'.out.andThen hf63 (fun t ht => ?_)⟩
            · rw [look_upsert, e9, upd_snoc, setV_at]
              dsimp only
              by_cases hb : b = x1
              · rw [if_pos hb, if_pos hb]; rfl
              · rw [if_neg hb, if_neg hb]; exact hlk'.out b
            · rcases List.mem_cons.1 ht with h | h
              · exact .inl (by simp [h])
              · exact .inr (hob6 t (by simpa using h)).1
          case measure => rw [hgk'.out]; omega
        · go_wp2_with (first
            | (at_lookup; refine wpList_look _ rfl _ _ 101 false rfl keyI Try.underlying101 hzv'.out rfl hMY.out x1 rfl ?_; rw [hres'.out, if_neg (by simp)]))
          go_roundg (L.length - (i + 1))
          case rel =>
            have e9 : planF V (L.take (i + 1)) = O := by rw [hsn'.out, ← hvr'.out, if_neg (by omega), List.append_nil]
            exact ⟨i + 1, pa, pc, by omega, rfl, by go_num, by rw [e9], by rw [e9]; exact owns_fr2 hown'.out hFY'.out (by simp), ⟨M, hMY.out, by rw [e9]; exact hlk'.out⟩, hfr'.out.trans (hFY'.out.mono (by simp))⟩
          case measure => rw [hgk'.out]; omega
      · have hik : i = L.length := by omega
        have hOL : O = planF (verP Hs) L := by rw [hO'.out, hik, List.take_length, hV'.out]
        subst hOL
        clear hgk'
        have hKU := hfr'.out.keep hK'.out (show D ∉ [mb] by simp; omega)
        have hKU' := Lib.hid hKU
        clear hKU
        go_wp2
        refine ⟨by simp, .inl ⟨_, _, rfl, run_takeDeferred hKU'.out, ?_⟩⟩
        refine ⟨_, results_tmp rfl _ _ _, ?_⟩
        have hmw := hmb'.out
        have fD : Fr [D] U (U.putObj D (.deferred none)) := Fr.of_grown (grownBy_putObj' U D (.deferred none))
        refine ⟨pa, pc, rfl, (((hFZ'.out.andThen hf'.out (fun t ht => .inr (by have e : t = mb := (by simpa using ht); omega))).andThen hfr'.out (fun t ht => .inr (by have e : t = mb := (by simpa using ht); omega)))).andThen fD (fun t ht => .inr (by have e : t = D := (by simpa using ht); omega)), ?_⟩
        refine owns_base (owns_fr2 hown'.out fD (fun gg hg hm => ?_)) (by omega)
        have e1 : gg = D := by simpa using hm
        subst e1
        obtain ⟨cs, hc⟩ := own_block_at hown'.out hg
        rw [hKU'.out] at hc
        cases hc
  case qstop =>
    intro D c pre A _ _ h _
    exact h.elim
end Go.Proofs.Ytcbccogpogdbmaa
