/- slices.Clone, IndexFunc at records; redo.Log's Live, Reclaim; heavy: walked. -/
import Derived.Test.YtcbccogpogdbmaaSh
import Derived.WalkSpells
namespace Go.Proofs.Ytcbccogpogdbmaa
open Go.RowKit Go.Maps Go.Lib Go.Sort
attribute [local go_sem ↓] Go.wp_at_zero Go.wp_at_succ
set_option maxRecDepth 100000 in
set_option maxHeartbeats 2000000 in
theorem clone_any {B : Nat → Prop} (v : Value) (S : List Rec) (w : World) (h : SliceIs w B encR v S) (hl : S.length < 1000000) :
    Calls Try.prog 43 #[v] w fun e w' => ∃ v', e = .returned v' ∧ Fr [] w w' ∧ w'.ownsRow w.heap.size 23 4 v' S.length (S.flatMap encR) := by
  have h0 := h
  obtain ⟨a, cap, rfl, hc1, hc2, hat⟩ := h.at encR_len
  have hrun := fun X => Lib.run_eql_slice_nil (P := Try.prog) X 55 23 a S.length cap 0 0 Try.underlying55
  cases a with
  | none =>
    have hS : S = [] := Decidable.byContradiction fun hne => by
      obtain ⟨g, off, h1, _⟩ := hat hne
      cases h1
    subst hS
    have hrun0 := fun X => Lib.run_eql_slice_nil (P := Try.prog) X 55 23 none 0 cap 0 0 Try.underlying55
    clear hat h h0 hrun
    rw [List.length_nil]
    go_enter Try.func43, Try.ntmps43
    go_wp2
    go_ret
    exact ⟨_, rfl, Fr.refl _ _, ⟨by simp, .inl ⟨rfl, by simp⟩⟩⟩
  | some ad =>
    have h0' := Lib.hid h0
    obtain ⟨W, hW⟩ : ∃ W, W = w.alloc (.cells #[] 23) := ⟨_, rfl⟩
    have hFW : Fr [] w W := by rw [hW]; exact (Fr.refl _ _).alloc _
    have hown0 : W.ownsRow w.heap.size 23 4 (.slice (some ⟨w.heap.size, 0, none⟩) 0 0) ([] : List Rec).length (([] : List Rec).flatMap encR) := by
      rw [hW]; exact World.ownsRow_made w #[] 0 (Nat.le_refl _) (Nat.zero_le _) rfl
    have hsW := h0.fr hFW (by simp)
    have hzW : W.heap.size = w.heap.size + 1 := by rw [hW]; simp
    have hW' := Lib.hid hW
    have hsW' := Lib.hid hsW
    clear hat h h0 hsW hW
    go_enter Try.func43, Try.ntmps43
    go_wp2_with (first | (at_builtin; (refine wpList_more _ rfl _ _ 55 rfl w.heap.size 23 Try.underlying55 infoR rfl (by omega) (.slice (some ⟨w.heap.size, 0, none⟩) 0 0) ([] : List Rec) rfl (by rw [← hW'.out]; exact hown0) (.slice (some ad) S.length cap) S rfl (by rw [← hW'.out]; exact hsW'.out) encR_len one_encR (by simp; omega) (by omega) (by simp) ?_; intro v' w7 hown7 hf7 hb7)))
    go_ret
    rw [← hW'.out] at hf7
    refine ⟨_, rfl, hFW.andThen hf7 (fun t ht => .inr (by simp [Value.ownBlock] at ht; omega)), by simpa using hown7⟩
set_option maxRecDepth 100000 in
theorem live_any {G : Nat → Prop} {w : World} {lb ab : Nat} {base slots : Nat} {last : Int} {K F : List Rec} (h : LogAt G w lb ab base slots last K F) (hK : K.length ≤ 1000) :
    Calls Try.prog 22 #[.pointer (some ⟨lb, 0, none⟩)] w fun e w' => ∃ v', e = .returned v' ∧ Fr [] w w' ∧ w'.ownsRow w.heap.size 23 4 v' K.length (K.flatMap encR) := by
  obtain ⟨_, vk, vf, h1, h2, _⟩ := h
  have hs := SliceIs.of_owns h2 rfl
  have hs' := Lib.hid hs
  obtain ⟨a, cap, rfl, _, _, _⟩ := hs
  have y0 := (show w.cell? ⟨lb, 4, none⟩ = some (.slice a K.length cap) from cell_at h1)
  have ly := lt_of_block h1
  clear h1 h2
  go_enter Try.func22, Try.ntmps22
  go_wp2_with (first | (go_at_call 43; refine (clone_any _ K _ hs'.out (by omega)).mono ?_; rintro e w2 ⟨v', rfl, hf, ho⟩; have hf' := Lib.hid hf; have ho' := Lib.hid ho; clear hf ho))
  go_ret
  exact ⟨_, rfl, hf'.out, ho'.out⟩
/-- The records above a number, of a row that rises. -/
def overP (upto : Int) (K : List Rec) : List Rec := K.dropWhile fun r => decide (r.1 ≤ upto)
theorem over_at {upto : Int} : ∀ {K : List Rec} {k : Nat} {r : Rec}, (∀ q ∈ K.take k, q.1 ≤ upto) → K[k]? = some r → upto < r.1 → overP upto K = K.drop k
  | [], k, r, _, h, _ => by simp at h
  | q :: K, 0, r, _, h, hr => by
    simp only [List.getElem?_cons_zero, Option.some.injEq] at h
    subst h
    unfold overP
    rw [List.dropWhile_cons, if_neg (by simp; omega), List.drop_zero]
  | q :: K, k + 1, r, h, hk, hr => by
    have hq := h q (by simp)
    unfold overP
    rw [List.dropWhile_cons, if_pos (by simpa using hq), List.drop_succ_cons]
    exact over_at (fun q hq => h q (by rw [List.take_succ_cons]; exact List.mem_cons_of_mem _ hq)) hk hr
theorem over_none {upto : Int} {K : List Rec} (h : ∀ q ∈ K, q.1 ≤ upto) : overP upto K = [] := by
  unfold overP
  induction K with
  | nil => rfl
  | cons q K ih =>
    rw [List.dropWhile_cons, if_pos (by simpa using h q (by simp))]
    exact ih (fun q hq => h q (by simp [hq]))
set_option maxRecDepth 100000 in
theorem over_call (r : Rec) (b : Nat) (upto : Int) (w : World) (h : w.cell? ⟨b, 0, none⟩ = some (.int .i64 upto)) : Calls Try.prog 45 #[aggR r, .pointer (some ⟨b, 0, none⟩)] w fun e w' => e = .returned (.bool (decide (upto < r.1))) ∧ Fr [] w w' := by
  obtain ⟨r1, r2, r3, r4⟩ := r
  unfold aggR
  dsimp only
  have lb := lt_of_cell h
  by_cases hc : upto < r1
  · rw [decide_eq_true hc]
    go_enter Try.func45, Try.ntmps45
    go_wp2
    go_ret
    exact ⟨rfl, (Fr.refl _ _).alloc _⟩
  · rw [decide_eq_false hc]
    go_enter Try.func45, Try.ntmps45
    go_wp2
    go_ret
    exact ⟨rfl, (Fr.refl _ _).alloc _⟩
/-- What IndexFunc says: where a row is cut. -/
def CutIs (upto : Int) (S : List Rec) (i : Int) : Prop := (i < 0 ∧ overP upto S = []) ∨ ∃ k : Nat, i = k ∧ k ≤ S.length ∧ overP upto S = S.drop k
def CutAt (upto : Int) (S : List Rec) (w : World) (e : Ending) (w' : World) : Prop := ∃ i : Int, e = .returned (.int .i64 i) ∧ Fr [] w w' ∧ CutIs upto S i
set_option maxRecDepth 100000 in
set_option maxHeartbeats 4000000 in
theorem idxR_any {B : Nat → Prop} (v : Value) (S : List Rec) (b : Nat) (upto : Int) (w : World) (h : SliceIs w B encR v S) (hl : S.length < 1000000) (hb : w.cell? ⟨b, 0, none⟩ = some (.int .i64 upto)) :
    Calls Try.prog 44 #[v, .func (.func 45) #[] #[.pointer (some ⟨b, 0, none⟩)]] w (CutAt upto S w) := by
  obtain ⟨a, cap, rfl, hc1, hc2, hat⟩ := h.at encR_len
  have hat' := Lib.hid hat
  have hb' := Lib.hid hb
  clear h hat hb
  have ho := fun s X (hX : Fr [] w X) => over_call s b upto X (hX.at0 hb'.out)
  have ho' := Lib.hid ho
  clear ho
  unfold aggR at ho'
  go_enter Try.func44, Try.ntmps44
  go_wp2
  go_loopg [8] S.length (fun gk iv wr => ∃ i : Nat, i ≤ S.length ∧ gk = S.length - i ∧ iv = .int .i64 i ∧ (∀ q ∈ S.take i, q.1 ≤ upto) ∧ Fr [] w wr)
  case atStart => exact ⟨0, Nat.zero_le _, rfl, rfl, by simp, Fr.refl _ _⟩
  case round =>
    obtain ⟨i, hi, hgk, rfl, hno, hfr⟩ := hrel
    have hgk' := Lib.hid hgk; have hno' := Lib.hid hno; have hfr' := Lib.hid hfr
    clear hgk hno hfr
    by_cases hlt : i < S.length
    · obtain ⟨g', off, rfl, _, hg2, hcells⟩ := hat'.out (by intro h; rw [h] at hlt; simp at hlt)
      obtain ⟨x, hx⟩ : ∃ x, S[i]? = some x := ⟨_, List.getElem?_eq_getElem hlt⟩
      obtain ⟨x1, x2, x3, x4⟩ := x
      have k0 := hfr'.out.at0 (hcells i _ 0 _ hx rfl)
      have k1 := hfr'.out.at0 (hcells i _ 1 _ hx rfl)
      have k2 := hfr'.out.at0 (hcells i _ 2 _ hx rfl)
      have k3 := hfr'.out.at0 (hcells i _ 3 _ hx rfl)
      rw [Nat.add_zero] at k0
      simp only [← Nat.add_assoc] at k1 k2 k3
      dsimp only at k0 k1 k2 k3
      have lk := lt_of_cell k0
      have hcall := ho'.out (x1, x2, x3, x4) wr hfr'.out
      dsimp only at hcall
      have hx' := Lib.hid hx
      clear hcells hx
      by_cases hpx : upto < x1
      · rw [decide_eq_true hpx] at hcall
        have hcall' := Lib.hid hcall
        clear hcall
        go_wp2_with (first | (go_at_call 45; refine hcall'.out.mono ?_; rintro e w2 ⟨rfl, hf2⟩; have hf2' := Lib.hid hf2; clear hf2))
        go_ret
        exact ⟨_, rfl, hfr'.out.trans hf2'.out, .inr ⟨i, rfl, hi, over_at hno'.out hx'.out hpx⟩⟩
      · rw [decide_eq_false hpx] at hcall
        have hcall' := Lib.hid hcall
        clear hcall
        go_wp2_with (first | (go_at_call 45; refine hcall'.out.mono ?_; rintro e w2 ⟨rfl, hf2⟩; have hf2' := Lib.hid hf2; clear hf2))
        go_roundg (S.length - (i + 1))
        case rel =>
          refine ⟨i + 1, by omega, rfl, by go_num, fun q hq => ?_, hfr'.out.trans hf2'.out⟩
          rw [List.take_add_one, hx'.out] at hq
          rcases List.mem_append.1 hq with hq | hq
          · exact hno'.out q hq
          · have : q = (x1, x2, x3, x4) := by simpa using hq
            rw [this]
            exact (show x1 ≤ upto by omega)
        case measure => rw [hgk'.out]; omega
    · have hik : i = S.length := by omega
      subst hik
      go_wp2
      go_ret
      have := hno'.out
      rw [List.take_length] at this
      exact ⟨_, rfl, hfr'.out, .inl ⟨by decide, over_none this⟩⟩
def reclaimP (last : Int) (K : List Rec) (upto : Int) : Int × List Rec := if last < upto then (1, K) else (0, overP upto K)
set_option maxRecDepth 100000 in
set_option maxHeartbeats 4000000 in
theorem reclaim_any {G : Nat → Prop} {w : World} {lb ab : Nat} {base slots : Nat} {last : Int} {K F : List Rec} (h : LogAt G w lb ab base slots last K F) (hn : ∀ g, w.heap.size ≤ g → G g) (hK : K.length ≤ 1000) (upto : Int) :
    Calls Try.prog 23 #[.pointer (some ⟨lb, 0, none⟩), .int .i64 upto] w fun e w' => e = .returned (.int .i64 (reclaimP last K upto).1) ∧ Fr [lb] w w' ∧ LogAt G w' lb ab base slots last (reclaimP last K upto).2 F := by
  have h' := Lib.hid h; have hn' := Lib.hid hn
  clear hn
  obtain ⟨-, vk, vf, h1, h2, -, h3⟩ := h
  obtain ⟨ak, ck, rfl, _, hck, _⟩ := SliceIs.of_owns h2 rfl
  obtain ⟨X, hX⟩ : ∃ X, X = (w.alloc (.cells #[.int .i64 upto] 3)).drew := ⟨_, rfl⟩
  have hFX : Fr [] w X := by rw [hX]; exact ((Fr.refl [] w).alloc _).drew
  have hbx : X.heap[w.heap.size]? = some (.cells #[.int .i64 upto] 3 (0, 0)) := by rw [hX]; exact heap_alloc_new w _
  have hlX := hFX.keep h1 (by simp)
  have y3 := (show w.cell? ⟨lb, 3, none⟩ = some (.int .i64 last) from cell_at h1)
  have ly := lt_of_block h1
  have hX' := Lib.hid hX; have hFX' := Lib.hid hFX; have hbx' := Lib.hid hbx; have hlX' := Lib.hid hlX; have h1' := Lib.hid h1; have h2' := Lib.hid h2; have h3' := Lib.hid h3
  clear hX hFX hbx hlX h1 h2 h3
  unfold reclaimP
  by_cases hc : last < upto
  · rw [if_pos hc]
    go_enter Try.func23, Try.ntmps23
    go_upto_region 1 with (fail)
    go_region
    go_wp2
    go_ret
    rw [← hX'.out]
    exact ⟨rfl, hFX'.out.mono (by simp), LogAt.fr h'.out hFX'.out (by simp)⟩
  · rw [if_neg hc]
    go_enter Try.func23, Try.ntmps23
    go_upto_region 1 with (fail)
    go_region
    go_upto_region 3 with (fail)
    rw [← hX'.out]
    clear y3
    have z4 := (show X.cell? ⟨lb, 4, none⟩ = some (.slice ak K.length ck) from cell_at hlX'.out)
    have zx := (show X.cell? ⟨w.heap.size, 0, none⟩ = some (.int .i64 upto) from cell_at hbx'.out)
    have zl := hFX'.out.size
    have hsX := Lib.hid ((SliceIs.of_owns h2'.out rfl).fr hFX'.out (by simp))
    go_upto_region 4 with (first | (go_at_call 44; refine (idxR_any _ K _ upto X hsX.out (by omega) zx).mono ?_; rintro e w2 ⟨i, rfl, hf2, hcut⟩; have hf2' := Lib.hid hf2; have hcut' := Lib.hid hcut; clear hf2 hcut))
    clear z4 zx
    have hl2 := hf2'.out.keep hlX'.out (by simp)
    have z4 := (show w2.cell? ⟨lb, 4, none⟩ = some (.slice ak K.length ck) from cell_at hl2)
    have zf := (show w2.frozen? ⟨lb, 4, none⟩ = false from frozen_at hl2)
    have zl2 := lt_of_block hl2
    have hF2 := Lib.hid (hFX'.out.trans hf2'.out)
    have hl2' := Lib.hid hl2
    clear hl2
    have hs2 := Lib.hid ((SliceIs.of_owns h2'.out rfl).fr hF2.out (by simp))
    have hwl := hF2.out.size
    have hend : ∀ (k : Nat) (S1 : List Rec) (w3 : World) (v3 : Value), overP upto K = S1 → Fr [] w2 w3 → w3.ownsRow w2.heap.size 23 4 v3 S1.length (S1.flatMap encR) → Fr [lb] w (w3.setCell ⟨lb, 4, none⟩ v3) ∧ LogAt G (w3.setCell ⟨lb, 4, none⟩ v3) lb ab base slots last (overP upto K) F := by
      intro k S1 w3 v3 he hf3 ho3
      have hF3 := hF2.out.trans hf3
      have hl3 := hf3.keep hl2'.out (by simp)
      have f4 : Fr [lb] w3 (w3.setCell ⟨lb, 4, none⟩ v3) := (Fr.refl _ _).setCell _ _ (.inl (by simp))
      refine ⟨(hF3.mono (by simp)).trans f4, ?_⟩
      obtain ⟨hB9, vk9, vf9, q1, q2, qG9, q3⟩ := h'.out
      have e1 := h1'.out
      rw [q1] at e1
      injection e1 with e1
      injection e1 with e1 _ _
      have e2 : vk9 = .slice ak K.length ck := by
        have := congrArg (fun a => a[4]?) e1
        simpa using this
      have e3 : vf9 = vf := by
        have := congrArg (fun a => a[5]?) e1
        simpa using this
      subst e2 e3
      rw [he]
      refine ⟨hB9, v3, vf9, by rw [setCell_at hl3]; rfl, ?_, fun g hg => hn'.out g (by have := (ho3.lt g hg).1; omega), ?_⟩
      · refine owns_base (owns_fr2 ho3 f4 (fun g hg hm => ?_)) (Nat.zero_le _)
        have := (ho3.lt g hg).1
        have e5 : g = lb := by simpa using hm
        omega
      · refine ((((q3.imp (B' := fun g => (G g ∧ g ≠ lb ∧ (Value.slice ak K.length ck).ownBlock ≠ some g) ∧ g < w.heap.size) (fun g hg hh => ⟨hh, hg⟩)).fr hF3 (by simp)).fr f4 (fun g hg _ hm => hg.1.2.1 (by simpa using hm)))).imp (fun g hg hh => ⟨hh.1.1, hh.1.2.1, fun e5 => ?_⟩)
        have := (ho3.lt g e5).1
        have := hh.2
        omega
    have hend' := Lib.hid hend
    clear hend
    have hcs : (K = [] ∧ ak = none ∧ ck = 0) ∨ ∃ g, ak = some ⟨g, 0, none⟩ := by
      rcases h2'.out.2 with ⟨hv, hx⟩ | ⟨g, cap, cur, hv, -⟩
      · injection hv with e1 e2 e3
        exact .inl ⟨List.length_eq_zero_iff.1 e2, e1, e3⟩
      · injection hv with e1 e2 e3
        exact .inr ⟨g, e1⟩
    have hm0 := hck
    unfold maxLen at hm0
    have hnil : ∀ (a : Option Addr) (c : Nat), c ≤ maxLen → SliceIs w2 (fun _ => True) encR (.slice a 0 c) [] := fun a c hc => ⟨a, c, rfl, Nat.zero_le _, hc, .inl rfl⟩
    have hnil' := Lib.hid hnil
    clear hnil
    rcases hcut'.out with ⟨hneg, hov⟩ | ⟨k, hik, hk, hov⟩
    · have hov' := Lib.hid (show overP upto K = K.drop K.length by rw [hov, List.drop_length])
      clear hov
      go_upto_region 6 with (fail)
      rcases hcs with ⟨hK0, rfl, rfl⟩ | ⟨g, rfl⟩
      · go_wp2_with (go_at_call 43; refine (clone_any _ [] w2 (hnil'.out _ _ (by unfold maxLen; omega)) (by simp)).mono ?_; rintro e w3 ⟨v3, rfl, hf3, ho3⟩; obtain ⟨a3, c3, rfl, -, -⟩ := (SliceIs.of_owns ho3 rfl).at encR_len; have hl3 := hf3.keep hl2'.out (by simp); have z43 := (show w3.cell? ⟨lb, 4, none⟩ = some (.slice none K.length 0) from cell_at hl3); have zf3 := (show w3.frozen? ⟨lb, 4, none⟩ = false from frozen_at hl3); have zl3 := lt_of_block hl3; have hf3' := Lib.hid hf3; have ho3' := Lib.hid ho3; clear hf3 ho3 hl3)
        go_ret
        exact ⟨rfl, hend'.out 0 [] w3 _ (by rw [hov'.out, List.drop_length]) hf3'.out ho3'.out⟩
      · go_wp2_with (go_at_call 43; refine (clone_any _ [] w2 (hnil'.out _ _ (by unfold maxLen; omega)) (by simp)).mono ?_; rintro e w3 ⟨v3, rfl, hf3, ho3⟩; obtain ⟨a3, c3, rfl, -, -⟩ := (SliceIs.of_owns ho3 rfl).at encR_len; have hl3 := hf3.keep hl2'.out (by simp); have z43 := (show w3.cell? ⟨lb, 4, none⟩ = some (.slice (some ⟨g, 0, none⟩) K.length ck) from cell_at hl3); have zf3 := (show w3.frozen? ⟨lb, 4, none⟩ = false from frozen_at hl3); have zl3 := lt_of_block hl3; have hf3' := Lib.hid hf3; have ho3' := Lib.hid ho3; clear hf3 ho3 hl3)
        all_goals
          go_ret
          exact ⟨rfl, hend'.out 0 [] w3 _ (by rw [hov'.out, List.drop_length]) hf3'.out ho3'.out⟩
    · subst hik
      have hov' := Lib.hid hov
      clear hov
      go_upto_region 6 with (fail)
      rcases hcs with ⟨hK0, rfl, rfl⟩ | ⟨g, rfl⟩
      · have hk0 : k = 0 := by rw [hK0] at hk; simpa using hk
        subst hk0
        have hK9 : K.length = 0 := by rw [hK0]; rfl
        go_wp2_with (go_at_call 43; refine (clone_any _ [] w2 (hnil'.out _ _ (by unfold maxLen; omega)) (by simp)).mono ?_; rintro e w3 ⟨v3, rfl, hf3, ho3⟩; obtain ⟨a3, c3, rfl, -, -⟩ := (SliceIs.of_owns ho3 rfl).at encR_len; have hl3 := hf3.keep hl2'.out (by simp); have z43 := (show w3.cell? ⟨lb, 4, none⟩ = some (.slice none K.length 0) from cell_at hl3); have zf3 := (show w3.frozen? ⟨lb, 4, none⟩ = false from frozen_at hl3); have zl3 := lt_of_block hl3; have hf3' := Lib.hid hf3; have ho3' := Lib.hid ho3; clear hf3 ho3 hl3)
        go_ret
        exact ⟨rfl, hend'.out 0 [] w3 _ (by rw [hov'.out, hK0]; rfl) hf3'.out ho3'.out⟩
      · by_cases hc9 : ck = k
        · have hd1 : SliceIs w2 (fun x => 0 ≤ x) encR (.slice (some ⟨g, 0, none⟩) (K.length - k) 0) (K.drop k) := by
            have := hs2.out.drop encR_len k hk
            rw [if_pos hc9, hc9, Nat.sub_self] at this
            exact this
          have hd1' := Lib.hid hd1
          clear hd1
          go_wp2_with (go_at_call 43; refine (clone_any _ (K.drop k) w2 hd1'.out (by simp; omega)).mono ?_; rintro e w3 ⟨v3, rfl, hf3, ho3⟩; obtain ⟨a3, c3, rfl, -, -⟩ := (SliceIs.of_owns ho3 rfl).at encR_len; have hl3 := hf3.keep hl2'.out (by simp); have z43 := (show w3.cell? ⟨lb, 4, none⟩ = some (.slice (some ⟨g, 0, none⟩) K.length ck) from cell_at hl3); have zf3 := (show w3.frozen? ⟨lb, 4, none⟩ = false from frozen_at hl3); have zl3 := lt_of_block hl3; have hf3' := Lib.hid hf3; have ho3' := Lib.hid ho3; clear hf3 ho3 hl3)
          go_ret
          exact ⟨rfl, hend'.out 0 _ w3 _ hov'.out hf3'.out (by have := ho3'.out; rw [List.length_drop] at this ⊢; exact this)⟩
        · have hd1 : SliceIs w2 (fun x => 0 ≤ x) encR (.slice (some ⟨g, k * 4, none⟩) (K.length - k) (ck - k)) (K.drop k) := by
            have := hs2.out.drop encR_len k hk
            rw [if_neg hc9] at this
            simpa [addr_add] using this
          have hd1' := Lib.hid hd1
          clear hd1
          go_wp2_with (go_at_call 43; refine (clone_any _ (K.drop k) w2 hd1'.out (by simp; omega)).mono ?_; rintro e w3 ⟨v3, rfl, hf3, ho3⟩; obtain ⟨a3, c3, rfl, -, -⟩ := (SliceIs.of_owns ho3 rfl).at encR_len; have hl3 := hf3.keep hl2'.out (by simp); have z43 := (show w3.cell? ⟨lb, 4, none⟩ = some (.slice (some ⟨g, 0, none⟩) K.length ck) from cell_at hl3); have zf3 := (show w3.frozen? ⟨lb, 4, none⟩ = false from frozen_at hl3); have zl3 := lt_of_block hl3; have hf3' := Lib.hid hf3; have ho3' := Lib.hid ho3; clear hf3 ho3 hl3)
          go_ret
          exact ⟨rfl, hend'.out 0 _ w3 _ hov'.out hf3'.out (by have := ho3'.out; rw [List.length_drop] at this ⊢; exact this)⟩
/-- The bound of the steps. -/
def heavyP (S : List Rec) : Bool := decide (80 < S.length) || S.any fun r => decide (100 < r.2.2.2.size)
set_option maxRecDepth 100000 in
set_option maxHeartbeats 2000000 in
theorem heavy_any {B : Nat → Prop} (v : Value) (S : List Rec) (w : World) (h : SliceIs w B encR v S) :
    Calls Try.prog 14 #[v] w fun e w' => e = .returned (.bool (heavyP S)) ∧ w' = w := by
  obtain ⟨a, cap, rfl, hc1, hc2, hat⟩ := h.at encR_len
  have hat' := Lib.hid hat
  clear h hat
  unfold heavyP
  by_cases h80 : 80 < S.length
  · rw [decide_eq_true h80, Bool.true_or]
    go_enter Try.func14, Try.ntmps14
    go_wp2
    go_ret
    exact ⟨rfl, rfl⟩
  · rw [decide_eq_false h80, Bool.false_or]
    obtain ⟨b, hb⟩ : ∃ b, b = S.any fun r => decide (100 < r.2.2.2.size) := ⟨_, rfl⟩
    rw [← hb]
    have hb' := Lib.hid hb
    clear hb
    go_enter Try.func14, Try.ntmps14
    go_wp2
    go_loopg [3] S.length (fun gk iv wr => ∃ i : Nat, i ≤ S.length ∧ gk = S.length - i ∧ iv = .int .i64 i ∧ ((S.take i).any fun r => decide (100 < r.2.2.2.size)) = false ∧ w = wr)
    case atStart => exact ⟨0, Nat.zero_le _, rfl, rfl, rfl, rfl⟩
    case round =>
      obtain ⟨i, hi, hgk, rfl, hno, rfl⟩ := hrel
      have hgk' := Lib.hid hgk; have hno' := Lib.hid hno
      clear hgk hno
      by_cases hlt : i < S.length
      · obtain ⟨g', off, rfl, _, hg2, hcells⟩ := hat'.out (by intro h; rw [h] at hlt; simp at hlt)
        obtain ⟨x, hx⟩ : ∃ x, S[i]? = some x := ⟨_, List.getElem?_eq_getElem hlt⟩
        obtain ⟨x1, x2, x3, x4⟩ := x
        have k3 := hcells i _ 3 _ hx rfl
        simp only [← Nat.add_assoc] at k3
        have hx' := Lib.hid hx
        clear hcells hx
        by_cases hs : 100 < x4.size
        · have hbt : b = true := by rw [hb'.out]; exact List.any_eq_true.2 ⟨_, List.mem_of_getElem? hx'.out, by simpa using hs⟩
          subst hbt
          go_wp2
          go_ret
          exact ⟨rfl, rfl⟩
        · go_wp2
          go_roundg (S.length - (i + 1))
          case rel => exact ⟨i + 1, by omega, rfl, by go_num, any_take_succ hx'.out hno'.out (by simpa using hs), rfl⟩
          case measure => rw [hgk'.out]; omega
      · have hik : i = S.length := by omega
        subst hik
        have hbf : b = false := by rw [hb'.out]; have := hno'.out; rwa [List.take_length] at this
        subst hbf
        go_wp2
        go_ret
        exact ⟨rfl, rfl⟩
end Go.Proofs.Ytcbccogpogdbmaa
