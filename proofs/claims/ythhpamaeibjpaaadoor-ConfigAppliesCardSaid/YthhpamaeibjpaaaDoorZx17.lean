/- Contracts and words, several texts in one. -/
import Derived.WalkSpells
import Derived.BigQuiet
import Derived.Test.YthhpamaeibjpaaaDoorZx16
section
namespace Go.Proofs.YthhpamaeibjpaaaDoor
open Go.RowKit Go.Maps Go.Lib Go.Sort
set_option maxRecDepth 100000 in
set_option maxHeartbeats 2000000 in
theorem clone_pt {B : Nat → Prop} (v : Value) (S : List Pt) (w : World) (h : SliceIs w B encPt v S) (hl : S.length < 1000000) :
    Calls Tryd.prog 32 #[v] w fun e w' => ∃ v', e = .returned v' ∧ Fr [] w w' ∧ w'.ownsRow w.heap.size 71 4 v' S.length (S.flatMap encPt) := by
  have h0 := h
  obtain ⟨a, cap, rfl, hc1, hc2, hat⟩ := h.at encPt_len
  have hrun := fun X => Lib.run_eql_slice_nil (P := Tryd.prog) X 24 71 a S.length cap 0 0 Tryd.underlying24
  cases a with
  | none =>
    have hS : S = [] := Decidable.byContradiction fun hne => by
      obtain ⟨g, off, h1, _⟩ := hat hne
      cases h1
    subst hS
    have hrun0 := fun X => Lib.run_eql_slice_nil (P := Tryd.prog) X 24 71 none 0 cap 0 0 Tryd.underlying24
    clear hat h h0 hrun
    rw [List.length_nil]
    go_enter Tryd.func32, Tryd.ntmps32
    go_wp2
    go_ret
    exact ⟨_, rfl, Fr.refl _ _, ⟨by simp, .inl ⟨rfl, by simp⟩⟩⟩
  | some ad =>
    have h0' := Lib.hid h0
    obtain ⟨W, hW⟩ : ∃ W, W = w.alloc (.cells #[] 71) := ⟨_, rfl⟩
    have hFW : Fr [] w W := by rw [hW]; exact (Fr.refl _ _).alloc _
    have hown0 : W.ownsRow w.heap.size 71 4 (.slice (some ⟨w.heap.size, 0, none⟩) 0 0) ([] : List Pt).length (([] : List Pt).flatMap encPt) := by
      rw [hW]; exact World.ownsRow_made w #[] 0 (Nat.le_refl _) (Nat.zero_le _) rfl
    have hsW := h0.fr hFW (by simp)
    have hzW : W.heap.size = w.heap.size + 1 := by rw [hW]; simp
    have hW' := Lib.hid hW
    have hsW' := Lib.hid hsW
    clear hat h h0 hsW hW
    go_enter Tryd.func32, Tryd.ntmps32
    go_wp2_with (first | (at_builtin; (refine wpList_more _ rfl _ _ 24 rfl w.heap.size 71 Tryd.underlying24 infoPt rfl (by omega) (.slice (some ⟨w.heap.size, 0, none⟩) 0 0) ([] : List Pt) rfl (by rw [← hW'.out]; exact hown0) (.slice (some ad) S.length cap) S rfl (by rw [← hW'.out]; exact hsW'.out) encPt_len enc1Pt (by simp; omega) (by omega) (by simp) ?_; intro v' w7 hown7 hf7 hb7)))
    go_ret
    rw [← hW'.out] at hf7
    refine ⟨_, rfl, hFW.andThen hf7 (fun t ht => .inr (by simp [Value.ownBlock] at ht; omega)), by simpa using hown7⟩
set_option maxRecDepth 100000 in
set_option maxHeartbeats 2000000 in
theorem clone_int {B : Nat → Prop} (v : Value) (S : List Int) (w : World) (h : SliceIs w B encI v S) (hl : S.length < 1000000) :
    Calls Tryd.prog 31 #[v] w fun e w' => ∃ v', e = .returned v' ∧ Fr [] w w' ∧ w'.ownsRow w.heap.size 3 1 v' S.length (S.flatMap encI) := by
  have h0 := h
  obtain ⟨a, cap, rfl, hc1, hc2, hat⟩ := h.at encI_len
  have hrun := fun X => Lib.run_eql_slice_nil (P := Tryd.prog) X 23 3 a S.length cap 0 0 Tryd.underlying23
  cases a with
  | none =>
    have hS : S = [] := Decidable.byContradiction fun hne => by
      obtain ⟨g, off, h1, _⟩ := hat hne
      cases h1
    subst hS
    have hrun0 := fun X => Lib.run_eql_slice_nil (P := Tryd.prog) X 23 3 none 0 cap 0 0 Tryd.underlying23
    clear hat h h0 hrun
    rw [List.length_nil]
    go_enter Tryd.func31, Tryd.ntmps31
    go_wp2
    go_ret
    exact ⟨_, rfl, Fr.refl _ _, ⟨by simp, .inl ⟨rfl, by simp⟩⟩⟩
  | some ad =>
    have h0' := Lib.hid h0
    obtain ⟨W, hW⟩ : ∃ W, W = w.alloc (.cells #[] 3) := ⟨_, rfl⟩
    have hFW : Fr [] w W := by rw [hW]; exact (Fr.refl _ _).alloc _
    have hown0 : W.ownsRow w.heap.size 3 1 (.slice (some ⟨w.heap.size, 0, none⟩) 0 0) ([] : List Int).length (([] : List Int).flatMap encI) := by
      rw [hW]; exact World.ownsRow_made w #[] 0 (Nat.le_refl _) (Nat.zero_le _) rfl
    have hsW := h0.fr hFW (by simp)
    have hzW : W.heap.size = w.heap.size + 1 := by rw [hW]; simp
    have hW' := Lib.hid hW
    have hsW' := Lib.hid hsW
    clear hat h h0 hsW hW
    go_enter Tryd.func31, Tryd.ntmps31
    go_wp2_with (first | (at_builtin; (refine wpList_more _ rfl _ _ 23 rfl w.heap.size 3 Tryd.underlying23 infoI rfl (by omega) (.slice (some ⟨w.heap.size, 0, none⟩) 0 0) ([] : List Int) rfl (by rw [← hW'.out]; exact hown0) (.slice (some ad) S.length cap) S rfl (by rw [← hW'.out]; exact hsW'.out) encI_len enc1I (by simp; omega) (by omega) (by simp) ?_; intro v' w7 hown7 hf7 hb7)))
    go_ret
    rw [← hW'.out] at hf7
    refine ⟨_, rfl, hFW.andThen hf7 (fun t ht => .inr (by simp [Value.ownBlock] at ht; omega)), by simpa using hown7⟩
end Go.Proofs.YthhpamaeibjpaaaDoor
end
section
namespace Go.Proofs.YthhpamaeibjpaaaDoor
open Go.RowKit Go.Maps Go.Lib Go.Sort
theorem ret_int {k : IntKind} {a b : Int} (h : a = b) : Ending.returned (.int k a) = .returned (.int k b) := by rw [h]
theorem any_take_succ {α : Type} {p : α → Bool} {R : List α} {i : Nat} {x : α} (h : R[i]? = some x) (h0 : (R.take i).any p = false) (hx : p x = false) : (R.take (i + 1)).any p = false := by
  rw [List.take_add_one, h, List.any_append, h0]
  simp [hx]
def idxI {α : Type} (S : List α) (p : α → Bool) : Int := match S.findIdx? p with | some i => (i : Int) | none => -1
theorem find_at {α : Type} {p : α → Bool} : ∀ {S : List α} {i : Nat} {x : α}, S[i]? = some x → (S.take i).any p = false → p x = true → S.findIdx? p = some i
  | [], i, x, h, _, _ => by simp at h
  | y :: S, 0, x, h, _, hp => by
    simp at h; subst h
    rw [List.findIdx?_cons, if_pos hp]
  | y :: S, i + 1, x, h, h0, hp => by
    rw [List.getElem?_cons_succ] at h
    rw [List.take_succ_cons, List.any_cons, Bool.or_eq_false_iff] at h0
    rw [List.findIdx?_cons, if_neg (by rw [h0.1]; simp), find_at h h0.2 hp]; rfl
theorem idx_at {α : Type} {p : α → Bool} {S : List α} {i : Nat} {x : α} (h : S[i]? = some x) (h0 : (S.take i).any p = false) (hp : p x = true) : idxI S p = (i : Int) := by
  unfold idxI; rw [find_at h h0 hp]
theorem idx_none {α : Type} {p : α → Bool} {S : List α} (h : S.any p = false) : idxI S p = -1 := by
  unfold idxI
  rw [List.findIdx?_eq_none_iff.2 (fun x hx => List.any_eq_false.1 h x hx |> fun hh => by simpa using hh)]
set_option maxRecDepth 100000 in
set_option maxHeartbeats 2000000 in
theorem idx_pt {S : List Pt} {B : Nat → Prop} {v : Value} {g : Nat} {cbv : Array Value} {p : Pt → Bool} {w : World} (h : SliceIs w B encPt v S) (hl : S.length < 1000000)
    (eg : ∀ args w, (callFunc g args).run Tryd.prog w = .ok (.enter g args) w) (hp : ∀ X, Fr [] w X → ∀ x ∈ S, Calls Tryd.prog g (#[.agg (encPt x).toArray] ++ cbv) X fun e w' => e = .returned (.bool (p x)) ∧ Fr [] X w') :
    Calls Tryd.prog 36 #[v, .func (.func g) #[] cbv] w fun e w' => e = .returned (.int .i64 (idxI S p)) ∧ Fr [] w w' := by
  obtain ⟨a, cap, rfl, hc1, hc2, hat⟩ := h.at encPt_len
  have hat' := Lib.hid hat; have hp' := Lib.hid hp
  clear h hat hp
  go_enter Tryd.func36, Tryd.ntmps36
  go_wp2
  go_loopg [8] S.length (fun gk iv wr => ∃ i : Nat, i ≤ S.length ∧ gk = S.length - i ∧ iv = .int .i64 i ∧ (S.take i).any p = false ∧ Fr [] w wr)
  case atStart => exact ⟨0, Nat.zero_le _, rfl, rfl, rfl, Fr.refl _ _⟩
  case round =>
    obtain ⟨i, hi, hgk, rfl, hno, hfr⟩ := hrel
    have hgk' := Lib.hid hgk; have hno' := Lib.hid hno
    clear hgk hno
    by_cases hlt : i < S.length
    · obtain ⟨g', off, rfl, _, hg2, hcells⟩ := hat'.out (by intro h; rw [h] at hlt; simp at hlt)
      obtain ⟨x, hx⟩ : ∃ x, S[i]? = some x := ⟨_, List.getElem?_eq_getElem hlt⟩
      have k0 := hcells i x 0 _ hx rfl
      have k1 := hcells i x 1 _ hx rfl
      have k2 := hcells i x 2 _ hx rfl
      have k3 := hcells i x 3 _ hx rfl
      rw [Nat.add_zero] at k0
      simp only [← Nat.add_assoc] at k1 k2 k3

      have k0 := hfr.at0 k0
      have k1 := hfr.at0 k1
      have k2 := hfr.at0 k2
      have k3 := hfr.at0 k3
      have lk := lt_of_cell k0
      have hcall := hp'.out wr hfr x (List.mem_of_getElem? hx)
      have hx' := Lib.hid hx
      clear hcells hx
      cases hpx : p x with
      | true =>
        rw [hpx] at hcall
        have hy := Lib.hid (idx_at hx'.out hno'.out hpx)
        clear hpx
        have hy2 := Lib.hid hfr
        clear hfr
        obtain ⟨f, t, a, b⟩ := x
        dsimp only at k0 k1 k2 k3 hcall

        go_wp2_with (refine hcall.mono ?_; rintro e w2 ⟨rfl, hf2⟩)
        go_ret
        exact ⟨ret_int hy.out.symm, hy2.out.trans hf2⟩
      | false =>
        rw [hpx] at hcall
        have hy := Lib.hid (any_take_succ hx'.out hno'.out hpx)
        clear hpx
        have hy2 := Lib.hid hfr
        clear hfr
        obtain ⟨f, t, a, b⟩ := x
        dsimp only at k0 k1 k2 k3 hcall

        go_wp2_with (refine hcall.mono ?_; rintro e w2 ⟨rfl, hf2⟩)
        go_roundg (S.length - (i + 1))
        case rel => exact ⟨i + 1, by omega, rfl, by go_num, hy.out, hy2.out.trans hf2⟩
        case measure => rw [hgk'.out]; omega
    · have he : i = S.length := by omega
      subst he
      have hn2 := hno'.out
      rw [List.take_length] at hn2
      have hn3 := Lib.hid (idx_none hn2)
      clear hn2
      go_wp2
      go_ret
      exact ⟨ret_int hn3.out.symm, hfr⟩
set_option maxRecDepth 100000 in
set_option maxHeartbeats 2000000 in
theorem idx_int {S : List Int} {B : Nat → Prop} {v : Value} {g : Nat} {cbv : Array Value} {p : Int → Bool} {w : World} (h : SliceIs w B encI v S) (hl : S.length < 1000000)
    (eg : ∀ args w, (callFunc g args).run Tryd.prog w = .ok (.enter g args) w) (hp : ∀ X, Fr [] w X → ∀ x ∈ S, Calls Tryd.prog g (#[.int .i64 x] ++ cbv) X fun e w' => e = .returned (.bool (p x)) ∧ Fr [] X w') :
    Calls Tryd.prog 87 #[v, .func (.func g) #[] cbv] w fun e w' => e = .returned (.int .i64 (idxI S p)) ∧ Fr [] w w' := by
  obtain ⟨a, cap, rfl, hc1, hc2, hat⟩ := h.at encI_len
  have hat' := Lib.hid hat; have hp' := Lib.hid hp
  clear h hat hp
  go_enter Tryd.func87, Tryd.ntmps87
  go_wp2
  go_loopg [8] S.length (fun gk iv wr => ∃ i : Nat, i ≤ S.length ∧ gk = S.length - i ∧ iv = .int .i64 i ∧ (S.take i).any p = false ∧ Fr [] w wr)
  case atStart => exact ⟨0, Nat.zero_le _, rfl, rfl, rfl, Fr.refl _ _⟩
  case round =>
    obtain ⟨i, hi, hgk, rfl, hno, hfr⟩ := hrel
    have hgk' := Lib.hid hgk; have hno' := Lib.hid hno
    clear hgk hno
    by_cases hlt : i < S.length
    · obtain ⟨g', off, rfl, _, hg2, hcells⟩ := hat'.out (by intro h; rw [h] at hlt; simp at hlt)
      obtain ⟨x, hx⟩ : ∃ x, S[i]? = some x := ⟨_, List.getElem?_eq_getElem hlt⟩
      have k0 := hcells i x 0 _ hx rfl
      rw [Nat.mul_one, Nat.add_zero] at k0
      have k0 := hfr.at0 k0
      have lk := lt_of_cell k0
      have hcall := hp'.out wr hfr x (List.mem_of_getElem? hx)
      have hx' := Lib.hid hx
      clear hcells hx
      cases hpx : p x with
      | true =>
        rw [hpx] at hcall
        have hy := Lib.hid (idx_at hx'.out hno'.out hpx)
        clear hpx
        have hy2 := Lib.hid hfr
        clear hfr
  
        go_wp2_with (refine hcall.mono ?_; rintro e w2 ⟨rfl, hf2⟩)
        go_ret
        exact ⟨ret_int hy.out.symm, hy2.out.trans hf2⟩
      | false =>
        rw [hpx] at hcall
        have hy := Lib.hid (any_take_succ hx'.out hno'.out hpx)
        clear hpx
        have hy2 := Lib.hid hfr
        clear hfr
  
        go_wp2_with (refine hcall.mono ?_; rintro e w2 ⟨rfl, hf2⟩)
        go_roundg (S.length - (i + 1))
        case rel => exact ⟨i + 1, by omega, rfl, by go_num, hy.out, hy2.out.trans hf2⟩
        case measure => rw [hgk'.out]; omega
    · have he : i = S.length := by omega
      subst he
      have hn2 := hno'.out
      rw [List.take_length] at hn2
      have hn3 := Lib.hid (idx_none hn2)
      clear hn2
      go_wp2
      go_ret
      exact ⟨ret_int hn3.out.symm, hfr⟩
end Go.Proofs.YthhpamaeibjpaaaDoor
end
section
namespace Go.Proofs.YthhpamaeibjpaaaDoor
open Go.RowKit Go.Maps Go.Lib Go.Sort
theorem idx_cases {α : Type} (S : List α) (p : α → Bool) : (idxI S p = -1 ∧ S.find? p = none) ∨ ∃ (i : Nat) (x : α), idxI S p = (i : Int) ∧ S[i]? = some x ∧ S.find? p = some x ∧ p x = true := by
  induction S with
  | nil => exact .inl ⟨rfl, rfl⟩
  | cons y S ih =>
    unfold idxI
    rw [List.findIdx?_cons, List.find?_cons]
    cases hy : p y with
    | true => exact .inr ⟨0, y, rfl, rfl, rfl, hy⟩
    | false =>
      unfold idxI at ih
      rcases ih with ⟨h1, h2⟩ | ⟨i, x, h1, h2, h3, h4⟩
      · left
        cases h : S.findIdx? p with
        | none => exact ⟨rfl, h2⟩
        | some j => rw [h] at h1; dsimp only at h1; omega
      · right
        cases h : S.findIdx? p with
        | none => rw [h] at h1; dsimp only at h1; omega
        | some j =>
          rw [h] at h1
          dsimp only at h1
          exact ⟨j + 1, x, rfl, by rw [List.getElem?_cons_succ, show j = i from by omega]; exact h2, h3, h4⟩
set_option maxRecDepth 100000 in
set_option maxHeartbeats 2000000 in
theorem where1_any {g : Nat} {b : Int} (x : Pt) (w : World) (hc : w.cell? ⟨g, 0, none⟩ = some (.int .i64 b)) (h1 : 0 ≤ x.2.1) (h2 : x.2.1 ≤ 256) :
    Calls Tryd.prog 37 (#[.agg (encPt x).toArray] ++ #[.pointer (some ⟨g, 0, none⟩)]) w fun e w' => e = .returned (.bool (decide (x.1 ≤ b ∧ b < x.2.1))) ∧ Fr [] w w' := by
  obtain ⟨f, t, a, d⟩ := x
  have lg := lt_of_cell hc
  have hgne : g ≠ w.heap.size := by omega
  have hF : Fr [] w (w.alloc (.cells #[.int .i64 f, .int .i64 t, .int .i64 a, .int .i64 d] 71)) := (Fr.refl _ _).alloc _
  have hw := fun X => within_any b f (t - 1) X
  have hw' := Lib.hid hw
  have e : decide (f ≤ b ∧ b ≤ t - 1) = decide (f ≤ b ∧ b < t) := by rw [Bool.eq_iff_iff]; simp; omega
  have e' := Lib.hid e
  dsimp only at h1 h2 ⊢
  unfold encPt
  dsimp only
  clear hw e
  show Calls Tryd.prog 37 #[.agg #[.int .i64 f, .int .i64 t, .int .i64 a, .int .i64 d], .pointer (some ⟨g, 0, none⟩)] w _
  go_enter Tryd.func37, Tryd.ntmps37
  go_wp2_with (go_at_call 29; refine (hw'.out _).mono ?_; rintro e w1 ⟨rfl, hf1⟩)
  go_ret
  exact ⟨by rw [← e'.out, Bool.decide_and]; rfl, hF.trans hf1⟩
set_option maxRecDepth 100000 in
set_option maxHeartbeats 4000000 in
theorem where_any {B : Nat → Prop} (c : Cfg) (vs vp : Value) (b : Int) (w : World) (h : CfgIs w B vs vp c) (ho : okC c = true) (hp : c.pt.length < 1000000) :
    Calls Tryd.prog 17 #[aggC c vs vp, .int .i64 b] w fun e w' => e = .returned (.tuple #[.int .i64 (whereP c b).1, .int .i64 (whereP c b).2.1, .int .i64 (whereP c b).2.2]) ∧ Fr [] w w' := by
  have hbd0 := (til_bound _ _ ((okC_iff c).1 ho).2.2 (by omega)).1
  have hbd : ∀ p ∈ c.pt, 0 ≤ p.2.1 ∧ p.2.1 ≤ 256 := fun p hp => by have := hbd0 p hp; have := (ok_chain ho).2.1 p hp; omega
  clear hbd0
  obtain ⟨ep, sv, pt, tb⟩ := c
  obtain ⟨hsv, hpt⟩ := h
  dsimp only at hsv hpt hp hbd
  obtain ⟨a1, cap1, rfl, _, _, _⟩ := hsv
  have hpt0 := hpt
  obtain ⟨a2, cap2, rfl, hp1, hp2, hat2⟩ := hpt.at encPt_len
  unfold aggC
  dsimp only
  obtain ⟨W, hW⟩ : ∃ W, W = (w.alloc (.cells #[.int .i64 ep, .slice a1 sv.length cap1, .slice a2 pt.length cap2, .int .i64 tb] 26)).alloc (.cells #[.int .i64 b] 3) := ⟨_, rfl⟩
  have hFW : Fr [] w W := by rw [hW]; exact ((Fr.refl _ _).alloc _).alloc _
  have hb1 : W.heap[w.heap.size]? = some (.cells #[.int .i64 ep, .slice a1 sv.length cap1, .slice a2 pt.length cap2, .int .i64 tb] 26 (0, 0)) := by
    rw [hW]; exact ((Fr.refl [] _).alloc _).keep (heap_alloc_new w _) (by simp)
  have hb2 : W.heap[w.heap.size + 1]? = some (.cells #[.int .i64 b] 3 (0, 0)) := by
    rw [hW]
    have := heap_alloc_new (w.alloc (.cells #[.int .i64 ep, .slice a1 sv.length cap1, .slice a2 pt.length cap2, .int .i64 tb] 26)) (.cells #[.int .i64 b] 3)
    simpa using this
  have k2 := (show W.cell? ⟨w.heap.size, 2, none⟩ = some (.slice a2 pt.length cap2) from cell_at hb1)
  have r0 := (show W.cell? ⟨w.heap.size + 1, 0, none⟩ = some (.int .i64 b) from cell_at hb2)
  have eg : ∀ args w, (callFunc 37 args).run Tryd.prog w = .ok (.enter 37 args) w := enters_of Tryd.func37 (by kernel_rfl) rfl
  have hix := idx_pt (g := 37) (cbv := #[.pointer (some ⟨w.heap.size + 1, 0, none⟩)]) (p := fun x => decide (x.1 ≤ b ∧ b < x.2.1)) (hpt0.fr hFW (by simp)) hp eg (fun X hX x hx => where1_any x X (hX.at0 r0) (hbd x hx).1 (hbd x hx).2)
  have hic := idx_cases pt (fun x => decide (x.1 ≤ b ∧ b < x.2.1))
  have hat2' := Lib.hid hat2; have hix' := Lib.hid hix; have hW' := Lib.hid hW
  have lk := lt_of_cell k2
  clear hpt hpt0 hat2 hix hW hb1 hb2 eg hbd ho
  rcases hic with ⟨e1, e2⟩ | ⟨i, x, e1, e2, e3, _⟩
  · have hv : whereP ⟨ep, sv, pt, tb⟩ b = (0, 0, 71) := by unfold whereP; dsimp only; rw [e2]
    rw [hv]
    dsimp only
    rw [e1] at hix'
    clear hv e1 e2
    go_enter Tryd.func17, Tryd.ntmps17
    go_upto_region 1 with (fail)
    rw [← hW'.out]
    go_wp2_with (go_at_call 36; refine hix'.out.mono ?_; rintro e w1 ⟨rfl, hf1⟩)
    go_ret3
    exact ⟨rfl, hFW.trans hf1⟩
  · have hv : whereP ⟨ep, sv, pt, tb⟩ b = (x.2.2.1, x.2.2.2, 0) := by unfold whereP; dsimp only; rw [e3]
    rw [hv]
    dsimp only
    rw [e1] at hix'
    obtain ⟨g, off, rfl, _, hg, hcells⟩ := hat2'.out (by rintro rfl; simp at e2)
    have c2 := hFW.at0 (hcells i x 2 _ e2 rfl)
    have c3 := hFW.at0 (hcells i x 3 _ e2 rfl)
    simp only [← Nat.add_assoc] at c2 c3
    have hi := (List.getElem?_eq_some_iff.1 e2).1
    have hi2 : (i : Int) < (pt.length : Int) := by omega
    obtain ⟨x1, x2, x3, x4⟩ := x
    dsimp only at c2 c3 ⊢
    clear hv e1 e2 e3 hcells
    go_enter Tryd.func17, Tryd.ntmps17
    go_upto_region 1 with (fail)
    rw [← hW'.out]
    go_wp2_with (go_at_call 36; refine hix'.out.mono ?_; rintro e w1 ⟨rfl, hf1⟩; have k2' := hf1.at0 k2; have d2 := hf1.at0 c2; have d3 := hf1.at0 c3; have lk' := lt_of_cell k2')
    go_quiet (fail)
    go_wp2
    go_ret3
    exact ⟨rfl, (hFW.trans hf1).drewN nq⟩
end Go.Proofs.YthhpamaeibjpaaaDoor
end
