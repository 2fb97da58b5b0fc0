/- Pages (chapter 19): Drop. -/
import Derived.Test.YtafeemlojlngfaaPg18
namespace Go.Proofs.Ytafeemlojlngfaa
open Go.RowKit Go.Maps
def dirtyB (Q : List (Nat × Pg)) (x : Nat) : Bool := match Q.find? (fun q => decide (q.1 = x)) with | some q => q.2.2.2.2 != 0 | none => false
theorem dirtyB_at {Q : List (Nat × Pg)} (hn : (Q.map (·.1)).Nodup) {q : Nat × Pg} (hq : q ∈ Q) : dirtyB Q q.1 = (q.2.2.2.2 != 0) := by
  unfold dirtyB
  cases hf : Q.find? (fun a => decide (a.1 = q.1)) with
  | none => have := List.find?_eq_none.1 hf q hq; simp at this
  | some a =>
    have h1 := List.find?_some hf
    simp only [decide_eq_true_eq] at h1
    have := inj_once (f := (·.1)) hn (List.mem_of_find?_eq_some hf) hq h1
    rw [this]
def dropDirty (P : List Pg) (r1 r2 : Int) : Bool := P.any fun p => inR r1 r2 p.1 && p.2.2.2 != 0
def dropP (P : List Pg) (r1 r2 : Int) : (Int × Int) × List Pg :=
  if dropDirty P r1 r2 = true then ((0, 190), P) else (((P.filter fun p => inR r1 r2 p.1).length, 0), P.filter fun p => !inR r1 r2 p.1)
theorem any_dirty {Q : List (Nat × Pg)} {R : List Nat} {r1 r2 : Int} (hn : (Q.map (·.1)).Nodup) (hR : R.Perm ((Q.filter fun q => inR r1 r2 q.2.1).map (·.1))) : R.any (dirtyB Q) = dropDirty (Q.map (·.2)) r1 r2 := by
  rw [hR.any_eq, List.any_map, List.any_filter]
  unfold dropDirty
  rw [List.any_map]
  rw [Bool.eq_iff_iff, List.any_eq_true, List.any_eq_true]
  constructor
  · rintro ⟨q, hq, h⟩
    refine ⟨q, hq, ?_⟩
    simp only [Function.comp] at h ⊢
    rw [dirtyB_at hn hq] at h
    exact h
  · rintro ⟨q, hq, h⟩
    refine ⟨q, hq, ?_⟩
    simp only [Function.comp] at h ⊢
    rw [dirtyB_at hn hq]
    exact h
theorem cut_more {Q : List (Nat × Pg)} {R : List Nat} {i x : Nat} (h : R[i]? = some x) : cutQ (Q.filter fun q => decide (q.1 ∉ R.take i)) x = Q.filter fun q => decide (q.1 ∉ R.take (i + 1)) := by
  unfold cutQ
  rw [List.filter_filter]
  apply List.filter_congr
  intro q _
  rw [List.take_add_one, h]
  simp only [Option.toList_some, List.mem_append, List.mem_singleton, not_or, Bool.decide_and]
  exact Bool.and_comm _ _
theorem nodup_take {R : List Nat} (hn : R.Nodup) {i x : Nat} (h : R[i]? = some x) : x ∉ R.take i := by
  intro hm
  obtain ⟨hi, rfl⟩ := List.getElem?_eq_some_iff.1 h
  obtain ⟨j, hj, he⟩ := List.mem_iff_getElem.1 hm
  simp only [List.length_take] at hj
  rw [List.getElem_take] at he
  rw [List.nodup_iff_pairwise_ne, List.pairwise_iff_getElem] at hn
  exact hn j i (by omega) hi (by omega) he
theorem cut_all {Q : List (Nat × Pg)} {R : List Nat} {r1 r2 : Int} (hn : (Q.map (·.1)).Nodup) (hR : R.Perm ((Q.filter fun q => inR r1 r2 q.2.1).map (·.1))) : (Q.filter fun q => decide (q.1 ∉ R)) = Q.filter fun q => !inR r1 r2 q.2.1 := by
  apply List.filter_congr
  intro q hq
  rw [Bool.eq_iff_iff]
  simp only [decide_eq_true_eq, hR.mem_iff, List.mem_map, List.mem_filter, not_exists, not_and]
  constructor
  · intro h
    cases hc : inR r1 r2 q.2.1 with
    | false => rfl
    | true => exact absurd rfl (h q ⟨hq, hc⟩)
  · intro h a ⟨ha, hia⟩ e
    have := inj_once (f := (·.1)) hn ha hq e
    subst this
    rw [hia] at h
    simp at h
def DropOut (n : Nat) (Q : List (Nat × Pg)) (cb bm rg : Nat) (r : (Int × Int) × List Pg) (w : World) (e : Ending) (w' : World) : Prop :=
  e = .returned (.tuple #[.int .i64 r.1.1, .int .i64 r.1.2]) ∧ Fr (bm :: rg :: Q.map (·.1)) w w' ∧ ∃ Q', Q'.map (·.2) = r.2 ∧ CacheAt w' cb bm rg n Q' ∧ ∀ q ∈ Q', q.1 ∈ Q.map (·.1) ∨ w.heap.size ≤ q.1
set_option maxRecDepth 100000 in
set_option maxHeartbeats 4000000 in
theorem drop_any {cb bm rg n : Nat} {Q : List (Nat × Pg)} {w : World} (h : CacheAt w cb bm rg n Q) (r1 r2 : Int) :
    Calls Try.prog 22 #[.pointer (some ⟨cb, 0, none⟩), .agg #[.int .i64 r1, .int .i64 r2]] w (DropOut n Q cb bm rg (dropP (Q.map (·.2)) r1 r2) w) := by
  have hf0 : Fr [] w (w.alloc (.cells #[.int .i64 r1, .int .i64 r2] 33)) := (Fr.refl [] w).alloc _
  have h0 := h.fr0 hf0
  have hw := within_any h0 r1 r2
  have hbl := h.blocks
  have hQl : Q.length ≤ 64 := by have := h.few; omega
  have hlt := h.lt
  have hf0' := Lib.hid hf0; have h0' := Lib.hid h0; have hlt' := Lib.hid hlt; have hbl' := Lib.hid hbl
  have eg : ∀ args w, (callFunc 37 args).run Try.prog w = .ok (.enter 37 args) w := enters_of Try.func37 (by kernel_rfl) rfl
  have eg' := Lib.hid eg
  clear h hf0 h0 hlt hbl eg
  go_enter Try.func22, Try.ntmps22
  go_wp2_with (go_at_call 35; refine hw.mono ?_; rintro e w1 ⟨v, R, rfl, hf1, hown, hR⟩; have hR' := Lib.hid hR; have hRl := (show R.length ≤ 64 from by rw [hR.length_eq, List.length_map]; have := List.length_filter_le (fun q : Nat × Pg => inR r1 r2 q.2.1) Q; omega); have h1 := h0'.out.fr0 hf1; have hsl := SliceIs.of_owns hown rfl; obtain ⟨ad, cap, rfl, hc1, hc2, hat⟩ := hsl.at encPtr_len; have hat' := Lib.hid hat; have hf1' := Lib.hid hf1; have h1' := Lib.hid h1; clear hR hf1 hown hw h1 hat)
  have hcn := contains_any (p := dirtyB Q) hsl (by omega) eg'.out (w := w1) (cbv := #[]) (by
    intro x hx
    obtain ⟨q, hq, rfl⟩ := List.mem_map.1 (hR'.out.mem_iff.1 hx)
    have hqQ := (List.mem_filter.1 hq).1
    rw [dirtyB_at hbl'.out hqQ]
    obtain ⟨va, vh, hl⟩ := h1'.out.page (x := q.1) (p := q.2) hqQ
    exact drop1_any hl.cells.2.2.2.1)
  rw [any_dirty hbl'.out hR'.out] at hcn
  have hRn : R.Nodup := hR'.out.nodup_iff.2 ((hbl'.out).sublist (List.Sublist.map _ List.filter_sublist))
  have hRn' := Lib.hid hRn
  have hcl : (R.length : Int) = ((Q.map (·.2)).filter fun p => inR r1 r2 p.1).length := by rw [hR'.out.length_eq, List.length_map, List.filter_map, List.length_map]; rfl
  have hcl' := Lib.hid hcl
  clear hRn hcl hsl
  cases hdd : dropDirty (Q.map (·.2)) r1 r2 with
  | true =>
    rw [hdd] at hcn
    have hP : dropP (Q.map (·.2)) r1 r2 = ((0, 190), Q.map (·.2)) := by unfold dropP; rw [if_pos hdd]
    have hP' := Lib.hid hP
    clear hdd hP
    refine hcn.mono ?_
    rintro e w2 ⟨rfl, rfl⟩
    clear hcn
    go_wp2
    go_ret2
    rw [hP'.out]
    exact ⟨rfl, (hf0'.out.trans hf1'.out).mono (by simp), Q, rfl, h1'.out, fun q hq => .inl (List.mem_map_of_mem (f := (·.1)) hq)⟩
  | false =>
    rw [hdd] at hcn
    have hP : dropP (Q.map (·.2)) r1 r2 = (((((Q.map (·.2)).filter fun p => inR r1 r2 p.1).length : Int), (0 : Int)), (Q.map (·.2)).filter fun p => !inR r1 r2 p.1) := by unfold dropP; rw [if_neg (by rw [hdd]; simp)]
    have hP' := Lib.hid hP
    clear hdd hP
    refine hcn.mono ?_
    rintro e w2 ⟨rfl, rfl⟩
    clear hcn
    go_wp2
    obtain ⟨w1, rfl⟩ : ∃ w1 : World, w1 = w2 := ⟨_, rfl⟩
    go_loopg [16] R.length (fun gk iv wr => ∃ i : Nat, i ≤ R.length ∧ gk = R.length - i ∧ iv = .int .i64 i ∧ CacheAt wr cb bm rg n (Q.filter fun q => decide (q.1 ∉ R.take i)) ∧ Fr (bm :: rg :: Q.map (·.1)) w1 wr)
    case atStart => exact ⟨0, Nat.zero_le _, rfl, rfl, by rw [List.filter_eq_self.2 (by simp)]; exact h1'.out, Fr.refl _ _⟩
    case round =>
      obtain ⟨i, hi, hgk, rfl, hC, hfr⟩ := hrel
      have hgk' := Lib.hid hgk; clear hgk
      by_cases hlt : i < R.length
      · obtain ⟨g', off, rfl, hg1, hg2, hcells⟩ := hat'.out (by intro h; rw [h] at hlt; simp at hlt)
        obtain ⟨x, hx⟩ : ∃ x, R[i]? = some x := ⟨_, List.getElem?_eq_getElem hlt⟩
        have k0 := hcells i x 0 _ hx rfl
        rw [Nat.mul_one, Nat.add_zero] at k0
        have hgn : g' ∉ bm :: rg :: Q.map (·.1) := fun hm => by
          have := hlt'.out g' (List.mem_cons_of_mem _ hm)
          have h0 : (w.alloc (.cells #[.int .i64 r1, .int .i64 r2] 33)).heap.size = w.heap.size + 1 := by simp
          omega
        have k1 : wr.cell? ⟨g', off + i, none⟩ = some (.pointer (some ⟨x, 0, none⟩)) := by rw [hfr.cell (p := ⟨g', _, none⟩) hg2 hgn]; exact k0
        obtain ⟨q, hq, hqx⟩ := List.mem_map.1 (hR'.out.mem_iff.1 (List.mem_of_getElem? hx))
        have hqQ : (x, q.2) ∈ Q.filter fun q => decide (q.1 ∉ R.take i) := by
          refine List.mem_filter.2 ⟨?_, ?_⟩
          · rw [← hqx]; exact (List.mem_filter.1 hq).1
          · simp only [decide_eq_true_eq]; exact nodup_take hRn'.out hx
        have hg := gone_any hC hqQ
        rw [cut_more hx] at hg
        clear hcells k0 hx hq hqx hqQ hC
        go_wp2_with (go_at_call 38; refine hg.mono ?_; rintro e w2 ⟨rfl, hf2, hC2⟩)
        go_roundg (R.length - (i + 1))
        case rel => exact ⟨i + 1, by omega, rfl, by go_num, hC2, hfr.trans (hf2.mono (by
          intro b hb
          rcases List.mem_cons.1 hb with rfl | hb
          · simp
          · rcases List.mem_cons.1 hb with rfl | hb
            · simp
            · obtain ⟨q', hq', rfl⟩ := List.mem_map.1 hb
              exact List.mem_cons_of_mem _ (List.mem_cons_of_mem _ (List.mem_map_of_mem (f := (·.1)) (List.mem_filter.1 hq').1))))⟩
        case measure => rw [hgk'.out]; omega
      · have he : i = R.length := by omega
        subst he
        rw [List.take_length, cut_all hbl'.out hR'.out] at hC
        go_wp2
        go_ret2
        rw [hP'.out]
        refine ⟨by rw [← hcl'.out]; rfl, ((hf0'.out.trans hf1'.out).mono (by simp)).trans hfr, _, ?_, hC, fun q hq => .inl (List.mem_map_of_mem (f := (·.1)) (List.mem_filter.1 hq).1)⟩
        dsimp only; rw [List.filter_map]; rfl
end Go.Proofs.Ytafeemlojlngfaa
