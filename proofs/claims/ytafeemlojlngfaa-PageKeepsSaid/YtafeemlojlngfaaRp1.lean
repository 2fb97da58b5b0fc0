/- The reference's pages: New, at, without, front. -/
import Derived.Test.YtafeemlojlngfaaPg22
import Derived.Test.YtafeemlojlngfaaMore
namespace Go.Proofs.Ytafeemlojlngfaa
open Go.RowKit Go.Maps Go.Lib Go.Sort
/-- The reference's cache in memory. -/
def RefC (w : World) (rb n : Nat) (P : List Pg) : Prop := ∃ v, w.heap[rb]? = some (.cells #[v, .int .i64 n] 42 (0, 0)) ∧ w.ownsRow 0 56 4 v P.length (P.flatMap encPg)
theorem RefC.lt {w : World} {rb n : Nat} {P : List Pg} (h : RefC w rb n P) : rb < w.heap.size := by obtain ⟨v, h, _⟩ := h; exact lt_of_block h
theorem RefC.fr0 {w w' : World} {rb n : Nat} {P : List Pg} (h : RefC w rb n P) (hf : Fr [] w w') : RefC w' rb n P := by
  obtain ⟨v, h1, h2⟩ := h
  exact ⟨v, hf.keep h1 (by simp), owns_fr2 h2 hf (by simp)⟩
/-- .. whose row is a new one. -/
def RefF (w : World) (rb n base : Nat) (P : List Pg) : Prop := ∃ v, w.heap[rb]? = some (.cells #[v, .int .i64 n] 42 (0, 0)) ∧ w.ownsRow base 56 4 v P.length (P.flatMap encPg)
theorem RefF.refC {w : World} {rb n base : Nat} {P : List Pg} (h : RefF w rb n base P) (_ : rb < base) : RefC w rb n P := by
  obtain ⟨v, h1, h2⟩ := h
  exact ⟨v, h1, owns_base h2 (Nat.zero_le _)⟩
theorem RefF.fr {w w' : World} {rb n base : Nat} {P : List Pg} {S : List Nat} (h : RefF w rb n base P) (hf : Fr S w w') (h1 : rb ∉ S) (h2 : ∀ s ∈ S, s < base) : RefF w' rb n base P := by
  obtain ⟨v, h3, h4⟩ := h
  exact ⟨v, hf.keep h3 h1, owns_fr h4 hf h2⟩
theorem owns_apart {w : World} {v : Value} {base : Nat} {e t : TypeId} {k n : Nat} {xs : List Value} {b : Nat} {cs : Array Value} (h : w.ownsRow base e k v n xs) (hb : w.heap[b]? = some (.cells cs t (0, 0))) (hne : e ≠ t) : v.ownBlock ≠ some b := by
  rcases h.2 with ⟨rfl, _⟩ | ⟨g, cap, cur, rfl, _, hg, _⟩
  · simp [Value.ownBlock]
  · intro he
    have : g = b := by simpa [Value.ownBlock] using he
    subst this
    rw [hg] at hb
    injection hb with hb
    injection hb with _ ht
    exact hne ht
theorem owns_slice {w : World} {v : Value} {base : Nat} {e : TypeId} {α : Type} {enc : α → List Value} {k : Nat} {S : List α} {B : Nat → Prop} (h : w.ownsRow base e k v S.length (S.flatMap enc)) (hB : ∀ g, v.ownBlock = some g → B g) : SliceIs w B enc v S := by
  obtain ⟨a, cap, hv, h1, h2, h3⟩ := SliceIs.of_owns h rfl
  refine ⟨a, cap, hv, h1, h2, ?_⟩
  rcases h3 with h3 | ⟨g, off, ha, _, hg, hc⟩
  · exact .inl h3
  · exact .inr ⟨g, off, ha, hB g (by rw [hv, ha]; rfl), hg, hc⟩
theorem RefC.open {w : World} {rb n : Nat} {P : List Pg} (h : RefC w rb n P) : ∃ a cap, w.heap[rb]? = some (.cells #[.slice a P.length cap, .int .i64 n] 42 (0, 0)) ∧ P.length ≤ cap ∧ cap ≤ maxLen ∧ SliceIs w (· ≠ rb) encPg (.slice a P.length cap) P ∧ (P ≠ [] → ∃ g off, a = some ⟨g, off, none⟩ ∧ g ≠ rb ∧ g < w.heap.size ∧
    ∀ i x j u, P[i]? = some x → (encPg x)[j]? = some u → w.cell? ⟨g, off + (i * 4 + j), none⟩ = some u) := by
  obtain ⟨v, h1, hown⟩ := h
  have h3 : SliceIs w (· ≠ rb) encPg v P := owns_slice hown (fun g hg e => owns_apart hown h1 (by decide) (e ▸ hg))
  have h3' := h3
  obtain ⟨a, cap, rfl, h4, h5, h6⟩ := h3.at encPg_len
  exact ⟨a, cap, h1, h4, h5, h3', h6⟩
set_option maxHeartbeats 1000000 in
theorem rnew_any (n : Int) (w : World) : Calls Try.prog 11 #[.int .i64 n] w fun e w' => e = .returned (ptr w.heap.size) ∧ Fr [] w w' ∧ RefC w' w.heap.size (max 1 (min n 64)).toNat [] := by
  go_enter Try.func11, Try.ntmps11
  go_wp2
  go_ret
  have hn : ((max 1 (min n 64)).toNat : Int) = max 1 (min n 64) := by omega
  refine ⟨rfl, (Fr.refl _ _).alloc _, .slice none 0 0, ?_, owns_nil _ _ _ _⟩
  rw [hn]
  exact heap_alloc_new w _
def atP (P : List Pg) (b : Int) : Int := match P.findIdx? (fun p => decide (p.1 = b)) with | some i => (i : Int) | none => -1
theorem findIdx_at {P : List Pg} {b : Int} {i : Nat} {x : Pg} (h : P[i]? = some x) (hx : x.1 = b) (h0 : (P.take i).any (fun p => decide (p.1 = b)) = false) : P.findIdx? (fun p => decide (p.1 = b)) = some i := by
  rw [List.findIdx?_eq_some_iff_getElem]
  obtain ⟨hi, rfl⟩ := List.getElem?_eq_some_iff.1 h
  refine ⟨hi, by simpa using hx, fun j hj => ?_⟩
  rw [List.any_eq_false] at h0
  have := h0 P[j] (by
    rw [List.mem_iff_getElem]
    exact ⟨j, by rw [List.length_take]; omega, by rw [List.getElem_take]⟩)
  simpa using this
set_option maxRecDepth 100000 in
set_option maxHeartbeats 1000000 in
theorem at_any {rb n : Nat} {P : List Pg} {w : World} (h : RefC w rb n P) (hl : P.length < 1000000) (b : Int) :
    Calls Try.prog 43 #[.pointer (some ⟨rb, 0, none⟩), .int .i64 b] w fun e w' => e = .returned (.int .i64 (atP P b)) ∧ w' = w := by
  obtain ⟨a, cap, hr, hc1, hc2, _, hat⟩ := h.open
  have hf : w.cell? ⟨rb, 0, none⟩ = some (.slice a P.length cap) := by rw [cell_at hr]; rfl
  have lr := lt_of_cell hf
  have hat' := Lib.hid hat; clear hat h hr
  go_enter Try.func43, Try.ntmps43
  go_wp2
  go_loopg [5] P.length (fun gk iv wr => ∃ i : Nat, i ≤ P.length ∧ gk = P.length - i ∧ iv = .int .i64 i ∧ (P.take i).any (fun p => decide (p.1 = b)) = false ∧ wr = w)
  case atStart => exact ⟨0, Nat.zero_le _, rfl, rfl, rfl, rfl⟩
  case round =>
    obtain ⟨i, hi, hgk, rfl, hno, hwe⟩ := hrel
    have hwe := hwe.symm
    subst hwe
    have hgk' := Lib.hid hgk; have hno' := Lib.hid hno
    clear hgk hno
    by_cases hlt : i < P.length
    · obtain ⟨g', off, rfl, _, hg2, hcells⟩ := hat'.out (by intro h; rw [h] at hlt; simp at hlt)
      obtain ⟨x, hx⟩ : ∃ x, P[i]? = some x := ⟨_, List.getElem?_eq_getElem hlt⟩
      have k0 := hcells i x 0 _ hx rfl
      rw [Nat.add_zero] at k0
      have hx' := Lib.hid hx
      clear hcells hx
      by_cases hb : x.1 = b
      · have hfi := Lib.hid (findIdx_at hx'.out hb hno'.out)
        obtain ⟨x1, x2, x3, x4⟩ := x
        dsimp only at hb k0
        subst hb
        go_wp2
        go_ret
        exact ⟨by unfold atP; rw [hfi.out]; rfl, rfl⟩
      · have hb' : (x.1 == b) = false := by simpa using hb
        have hy := Lib.hid (any_take_succ hx'.out hno'.out (by simpa using hb))
        go_wp2
        go_roundg (P.length - (i + 1))
        case rel => exact ⟨i + 1, by omega, rfl, by go_num, hy.out, rfl⟩
        case measure => rw [hgk'.out]; omega
    · have he : i = P.length := by omega
      subst he
      have hfi : P.findIdx? (fun p => decide (p.1 = b)) = none := by
        have := hno'.out
        rw [List.take_length, List.any_eq_false] at this
        rw [List.findIdx?_eq_none_iff]
        exact fun x hx => by simpa using this x hx
      have hfi' := Lib.hid hfi; clear hfi
      go_wp2
      go_ret
      exact ⟨by unfold atP; rw [hfi'.out]; rfl, rfl⟩
theorem infoRP : (Try.prog.info? 56).map (fun i => (i.zero, i.size, i.bytes)) = some (some (.agg #[.int .i64 0, .int .i64 0, .string ⟨#[]⟩, .int .i64 0]), 4, 40) := by kernel_rfl
set_option maxRecDepth 100000 in
set_option maxHeartbeats 2000000 in
theorem without_any {rb n : Nat} {P : List Pg} {w : World} (h : RefC w rb n P) (hl : P.length < 1000000) (i : Nat) (hi : i < P.length) :
    Calls Try.prog 45 #[.pointer (some ⟨rb, 0, none⟩), .int .i64 i] w fun e w' => ∃ v, e = .returned v ∧ Fr [] w w' ∧ SliceIs w' (w.heap.size ≤ ·) encPg v (P.take i ++ P.drop (i + 1)) := by
  obtain ⟨a, cap, hr, hc1, hc2, hsl, hat⟩ := h.open
  obtain ⟨g, off, rfl, _, _, _⟩ := hat (by rintro rfl; simp at hi)
  have hf : w.cell? ⟨rb, 0, none⟩ = some (.slice (some ⟨g, off, none⟩) P.length cap) := by rw [cell_at hr]; rfl
  have lr := lt_of_cell hf
  clear hat h hr
  have hfa : Fr [] w (w.alloc (.cells #[] 56)) := (Fr.refl [] w).alloc _
  have hs1 := (hsl.fr hfa (by simp)).take i (by omega)
  have hs2 : ∀ w1, Fr [] w w1 → _ := fun w1 hf1 => (hsl.fr (w' := w1) hf1 (by simp)).drop encPg_len (i + 1) (by omega)
  have hown0 : (w.alloc (.cells #[] 56)).ownsRow w.heap.size 56 4 (.slice (some ⟨w.heap.size, 0, none⟩) 0 0) ([] : List Pg).length (([] : List Pg).flatMap encPg) := World.ownsRow_made w #[] 0 (Nat.le_refl _) (Nat.zero_le _) rfl
  have htl : (P.take i).length ≤ 1000000 := by rw [List.length_take]; omega
  have hdl : (P.drop (i + 1)).length ≤ 1000000 := by rw [List.length_drop]; omega
  obtain ⟨T1, hT1⟩ : ∃ T1, T1 = P.take i := ⟨_, rfl⟩
  obtain ⟨T2, hT2⟩ : ∃ T2, T2 = P.drop (i + 1) := ⟨_, rfl⟩
  rw [← hT1] at hs1 htl
  rw [← hT2] at hdl
  simp only [← hT2] at hs2
  rw [← hT1, ← hT2]
  by_cases hcap : cap = i + 1
  · subst hcap
    have e0 : P.length - (i + 1) = 0 := by omega
    simp only [if_pos, Nat.sub_self, e0] at hs2
    clear e0
    have hs2' := Lib.hid hs2
    clear hsl hT1 hT2 hs2
    go_enter Try.func45, Try.ntmps45
    go_wp2_with (first | (at_builtin; refine wpList_more _ rfl (.tmp 7) (.tmp 13) 37 rfl w.heap.size 56 Try.underlying37 infoRP rfl (by omega) (.slice (some ⟨w.heap.size, 0, none⟩) 0 0) [] rfl hown0 _ T1 rfl hs1 encPg_len enc1 (by simp; omega) (by omega) (by simp) ?_; intro v1 w1 hown1 hf1 hat1; have hz1 : w.heap.size < w1.heap.size := Nat.lt_of_lt_of_le (by simp) hf1.size; have hf1' : Fr [] w w1 := (hfa.andThen hf1 (by simp [Value.ownBlock])); have hfd := hf1'.cell (p := ⟨rb, 0, none⟩) lr (by simp); rw [hf] at hfd; have hs3 := hs2'.out w1 hf1'; rw [List.nil_append] at hown1) |
      (at_builtin; refine wpList_more _ rfl (.tmp 15) (.tmp 22) 37 rfl w.heap.size 56 Try.underlying37 infoRP rfl (by omega) v1 T1 rfl hown1 _ T2 rfl hs3 encPg_len enc1 (by omega) (by omega) (by omega) ?_; intro v2 w2 hown2 hf2 hat2))
    go_ret
    refine ⟨v2, rfl, hf1'.andThen hf2 (fun t ht => .inr ?_), SliceIs.of_owns hown2 rfl⟩
    have := hown1.lt t (by simpa using ht)
    omega
  · simp only [if_neg hcap] at hs2
    have hs2' := Lib.hid hs2
    clear hsl hT1 hT2 hs2
    go_enter Try.func45, Try.ntmps45
    go_wp2_with (first | (at_builtin; refine wpList_more _ rfl (.tmp 7) (.tmp 13) 37 rfl w.heap.size 56 Try.underlying37 infoRP rfl (by omega) (.slice (some ⟨w.heap.size, 0, none⟩) 0 0) [] rfl hown0 _ T1 rfl hs1 encPg_len enc1 (by simp; omega) (by omega) (by simp) ?_; intro v1 w1 hown1 hf1 hat1; have hz1 : w.heap.size < w1.heap.size := Nat.lt_of_lt_of_le (by simp) hf1.size; have hf1' : Fr [] w w1 := (hfa.andThen hf1 (by simp [Value.ownBlock])); have hfd := hf1'.cell (p := ⟨rb, 0, none⟩) lr (by simp); rw [hf] at hfd; have hs3 := hs2'.out w1 hf1'; rw [List.nil_append] at hown1) |
      (at_builtin; refine wpList_more _ rfl (.tmp 15) (.tmp 22) 37 rfl w.heap.size 56 Try.underlying37 infoRP rfl (by omega) v1 T1 rfl hown1 _ T2 rfl hs3 encPg_len enc1 (by omega) (by omega) (by omega) ?_; intro v2 w2 hown2 hf2 hat2))
    go_ret
    refine ⟨v2, rfl, hf1'.andThen hf2 (fun t ht => .inr ?_), SliceIs.of_owns hown2 rfl⟩
    have := hown1.lt t (by simpa using ht)
    omega
set_option maxRecDepth 100000 in
set_option maxHeartbeats 2000000 in
theorem front_any {rb n : Nat} {P L : List Pg} {w : World} {B : Nat → Prop} {lv : Value} (h : RefC w rb n P) (hL : SliceIs w B encPg lv L) (hl : L.length < 1000000) (p : Pg) :
    Calls Try.prog 44 #[.pointer (some ⟨rb, 0, none⟩), aggPg p, lv] w fun e w' => e = .returned (.tuple #[]) ∧ Fr [rb] w w' ∧ RefF w' rb n (w.heap.size + 1) (p :: L) := by
  obtain ⟨v0, hr, hsl⟩ := h
  have hf : w.cell? ⟨rb, 0, none⟩ = some v0 := by rw [cell_at hr]; rfl
  have lr := lt_of_cell hf
  obtain ⟨p1, p2, p3, p4⟩ := p
  obtain ⟨a, cap, rfl, hc1, hc2, hat⟩ := hL.at encPg_len
  unfold aggPg
  dsimp only
  have hfw : Fr [] w ((w.alloc (.cells #[.int .i64 p1, .int .i64 p2, .string p3, .int .i64 p4] 56)).alloc (.cells #[.int .i64 p1, .int .i64 p2, .string p3, .int .i64 p4] 56)) := ((Fr.refl [] w).alloc _).alloc _
  have hown0 : ((w.alloc (.cells #[.int .i64 p1, .int .i64 p2, .string p3, .int .i64 p4] 56)).alloc (.cells #[.int .i64 p1, .int .i64 p2, .string p3, .int .i64 p4] 56)).ownsRow (w.heap.size + 1) 56 4 (.slice (some ⟨w.heap.size + 1, 0, none⟩) 1 1) [((p1, p2, p3, p4) : Pg)].length ([((p1, p2, p3, p4) : Pg)].flatMap encPg) := by
    have := World.ownsRow_lit (base := w.heap.size + 1) (e := 56) (size := 4) (w.alloc (.cells #[.int .i64 p1, .int .i64 p2, .string p3, .int .i64 p4] 56)) #[.int .i64 p1, .int .i64 p2, .string p3, .int .i64 p4] 1 (by simp) (by unfold maxLen; omega) rfl
    simpa [encPg] using this
  have hL' := hL.fr hfw (by simp)
  obtain ⟨S1, hS1⟩ : ∃ S1, S1 = [((p1, p2, p3, p4) : Pg)] := ⟨_, rfl⟩
  rw [← hS1] at hown0
  have hSl : S1.length = 1 := by rw [hS1]; rfl
  have hS : S1 ++ L = (p1, p2, p3, p4) :: L := by rw [hS1]; rfl
  rw [← hS]
  have hr' := Lib.hid hr
  have hSl' := Lib.hid hSl
  clear hsl hat hL hS1 hS hr hSl
  go_enter Try.func44, Try.ntmps44
  go_wp2_with (first | (at_builtin; refine wpList_more _ rfl (.tmp 10) (.tmp 11) 37 rfl (w.heap.size + 1) 56 Try.underlying37 infoRP rfl (by omega) (.slice (some ⟨w.heap.size + 1, 0, none⟩) 1 1) S1 rfl hown0 _ L rfl hL' encPg_len enc1 (by rw [hSl'.out]; omega) (by omega) (by simp) ?_; intro v1 w1 hown1 hf1 hat1; have hf1' : Fr [] w w1 := (hfw.andThen hf1 (by simp [Value.ownBlock])); have hr1 := hf1'.keep hr'.out (by simp); have hfd := (show w1.cell? ⟨rb, 0, none⟩ = some v0 from cell_at hr1); have hfz := (show w1.frozen? ⟨rb, 0, none⟩ = false from frozen_at hr1); have hr1' := Lib.hid hr1; clear hr1; have hsl2 := SliceIs.of_owns hown1 rfl; obtain ⟨a1, c1, rfl, q1, q2, q3⟩ := id hsl2; have q3' := Lib.hid q3; clear q3))
  go_end0
  refine ⟨rfl, (hf1'.mono (by simp)).setCell ⟨rb, 0, none⟩ _ (.inl (by simp)), _, setCell_at hr1'.out _, ?_⟩
  have := owns_fr hown1 (T := [rb]) ((Fr.refl [rb] w1).setCell ⟨rb, 0, none⟩ (.slice a1 (S1 ++ L).length c1) (.inl (by simp))) (by simp; omega)
  rw [List.length_append] at this
  rw [List.length_append]
  exact this
end Go.Proofs.Ytafeemlojlngfaa
