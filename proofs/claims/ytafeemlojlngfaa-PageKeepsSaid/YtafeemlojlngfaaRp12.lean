/- The reference's pages: Oldest, Same; the law's theirs. -/
import Derived.Test.YtafeemlojlngfaaRp11
import Derived.Lib.SlicesS
namespace Go.Proofs.Ytafeemlojlngfaa
open Go.RowKit Go.Maps Go.Lib Go.Sort
set_option maxRecDepth 100000 in
set_option maxHeartbeats 4000000 in
theorem roldest_any {rb n : Nat} {P : List Pg} {w : World} (h : RefC w rb n P) (hl : P.length < 100000) :
    Calls Try.prog 17 #[.pointer (some ⟨rb, 0, none⟩)] w fun e w' => e = .returned (.int .i64 (((dirtyP P 0 256).head?.map (·.2.2.2)).getD 0)) ∧ Fr [] w w' := by
  have hd := rdirty_any h hl 0 256
  clear h
  obtain ⟨D, hD⟩ : ∃ D, D = dirtyP P 0 256 := ⟨_, rfl⟩
  rw [← hD] at hd ⊢
  clear hD
  cases D with
  | nil =>
    go_enter Try.func17, Try.ntmps17
    go_wp2_with (go_at_call 29; refine hd.mono ?_; rintro e w2 ⟨v, rfl, hf2, hsl⟩; obtain ⟨ad, cap, rfl, hc1, hc2, hat⟩ := hsl.at encPg_len; clear hat hsl hd; dsimp only [List.length_nil])
    go_ret
    exact ⟨rfl, hf2⟩
  | cons p D =>
    obtain ⟨p1, p2, p3, p4⟩ := p
    have hne : (((((p1, p2, p3, p4) : Pg) :: D).length : Int) == 0) = false := by rw [List.length_cons, beq_eq_false_iff_ne]; omega
    obtain ⟨dl, hdl⟩ : ∃ dl, dl = (((p1, p2, p3, p4) : Pg) :: D).length := ⟨_, rfl⟩
    rw [← hdl] at hne
    have hdp : 0 < dl := by rw [hdl]; simp
    have hdl' := Lib.hid hdl; clear hdl
    go_enter Try.func17, Try.ntmps17
    go_wp2_with (go_at_call 29; refine hd.mono ?_; rintro e w2 ⟨v, rfl, hf2, hsl⟩; obtain ⟨ad, cap, rfl, hc1, hc2, hat⟩ := hsl.at encPg_len; obtain ⟨g', off, rfl, hg1, hg2, hcells⟩ := hat (by simp); have k3 := hcells 0 _ 3 _ rfl rfl; rw [Nat.zero_mul, Nat.zero_add] at k3; clear hat hsl hd hcells; rw [← hdl'.out] at hc1 ⊢)
    go_ret
    exact ⟨rfl, hf2⟩
set_option maxRecDepth 100000 in
set_option maxHeartbeats 1000000 in
theorem theirs_any {B : Nat → Prop} (v : Value) (S : List Pg) (w : World) (h : SliceIs w B encPg v S) (hT : S.length < 1000000) :
    Calls Try.prog 14 #[v] w fun e w' => ∃ v', e = .returned v' ∧ Fr [] w w' ∧ SliceIs w' (w.heap.size ≤ ·) encPg v' S := by
  obtain ⟨a, cap, rfl, hc1, hc2, hat⟩ := h.at encPg_len
  have hat' := Lib.hid hat; clear hat h
  go_enter Try.func14, Try.ntmps14
  go_wp2
  go_loopg [3, 4] S.length (fun gk lv iv wr => ∃ i : Nat, i ≤ S.length ∧ gk = S.length - i ∧ iv = .int .i64 i ∧ wr.ownsRow w.heap.size 56 4 lv (S.take i).length ((S.take i).flatMap encPg) ∧ Fr [] w wr)
  case atStart => exact ⟨0, Nat.zero_le _, rfl, rfl, World.ownsRow_made w #[] 0 (Nat.le_refl _) (Nat.zero_le _) rfl, (Fr.refl _ _).alloc _⟩
  case round =>
    obtain ⟨i, hi, hgk, rfl, hown, hfr⟩ := hrel
    have hgk' := Lib.hid hgk; clear hgk
    by_cases hlt : i < S.length
    · obtain ⟨g', off, rfl, hg1, hg2, hcells⟩ := hat'.out (by intro h; rw [h] at hlt; simp at hlt)
      obtain ⟨x, hx⟩ : ∃ x, S[i]? = some x := ⟨_, List.getElem?_eq_getElem hlt⟩
      have hc : ∀ j u, (encPg x)[j]? = some u → wr.cell? ⟨g', off + i * 4 + j, none⟩ = some u := fun j u hj => by rw [hfr.cell (p := ⟨g', _, none⟩) hg2 (by simp), Nat.add_assoc]; exact hcells i x j u hx hj
      have k0 := hc 0 _ rfl
      have k1 := hc 1 _ rfl
      have k2 := hc 2 _ rfl
      have k3 := hc 3 _ rfl
      rw [Nat.add_zero] at k0
      have htk : S.take (i + 1) = S.take i ++ [x] := by rw [List.take_add_one, hx]; rfl
      have htk' := Lib.hid htk
      have hl : (S.take i).length < 1000000 := by simp; omega
      clear hcells hx hc htk
      obtain ⟨R, hR⟩ : ∃ R, R = S.take i := ⟨_, rfl⟩
      rw [← hR] at hown hl htk'
      clear hR
      have hb := hfr.size
      have hob := hown.lt
      obtain ⟨x1, x2, x3, x4⟩ := x
      dsimp only at k0 k1 k2 k3
      go_wp2_with (first | (at_builtin; refine wpList_push wr _ _ rfl _ _ 37 rfl w.heap.size 56 Try.underlying37 infoRP rfl (by omega) u3 R rfl hown (x1, x2, x3, x4) rfl encPg_len (enc1 _) rfl (by omega) (by omega) hb ?_; intro v' w3 hown3 hf3))
      go_roundg (S.length - (i + 1))
      case rel => exact ⟨i + 1, by omega, rfl, by go_num, by rw [htk'.out]; exact hown3, hfr.andThen hf3 (fun t ht' => by have := hob t (by simpa using ht'); omega)⟩
      case measure => rw [hgk'.out]; omega
    · have hiT : i = S.length := by omega
      subst hiT
      rw [List.take_length] at hown
      have hs := SliceIs.of_owns hown rfl
      go_wp2
      go_ret
      exact ⟨_, rfl, hfr, hs⟩
set_option maxRecDepth 100000 in
set_option maxHeartbeats 2000000 in
theorem same_any {B B' : Nat → Prop} (v v' : Value) (S S' : List Pg) (w : World) (h : SliceIs w B encPg v S) (h' : SliceIs w B' encPg v' S') (hT : S.length < 1000000) :
    Calls Try.prog 13 #[v, v'] w fun e w' => e = .returned (.bool (decide (S = S'))) ∧ Fr [] w w' := by
  obtain ⟨a, cap, rfl, hc1, hc2, hat⟩ := h.at encPg_len
  obtain ⟨a', cap', rfl, hc1', hc2', hat'⟩ := h'.at encPg_len
  have kat := Lib.hid hat; have kat' := Lib.hid hat'; clear hat hat' h h' hc1 hc2 hc1' hc2'
  by_cases hlen : S.length = S'.length
  · rw [hlen]
    have hT' : S'.length < 1000000 := by omega
    go_enter Try.func13, Try.ntmps13
    go_wp2
    go_loopg [5] S'.length (fun gk iv wr => ∃ i : Nat, i ≤ S'.length ∧ gk = S'.length - i ∧ iv = .int .i64 i ∧ S.take i = S'.take i ∧ ∃ q, wr = w.drewN q)
    case atStart => exact ⟨0, Nat.zero_le _, rfl, rfl, rfl, 0, rfl⟩
    case round =>
      obtain ⟨i, hi, hgk, rfl, htk, q, rfl⟩ := hrel
      have hgk' := Lib.hid hgk; clear hgk
      have htk' := Lib.hid htk; clear htk
      by_cases hlt : i < S'.length
      · obtain ⟨g, off, rfl, hg1, hg2, hcells⟩ := kat.out (by intro h; rw [h] at hlen; simp at hlen; omega)
        obtain ⟨g', off', rfl, hg1', hg2', hcells'⟩ := kat'.out (by intro h; rw [h] at hlt; simp at hlt)
        obtain ⟨x, hx⟩ : ∃ x, S[i]? = some x := ⟨_, List.getElem?_eq_getElem (by omega)⟩
        obtain ⟨y, hy⟩ : ∃ y, S'[i]? = some y := ⟨_, List.getElem?_eq_getElem hlt⟩
        have k0 : w.cell? ⟨g, off + i * 4, none⟩ = some (.int .i64 x.1) := hcells i x 0 _ hx rfl
        have k1 : w.cell? ⟨g, off + i * 4 + 1, none⟩ = some (.int .i64 x.2.1) := hcells i x 1 _ hx rfl
        have k2 : w.cell? ⟨g, off + i * 4 + 2, none⟩ = some (.string x.2.2.1) := hcells i x 2 _ hx rfl
        have k3 : w.cell? ⟨g, off + i * 4 + 3, none⟩ = some (.int .i64 x.2.2.2) := hcells i x 3 _ hx rfl
        have l0 : w.cell? ⟨g', off' + i * 4, none⟩ = some (.int .i64 y.1) := hcells' i y 0 _ hy rfl
        have l1 : w.cell? ⟨g', off' + i * 4 + 1, none⟩ = some (.int .i64 y.2.1) := hcells' i y 1 _ hy rfl
        have l2 : w.cell? ⟨g', off' + i * 4 + 2, none⟩ = some (.string y.2.2.1) := hcells' i y 2 _ hy rfl
        have l3 : w.cell? ⟨g', off' + i * 4 + 3, none⟩ = some (.int .i64 y.2.2.2) := hcells' i y 3 _ hy rfl
        have hlt' : (i : Int) < S'.length := by omega
        have hlen' := Lib.hid hlen
        clear hcells hcells' hlen
        rw [hlen'.out] at *
        by_cases hxy : x = y
        · subst hxy
          have hx' := Lib.hid hx; have hy' := Lib.hid hy; clear hx hy
          go_wp2
          go_quiet (fail)
          go_wp2
          go_roundg (S'.length - (i + 1))
          case rel => exact ⟨i + 1, by omega, rfl, by go_num, by rw [List.take_add_one, hx'.out, List.take_add_one, hy'.out, htk'.out], q + nq, rfl⟩
          case measure => rw [hgk'.out]; omega
        · have hSS : S ≠ S' := by intro h; rw [h, hy] at hx; exact hxy (Option.some.inj hx).symm
          have hd := Lib.hid (decide_eq_false hSS)
          clear hSS hx hy
          obtain ⟨x1, x2, x3, x4⟩ := x
          obtain ⟨y1, y2, y3, y4⟩ := y
          dsimp only at k0 k1 k2 k3 l0 l1 l2 l3
          have key : x1 ≠ y1 ∨ x1 = y1 ∧ (x2 ≠ y2 ∨ x2 = y2 ∧ (x3 ≠ y3 ∨ x3 = y3 ∧ x4 ≠ y4)) := by
            by_cases e1 : x1 = y1
            · by_cases e2 : x2 = y2
              · by_cases e3 : x3 = y3
                · exact .inr ⟨e1, .inr ⟨e2, .inr ⟨e3, fun e4 => hxy (by rw [e1, e2, e3, e4])⟩⟩⟩
                · exact .inr ⟨e1, .inr ⟨e2, .inl e3⟩⟩
              · exact .inr ⟨e1, .inl e2⟩
            · exact .inl e1
          clear hxy
          rcases key with e1 | ⟨rfl, e2 | ⟨rfl, e3 | ⟨rfl, e4⟩⟩⟩
          · have e1' : (x1 == y1) = false := by simpa using e1
            clear e1
            go_wp2
            go_quiet (fail)
            go_wp2
            go_ret
            exact ⟨by rw [hd.out]; rfl, ((Fr.refl _ _).drewN q).drewN nq⟩
          · have e1' : (x2 == y2) = false := by simpa using e2
            clear e2
            go_wp2
            go_quiet (fail)
            go_wp2
            go_ret
            exact ⟨by rw [hd.out]; rfl, ((Fr.refl _ _).drewN q).drewN nq⟩
          · have e3' : (x3.toList == y3.toList) = false := (bytes_beq_false_iff x3 y3).2 e3
            clear e3
            go_wp2
            go_quiet (fail)
            go_wp2
            go_ret
            exact ⟨by rw [hd.out]; rfl, ((Fr.refl _ _).drewN q).drewN nq⟩
          · have e1' : (x4 == y4) = false := by simpa using e4
            clear e4
            go_wp2
            go_quiet (fail)
            go_wp2
            go_ret
            exact ⟨by rw [hd.out]; rfl, ((Fr.refl _ _).drewN q).drewN nq⟩
      · have hiT : i = S'.length := by omega
        subst hiT
        have hSS : S = S' := by
          have := htk'.out
          rw [List.take_length, ← hlen, List.take_length] at this
          exact this
        have hd := Lib.hid (decide_eq_true hSS)
        clear hlen
        go_wp2
        go_ret
        exact ⟨by rw [hd.out]; rfl, (Fr.refl _ _).drewN q⟩
  · have hSS : S ≠ S' := fun h => hlen (by rw [h])
    have hd := Lib.hid (decide_eq_false hSS)
    have hl2 : ((S.length : Int) != S'.length) = true := by simp only [bne_iff_ne, ne_eq]; omega
    clear hSS
    go_enter Try.func13, Try.ntmps13
    go_wp2
    go_ret
    exact ⟨by rw [hd.out]; rfl, Fr.refl _ _⟩
end Go.Proofs.Ytafeemlojlngfaa
