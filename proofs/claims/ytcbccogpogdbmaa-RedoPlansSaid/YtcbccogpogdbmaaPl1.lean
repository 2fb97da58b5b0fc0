/- The document's Plan, walked. -/
import Derived.Test.YtcbccogpogdbmaaPp
import Derived.Test.YtcbccogpogdbmaaLg7
namespace Go.Proofs.Ytcbccogpogdbmaa
open Go.RowKit Go.Maps Go.Lib Go.Sort
attribute [local go_sem ↓] Go.wp_at_zero Go.wp_at_succ
theorem ver_drop {Hs : List Blk} {k : Nat} {y : Blk} (h : Hs[k]? = some y) (b : Int) : verP (Hs.drop k) b = if y.1 = b then y.2.1 else verP (Hs.drop (k + 1)) b := by
  have hk := (List.getElem?_eq_some_iff.1 h).1
  have e := (List.getElem?_eq_some_iff.1 h).2
  rw [List.drop_eq_getElem_cons hk, ver_cons, e]
theorem upd_take {V : Int → Int} {O : List Rec} {j : Nat} {z : Rec} (h : O[j]? = some z) (b : Int) : updV V (O.take (j + 1)) b = if b = z.2.1 then z.2.2.1 else updV V (O.take j) b := by
  rw [List.take_add_one, h]
  show updV V (O.take j ++ [z]) b = _
  rw [upd_snoc]
  rfl
theorem SliceIs.cells2 {α : Type} {enc : α → List Value} {k n cap : Nat} {a : Option Addr} {w : World} {B : Nat → Prop} {S : List α} (h : SliceIs w B enc (.slice a n cap) S) (hk : ∀ x, (enc x).length = k) (hne : S ≠ []) : ∃ g off, a = some ⟨g, off, none⟩ ∧ g < w.heap.size ∧
    ∀ i x j u, S[i]? = some x → (enc x)[j]? = some u → w.cell? ⟨g, off + (i * k + j), none⟩ = some u := by
  obtain ⟨a', c', e, -, -, hat⟩ := h.at hk
  injection e with e1 e2 e3
  subst e1
  obtain ⟨g, off, h1, -, h2, h3⟩ := hat hne
  exact ⟨g, off, h1, h2, h3⟩
set_option maxRecDepth 100000 in
set_option maxHeartbeats 8000000 in
theorem rplan_any {B C : Nat → Prop} (v u : Value) (L : List Rec) (Hs : List Blk) (w : World) (h : SliceIs w B encR v L) (h2 : SliceIs w C encB u Hs) (hl : L.length ≤ 1000) (hh : Hs.length ≤ 1000) :
    Calls Try.prog 30 #[v, u] w fun e w' => ∃ a c, e = .returned (.slice a (planF (verP Hs) L).length c) ∧ Fr [] w w' ∧ w'.ownsRow w.heap.size 29 4 (.slice a (planF (verP Hs) L).length c) (planF (verP Hs) L).length ((planF (verP Hs) L).flatMap encR) := by
  obtain ⟨V, hV⟩ : ∃ V, V = verP Hs := ⟨_, rfl⟩
  rw [← hV]
  have hV' := Lib.hid hV
  clear hV
  obtain ⟨a, cap, rfl, hc1, hc2, hat⟩ := h.at encR_len
  obtain ⟨b, cap2, rfl, hd1, hd2, hbt⟩ := h2.at encB_len
  have hat' := Lib.hid hat; have hbt' := Lib.hid hbt
  obtain ⟨W, hW⟩ : ∃ W, W = w.alloc (.cells #[] 29) := ⟨_, rfl⟩
  have hFW : Fr [] w W := by rw [hW]; exact (Fr.refl _ _).alloc _
  have hown0 : W.ownsRow w.heap.size 29 4 (.slice (some ⟨w.heap.size, 0, none⟩) ([] : List Rec).length 0) ([] : List Rec).length (([] : List Rec).flatMap encR) := by
    rw [hW]; exact World.ownsRow_made w #[] 0 (Nat.le_refl _) (Nat.zero_le _) rfl
  have hW' := Lib.hid hW; have hFW' := Lib.hid hFW; have hown0' := Lib.hid hown0
  clear h h2 hat hbt hW hFW hown0
  go_enter Try.func30, Try.ntmps30
  go_wp2
  rw [← hW'.out]
  go_loopg [5, 6] L.length (fun gk pv iv wr => ∃ (i : Nat) (pa : Option Addr) (pc : Nat), i ≤ L.length ∧ gk = L.length - i ∧ iv = .int .i64 i ∧ pv = .slice pa (planF V (L.take i)).length pc ∧ wr.ownsRow w.heap.size 29 4 (.slice pa (planF V (L.take i)).length pc) (planF V (L.take i)).length ((planF V (L.take i)).flatMap encR) ∧ Fr [] w wr)
  case atStart => exact ⟨0, _, _, Nat.zero_le _, rfl, rfl, rfl, hown0'.out, hFW'.out⟩
  case round =>
    obtain ⟨i, pa, pc, hi, hgk, rfl, rfl, hown, hfr⟩ := hrel
    obtain ⟨U, hU⟩ : ∃ U, U = wr := ⟨_, rfl⟩
    rw [← hU] at hfr hown ⊢
    clear hU
    obtain ⟨O, hO⟩ : ∃ O, O = planF V (L.take i) := ⟨_, rfl⟩
    have hOl : O.length ≤ i := by rw [hO]; exact Nat.le_trans (plan_len _ _) (by rw [List.length_take]; omega)
    rw [← hO] at hown ⊢
    have hO' := Lib.hid hO
    have hgk' := Lib.hid hgk; have hown' := Lib.hid hown; have hfr' := Lib.hid hfr
    have hwU := hfr.size
    clear hgk hown hfr hO
    by_cases hlt : i < L.length
    · obtain ⟨g, off, rfl, _, hg, hcells⟩ := hat'.out (by intro h; rw [h] at hlt; simp at hlt)
      obtain ⟨x, hx⟩ : ∃ x, L[i]? = some x := ⟨_, List.getElem?_eq_getElem hlt⟩
      obtain ⟨x0, x1, x2, x3⟩ := x
      have k0 := hfr'.out.at0 (hcells i _ 0 _ hx rfl)
      have k1 := hfr'.out.at0 (hcells i _ 1 _ hx rfl)
      have k2 := hfr'.out.at0 (hcells i _ 2 _ hx rfl)
      have k3 := hfr'.out.at0 (hcells i _ 3 _ hx rfl)
      rw [Nat.add_zero] at k0
      simp only [← Nat.add_assoc] at k1 k2 k3
      dsimp only at k0 k1 k2 k3
      have hsn := plan_snoc (L.take i) V (x0, x1, x2, x3)
      have htk : L.take (i + 1) = L.take i ++ [(x0, x1, x2, x3)] := by rw [List.take_add_one, hx]; rfl
      rw [← htk, ← hO'.out] at hsn
      dsimp only at hsn
      have hsn' := Lib.hid hsn; have k0' := Lib.hid k0; have k1' := Lib.hid k1; have k2' := Lib.hid k2; have k3' := Lib.hid k3
      have lk := lt_of_cell k0
      clear hcells hx hsn htk k0 k1 k2 k3
      go_wp2
      go_loopg [7, 8] Hs.length (fun gk vv kv wx => ∃ k : Nat, k ≤ Hs.length ∧ gk = k ∧ kv = .int .i64 ((k : Int) - 1) ∧ vv = .int .i64 (verP (Hs.drop k) x1) ∧ Fr [] U wx)
      case atStart => exact ⟨Hs.length, Nat.le_refl _, rfl, rfl, by rw [List.drop_length]; rfl, Fr.refl _ _⟩
      case round =>
        obtain ⟨k, hk, hgk2, rfl, rfl, hfk⟩ := hrel
        have hgk2' := Lib.hid hgk2; have hfk' := Lib.hid hfk
        have hzk := hfk.size
        clear hgk2 hfk
        cases k with
        | succ k =>
          rw [show (((k + 1 : Nat) : Int) - 1) = (k : Int) from by omega]
          obtain ⟨y, hy⟩ : ∃ y, Hs[k]? = some y := ⟨_, List.getElem?_eq_getElem (by omega)⟩
          obtain ⟨g2, off2, rfl, _, hg2, hcells2⟩ := hbt'.out (by intro h; rw [h] at hk; simp at hk)
          obtain ⟨y0, y1, y2⟩ := y
          have m0 := hfk'.out.at0 (hfr'.out.at0 (hcells2 k _ 0 _ hy rfl))
          have m1 := hfk'.out.at0 (hfr'.out.at0 (hcells2 k _ 1 _ hy rfl))
          rw [Nat.add_zero] at m0
          simp only [← Nat.add_assoc] at m1
          dsimp only at m0 m1
          have k1 := hfk'.out.at0 k1'.out
          have hvd := ver_drop hy x1
          dsimp only at hvd
          have lm := lt_of_cell m0
          obtain ⟨vr, hvr⟩ : ∃ vr, vr = verP (Hs.drop (k + 1)) x1 := ⟨_, rfl⟩
          rw [← hvr] at hvd ⊢
          have hvd' := Lib.hid hvd
          clear hcells2 hy hvd hvr
          by_cases hyx : y0 = x1
          · subst hyx
            go_upto_region 9 with (fail)
            go_region
            go_wp2
            go_roundg k
            case rel => exact ⟨k, by omega, rfl, rfl, by rw [hvd'.out]; simp, by first | exact hfk'.out | exact hfk'.out.drew⟩
            case measure => rw [hgk2'.out]; omega
          · have b0 : (y0 == x1) = false := by simpa using hyx
            go_upto_region 9 with (fail)
            go_region
            go_wp2
            go_roundg k
            case rel => exact ⟨k, by omega, rfl, rfl, by rw [hvd'.out, if_neg hyx], by first | exact hfk'.out | exact hfk'.out.drew⟩
            case measure => rw [hgk2'.out]; omega
        | zero =>
          rw [show (((0 : Nat) : Int) - 1) = -1 from rfl, List.drop_zero, ← hV'.out]
          clear hgk2'
          have e0 : V x1 = updV V (O.take 0) x1 := rfl
          rw [e0]
          clear e0
          go_wp2
          go_loopg [7, 9] O.length (fun gk vv jv wx => ∃ j : Nat, j ≤ O.length ∧ gk = O.length - j ∧ jv = .int .i64 j ∧ vv = .int .i64 (updV V (O.take j) x1) ∧ Fr [] U wx)
          case atStart => exact ⟨0, Nat.zero_le _, rfl, rfl, rfl, hfk'.out⟩
          case round =>
            obtain ⟨j, hj, hgk3, rfl, rfl, hfj⟩ := hrel
            have hgk3' := Lib.hid hgk3; have hfj' := Lib.hid hfj
            have hzj := hfj.size
            clear hgk3 hfj
            obtain ⟨vr, hvr⟩ : ∃ vr, vr = updV V (O.take j) x1 := ⟨_, rfl⟩
            rw [← hvr]
            have hvr' := Lib.hid hvr
            clear hvr
            have k1 := hfj'.out.at0 k1'.out
            by_cases hltj : j < O.length
            · obtain ⟨z, hz⟩ : ∃ z, O[j]? = some z := ⟨_, List.getElem?_eq_getElem hltj⟩
              obtain ⟨gz, oz, rfl, hgz, zat⟩ := (SliceIs.of_owns hown'.out rfl).cells2 encR_len (by intro h; rw [h] at hltj; simp at hltj)
              have hup := upd_take (V := V) hz x1
              have hinc := plan_inc (L.take i) V j z (by rw [← hO'.out]; exact hz)
              rw [← hO'.out] at hinc
              obtain ⟨z0, z1, z2, z3⟩ := z
              dsimp only at hup hinc
              have m1 := hfj'.out.at0 (zat j _ 1 _ hz rfl)
              have m2 := hfj'.out.at0 (zat j _ 2 _ hz rfl)
              simp only [← Nat.add_assoc] at m1 m2
              have lm := lt_of_cell m1
              have hup' := Lib.hid hup
              by_cases hzx : z1 = x1
              · subst hzx
                rw [← hvr'.out] at hinc
                clear zat hz hup
                go_upto_region 14 with (fail)
                go_region
                go_wp2
                go_roundg (O.length - (j + 1))
                case rel => exact ⟨j + 1, by omega, rfl, by go_num, by rw [hup'.out]; simp; omega, by first | exact hfj'.out | exact hfj'.out.drew⟩
                case measure => rw [hgk3'.out]; omega
              · have b0 : (z1 == x1) = false := by simpa using hzx
                clear zat hz hup hinc
                go_upto_region 14 with (fail)
                go_region
                go_wp2
                go_roundg (O.length - (j + 1))
                case rel => exact ⟨j + 1, by omega, rfl, by go_num, by rw [hup'.out, if_neg (fun h => hzx h.symm), hvr'.out], by first | exact hfj'.out | exact hfj'.out.drew⟩
                case measure => rw [hgk3'.out]; omega
            · have hje : j = O.length := by omega
              subst hje
              have hvO : vr = updV V O x1 := by rw [hvr'.out, List.take_length]
              have hvO' := Lib.hid hvO
              clear hgk3' hvr' hvO
              have hf2 := Lib.hid (hfr'.out.trans hfj'.out)
              have hown2 := Lib.hid (owns_fr2 hown'.out hfj'.out (by simp))
              have k0 := hfj'.out.at0 k0'.out
              have k2 := hfj'.out.at0 k2'.out
              have k3 := hfj'.out.at0 k3'.out
              by_cases hgt : vr < x2
              · go_wp2_with (first | (at_builtin; refine wpList_push _ _ _ rfl _ _ 53 rfl w.heap.size 29 Try.underlying53 infoQ rfl (by omega) (.slice pa O.length pc) O rfl hown2.out (x0, x1, x2, x3) rfl encR_len (one_encR _) rfl (by omega) (by omega) (by omega) ?_; intro v' w3 hown3 hf3; obtain ⟨na, nc, rfl, -, -⟩ := (SliceIs.of_owns hown3 rfl).at encR_len; have hown3' := Lib.hid hown3; have hf3' := Lib.hid hf3; clear hown3 hf3))
                go_roundg (L.length - (i + 1))
                case rel =>
                  have hb := hown2.out.lt
                  have e9 : planF V (L.take (i + 1)) = O ++ [(x0, x1, x2, x3)] := by rw [hsn'.out, ← hvO'.out, if_pos hgt]
                  have e10 : (O ++ [(x0, x1, x2, x3)]).length = O.length + 1 := by simp
                  have h9 := hown3'.out
                  rw [e10] at h9
                  exact ⟨i + 1, na, nc, by omega, rfl, by go_num, by rw [e9, e10], by rw [e9, e10]; exact h9, hf2.out.andThen hf3'.out (fun t ht => .inr (hb t (by simpa using ht)).1)⟩
                case measure => rw [hgk'.out]; omega
              · go_wp2
                go_roundg (L.length - (i + 1))
                case rel =>
                  have e9 : planF V (L.take (i + 1)) = O := by rw [hsn'.out, ← hvO'.out, if_neg (by omega), List.append_nil]
                  exact ⟨i + 1, pa, pc, by omega, rfl, by go_num, by rw [e9], by rw [e9]; exact hown2.out, hf2.out⟩
                case measure => rw [hgk'.out]; omega
    · have hik : i = L.length := by omega
      have hOL : O = planF V L := by rw [hO'.out, hik, List.take_length]
      subst hOL
      clear hgk'
      go_wp2
      go_ret
      exact ⟨_, _, rfl, hfr'.out, hown'.out⟩
end Go.Proofs.Ytcbccogpogdbmaa
