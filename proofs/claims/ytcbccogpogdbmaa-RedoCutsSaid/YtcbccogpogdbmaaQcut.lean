/- RedoCuts, walked. -/
import Derived.Test.YtcbccogpogdbmaaLg9
import Derived.Test.YtcbccogpogdbmaaRowR
import Derived.Test.YtcbccogpogdbmaaRelC
import Derived.Test.YtcbccogpogdbmaaQagain
import Derived.StillTailTactics
import Derived.Deep.QuietTactic
import Derived.BigQuiet
namespace Go.Proofs.Ytcbccogpogdbmaa
open Go.RowKit Go.Maps Go.Lib Go.Sort
attribute [local go_sem ↓] Go.wp_at_zero Go.wp_at_succ
def cntP (q n i k : Nat) : Nat := min (i - q) n + if q ≤ i ∧ i - q < k then 1 else 0
theorem cnt_hit {q n k : Nat} : cntP q n (q + k) (k + 1) = cntP q n (q + k) k + 1 := by
  unfold cntP
  rw [if_pos (by omega), if_neg (by omega)]
theorem cnt_miss {q n i k : Nat} (h : i ≠ q + k) : cntP q n i (k + 1) = cntP q n i k := by
  unfold cntP
  by_cases h1 : q ≤ i ∧ i - q < k
  · rw [if_pos h1, if_pos (by omega)]
  · rw [if_neg h1, if_neg (by omega)]
theorem cnt_start {q n i : Nat} : cntP q n i 0 = min (i - q) n := by
  unfold cntP
  rw [if_neg (by omega)]
  rfl
theorem cnt_end {q n i : Nat} : cntP q n i n = min (i + 1 - q) n := by
  unfold cntP
  by_cases h1 : q ≤ i ∧ i - q < n
  · rw [if_pos h1]
    omega
  · rw [if_neg h1]
    omega
theorem cnt_le {q n i k : Nat} : cntP q n i k ≤ n + 1 := by
  unfold cntP
  split <;> omega
/-- The blocks of the rows that a law holds: those between two marks, and one row's own. -/
def HeldP (k0 k1 : Nat) (v : Value) : Nat → Prop := fun g => (k0 ≤ g ∧ g < k1) ∨ v.ownBlock = some g
theorem SliceIs.cells {α : Type} {enc : α → List Value} {k n cap : Nat} {a : Option Addr} {w : World} {B : Nat → Prop} {S : List α} (h : SliceIs w B enc (.slice a n cap) S) (hk : ∀ x, (enc x).length = k) (hne : S ≠ []) : ∃ g off, a = some ⟨g, off, none⟩ ∧ g < w.heap.size ∧
    ∀ i x j u, S[i]? = some x → (enc x)[j]? = some u → w.cell? ⟨g, off + (i * k + j), none⟩ = some u := by
  obtain ⟨a', c', e, -, -, hat⟩ := h.at hk
  injection e with e1 e2 e3
  subst e1
  obtain ⟨g, off, h1, -, h2, h3⟩ := hat hne
  exact ⟨g, off, h1, h2, h3⟩
set_option maxRecDepth 100000 in
set_option maxHeartbeats 16000000 in
set_option linter.constructorNameAsVariable false in
theorem cuts_walk {B C : Nat → Prop} (v : Value) (L : List Rec) (u : Value) (M : List Rec) (n8 : Int) (w : World) (h : SliceIs w B encR v L) (h2 : SliceIs w C encR u M) (h0 : 0 ≤ n8) (h1 : n8 ≤ 255) :
    Calls Try.prog 5 #[v, u, .int .u8 n8] w fun e w' => e = .returned (.bool true) ∧ Fr [] w w' := by
  have hhv := heavy_any v L w h
  have hhu := heavy_any u M w h2
  obtain ⟨a, cap, rfl, hc1, hc2, hat⟩ := h.at encR_len
  obtain ⟨b, cap2, rfl, hd1, hd2, hbt⟩ := h2.at encR_len
  have hat' := Lib.hid hat; have hbt' := Lib.hid hbt
  clear h h2 hat hbt
  have hF' : Hid (Fr [] w w) := Lib.hid (Fr.refl _ _)
  cases hh : heavyP L with
  | true =>
    rw [hh] at hhv
    have hhv' := Lib.hid hhv
    clear hhv hh hhu
    go_enter Try.func5, Try.ntmps5
    go_wp2_with (first
      | (go_at_call 14; refine hhv'.out.mono ?_; rintro e wX ⟨rfl, he⟩; obtain rfl := he.symm)
      | (go_at_call 11; refine (shown_any _).mono ?_; rintro e wX ⟨rfl, hf⟩; replace hF' := Lib.hid (hF'.out.trans hf); clear hf))
    go_ret
    exact ⟨rfl, hF'.out⟩
  | false =>
    have hL80 := heavy_len hh
    rw [hh] at hhv
    have hhv' := Lib.hid hhv
    clear hhv hh
    cases hh : heavyP M with
    | true =>
      rw [hh] at hhu
      have hhu' := Lib.hid hhu
      clear hhu hh
      go_enter Try.func5, Try.ntmps5
      go_wp2_with (first
        | (go_at_call 14; (first | with_reducible refine Calls.mono hhv'.out ?_ | with_reducible refine Calls.mono hhu'.out ?_); rintro e wX ⟨rfl, he⟩; obtain rfl := he.symm)
        | (go_at_call 11; refine (shown_any _).mono ?_; rintro e wX ⟨rfl, hf⟩; replace hF' := Lib.hid (hF'.out.trans hf); clear hf))
      go_ret
      exact ⟨rfl, hF'.out⟩
    | false =>
      have hM80 := heavy_len hh
      rw [hh] at hhu
      have hhu' := Lib.hid hhu
      clear hhu hh
      go_enter Try.func5, Try.ntmps5
      go_upto_region 4 with (first
        | (go_at_call 14; (first | with_reducible refine Calls.mono hhv'.out ?_ | with_reducible refine Calls.mono hhu'.out ?_); rintro e wX ⟨rfl, he⟩; obtain rfl := he.symm)
        | (go_at_call 11; refine (shown_any _).mono ?_; rintro e wX ⟨rfl, hf⟩; replace hF' := Lib.hid (hF'.out.trans hf); clear hf)
        | (go_at_call 15; refine (newArea_any _).mono ?_; rintro e w1 ⟨rfl, hf1, ha1⟩; have hz0 := hF'.out.size; have hz1 := ha1.lt; have hzf := hf1.size; have ha1' := Lib.hid ha1; replace hF' := Lib.hid (hF'.out.trans hf1); clear hf1 ha1))
      obtain ⟨ax, hax⟩ : ∃ ax, ax = wX.heap.size + 1 := ⟨_, rfl⟩
      obtain ⟨gx, hgx⟩ : ∃ gx, gx = wX.heap.size := ⟨_, rfl⟩
      rw [← hax, ← hgx] at ha1' hz1
      rw [← hax]
      have hxx : w.heap.size ≤ ax ∧ w.heap.size ≤ gx := by omega
      obtain ⟨hxa, hxg⟩ := hxx
      obtain ⟨hza, hzg⟩ := hz1
      clear hax hgx hz0 hzf
      have hw1 := hF'.out.size
      clear hhv' hhu'
      go_upto_region 7 with (first
        | (go_at_call 16; refine (open_fresh (base := 30) (slots := 6) ha1'.out (by omega) (by omega) (by omega) (by omega)).mono ?_; rintro e w3 ⟨lx, rfl, hf3, hlx, hl3⟩; replace hF' := Lib.hid (hF'.out.trans hf3); have hz3 := hf3.size; have hl3' := Lib.hid hl3; clear hf3 hl3))
      obtain ⟨E, hE⟩ : ∃ E, E = List.replicate 256 (⟨#[]⟩ : ByteArray) := ⟨_, rfl⟩
      rw [← hE] at hl3'
      have hEe := area_empty 30 6
      rw [← hE] at hEe
      have hEe' := Lib.hid hEe
      clear hE hEe ha1'
      have hT : One w w3 (fun _ => False) lx ax gx 30 6 E (-1) 0 [] [] _ := ⟨hl3'.out, fun g h1 => by omega, ⟨hxa, hxg⟩, fun g h1 => h1.elim, hF'.out⟩
      have hT' := Lib.hid hT
      clear hT hl3' hza hzg hz3 hlx hw1 hxa hxg
      go_wp2
      go_loopg [10] L.length (fun gk iv wr => ∃ (i : Nat) (A : List ByteArray) (m : Int) (K F : List Rec) (G : Nat → Prop), i ≤ L.length ∧ gk = L.length - i ∧ iv = .int .i64 i ∧ One w wr (fun _ => False) lx ax gx 30 6 A (-1) m K F G ∧ AreaOk 30 6 A m K)
      case atStart => exact ⟨0, E, 0, [], [], _, Nat.zero_le _, rfl, rfl, hT'.out, hEe'.out⟩
      case round =>
        clear hT' hEe'
        obtain ⟨i, A, m, K, F, G, hi, hgk, rfl, hT, hA⟩ := hrel
        have hT' := Lib.hid hT; have hA' := Lib.hid hA; have hgk' := Lib.hid hgk
        clear hT hgk hA hF'
        by_cases hlt : i < L.length
        · obtain ⟨g, off, rfl, _, hg2, hcells⟩ := hat'.out (by intro h; rw [h] at hlt; simp at hlt)
          obtain ⟨x, hx⟩ : ∃ x, L[i]? = some x := ⟨_, List.getElem?_eq_getElem hlt⟩
          obtain ⟨x0, x1, x2, x3⟩ := x
          have k0 := hT'.out.fr.at0 (hcells i _ 0 _ hx rfl)
          have k1 := hT'.out.fr.at0 (hcells i _ 1 _ hx rfl)
          have k2 := hT'.out.fr.at0 (hcells i _ 2 _ hx rfl)
          have k3 := hT'.out.fr.at0 (hcells i _ 3 _ hx rfl)
          rw [Nat.add_zero] at k0
          simp only [← Nat.add_assoc] at k1 k2 k3
          dsimp only at k0 k1 k2 k3
          have lk := lt_of_cell k0
          clear hcells hx
          by_cases e0 : x0 = 0
          · subst e0
            obtain ⟨n, e, F1, hap⟩ := ex3 (appendP 6 m K F x1 x2 x3)
            have hap' := Lib.hid hap
            clear hap
            go_upto_region 12 with (fail)
            go_still_tail 16, (by kernel_rfl)
            go_wp2_with (go_at_call 17; refine ((hT'.out.fr0 (Fr.refl [] wr).drew).append x1 x2 x3 hap'.out).mono ?_; rintro e w5 ⟨rfl, hO, G1, hT5⟩; have hT5' := Lib.hid hT5; clear hT5 hO)
            go_roundg (L.length - (i + 1))
            case rel => exact ⟨i + 1, _, _, _, _, _, by omega, rfl, by go_num, hT5'.out, hA'.out⟩
            case measure => rw [hgk'.out]; omega
          · have b0 : (x0 == 0) = false := by simpa using e0
            by_cases e1 : x0 = 1
            · subst e1
              have hco := Lib.hid (commit_free 30 6 F A (-1) m K (by omega))
              have hA1 := Lib.hid (hA'.out.all (by omega) (by omega) F [] (by rw [List.append_nil]; exact hT'.out.x.ok))
              go_wp2_with (go_at_call 18; refine (hT'.out.commit hco.out (by omega)).mono ?_; rintro e w5 ⟨rfl, hO, G1, hT5⟩; have hT5' := Lib.hid hT5; clear hT5 hO)
              go_roundg (L.length - (i + 1))
              case rel => exact ⟨i + 1, _, _, _, _, _, by omega, rfl, by go_num, hT5'.out, hA1.out⟩
              case measure => rw [hgk'.out]; omega
            · have b1 : (x0 == 1) = false := by simpa using e1
              by_cases e2 : x0 = 2
              · subst e2
                obtain ⟨⟨e, K1⟩, hrc⟩ : ∃ p, p = reclaimP m K x2 := ⟨_, rfl⟩
                have hrc' := Lib.hid hrc.symm
                have hA1 := Lib.hid (hA'.out.sub (reclaim_sub hrc.symm))
                clear hrc
                go_wp2_with (go_at_call 23; refine (hT'.out.reclaim _ hrc'.out).mono ?_; rintro e w5 ⟨rfl, hO, G1, hT5⟩; have hT5' := Lib.hid hT5; clear hT5 hO)
                go_roundg (L.length - (i + 1))
                case rel => exact ⟨i + 1, _, _, _, _, _, by omega, rfl, by go_num, hT5'.out, hA1.out⟩
                case measure => rw [hgk'.out]; omega
              · have b2 : (x0 == 2) = false := by simpa using e2
                go_wp2
                go_roundg (L.length - (i + 1))
                case rel => exact ⟨i + 1, _, _, _, _, _, by omega, rfl, by go_num, hT'.out, hA'.out⟩
                case measure => rw [hgk'.out]; omega
        · clear hgk'
          have hcc := commit_free 30 6 F A (-1) m K (by omega)
          have hA1 := hA'.out.all (by omega) (by omega) F [] (by rw [List.append_nil]; exact hT'.out.x.ok)
          obtain ⟨A0, hA0⟩ : ∃ A0, A0 = allP 30 6 F A := ⟨_, rfl⟩
          obtain ⟨m0, hm0⟩ : ∃ m0, m0 = lastQ m F := ⟨_, rfl⟩
          obtain ⟨K0, hK0⟩ : ∃ K0, K0 = K ++ F := ⟨_, rfl⟩
          rw [← hA0, ← hm0, ← hK0] at hcc
          rw [← hm0, ← hK0, ← hA0] at hA1
          have hcc' := Lib.hid hcc; have hA0' := Lib.hid hA1
          clear hcc hA1 hA0 hm0 hK0 hA'
          go_upto_region 20 with (go_at_call 18; refine (hT'.out.commit hcc'.out (by omega)).mono ?_; rintro e w5 ⟨rfl, hO, G1, hT5⟩; have hT5' := Lib.hid hT5; clear hT5 hO)
          have hK20 : K0.length ≤ 20 := by have := hT5'.out.x.bounds; omega
          clear hT' hcc' hlt hi
          go_upto_region 21 with (go_at_call 22; refine (hT5'.out.x.live).mono ?_; rintro e w6 ⟨ka, kc, rfl, hkc, hf6, ho6⟩; have hf6' := Lib.hid hf6; have ho6' := Lib.hid ho6; clear hf6 ho6)
          obtain ⟨k0, hk0⟩ : ∃ k0, k0 = w5.heap.size := ⟨_, rfl⟩
          obtain ⟨k1, hk1⟩ : ∃ k1, k1 = w6.heap.size := ⟨_, rfl⟩
          obtain ⟨w7, hw7⟩ : ∃ w7, w7 = w6.alloc (.cells #[] 23) := ⟨_, rfl⟩
          have hf7 : Fr [] w6 w7 := by rw [hw7]; exact (Fr.refl _ _).alloc _
          have hz7 : w7.heap.size = w6.heap.size + 1 := by rw [hw7]; simp
          have hk6 : SliceIs w6 (fun g => k0 ≤ g ∧ g < k1) encR (.slice ka K0.length kc) K0 := (SliceIs.of_owns ho6'.out rfl).imp (fun g hg hh => ⟨by rw [hk0]; exact hh, by rw [hk1]; exact hg⟩)
          have hS7' := Lib.hid (hk6.fr hf7 (by simp))
          have hown7 : w7.ownsRow 0 23 4 (.slice (some ⟨w6.heap.size, 0, none⟩) ([] : List Rec).length 0) ([] : List Rec).length (([] : List Rec).flatMap encR) := by
            rw [hw7]; exact owns_base (World.ownsRow_made w6 #[] 0 (Nat.le_refl _) (Nat.zero_le _) rfl) (Nat.zero_le _)
          have hT6 : One w w6 (fun g => k0 ≤ g ∧ g < k1) lx ax gx 30 6 A0 (-1) m0 K0 [] G1 := hT5'.out.more hf6'.out (by simp) (fun g hg => .inr (by omega))
          have hT7 : One w w7 (HeldP k0 k1 (.slice (some ⟨w6.heap.size, 0, none⟩) ([] : List Rec).length 0)) lx ax gx 30 6 A0 (-1) m0 K0 [] G1 := hT6.more hf7 (by simp) (fun g hg => by
            rcases hg with hg | hg
            · exact .inl hg
            · have : w6.heap.size = g := by simpa [Value.ownBlock] using hg
              exact .inr (by omega))
          have hk7 : k1 ≤ w6.heap.size := by omega
          have hk77 : k1 ≤ w7.heap.size := by omega
          have hown7' := Lib.hid hown7; have hT7' := Lib.hid hT7; have hw7' := Lib.hid hw7
          clear hk0 hk1 hw7 hf7 hz7 hk6 hown7 hT6 hT7 hT5' hf6' ho6'
          go_wp2
          rw [← hw7'.out]
          go_loopg [12, 13] M.length (fun gk pv iv wr => ∃ (i : Nat) (F : List Rec) (G : Nat → Prop) (pa : Option Addr) (pc : Nat), i ≤ M.length ∧ gk = M.length - i ∧ iv = .int .i64 i ∧ pv = .slice pa F.length pc ∧ One w wr (HeldP k0 k1 (.slice pa F.length pc)) lx ax gx 30 6 A0 (-1) m0 K0 F G ∧ wr.ownsRow 0 23 4 (.slice pa F.length pc) F.length (F.flatMap encR) ∧ (∀ g, (Value.slice pa F.length pc).ownBlock = some g → k1 ≤ g) ∧ SliceIs wr (fun g => k0 ≤ g ∧ g < k1) encR (.slice ka K0.length kc) K0 ∧ k1 ≤ wr.heap.size)
          case atStart => exact ⟨0, [], _, _, _, Nat.zero_le _, rfl, rfl, rfl, hT7'.out, hown7'.out, fun g hg => by
            have : w6.heap.size = g := by simpa [Value.ownBlock] using hg
            omega, hS7'.out, hk77⟩
          case round =>
            clear hT7' hown7' hS7' hw7' hk7 hk77
            obtain ⟨i2, F, G, pa, pc, hi, hgk, rfl, rfl, hT, hfo, hfb, hkS, hk1r⟩ := hrel
            have hT' := Lib.hid hT; have hgk' := Lib.hid hgk; have hfo' := Lib.hid hfo; have hfb' := Lib.hid hfb; have hkS' := Lib.hid hkS
            have hF20 : F.length ≤ 20 := by have := hT.x.bounds; omega
            clear hT hgk hfo hfb hkS
            by_cases hlt : i2 < M.length
            · obtain ⟨g, off, rfl, _, hg2, hcells⟩ := hbt'.out (by intro h; rw [h] at hlt; simp at hlt)
              obtain ⟨x, hx⟩ : ∃ x, M[i2]? = some x := ⟨_, List.getElem?_eq_getElem hlt⟩
              obtain ⟨x0, x1, x2, x3⟩ := x
              have mm0 := (hcells i2 _ 0 _ hx rfl)
              have m1 := (hcells i2 _ 1 _ hx rfl)
              have m2 := (hcells i2 _ 2 _ hx rfl)
              have m3 := (hcells i2 _ 3 _ hx rfl)
              rw [Nat.add_zero] at mm0
              simp only [← Nat.add_assoc] at m1 m2 m3
              dsimp only at mm0 m1 m2 m3
              clear hcells hx
              have k1' := hT'.out.fr.at0 m1
              have k2' := hT'.out.fr.at0 m2
              have k3' := hT'.out.fr.at0 m3
              have m1' := Lib.hid m1; have m2' := Lib.hid m2; have m3' := Lib.hid m3
              clear m1 m2 m3 mm0
              obtain ⟨n9, e9, F9, hap⟩ := ex3 (appendP 6 m0 K0 F x1 x2 x3)
              have hok := hT'.out.x.ok.append x1 x2 x3
              rw [hap] at hok
              dsimp only at hok
              obtain ⟨-, hok0, hok1⟩ := hok
              have hap' := Lib.hid hap; have hok0' := Lib.hid hok0; have hok1' := Lib.hid hok1
              clear hap hok0 hok1
              go_upto_region 25 with (fail)
              refine wp_region_relC 16 (fun w w' => Fr [] w w') (fun w w' => w = w') (by kernel_rfl) (by kernel_rfl) (by kernel_rfl) (fun h k => h.trans k) (Fr.refl [] _).drew (fun h k => h.trans k) (fun _ => rfl) ?_
              simp only [List.take_succ_cons, List.take_zero, List.drop_succ_cons, List.drop_zero]
              iterate 16
                apply RelW.still
                · intro s' W hX
                  have j1 := hX.at0 k1'
                  have j2 := hX.at0 k2'
                  have j3 := hX.at0 k3'
                  have jl := hX.size
                  clear hX
                  go_wp2
                  refine ⟨rfl, rfl, Fr.refl _ _, ?_⟩
                  simp only [slotOf, List.getElem?_toArray, List.getElem?_cons_succ, List.getElem?_cons_zero, Option.getD_some]
                  first | rfl | done
                · intro s'
                  simp only [Act.put, List.setIfInBounds_toArray, List.set_cons_succ, List.set_cons_zero]
                  rfl
              intro s' W hX _
              go_wp2_with (go_at_call 17; refine ((hT'.out.fr0 hX).append x1 x2 x3 hap'.out).mono ?_; rintro e w8 ⟨rfl, hO, G8, hT8⟩; have hT8' := Lib.hid hT8; have hfo8' := Lib.hid (hO.owns (owns_fr2 hfo'.out hX (by simp)) (fun g hg => .inr hg)); have hkS8' := Lib.hid (hO.slice (hkS'.out.fr hX (by simp)) (fun g hg => .inl hg)); have hz8 := hO.size; have hz88 := hX.size; clear hT8 hX hO)
              try (refine ⟨rfl, rfl, ?_⟩)
              unfold RelRest
              iterate 5
                apply RelW.still
                · rintro s' W rfl
                  go_wp2
                  refine ⟨rfl, rfl, rfl, ?_⟩
                  simp only [slotOf, List.getElem?_toArray, List.getElem?_cons_succ, List.getElem?_cons_zero, Option.getD_some]
                  first | rfl | done
                · intro s'
                  simp only [Act.put, List.setIfInBounds_toArray, List.set_cons_succ, List.set_cons_zero]
                  rfl
              rintro s' W rfl _
              clear k1' k2' k3'
              by_cases he9 : e9 = 0
              · subst he9
                obtain ⟨hF9, hn9⟩ := hok0'.out rfl
                subst hF9
                clear hn9 hok0' hok1'
                have k1' := hT8'.out.fr.at0 m1'.out
                have k2' := hT8'.out.fr.at0 m2'.out
                have k3' := hT8'.out.fr.at0 m3'.out
                have lz8 := hT8'.out.fr.size
                go_upto_region 27 with (fail)
                refine wp_region_relC 19 (fun w w' => Fr [] w w') (fun w w' => w = w') (by kernel_rfl) (by kernel_rfl) (by kernel_rfl) (fun h k => h.trans k) (Fr.refl [] _).drew (fun h k => h.trans k) (fun _ => rfl) ?_
                simp only [List.take_succ_cons, List.take_zero, List.drop_succ_cons, List.drop_zero]
                iterate 18
                  apply RelW.still
                  · intro s' V hX
                    have j1 := hX.at0 k1'
                    have j2 := hX.at0 k2'
                    have j3 := hX.at0 k3'
                    have jl := hX.size
                    clear hX
                    go_wp2
                    refine ⟨rfl, rfl, Fr.refl _ _, ?_⟩
                    simp only [slotOf, List.getElem?_toArray, List.getElem?_cons_succ, List.getElem?_cons_zero, Option.getD_some]
                    first | rfl | done
                  · intro s'
                    simp only [Act.put, List.setIfInBounds_toArray, List.set_cons_succ, List.set_cons_zero]
                    rfl
                apply RelW.owes (fun v V => ∃ g, v = .slice (some ⟨g, 0, none⟩) 1 1 ∧ V.heap[g]? = some (.cells #[.int .i64 n9, .int .i64 x1, .int .i64 x2, .string x3] 23 (0, 0)))
                · rintro v u u' hf ⟨g, rfl, hg⟩
                  exact ⟨g, rfl, hf.keep hg (by simp)⟩
                · intro s' V hX hd
                  clear hd hX
                  go_wp2
                  refine ⟨rfl, rfl, (Fr.refl [] V).alloc _, ?_⟩
                  simp only [slotOf, List.getElem?_toArray, List.getElem?_cons_succ, List.getElem?_cons_zero, Option.getD_some]
                  exact ⟨_, rfl, heap_alloc_new V _⟩
                · intro s'
                  simp only [Act.put, List.setIfInBounds_toArray, List.set_cons_succ, List.set_cons_zero, Nat.zero_add, Nat.reduceAdd]
                  rfl
                intro s' V hX hall
                dsimp only
                simp only [List.nil_append, List.cons_append, allPhi, Nat.zero_add, Nat.reduceAdd] at hall
                obtain ⟨-, -, -, -, -, -, -, -, -, -, -, -, -, -, -, -, -, -, ⟨g8, hg1, hg2⟩, -⟩ := hall
                generalize s' 18 = v18 at hg1 ⊢
                subst hg1
                have hg2' := Lib.hid hg2; have hX' := Lib.hid hX
                have hVz := hX.size
                have hoV' := Lib.hid (owns_fr2 hfo8'.out hX (by simp))
                clear hg2 hX
                go_wp2_with (first | (at_builtin; refine wpList_push_keep V rfl _ _ 55 rfl 0 23 Try.underlying55 infoR rfl (by omega) (.slice pa F.length pc) F rfl hoV'.out (n9, x1, x2, x3) g8 rfl hg2'.out rfl encR_len (one_encR _) (by omega) (by omega) (by omega) ?_; intro g9 c9 w9 ho9 hf9 hk9 hp9 hat9; have hat9' := Lib.hid hat9; have ho9' := Lib.hid ho9; have hf9' := Lib.hid hf9; clear ho9 hf9 hk9 hp9 hat9))
                try (refine ⟨rfl, rfl, ?_⟩)
                unfold RelRest
                apply RelW.still
                · rintro s' W rfl
                  go_wp2
                  refine ⟨rfl, rfl, rfl, ?_⟩
                  simp only [slotOf, List.getElem?_toArray, List.getElem?_cons_succ, List.getElem?_cons_zero, Option.getD_some]
                  first | rfl | done
                · intro s'
                  simp only [Act.put, List.setIfInBounds_toArray, List.set_cons_succ, List.set_cons_zero]
                  rfl
                rintro s' W rfl _
                go_wp2
                have e1 : (F ++ [(n9, x1, x2, x3)]).length = F.length + 1 := by simp
                have hf89 : Fr (Value.slice pa F.length pc).ownBlock.toList w8 w9 := (hX'.out.mono (by simp)).trans hf9'.out
                have hg9 := (ho9'.out.lt g9 rfl).2
                have hT9 : One w w9 (HeldP k0 k1 (.slice (some ⟨g9, 0, none⟩) (F.length + 1) c9)) lx ax gx 30 6 A0 (-1) m0 K0 (F ++ [(n9, x1, x2, x3)]) G8 := hT8'.out.more hf89 (fun u hu => .inr (by simpa using hu)) (fun g hg => by
                  rcases hg with hg | hg
                  · exact .inl (.inl hg)
                  · have e2 : g9 = g := by simpa [Value.ownBlock] using hg
                    subst e2
                    rcases hat9'.out with h | h
                    · exact .inl (.inr h)
                    · exact .inr ⟨by omega, hg9⟩)
                go_roundg (M.length - (i2 + 1))
                case rel =>
                  refine ⟨i2 + 1, F ++ [(n9, x1, x2, x3)], G8, some ⟨g9, 0, none⟩, c9, by omega, rfl, by go_num, by rw [e1], ?_, ?_, fun g hg => ?_, ?_, ?_⟩
                  · rw [e1]; exact hT9
                  · have h9 := ho9'.out
                    rw [e1] at h9 ⊢
                    exact h9
                  · have e2 : g9 = g := by simpa [Value.ownBlock] using hg
                    subst e2
                    rcases hat9'.out with h | h
                    · exact hfb'.out _ h
                    · omega
                  · exact hkS8'.out.fr hf89 (fun g hg _ hm => by have := hfb'.out g (by simpa using hm); omega)
                  · have := hf89.size; omega
                case measure => rw [hgk'.out]; omega
              · have hF9 := hok1'.out he9
                subst hF9
                have b9 : (e9 == 0) = false := by simpa using he9
                clear hok0' hok1'
                go_wp2
                go_roundg (M.length - (i2 + 1))
                case rel => exact ⟨i2 + 1, _, _, _, _, by omega, rfl, by go_num, rfl, hT8'.out, hfo8'.out, hfb'.out, hkS8'.out, by omega⟩
                case measure => rw [hgk'.out]; omega
            · clear hgk'
              obtain ⟨e9, A1, t1, m1, K1, F1, hco⟩ := ex6 (commitP 30 6 F A0 (n8 % 20) m0 K0)
              have hkeep := commit_keep hT'.out.x.area.2.2 (by omega) (by omega) (fun r hr => hT'.out.x.ok.good r (by simp [hr])) hco
              have hleft : t1 < 1000000 := by have := hkeep.2.2.2.2.1; omega
              obtain ⟨o1, o2, q, hC⟩ := cut_opens hA0'.out hT'.out.x.ok (by omega) (by omega) (by omega) hco
              obtain ⟨All, hAll⟩ : ∃ All, All = keptP A1 30 6 := ⟨_, rfl⟩
              rw [← hAll] at o2 hC
              have hA20 := hC.lim
              have o1' := Lib.hid o1; have o2' := Lib.hid o2; have o3' := Lib.hid hAll.symm; have hC' := Lib.hid hC; have hco' := Lib.hid hco
              clear o1 o2 hAll hC hco hkeep hA0'
              have q1 := (show wr.cell? ⟨ax, 1, none⟩ = some (.int .i64 (-1)) from cell_at hT'.out.x.area.1)
              have q2 := (show wr.frozen? ⟨ax, 1, none⟩ = false from frozen_at hT'.out.x.area.1)
              have q3 := hT'.out.x.area.lt.1
              obtain ⟨hO2, G2, hT2⟩ := hT'.out.left (n8 % 20) (by omega)
              obtain ⟨W2, hW2⟩ : ∃ W2, W2 = wr.setCell ⟨ax, 1, none⟩ (.int .i64 (n8 % 20)) := ⟨_, rfl⟩
              rw [← hW2] at hT2 hO2
              replace hkS' := Lib.hid (hO2.slice hkS'.out (fun g hg => .inl hg)); replace hfo' := Lib.hid (hO2.owns hfo'.out (fun g hg => .inr hg))
              have hW2' := Lib.hid hW2; have hT2' := Lib.hid hT2
              clear hW2 hT2 hO2 hT'
              go_upto_region 29 with (fail)
              rw [← hW2'.out]
              clear q1 q2 q3 hlt hi hW2'
              go_upto_region 31 with (first
                | (go_at_call 18; refine (hT2'.out.commit hco'.out hleft).mono ?_; rintro e w5 ⟨rfl, hO, G5, hT5⟩; replace hkS' := Lib.hid (hO.slice hkS'.out (fun g hg => .inl hg)); replace hfo' := Lib.hid (hO.owns hfo'.out (fun g hg => .inr hg)); have hT5' := Lib.hid hT5; clear hT5 hO)
                | (go_at_call 19; refine (last_any hT5'.out.x.log).mono ?_; rintro e wX ⟨rfl, he⟩; obtain rfl := he.symm))
              have q1 := (show w5.cell? ⟨ax, 1, none⟩ = some (.int .i64 t1) from cell_at hT5'.out.x.area.1)
              have q2 := (show w5.frozen? ⟨ax, 1, none⟩ = false from frozen_at hT5'.out.x.area.1)
              have q3 := hT5'.out.x.area.lt.1
              obtain ⟨hO6, G6, hT6⟩ := hT5'.out.left (-1) (by omega)
              obtain ⟨W6, hW6⟩ : ∃ W6, W6 = w5.setCell ⟨ax, 1, none⟩ (.int .i64 (-1)) := ⟨_, rfl⟩
              rw [← hW6] at hT6 hO6
              replace hkS' := Lib.hid (hO6.slice hkS'.out (fun g hg => .inl hg)); replace hfo' := Lib.hid (hO6.owns hfo'.out (fun g hg => .inr hg))
              have hW6' := Lib.hid hW6; have hT6' := Lib.hid hT6
              clear hW6 hT6 hO6 hT5' hT2' hco'
              go_upto_region 32 with (fail)
              rw [← hW6'.out]
              clear q1 q2 q3 hW6'
              go_upto_region 36 with (first
                | (go_at_call 16; refine (open_la (base := 30) (slots := 6) hT6'.out.x.area (by omega) (by omega) (by omega) (by omega) o2'.out o1'.out o3'.out).mono ?_; rintro e w9 ⟨lz, rfl, hf9, hlz, hl9⟩; have hz' := Lib.hid hl9; replace hT6' := Lib.hid (hT6'.out.fr0 hf9); replace hkS' := Lib.hid (hkS'.out.fr hf9 (by simp)); replace hfo' := Lib.hid (owns_fr2 hfo'.out hf9 (by simp)); clear hf9 hl9 hlz)
                | (go_at_call 19; refine (last_any hz'.out.log).mono ?_; rintro e wX ⟨rfl, he⟩; obtain rfl := he.symm)
                | (go_at_call 22; refine (hz'.out.live).mono ?_; rintro e V ⟨za, zc, rfl, hzc, hfv, hov⟩; replace hT6' := Lib.hid (hT6'.out.fr0 hfv); replace hkS' := Lib.hid (hkS'.out.fr hfv (by simp)); replace hfo' := Lib.hid (owns_fr2 hfo'.out hfv (by simp)); have hzS' := Lib.hid (SliceIs.of_owns hov rfl); clear hfv hov hz'))
              have hFV := Lib.hid hT6'.out.fr
              have hfS' := Lib.hid (SliceIs.of_owns hfo'.out rfl)
              clear hT6' hfo' hfb' o1' o3'
              go_wp2
              go_loopg [21, 22] All.length (fun gk nv iv wr => ∃ i : Nat, i ≤ All.length ∧ gk = All.length - i ∧ iv = .int .i64 i ∧ nv = .int .i64 ((min (i - q) K0.length : Nat) : Int) ∧ Fr [] V wr)
              case atStart => exact ⟨0, Nat.zero_le _, rfl, rfl, by simp, Fr.refl _ _⟩
              case round =>
                obtain ⟨i, hi, hgk, rfl, rfl, hfr⟩ := hrel
                obtain ⟨U, hU⟩ : ∃ U, U = wr := ⟨_, rfl⟩
                rw [← hU] at hfr ⊢
                clear hU
                have hgk' := Lib.hid hgk; have hfr' := Lib.hid hfr
                clear hgk hfr
                obtain ⟨N0, hN0⟩ : ∃ N0, N0 = min (i - q) K0.length := ⟨_, rfl⟩
                rw [← hN0]
                have hN0' := Lib.hid hN0
                by_cases hlt : i < All.length
                · obtain ⟨x, hx⟩ : ∃ x, All[i]? = some x := ⟨_, List.getElem?_eq_getElem hlt⟩
                  have hx' := Lib.hid hx
                  obtain ⟨gz, oz, rfl, hgz, zat⟩ := hzS'.out.cells encR_len (by intro h; rw [h] at hlt; simp at hlt)
                  have zat' := Lib.hid zat
                  clear hx zat hN0
                  go_wp2
                  go_loopg [21, 23] K0.length (fun gk nv kv wx => ∃ k : Nat, k ≤ K0.length ∧ gk = K0.length - k ∧ kv = .int .i64 k ∧ nv = .int .i64 (cntP q K0.length i k : Nat) ∧ Fr [] V wx)
                  case atStart => exact ⟨0, Nat.zero_le _, rfl, rfl, by rw [cnt_start, hN0'.out], hfr'.out⟩
                  case round =>
                    obtain ⟨k, hk, hgk2, rfl, rfl, hfk⟩ := hrel
                    have hgk2' := Lib.hid hgk2; have hfk' := Lib.hid hfk
                    clear hgk2 hfk
                    obtain ⟨N1, hN1⟩ : ∃ N1, N1 = cntP q K0.length i k := ⟨_, rfl⟩
                    have hN1b : N1 ≤ 21 := by have := @cnt_le q K0.length i k; omega
                    rw [← hN1]
                    have hN1' := Lib.hid hN1
                    clear hN1
                    by_cases hltk : k < K0.length
                    · obtain ⟨y, hy⟩ : ∃ y, K0[k]? = some y := ⟨_, List.getElem?_eq_getElem hltk⟩
                      obtain ⟨gy, oy, rfl, hgy, yat⟩ := hkS'.out.cells encR_len (by intro h; rw [h] at hltk; simp at hltk)
                      obtain ⟨x0, x1, x2, x3⟩ := x
                      rcases hC'.out.kept i _ k y hx'.out hy with ⟨hik, hxy⟩ | ⟨hik, hxy⟩
                      · subst hxy
                        have k0 := hfk'.out.at0 (zat'.out i _ 0 _ hx'.out rfl)
                        have k1 := hfk'.out.at0 (zat'.out i _ 1 _ hx'.out rfl)
                        have k2 := hfk'.out.at0 (zat'.out i _ 2 _ hx'.out rfl)
                        have k3 := hfk'.out.at0 (zat'.out i _ 3 _ hx'.out rfl)
                        rw [Nat.add_zero] at k0
                        simp only [← Nat.add_assoc] at k1 k2 k3
                        dsimp only at k0 k1 k2 k3
                        have y0 := hfk'.out.at0 (yat k _ 0 _ hy rfl)
                        have y1 := hfk'.out.at0 (yat k _ 1 _ hy rfl)
                        have y2 := hfk'.out.at0 (yat k _ 2 _ hy rfl)
                        have y3 := hfk'.out.at0 (yat k _ 3 _ hy rfl)
                        rw [Nat.add_zero] at y0
                        simp only [← Nat.add_assoc] at y1 y2 y3
                        dsimp only at y0 y1 y2 y3
                        have lk := lt_of_cell k0
                        have ly := lt_of_cell y0
                        have hcn := Lib.hid (show cntP q K0.length i (k + 1) = N1 + 1 by rw [hN1'.out, hik]; exact cnt_hit)
                        clear hy yat hik
                        go_upto_region 43 with (fail)
                        go_region
                        go_wp2
                        go_roundg (K0.length - (k + 1))
                        case rel => exact ⟨k + 1, by omega, rfl, by go_num, by rw [hcn.out]; go_num, by first | exact hfk'.out | exact hfk'.out.drew⟩
                        case measure => rw [hgk2'.out]; omega
                      · obtain ⟨y0', y1', y2', y3'⟩ := y
                        have k0 := hfk'.out.at0 (zat'.out i _ 0 _ hx'.out rfl)
                        have k1 := hfk'.out.at0 (zat'.out i _ 1 _ hx'.out rfl)
                        have k2 := hfk'.out.at0 (zat'.out i _ 2 _ hx'.out rfl)
                        have k3 := hfk'.out.at0 (zat'.out i _ 3 _ hx'.out rfl)
                        rw [Nat.add_zero] at k0
                        simp only [← Nat.add_assoc] at k1 k2 k3
                        dsimp only at k0 k1 k2 k3
                        have y0 := hfk'.out.at0 (yat k _ 0 _ hy rfl)
                        have y1 := hfk'.out.at0 (yat k _ 1 _ hy rfl)
                        have y2 := hfk'.out.at0 (yat k _ 2 _ hy rfl)
                        have y3 := hfk'.out.at0 (yat k _ 3 _ hy rfl)
                        rw [Nat.add_zero] at y0
                        simp only [← Nat.add_assoc] at y1 y2 y3
                        dsimp only at y0 y1 y2 y3
                        have lk := lt_of_cell k0
                        have ly := lt_of_cell y0
                        have b0 : (x0 == y0') = false := by simpa using hxy
                        have hcn := Lib.hid (show cntP q K0.length i (k + 1) = N1 by rw [hN1'.out]; exact cnt_miss hik)
                        clear hy yat hik hxy
                        go_upto_region 43 with (fail)
                        go_region
                        go_wp2
                        go_roundg (K0.length - (k + 1))
                        case rel => exact ⟨k + 1, by omega, rfl, by go_num, by rw [hcn.out], by first | exact hfk'.out | exact hfk'.out.drew⟩
                        case measure => rw [hgk2'.out]; omega
                    · have hke : k = K0.length := by omega
                      subst hke
                      have hcn := Lib.hid (show min (i + 1 - q) K0.length = N1 by rw [hN1'.out]; exact cnt_end.symm)
                      clear hgk2' hN1'
                      go_wp2
                      go_loopg [24] F.length (fun gk kv wx => ∃ k : Nat, k ≤ F.length ∧ gk = F.length - k ∧ kv = .int .i64 k ∧ Fr [] V wx)
                      case atStart => exact ⟨0, Nat.zero_le _, rfl, rfl, hfk'.out⟩
                      case round =>
                        obtain ⟨k, hk, hgk3, rfl, hf5⟩ := hrel
                        have hgk3' := Lib.hid hgk3; have hf5' := Lib.hid hf5
                        clear hgk3 hf5 hltk
                        obtain ⟨x0, x1, x2, x3⟩ := x
                        by_cases hltf : k < F.length
                        · obtain ⟨y, hy⟩ : ∃ y, F[k]? = some y := ⟨_, List.getElem?_eq_getElem hltf⟩
                          obtain ⟨gy, oy, rfl, hgy, yat⟩ := hfS'.out.cells encR_len (by intro h; rw [h] at hltf; simp at hltf)
                          by_cases hs : x0 = y.1
                          · have hxy := hC'.out.fresh i _ k y hx'.out hy hs
                            subst hxy
                            have k0 := hf5'.out.at0 (zat'.out i _ 0 _ hx'.out rfl)
                            have k1 := hf5'.out.at0 (zat'.out i _ 1 _ hx'.out rfl)
                            have k2 := hf5'.out.at0 (zat'.out i _ 2 _ hx'.out rfl)
                            have k3 := hf5'.out.at0 (zat'.out i _ 3 _ hx'.out rfl)
                            rw [Nat.add_zero] at k0
                            simp only [← Nat.add_assoc] at k1 k2 k3
                            dsimp only at k0 k1 k2 k3
                            have y0 := hf5'.out.at0 (yat k _ 0 _ hy rfl)
                            have y1 := hf5'.out.at0 (yat k _ 1 _ hy rfl)
                            have y2 := hf5'.out.at0 (yat k _ 2 _ hy rfl)
                            have y3 := hf5'.out.at0 (yat k _ 3 _ hy rfl)
                            rw [Nat.add_zero] at y0
                            simp only [← Nat.add_assoc] at y1 y2 y3
                            dsimp only at y0 y1 y2 y3
                            have lk := lt_of_cell k0
                            have ly := lt_of_cell y0
                            have b0 : (x0 == x0) = true := by simp
                            clear hy yat hs
                            go_upto_region 48 with (fail)
                            go_quiet (fail)
                            go_wp2
                            go_roundg (F.length - (k + 1))
                            case rel => exact ⟨k + 1, by omega, rfl, by go_num, by first | exact hf5'.out | exact hf5'.out.drew | exact hf5'.out.drewN _⟩
                            case measure => rw [hgk3'.out]; omega
                          · obtain ⟨y0', y1', y2', y3'⟩ := y
                            have k0 := hf5'.out.at0 (zat'.out i _ 0 _ hx'.out rfl)
                            have k1 := hf5'.out.at0 (zat'.out i _ 1 _ hx'.out rfl)
                            have k2 := hf5'.out.at0 (zat'.out i _ 2 _ hx'.out rfl)
                            have k3 := hf5'.out.at0 (zat'.out i _ 3 _ hx'.out rfl)
                            rw [Nat.add_zero] at k0
                            simp only [← Nat.add_assoc] at k1 k2 k3
                            dsimp only at k0 k1 k2 k3
                            have y0 := hf5'.out.at0 (yat k _ 0 _ hy rfl)
                            have y1 := hf5'.out.at0 (yat k _ 1 _ hy rfl)
                            have y2 := hf5'.out.at0 (yat k _ 2 _ hy rfl)
                            have y3 := hf5'.out.at0 (yat k _ 3 _ hy rfl)
                            rw [Nat.add_zero] at y0
                            simp only [← Nat.add_assoc] at y1 y2 y3
                            dsimp only at y0 y1 y2 y3
                            have lk := lt_of_cell k0
                            have ly := lt_of_cell y0
                            have b0 : (x0 == y0') = false := by simpa using hs
                            clear hy yat hs
                            go_upto_region 48 with (fail)
                            go_quiet (fail)
                            go_wp2
                            go_roundg (F.length - (k + 1))
                            case rel => exact ⟨k + 1, by omega, rfl, by go_num, by first | exact hf5'.out | exact hf5'.out.drew | exact hf5'.out.drewN _⟩
                            case measure => rw [hgk3'.out]; omega
                        · clear hgk3'
                          by_cases hi0 : i = 0
                          · have b0 : decide ((0 : Int) < (i : Int)) = false := by simp [hi0]
                            have b1 : decide ((i : Int) > 0) = false := b0
                            go_upto_region 50 with (fail)
                            go_quiet (fail)
                            go_wp2
                            go_roundg (All.length - (i + 1))
                            case rel => exact ⟨i + 1, by omega, rfl, by go_num, by rw [hcn.out], by first | exact hf5'.out | exact hf5'.out.drew | exact hf5'.out.drewN _⟩
                            case measure => rw [hgk'.out]; omega
                          · have hi1 : 1 ≤ i := by omega
                            have hpos : 0 < i := by omega
                            have b0 : decide ((0 : Int) < (i : Int)) = true := by simp; omega
                            have b1 : decide (0 < i) = true := by simp; omega
                            obtain ⟨z, hz⟩ : ∃ z, All[i - 1]? = some z := ⟨_, List.getElem?_eq_getElem (by omega)⟩
                            have hri := hC'.out.rise (i - 1) z (x0, x1, x2, x3) hz (by rw [show i - 1 + 1 = i by omega]; exact hx'.out)
                            obtain ⟨z0, z1, z2, z3⟩ := z
                            dsimp only at hri
                            have k0 := hf5'.out.at0 (zat'.out i _ 0 _ hx'.out rfl)
                            have k1 := hf5'.out.at0 (zat'.out i _ 1 _ hx'.out rfl)
                            have k2 := hf5'.out.at0 (zat'.out i _ 2 _ hx'.out rfl)
                            have k3 := hf5'.out.at0 (zat'.out i _ 3 _ hx'.out rfl)
                            rw [Nat.add_zero] at k0
                            simp only [← Nat.add_assoc] at k1 k2 k3
                            dsimp only at k0 k1 k2 k3
                            have zz0 := hf5'.out.at0 (zat'.out (i - 1) _ 0 _ hz rfl)
                            have zz1 := hf5'.out.at0 (zat'.out (i - 1) _ 1 _ hz rfl)
                            have zz2 := hf5'.out.at0 (zat'.out (i - 1) _ 2 _ hz rfl)
                            have zz3 := hf5'.out.at0 (zat'.out (i - 1) _ 3 _ hz rfl)
                            rw [Nat.add_zero] at zz0
                            simp only [← Nat.add_assoc] at zz1 zz2 zz3
                            dsimp only at zz0 zz1 zz2 zz3
                            have lk := lt_of_cell k0
                            rw [hri] at k0
                            have hzb : z0 ≤ 1099511627776 ∧ 0 ≤ z0 := by
                              have h1 := errR_zero (o2'.out.good (z0, z1, z2, z3) (by rw [List.append_nil]; exact List.mem_of_getElem? hz))
                              omega
                            obtain ⟨hzb1, hzb2⟩ := hzb
                            clear hz hri
                            go_upto_region 50 with (fail)
                            have hg1 : (0 : Int) ≤ (i : Int) - 1 := by omega
                            have hw3 : ((i : Int) - 1).toNat = i - 1 := by omega
                            have hwl : i - 1 < All.length := by omega
                            have hw1 := IntWalk.i64_in ((i : Int) - 1) (by omega)
                            have hw2 := IntWalk.i64_in (z0 + 1) (by omega)
                            go_quiet (fail)
                            clear hw1 hw2 hw3
                            go_wp2
                            go_roundg (All.length - (i + 1))
                            case rel => exact ⟨i + 1, by omega, rfl, by go_num, by rw [hcn.out], by first | exact hf5'.out | exact hf5'.out.drew | exact hf5'.out.drewN _⟩
                            case measure => rw [hgk'.out]; omega
                · have hNf : N0 = K0.length := by rw [hN0]; have := hC'.out.len; omega
                  subst hNf
                  clear hgk' hN0 hN0'
                  by_cases he : e9 = 0
                  · have hdone := hC'.out.done he
                    subst he
                    by_cases hFn : F.length = 0
                    · have b0 : ((F.length : Int) == 0) = true := by simp [hFn]
                      clear hdone hFn
                      go_wp2
                      go_ret
                      exact ⟨rfl, hFV.out.trans hfr'.out⟩
                    · have b0 : ((F.length : Int) == 0) = false := by simp; intro h; exact hFn (by simp [h])
                      have hF1 : 1 ≤ F.length := by omega
                      obtain ⟨r, hr⟩ : ∃ r, F[F.length - 1]? = some r := ⟨_, List.getElem?_eq_getElem (by omega)⟩
                      have hr1 := hdone r hr
                      obtain ⟨r0, r1, r2, r3⟩ := r
                      dsimp only at hr1
                      subst hr1
                      obtain ⟨gy, oy, rfl, hgy, yat⟩ := hfS'.out.cells encR_len (by intro h; rw [h] at hF1; simp at hF1)
                      have y0 := hfr'.out.at0 (yat (F.length - 1) _ 0 _ hr rfl)
                      rw [Nat.add_zero] at y0
                      dsimp only at y0
                      have ly := lt_of_cell y0
                      clear hdone hFn hr yat
                      go_wp2
                      go_ret
                      exact ⟨rfl, hFV.out.trans hfr'.out⟩
                  · have b9 : (e9 != 0) = true := by simpa using he
                    go_wp2
                    go_ret
                    exact ⟨rfl, hFV.out.trans hfr'.out⟩
end Go.Proofs.Ytcbccogpogdbmaa
