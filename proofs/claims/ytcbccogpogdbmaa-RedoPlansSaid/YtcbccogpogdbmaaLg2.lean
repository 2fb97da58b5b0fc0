/- redo.Open, walked. -/
import Derived.Test.YtcbccogpogdbmaaLg1
import Derived.Test.YtcbccogpogdbmaaLp1
import Derived.Test.YtcbccogpogdbmaaRv
namespace Go.Proofs.Ytcbccogpogdbmaa
open Go.RowKit Go.Maps Go.Lib Go.Sort
attribute [local go_sem ↓] Go.wp_at_zero Go.wp_at_succ
def encK (x : Int) : Value := .int .i64 x
theorem keyI : KeyEnc Try.prog 3 encK := ⟨⟨_, Try.underlying3, .inl (fun a b => by simp [Instr.sameNow, encK]; exact Bool.beq_eq_decide_eq _ _)⟩, fun a em w => Go.MapKept.run_checkKey (k := .int .i64 a) Try.underlying3 rfl em 9999, fun a => by simp [encK, Instr.sameBits]⟩
def areaV (ab : Nat) : Value := .iface 39 (.pointer (some ⟨ab, 0, none⟩))
set_option maxRecDepth 100000 in
set_option maxHeartbeats 4000000 in
theorem open_bad (av : Value) (base slots : Int) (h : base < 0 ∨ slots < 1 ∨ 20 < slots ∨ 256 - 3 * slots < base) (hs : slots < 9223372036854775808) (hs2 : -9223372036854775808 ≤ slots) (w : World) :
    Calls Try.prog 16 #[av, .int .i64 base, .int .i64 slots] w fun e w' => e = .returned (.tuple #[.pointer none, .int .i64 1]) ∧ w' = w := by
  by_cases h1 : base < 0
  · go_enter Try.func16, Try.ntmps16
    go_wp2
    go_ret2
    exact ⟨rfl, rfl⟩
  · by_cases h2 : slots < 1
    · go_enter Try.func16, Try.ntmps16
      go_wp2
      go_ret2
      exact ⟨rfl, rfl⟩
    · by_cases h3 : 20 < slots
      · go_enter Try.func16, Try.ntmps16
        go_wp2
        go_ret2
        exact ⟨rfl, rfl⟩
      · have h4 : 256 - 3 * slots < base := by omega
        clear h
        go_enter Try.func16, Try.ntmps16
        go_wp2
        go_ret2
        exact ⟨rfl, rfl⟩
theorem meth_get (b : Nat) (w : World) : (method 236 39 (.pointer (some ⟨b, 0, none⟩)) "Get").run Try.prog w = .ok (73, .pointer (some ⟨b, 0, none⟩)) w := by kernel_rfl
theorem meth_put (b : Nat) (w : World) : (method 236 39 (.pointer (some ⟨b, 0, none⟩)) "Put").run Try.prog w = .ok (47, .pointer (some ⟨b, 0, none⟩)) w := by kernel_rfl
/-- A log of the program's. -/
def LogAt (G : Nat → Prop) (w : World) (lb ab : Nat) (base slots : Nat) (last : Int) (K F : List Rec) : Prop :=
  G lb ∧ ∃ vk vf, w.heap[lb]? = some (.cells #[areaV ab, .int .i64 base, .int .i64 slots, .int .i64 last, vk, vf] 90 (0, 0)) ∧ w.ownsRow 0 23 4 vk K.length (K.flatMap encR) ∧ (∀ g, vk.ownBlock = some g → G g) ∧ SliceIs w (fun g => G g ∧ g ≠ lb ∧ vk.ownBlock ≠ some g) encR vf F
theorem infoR : (Try.prog.info? 23).map (fun i => (i.zero, i.size, i.bytes)) = some (some (.agg #[.int .i64 0, .int .i64 0, .int .i64 0, .string ⟨#[]⟩]), 4, 40) := by kernel_rfl
set_option maxRecDepth 100000 in
set_option maxHeartbeats 8000000 in
theorem open_ok {w : World} {ab ag : Nat} {A : List ByteArray} {left : Int} (hA : AreaAt w ab ag A left) (base slots : Nat) (h1 : 1 ≤ slots) (h2 : slots ≤ 20) (h3 : base + 3 * slots ≤ 256) :
    Calls Try.prog 16 #[areaV ab, .int .i64 base, .int .i64 slots] w fun e w' => ∃ lb, e = .returned (.tuple #[.pointer (some ⟨lb, 0, none⟩), .int .i64 0]) ∧ Fr [] w w' ∧ LogAt (w.heap.size ≤ ·) w' lb ab base slots (lastP A base slots) (keptP A base slots) [] := by
  obtain ⟨W, hW⟩ : ∃ W, W = (w.alloc (.cells #[areaV ab, .int .i64 base, .int .i64 slots, .int .i64 0, .slice none 0 0, .slice none 0 0] 90)).alloc (.map #[] 0) := ⟨_, rfl⟩
  have hF : Fr [] w W := by rw [hW]; exact ((Fr.refl [] w).alloc _).alloc _
  have hzW : W.heap.size = w.heap.size + 2 := by rw [hW]; simp
  have hl0 : W.heap[w.heap.size]? = some (.cells #[areaV ab, .int .i64 base, .int .i64 slots, .int .i64 0, .slice none 0 0, .slice none 0 0] 90 (0, 0)) := by rw [hW]; exact ((Fr.refl [] _).alloc _).keep (heap_alloc_new w _) (by simp)
  have hm0 : MapOf W encK aggR (w.heap.size + 1) [] := by
    rw [hW]
    have := MapOf.made (α := Int) (β := Rec) (w.alloc (.cells #[areaV ab, .int .i64 base, .int .i64 slots, .int .i64 0, .slice none 0 0, .slice none 0 0] 90)) encK aggR
    simpa using this
  have hAW := hA.fr hF (by simp) (by simp)
  have hW' := Lib.hid hW; have hF' := Lib.hid hF; have hl0' := Lib.hid hl0; have hm0' := Lib.hid hm0; have hA' := Lib.hid hAW
  have hla := hA.lt
  clear hW hF hl0 hm0 hA hAW
  unfold areaV at hW' hl0' ⊢
  have hmm := @run_makeMap Try.prog
  go_enter Try.func16, Try.ntmps16
  go_wp2
  clear hmm
  rw [← hW'.out]
  go_loopg [44] slots (fun gk iv wr => ∃ i : Nat, i ≤ slots ∧ gk = slots - i ∧ iv = .int .i64 i ∧ wr.heap[w.heap.size]? = some (.cells #[.iface 39 (.pointer (some ⟨ab, 0, none⟩)), .int .i64 base, .int .i64 slots, .int .i64 (maxP (liesP A base slots i)), .slice none 0 0, .slice none 0 0] 90 (0, 0)) ∧ MapOf wr encK aggR (w.heap.size + 1) ((liesP A base slots i).map pairR) ∧ AreaAt wr ab ag A left ∧ Fr [w.heap.size, w.heap.size + 1] W wr)
  case atStart => exact ⟨0, Nat.zero_le _, rfl, rfl, hl0'.out, hm0'.out, hA'.out, Fr.refl _ _⟩
  case round =>
    obtain ⟨i, hi, hgk, rfl, hlb, hmp, hAr, hfr⟩ := hrel
    have hgk' := Lib.hid hgk; have hlb' := Lib.hid hlb; have hmp' := Lib.hid hmp; have hAr' := Lib.hid hAr; have hfr' := Lib.hid hfr
    have hzr := hfr.size
    clear hgk hlb hmp hAr hfr
    by_cases hlt : i < slots
    · obtain ⟨V, hV⟩ : ∃ V, V = wr := ⟨_, rfl⟩
      rw [← hV] at hzr hlb' hmp' hAr' hfr' ⊢
      clear hV
      go_wp2
      go_loopg [11, 47] 3 (fun gk pv kv wx => ∃ k : Nat, k ≤ 3 ∧ gk = 3 - k ∧ kv = .int .i64 k ∧ wx.ownsRow V.heap.size 9 1 pv ((textsP A base i).take k).length (((textsP A base i).take k).flatMap encS) ∧ Fr [] V wx)
      case atStart => exact ⟨0, by omega, rfl, rfl, ⟨by simp, .inl ⟨rfl, by simp⟩⟩, Fr.refl _ _⟩
      case round =>
        obtain ⟨k, hk, hgk2, rfl, hown, hfk⟩ := hrel
        have hgk2' := Lib.hid hgk2; have hown' := Lib.hid hown; have hfk' := Lib.hid hfk
        clear hgk2 hown hfk
        by_cases hk3 : k < 3
        · have hAx := hAr'.out.fr hfk'.out (by simp) (by simp)
          have hget := aget_any hAx (base + 3 * i + k) (by omega)
          have htx : (textsP A base i)[k]? = some (A[base + 3 * i + k]'(by rw [hAx.2.2]; omega)) := by
            have hl := hAx.2.2
            have hk012 : k = 0 ∨ k = 1 ∨ k = 2 := by omega
            rcases hk012 with rfl | rfl | rfl
            · simp [textsP, List.getElem?_eq_getElem (show base + 3 * i < A.length by omega)]
            · simp [textsP, List.getElem?_eq_getElem (show base + 3 * i + 1 < A.length by omega)]
            · simp [textsP, List.getElem?_eq_getElem (show base + 3 * i + 2 < A.length by omega)]
          obtain ⟨x, hx⟩ : ∃ x, x = A[base + 3 * i + k]'(by rw [hAx.2.2]; omega) := ⟨_, rfl⟩
          rw [← hx] at hget htx
          have hidx : ((base + 3 * i + k : Nat) : Int) = (base : Int) + 3 * (i : Int) + (k : Int) := by omega
          rw [hidx] at hget
          have htk : (textsP A base i).take (k + 1) = (textsP A base i).take k ++ [x] := by rw [List.take_add_one, htx]; rfl
          obtain ⟨T, hT⟩ : ∃ T, T = (textsP A base i).take k := ⟨_, rfl⟩
          have hTl : T.length ≤ 3 := by rw [hT, List.length_take]; omega
          have hownT := hown'.out
          rw [← hT] at htk hownT
          have hownT' := Lib.hid hownT; have htk' := Lib.hid htk; have hget' := Lib.hid hget
          have hzx := hfk'.out.size
          have hmg := fun X => meth_get ab X
          have hob := hownT.lt
          clear hget htx hx hidx htk hT hownT hAx
          go_wp2_with (first | (go_at_call 73; refine hget'.out.mono ?_; rintro e w2 ⟨rfl, rfl⟩) | (at_builtin; refine wpList_push _ _ _ rfl _ _ 24 rfl V.heap.size 9 Try.underlying24 infoS rfl (by omega) u11 T rfl hownT'.out x rfl encS_len (one_encS _) rfl (by omega) (by omega) (by omega) ?_; intro v' w3 hown3 hf3))
          go_roundg (3 - (k + 1))
          case rel => exact ⟨k + 1, by omega, rfl, by go_num, by rw [htk'.out]; exact hown3, hfk'.out.andThen hf3 (fun t ht' => .inr (hob t (by simpa using ht')).1)⟩
          case measure => rw [hgk2'.out]; omega
        · have hke : k = 3 := by omega
          subst hke
          have hownT := hown'.out
          rw [show (textsP A base i).take 3 = textsP A base i from rfl] at hownT
          have hjoin := join_any u11 (textsP A base i) _ (SliceIs.of_owns hownT rfl)
          clear hownT
          have hjoin' := Lib.hid hjoin
          clear hjoin
          cases hj : joinP (textsP A base i) with
          | none =>
            have hli : lieP A base slots i = none := by unfold lieP; rw [hj]; rfl
            have hls := lies_succ A base slots i
            rw [hli, Option.toList_none, List.append_nil] at hls
            have hjj := hjoin'.out
            rw [hj] at hjj
            unfold joinV aggR zeroR at hjj
            dsimp only at hjj
            have hjj' := Lib.hid hjj; have hls' := Lib.hid hls
            clear hjj hls hli hj
            go_wp2_with (first | (go_at_call 12; refine hjj'.out.mono ?_; rintro e w4 ⟨rfl, hf4⟩))
            have hf5 : Fr [] V (w4.alloc (.cells #[.int .i64 0, .int .i64 0, .int .i64 0, .string ⟨#[]⟩] 23)) := (hfk'.out.trans hf4).alloc _
            go_roundg (slots - (i + 1))
            case rel => exact ⟨i + 1, by omega, rfl, by go_num, by rw [hls'.out]; exact hf5.keep hlb'.out (by simp), by rw [hls'.out]; exact hmp'.out.fr hf5 (by simp), hAr'.out.fr hf5 (by simp) (by simp), hfr'.out.trans (hf5.mono (by simp))⟩
            case measure => rw [hgk'.out]; omega
          | some r =>
            have hjj := hjoin'.out
            rw [hj] at hjj
            unfold joinV aggR at hjj
            dsimp only at hjj
            have her := errR_zero (join_some hj).1
            have hr1 : 1 ≤ r.1 := her.1
            have hr2 : r.1 ≤ 1099511627776 := her.2.1
            clear her
            have hjj' := Lib.hid hjj
            clear hjj
            by_cases htest : (r.1 - 1) % (slots : Int) = i
            · have hli : lieP A base slots i = some r := by unfold lieP; rw [hj]; simp [Option.filter, htest]
              have hls := lies_succ A base slots i
              rw [hli, Option.toList_some] at hls
              have hmx : maxP (liesP A base slots (i + 1)) = max (maxP (liesP A base slots i)) r.1 := by rw [hls, max_snoc]
              have hup := upsert_lies hli
              have hb1 := max_bounds A base slots i
              obtain ⟨M, hM⟩ : ∃ M, M = maxP (liesP A base slots i) := ⟨_, rfl⟩
              have hlb2 := hlb'.out
              rw [← hM] at hmx hlb2 hb1
              have hb2 := hb1.1
              have hb3 := hb1.2
              have hmx' := Lib.hid hmx; have hup' := Lib.hid hup; have hlb2' := Lib.hid hlb2
              have htm : ((r.1 - 1) % (slots : Int) == (i : Int)) = true := by rw [beq_iff_eq]; exact htest
              clear hmx hup hlb2 hb1 hM hls hli htest hj
              obtain ⟨r1, r2, r3, r4⟩ := r
              dsimp only at hjj' hr1 hr2 hmx' htm
              go_wp2_with (first | (go_at_call 12; refine hjj'.out.mono ?_; rintro e w4 ⟨rfl, hf4⟩; have hf5 : Fr [] V (w4.alloc (.cells #[.int .i64 r1, .int .i64 r2, .int .i64 r3, .string r4] 23)) := (hfk'.out.trans hf4).alloc _; have hmX := hmp'.out.fr hf5 (by simp); have hbx5 := heap_alloc_new w4 (.cells #[.int .i64 r1, .int .i64 r2, .int .i64 r3, .string r4] 23); have hlX := hf5.keep hlb2'.out (by simp); have hz4 := hf5.size; have hzV4 := (hfk'.out.trans hf4).size) | (at_mapUpdate; refine wpList_update _ rfl _ _ _ 91 rfl keyI Try.underlying91 rfl hmX r1 rfl (r1, r2, r3, r4) rfl ?_; intro w6 hm6 hf6 hsz6))
              have hlY := hf6.keep hlX (by simp)
              have hrY := hf6.keep hbx5 (by simp; omega)
              have y0 := (show w6.cell? ⟨w.heap.size, 3, none⟩ = some (.int .i64 M) from cell_at hlY)
              have y1 := (show w6.cell? ⟨w4.heap.size, 0, none⟩ = some (.int .i64 r1) from cell_at hrY)
              have ly := lt_of_cell y0
              have lr := lt_of_cell y1
              have hm6' := Lib.hid hm6; have hlY' := Lib.hid hlY
              have hf56 := Lib.hid ((hf5.mono (T := [w.heap.size, w.heap.size + 1]) (by simp)).trans (hf6.mono (by simp)))
              clear hm6 hlY hrY hlX hbx5 hmX hf5 hf6 htm
              refine wp_region_rel 10 (fun w w' => Fr [] w w') (by kernel_rfl) (by kernel_rfl) (by kernel_rfl) (fun h k => h.trans k) (Fr.refl [] _).drew ?_
              simp only [List.take_succ_cons, List.take_zero, List.drop_succ_cons, List.drop_zero]
              iterate 10
                apply RelW.still
                · intro s X2 hX
                  have j0 := hX.at0 y0
                  have j1 := hX.at0 y1
                  have jl := hX.size
                  go_wp2
                  refine ⟨rfl, rfl, Fr.refl _ _, ?_⟩
                  simp only [slotOf, List.getElem?_toArray, List.getElem?_cons_succ, List.getElem?_cons_zero, Option.getD_some]
                  rfl
                · intro s
                  simp only [Act.put, List.setIfInBounds_toArray, List.set_cons_succ, List.set_cons_zero]
                  rfl
              intro s X7 hX _
              have hlZ := hX.keep hlY'.out (by simp)
              have z0 := (show X7.cell? ⟨w.heap.size, 3, none⟩ = some (.int .i64 M) from cell_at hlZ)
              have zz := (show X7.frozen? ⟨w.heap.size, 3, none⟩ = false from frozen_at hlZ)
              have lz := lt_of_cell z0
              have hlZ' := Lib.hid hlZ; have hX' := Lib.hid hX
              clear hlZ hX
              go_wp2
              have f8 : Fr [w.heap.size] X7 (X7.setCell ⟨w.heap.size, 3, none⟩ (.int .i64 (max M r1))) := (Fr.refl _ _).setCell _ _ (.inl (by simp))
              have hfV : Fr [w.heap.size, w.heap.size + 1] V (X7.setCell ⟨w.heap.size, 3, none⟩ (.int .i64 (max M r1))) := (hf56.out.trans (hX'.out.mono (by simp))).trans (f8.mono (by simp))
              go_roundg (slots - (i + 1))
              case rel => exact ⟨i + 1, by omega, rfl, by go_num, by rw [setCell_at hlZ'.out, hmx'.out]; rfl, by rw [← hup'.out]; exact (hm6'.out.fr hX'.out (by simp)).fr f8 (by simp), hAr'.out.fr hfV (by simp; omega) (by simp; omega), hfr'.out.trans hfV⟩
              case measure => rw [hgk'.out]; omega
            · have hli : lieP A base slots i = none := by unfold lieP; rw [hj]; simp [Option.filter, htest]
              have hls := lies_succ A base slots i
              rw [hli, Option.toList_none, List.append_nil] at hls
              have hls' := Lib.hid hls
              have htm : ((r.1 - 1) % (slots : Int) == (i : Int)) = false := by rw [beq_eq_false_iff_ne]; exact htest
              clear hls hli htest hj
              obtain ⟨r1, r2, r3, r4⟩ := r
              dsimp only at hjj' hr1 hr2 htm
              go_wp2_with (first | (go_at_call 12; refine hjj'.out.mono ?_; rintro e w4 ⟨rfl, hf4⟩))
              have hf5 : Fr [] V (w4.alloc (.cells #[.int .i64 r1, .int .i64 r2, .int .i64 r3, .string r4] 23)) := (hfk'.out.trans hf4).alloc _
              go_roundg (slots - (i + 1))
              case rel => exact ⟨i + 1, by omega, rfl, by go_num, by rw [hls'.out]; exact hf5.keep hlb'.out (by simp), by rw [hls'.out]; exact hmp'.out.fr hf5 (by simp), hAr'.out.fr hf5 (by simp) (by simp), hfr'.out.trans (hf5.mono (by simp))⟩
              case measure => rw [hgk'.out]; omega
    · have hie : i = slots := by omega
      subst hie
      obtain ⟨V, hV⟩ : ∃ V, V = wr := ⟨_, rfl⟩
      rw [← hV] at hzr hlb' hmp' hAr' hfr' ⊢
      have hmb := max_bounds A base i i
      obtain ⟨L, hL⟩ : ∃ L, L = liesP A base i i := ⟨_, rfl⟩
      have hLb : ∀ r ∈ L, 1 ≤ r.1 := fun r hr => by rw [hL] at hr; exact (lies_bounds hr).1
      have hlb2 := hlb'.out
      have hmp2 := hmp'.out
      rw [← hL] at hmb hlb2 hmp2
      obtain ⟨N, hN⟩ := Int.eq_ofNat_of_zero_le hmb.1
      have hN2 : N ≤ 1099511627776 := by have := hmb.2; omega
      rw [hN] at hlb2
      have y0 := (show V.cell? ⟨w.heap.size, 3, none⟩ = some (.int .i64 (N : Nat)) from cell_at hlb2)
      have hlb3' := Lib.hid hlb2; have hmp3' := Lib.hid hmp2; have hLb' := Lib.hid hLb; have hL' := Lib.hid hL; have hN' := Lib.hid hN
      clear hV hmb hlb2 hmp2 hLb hL hN hgk' hi hlt hlb' hmp'
      have hzero : zeroValue 23 = zeroValue 23 := rfl
      go_wp2
      go_loopg [17] N (fun gk sv wx => ∃ (s : Nat) (K : List Rec) (vk : Value), gk = s ∧ sv = .int .i64 (s : Nat) ∧ K.length + s = N ∧ K ++ downP L s = downP L N ∧ wx.heap[w.heap.size]? = some (.cells #[.iface 39 (.pointer (some ⟨ab, 0, none⟩)), .int .i64 base, .int .i64 i, .int .i64 (N : Nat), vk, .slice none 0 0] 90 (0, 0)) ∧ wx.ownsRow V.heap.size 23 4 vk K.length (K.flatMap encR) ∧ MapOf wx encK aggR (w.heap.size + 1) (L.map pairR) ∧ Fr [w.heap.size] V wx)
      case atStart => exact ⟨N, [], .slice none 0 0, rfl, rfl, by simp, by simp, hlb3'.out, ⟨by simp, .inl ⟨rfl, by simp⟩⟩, hmp3'.out, Fr.refl _ _⟩
      case round =>
        obtain ⟨s, K, vk, hgs, rfl, hKl, hKd, hlx, hox, hmx, hfx⟩ := hrel
        have hgs' := Lib.hid hgs; have hKd' := Lib.hid hKd; have hlx' := Lib.hid hlx; have hox' := Lib.hid hox; have hmx' := Lib.hid hmx; have hfx' := Lib.hid hfx
        have hzx := hfx.size
        clear hgs hKd hlx hox hmx hfx
        have hzv : ∀ X, (zeroValue 23).run Try.prog X = .ok (aggR zeroR) X := fun _ => by kernel_rfl
        have hzv' := Lib.hid hzv
        clear hzv
        cases hfd : findP L (s : Int) with
        | none =>
          have hdn : downP L s = [] := by
            cases s with
            | zero => rfl
            | succ s => unfold downP; rw [show ((s : Int) + 1) = ((s + 1 : Nat) : Int) from by omega, hfd]
          have hfd' := Lib.hid hfd; have hdn' := Lib.hid hdn
          clear hfd hdn
          have hll := hlx'.out
          obtain ⟨va, vc, rfl, _, _, _⟩ := SliceIs.of_owns hox'.out rfl
          have q4 := (show wr.cell? ⟨w.heap.size, 4, none⟩ = some (.slice va K.length vc) from cell_at hll)
          have ql := lt_of_cell q4
          have hf1 : Fr [] wr (wr.alloc (.cells #[.int .i64 0, .int .i64 0, .int .i64 0, .string ⟨#[]⟩] 23)) := (Fr.refl [] wr).alloc _
          have hrv := rev_any (owns_fr hox'.out hf1 (by simp)) (by omega)
          have hrv' := Lib.hid hrv; have hf1' := Lib.hid hf1; have hll' := Lib.hid hll
          clear hrv hf1 hll
          go_wp2_with (first | (at_lookup; refine wpList_look _ rfl _ _ 91 true rfl keyI Try.underlying91 (z := aggR zeroR) hzv'.out rfl hmx'.out (s : Int) rfl ?_; rw [look_pairs, hfd'.out]; simp only [Option.map_none, Option.getD_none, Option.isSome_none, if_true]; unfold aggR zeroR; dsimp only) | (go_at_call 41; refine hrv'.out.mono ?_; rintro e w9 ⟨rfl, hf9, ho9⟩))
          go_ret2
          have hob := (hox'.out).lt
          have hblk : ∀ t, t ∈ (Value.slice va K.length vc).ownBlock.toList → V.heap.size ≤ t := fun t ht => (hob t (by simpa using ht)).1
          have hlast : lastP A base i = (N : Int) := by unfold lastP; rw [← hL'.out, hN'.out]
          have hkept : keptP A base i = K.reverse := by
            unfold keptP
            rw [hlast, ← hL'.out, Int.toNat_natCast, ← hKd'.out, hdn'.out, List.append_nil]
          have hFr : Fr [] w w9 := (((hF'.out.andThen hfr'.out (fun t ht => .inr (by
              simp only [List.mem_cons, List.not_mem_nil, or_false] at ht
              omega))).andThen hfx'.out (fun t ht => .inr (by
              have e1 : t = w.heap.size := by simpa using ht
              omega))).trans hf1'.out).andThen hf9 (fun t ht => .inr (by have := hblk t ht; omega))
          refine ⟨w.heap.size, rfl, hFr, Nat.le_refl _, .slice va K.length vc, .slice none 0 0, ?_, ?_, fun g hg => by have := (ho9.lt g hg).1; omega, SliceIs.nil _ _ _⟩
          · have h9 := hf9.keep (hf1'.out.keep hll'.out (by simp)) (fun ht => by have := hblk _ ht; omega)
            rw [hlast]
            exact h9
          · rw [hkept]
            exact owns_base ho9 (by omega)
        | some r =>
          obtain ⟨s', rfl⟩ : ∃ s', s = s' + 1 := by
            cases s with
            | zero =>
              obtain ⟨h1, h2⟩ := find_mem hfd
              have := hLb'.out r h1
              rw [h2] at this
              simp at this
            | succ s => exact ⟨s, rfl⟩
          have hdn : downP L (s' + 1) = r :: downP L s' := by
            have : downP L (s' + 1) = match findP L ((s' : Int) + 1) with | none => [] | some r => r :: downP L s' := rfl
            rw [this, show ((s' : Int) + 1) = ((s' + 1 : Nat) : Int) from by omega, hfd]
          have hfd' := Lib.hid hfd; have hdn' := Lib.hid hdn
          clear hfd hdn
          have hll := hlx'.out
          obtain ⟨va, vc, rfl, _, _, _⟩ := SliceIs.of_owns hox'.out rfl
          obtain ⟨r1, r2, r3, r4⟩ := r
          obtain ⟨Y, hY⟩ : ∃ Y, Y = wr.alloc (.cells #[.int .i64 r1, .int .i64 r2, .int .i64 r3, .string r4] 23) := ⟨_, rfl⟩
          have hf1 : Fr [] wr Y := by rw [hY]; exact (Fr.refl [] wr).alloc _
          have hrY : Y.heap[wr.heap.size]? = some (.cells #[.int .i64 r1, .int .i64 r2, .int .i64 r3, .string r4] 23 (0, 0)) := by rw [hY]; exact heap_alloc_new wr _
          have hlY := hf1.keep hll (by simp)
          have hoY := owns_fr hox'.out hf1 (by simp)
          have hzY := hf1.size
          have hrl := lt_of_block hrY
          have hY' := Lib.hid hY; have hf1' := Lib.hid hf1; have hll' := Lib.hid hll; have hlY' := Lib.hid hlY; have hoY' := Lib.hid hoY; have hrY' := Lib.hid hrY
          clear hf1 hll hY hlY hoY hrY
          go_upto_region 26 with (first | (at_lookup; refine wpList_look _ rfl _ _ 91 true rfl keyI Try.underlying91 (z := aggR zeroR) hzv'.out rfl hmx'.out ((s' + 1 : Nat) : Int) rfl ?_; rw [look_pairs, hfd'.out]; simp only [Option.map_some, Option.getD_some, Option.isSome_some, if_true]; unfold aggR; dsimp only))
          rw [← hY'.out]
          have q4 := (show Y.cell? ⟨w.heap.size, 4, none⟩ = some (.slice va K.length vc) from cell_at hlY'.out)
          have qz := (show Y.frozen? ⟨w.heap.size, 4, none⟩ = false from frozen_at hlY'.out)
          have p0 := (show Y.cell? ⟨wr.heap.size, 0, none⟩ = some (.int .i64 r1) from cell_at hrY'.out)
          have p1 := (show Y.cell? ⟨wr.heap.size, 1, none⟩ = some (.int .i64 r2) from cell_at hrY'.out)
          have p2 := (show Y.cell? ⟨wr.heap.size, 2, none⟩ = some (.int .i64 r3) from cell_at hrY'.out)
          have p3 := (show Y.cell? ⟨wr.heap.size, 3, none⟩ = some (.string r4) from cell_at hrY'.out)
          have hob := (hoY'.out).lt
          have lq := lt_of_cell q4
          go_region_law
            ((refine step_push _ Y.heap.size #[.int .i64 r1, .int .i64 r2, .int .i64 r3, .string r4] 23 (by rfl) _ _ 55 (by rfl) V.heap.size 23 Try.underlying55 infoR rfl (by omega) (.slice va K.length vc) K (by rfl) (by first | exact owns_fr hoY'.out ((Fr.refl [] Y).alloc _).drew (by simp) | exact owns_fr hoY'.out ((Fr.refl [] Y).drew.alloc _) (by simp)) (r1, r2, r3, r4) (by exact heap_alloc_new Y _) rfl encR_len (one_encR _) (by rfl) (by omega) (by omega) (by simp; omega) ?_; intro g7 cap7 w7 hown7 hf7 hat7 hlt7; have hf7' := Lib.hid hf7; have hown7' := Lib.hid hown7; have h37 := hf7.keep ((((Fr.refl [] Y).alloc _).drew).keep hlY'.out (by simp)) (fun hm => by have := (hob w.heap.size (by simpa using hm)).1; omega); have n7 := (show w7.frozen? ⟨w.heap.size, 4, none⟩ = false from frozen_at h37); have m7 := (show w7.cell? ⟨w.heap.size, 4, none⟩ = some (.slice va K.length vc) from cell_at h37); have h37' := Lib.hid h37; clear hf7 hown7 h37))
          all_goals
            go_wp2
            have hW2 : W.heap.size ≤ V.heap.size := hzr
            have f9 : Fr [w.heap.size] w7 (w7.setCell ⟨w.heap.size, 4, none⟩ (.slice (some ⟨g7, 0, none⟩) (K.length + 1) cap7)) := (Fr.refl _ _).setCell _ _ (.inl (by simp))
            have hblk : ∀ t, t ∈ (Value.slice va K.length vc).ownBlock.toList → V.heap.size ≤ t := fun t ht => (hob t (by simpa using ht)).1
            have hYw7 : Fr (w.heap.size :: (Value.slice va K.length vc).ownBlock.toList) Y w7 := ((((Fr.refl [] Y).alloc (.cells #[.int .i64 r1, .int .i64 r2, .int .i64 r3, .string r4] 23)).drew).mono (by simp)).trans (hf7'.out.mono (fun t ht => List.mem_cons_of_mem _ ht))
            have hall : Fr (w.heap.size :: (Value.slice va K.length vc).ownBlock.toList) wr (w7.setCell ⟨w.heap.size, 4, none⟩ (.slice (some ⟨g7, 0, none⟩) (K.length + 1) cap7)) := ((hf1'.out.mono (by simp)).trans hYw7).trans (f9.mono (by simp))
            have hkk : (K ++ [(r1, r2, r3, r4)]) ++ downP L s' = downP L N := by rw [← hKd'.out, hdn'.out, List.append_assoc]; rfl
            have hll : (K ++ [(r1, r2, r3, r4)]).length = K.length + 1 := by simp
            have hg7 : g7 ≠ w.heap.size := fun e => owns_apart1 hown7'.out h37'.out (by decide) (by simp [Value.ownBlock, e])
            go_roundg s'
            case rel => exact ⟨s', K ++ [(r1, r2, r3, r4)], .slice (some ⟨g7, 0, none⟩) (K.length + 1) cap7, rfl, by go_num, by rw [hll]; omega, hkk, by rw [setCell_at h37'.out]; rfl, owns_fr2 hown7'.out f9 (fun gg hg hm => by
                have e1 : g7 = gg := by simpa [Value.ownBlock] using hg
                have e2 : gg = w.heap.size := by simpa using hm
                exact hg7 (e1.trans e2)), hmx'.out.fr hall (fun hm => by
                rcases List.mem_cons.1 hm with h | h
                · omega
                · have := hblk _ h; omega), hfx'.out.andThen hall (fun t ht => by
                rcases List.mem_cons.1 ht with h | h
                · exact .inl (by simp [h])
                · exact .inr (hblk _ h))⟩
            case measure => rw [hgs'.out]; omega
end Go.Proofs.Ytcbccogpogdbmaa
