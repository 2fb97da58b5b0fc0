/- redo.Log's Commit. -/
import Derived.Test.YtcbccogpogdbmaaLg3
import Derived.Test.YtcbccogpogdbmaaKp
namespace Go.Proofs.Ytcbccogpogdbmaa
open Go.RowKit Go.Maps Go.Lib Go.Sort
attribute [local go_sem ↓] Go.wp_at_zero Go.wp_at_succ
theorem tailX_cons {P : Program} {ops : Array Oper} {T : World → Prop} {Q : Exit → Act → World → Prop} {o : Oper} {rest : List Oper} {a : Act} {w : World} (h : wpList P ops (fun x a' w' => x = .normal ∧ a' = a ∧ T w' ∧ TailX P ops T Q rest a w') [o] a w) : TailX P ops T Q (o :: rest) a w := by
  rw [TailX]
  exact h
theorem tailX_nil {P : Program} {ops : Array Oper} {T : World → Prop} {Q : Exit → Act → World → Prop} {a : Act} {w : World} (h : Q .normal a w) : TailX P ops T Q [] a w := by
  rw [TailX]
  exact h
/-- Some texts put, one after the other. -/
def putsP (A : List ByteArray) (left : Int) (i : Nat) : List ByteArray → Int × List ByteArray × Int
  | [] => (0, A, left)
  | s :: ps => if (putP A left i s).1 ≠ 0 then putP A left i s else putsP (putP A left i s).2.1 (putP A left i s).2.2 (i + 1) ps
/-- A log's own state, and its area's: texts, left, last, kept, fresh. -/
abbrev St := List ByteArray × Int × Int × List Rec × List Rec
def commitP (base slots : Nat) : List Rec → List ByteArray → Int → Int → List Rec → Int × St
  | [], A, left, last, K => (0, A, left, last, K, [])
  | r :: F, A, left, last, K =>
    let p := putsP A left (base + (r.1.toNat - 1) % slots * 3) (partsP r)
    if p.1 ≠ 0 then (p.1, p.2.1, p.2.2, last, K, r :: F) else commitP base slots F p.2.1 p.2.2 r.1 (K ++ [r])
theorem parts_len {r : Rec} (h : errR r = 0) : (partsP r).length = 3 := by
  unfold partsP
  rw [if_pos h]
  rfl
theorem putP_zero {A : List ByteArray} {left : Int} {i : Nat} {s : ByteArray} (h : left ≠ 0) : putP A left i s = (0, A.set i s, if 0 < left then left - 1 else left) := by unfold putP; rw [if_neg h]
theorem putP_none {A : List ByteArray} {i : Nat} {s : ByteArray} : putP A 0 i s = (211, A, 0) := by unfold putP; rw [if_pos rfl]
set_option maxRecDepth 100000 in
set_option maxHeartbeats 8000000 in
set_option linter.constructorNameAsVariable false in
theorem commit_any {G : Nat → Prop} {w : World} {lb ab ag : Nat} {base slots : Nat} {last left : Int} {A : List ByteArray} {K F : List Rec} (h : LogAt G w lb ab base slots last K F) (hn : ∀ g, w.heap.size ≤ g → G g) (hA : AreaAt w ab ag A left) (hab : ¬ G ab) (hag : ¬ G ag) (h0 : 1 ≤ slots) (hs : slots ≤ 20) (hb : base + 3 * slots ≤ 256) (hl : left < 1000000) (hKF : K.length + F.length ≤ 1000) (hE : ∀ r ∈ F, errR r = 0) :
    Calls Try.prog 18 #[.pointer (some ⟨lb, 0, none⟩)] w fun e w' => e = .returned (.int .i64 (commitP base slots F A left last K).1) ∧ (∃ T, (∀ t ∈ T, t = ab ∨ t = ag ∨ G t) ∧ Fr T w w') ∧
      AreaAt w' ab ag (commitP base slots F A left last K).2.1 (commitP base slots F A left last K).2.2.1 ∧ LogAt G w' lb ab base slots (commitP base slots F A left last K).2.2.2.1 (commitP base slots F A left last K).2.2.2.2.1 (commitP base slots F A left last K).2.2.2.2.2 := by
  have h' := Lib.hid h; have hA' := Lib.hid hA; have hE' := Lib.hid hE; have hn' := Lib.hid hn; have hab' := Lib.hid hab; have hag' := Lib.hid hag
  clear hn hab hag
  obtain ⟨C, hC⟩ : ∃ C, C = commitP base slots F A left last K := ⟨_, rfl⟩
  rw [← hC]
  have hC' := Lib.hid hC.symm
  clear h hA hE hC
  go_enter Try.func18, Try.ntmps18
  go_wp2
  go_loopg [2] F.length (fun gk rv wr => ∃ (F1 K1 : List Rec) (A1 : List ByteArray) (l1 last1 : Int), gk = F1.length ∧ rv = .int .i64 0 ∧ commitP base slots F1 A1 l1 last1 K1 = C ∧ LogAt G wr lb ab base slots last1 K1 F1 ∧ AreaAt wr ab ag A1 l1 ∧ l1 < 1000000 ∧ K1.length + F1.length ≤ 1000 ∧ (∀ r ∈ F1, errR r = 0) ∧ ∃ T, (∀ t ∈ T, t = ab ∨ t = ag ∨ G t) ∧ Fr T w wr)
  case atStart => exact ⟨F, K, A, left, last, rfl, rfl, hC'.out, h'.out, hA'.out, hl, hKF, hE'.out, [], by simp, Fr.refl _ _⟩
  case round =>
    obtain ⟨F1, K1, A1, l1, last1, hgk, rfl, hc1, hl1, ha1, hlb1, hkf1, he1, T1, hT1, hf1⟩ := hrel
    obtain ⟨U, hU⟩ : ∃ U, U = wr := ⟨_, rfl⟩
    rw [← hU] at hl1 ha1 hf1 ⊢
    clear hU
    have hgk' := Lib.hid hgk; have hc1' := Lib.hid hc1; have hl1' := Lib.hid hl1; have ha1' := Lib.hid ha1; have he1' := Lib.hid he1; have hT1' := Lib.hid hT1; have hf1' := Lib.hid hf1
    clear hgk hc1 hl1 ha1 he1 hT1 hf1
    obtain ⟨hBl, vk, vf, q1, q2, qG, q3⟩ := hl1'.out
    have hlab : lb ≠ ab := fun e => hab'.out (e ▸ hBl)
    have hlag : lb ≠ ag := fun e => hag'.out (e ▸ hBl)
    have hBl' := Lib.hid hBl; have qG' := Lib.hid qG
    have hza := ha1'.out.lt
    have hzw := hf1'.out.size
    clear hBl
    obtain ⟨ak, ck, rfl, _, hck, _⟩ := SliceIs.of_owns q2 rfl
    have q1' := Lib.hid q1; have q2' := Lib.hid q2; have q3' := Lib.hid q3
    clear q1 q2 q3 qG
    cases F1 with
    | nil =>
      obtain ⟨af, cf, rfl, hcf, hcfm, _⟩ := q3'.out
      have y5 := (show U.cell? ⟨lb, 5, none⟩ = some (.slice af 0 cf) from cell_at q1'.out)
      have ly := lt_of_block q1'.out
      go_wp2
      go_ret
      rw [← hc1'.out]
      exact ⟨rfl, ⟨T1, hT1'.out, hf1'.out⟩, ha1'.out, hl1'.out⟩
    | cons r F1 =>
      obtain ⟨af, cf, rfl, hcf, hcfm, hat⟩ := q3'.out.at encR_len
      obtain ⟨g, off, rfl, hg1, hg2, hcells⟩ := hat (by simp)
      have her := he1'.out r (by simp)
      have hz := errR_zero her
      have hpl := parts_len her
      have hpar := fun X => parts_any r X
      rw [her] at hpar
      obtain ⟨r1, r2, r3, r4⟩ := r
      have hr1 : 1 ≤ r1 := hz.1
      have hr2 : r1 ≤ 1099511627776 := hz.2.1
      obtain ⟨sq, rfl⟩ := Int.eq_ofNat_of_zero_le (show 0 ≤ r1 by omega)
      have k0 := hcells 0 ((sq : Int), r2, r3, r4) 0 _ rfl rfl
      have k1 := hcells 0 ((sq : Int), r2, r3, r4) 1 _ rfl rfl
      have k2 := hcells 0 ((sq : Int), r2, r3, r4) 2 _ rfl rfl
      have k3 := hcells 0 ((sq : Int), r2, r3, r4) 3 _ rfl rfl
      simp only [Nat.zero_mul, Nat.zero_add, Nat.add_zero] at k0 k1 k2 k3
      unfold aggR at hpar
      dsimp only at hpar
      have y5 := (show U.cell? ⟨lb, 5, none⟩ = some (.slice (some ⟨g, off, none⟩) (F1.length + 1) cf) from cell_at q1'.out)
      have ly := lt_of_block q1'.out
      have hcf2 : F1.length + 1 ≤ cf := by simpa using hcf
      obtain ⟨X, hX⟩ : ∃ X, X = U.alloc (.cells #[.int .i64 sq, .int .i64 r2, .int .i64 r3, .string r4] 23) := ⟨_, rfl⟩
      have hFX : Fr [] U X := by rw [hX]; exact (Fr.refl [] U).alloc _
      have hbx : X.heap[U.heap.size]? = some (.cells #[.int .i64 sq, .int .i64 r2, .int .i64 r3, .string r4] 23 (0, 0)) := by rw [hX]; exact heap_alloc_new U _
      have hX' := Lib.hid hX; have hFX' := Lib.hid hFX; have hbx' := Lib.hid hbx; have hpar' := Lib.hid (hpar X); have her' := Lib.hid her; have hpl' := Lib.hid hpl
      clear hX hFX hbx hpar her hpl hat hcells hz hcf
      go_upto_region 3 with (fail)
      rw [← hX'.out]
      have x0 := (show X.cell? ⟨U.heap.size, 0, none⟩ = some (.int .i64 sq) from cell_at hbx'.out)
      have x1 := (show X.cell? ⟨U.heap.size, 1, none⟩ = some (.int .i64 r2) from cell_at hbx'.out)
      have x2 := (show X.cell? ⟨U.heap.size, 2, none⟩ = some (.int .i64 r3) from cell_at hbx'.out)
      have x3 := (show X.cell? ⟨U.heap.size, 3, none⟩ = some (.string r4) from cell_at hbx'.out)
      have lx := lt_of_block hbx'.out
      obtain ⟨ps, hps⟩ : ∃ ps, ps = partsP ((sq : Int), r2, r3, r4) := ⟨_, rfl⟩
      have hpp := hpar'.out
      have hpl2 := hpl'.out
      rw [← hps] at hpp hpl2
      have hpp' := Lib.hid hpp; have hps' := Lib.hid hps
      clear hpp hps hpar' hpl' k0 k1 k2 k3 y5
      go_wp2_with (first | (go_at_call 9; refine hpp'.out.mono ?_; rintro e w2 ⟨v, rfl, hf2, ho2⟩; obtain ⟨va, vc, rfl, hvc, _, hvat⟩ := (SliceIs.of_owns ho2 rfl).at encS_len; obtain ⟨vg, vo, rfl, hvb, hvl, hvc2⟩ := hvat (by intro h0; rw [h0] at hpl2; simp at hpl2); rw [hpl2]; rw [hpl2] at hvc; have hvc2' := Lib.hid hvc2; have hf2' := Lib.hid hf2; clear hvc2 hf2 ho2 hvat))
      obtain ⟨blk, hblk⟩ : ∃ blk, blk = base + (sq - 1) % slots * 3 := ⟨_, rfl⟩
      have hblk2 : blk + 3 ≤ 256 := by
        have := Nat.mod_lt (sq - 1) (show 0 < slots by omega)
        omega
      have hblk' := Lib.hid hblk
      clear hblk
      obtain ⟨V, hV⟩ : ∃ V, V = w2 := ⟨_, rfl⟩
      rw [← hV] at hvc2' hf2' hvl ⊢
      clear hV
      have hzV := hf2'.out.size
      go_loopg [2, 28] 3 (fun gk rv kv wx => ∃ (k : Nat) (A2 : List ByteArray) (l2 : Int), k ≤ 3 ∧ gk = 3 - k ∧ rv = .int .i64 0 ∧ kv = .int .i64 k ∧ putsP A2 l2 (blk + k) (ps.drop k) = putsP A1 l1 blk ps ∧ AreaAt wx ab ag A2 l2 ∧ l2 < 1000000 ∧ Fr [ab, ag] V wx)
      case atStart => exact ⟨0, A1, l1, by omega, rfl, rfl, rfl, rfl, (ha1'.out.fr hFX'.out (by simp) (by simp)).fr hf2'.out (by simp) (by simp), hlb1, Fr.refl _ _⟩
      case round =>
        obtain ⟨k, A2, l2, hk, hgk2, rfl, rfl, hput, ha2, hlb2, hf3⟩ := hrel
        have hgk2' := Lib.hid hgk2; have hput' := Lib.hid hput; have ha2' := Lib.hid ha2; have hf3' := Lib.hid hf3
        have hz3 := hf3.size
        clear hgk2 hput ha2 hf3
        by_cases hk3 : k < 3
        · have hx : ps[k]? = some (ps[k]'(by omega)) := List.getElem?_eq_getElem (by omega)
          obtain ⟨x, hxe⟩ : ∃ x, x = ps[k]'(by omega) := ⟨_, rfl⟩
          rw [← hxe] at hx
          have hdk : ps.drop k = x :: ps.drop (k + 1) := by rw [List.drop_eq_getElem_cons (by omega), hxe]
          have m0 := hvc2'.out k x 0 _ hx rfl
          simp only [Nat.mul_one, Nat.add_zero] at m0
          have hap1 : vg ≠ ab := by omega
          have hap2 : vg ≠ ag := by omega
          have m1 := (hf3'.out.cell (p := ⟨vg, vo + k, none⟩) hvl (by simp [hap1, hap2])).trans m0
          have hlog := (((hFX'.out.trans hf2'.out).mono (by simp)).trans hf3'.out).keep q1'.out (show lb ∉ [ab, ag] by simp; omega)
          have hboxw := (((hf2'.out).mono (by simp)).trans hf3'.out).keep hbx'.out (show U.heap.size ∉ [ab, ag] by simp; omega)
          have l0 := (show wr.cell? ⟨lb, 0, none⟩ = some (.iface 39 (.pointer (some ⟨ab, 0, none⟩))) from cell_at hlog)
          have b0 := (show wr.cell? ⟨U.heap.size, 0, none⟩ = some (.int .i64 sq) from cell_at hboxw)
          have ll := lt_of_block hlog
          have lb0 := lt_of_block hboxw
          have hlog' := Lib.hid hlog; have hdk' := Lib.hid hdk
          clear hlog hboxw m0 hxe hx hdk
          have hmp := fun X => meth_put ab X
          have hblkv : ((base + (sq - 1) % slots * 3 : Nat) : Int) = (blk : Int) := by rw [hblk'.out]
          have hblkv' := Lib.hid hblkv
          clear hblkv
          go_upto_region 7 with (fail)
          obtain ⟨Z, hZ⟩ : ∃ Z, Z = wr := ⟨_, rfl⟩
          rw [← hZ] at l0 b0 ll lb0 hlog' hz3 ha2' hf3' m1 ⊢
          clear hZ
          refine wp_region_rel 13 (fun w w' => Fr [] w w') (by kernel_rfl) (by kernel_rfl) (by kernel_rfl) (fun h k => h.trans k) (Fr.refl [] _).drew ?_
          simp only [List.take_succ_cons, List.take_zero, List.drop_succ_cons, List.drop_zero]
          iterate 7
            apply RelW.still
            · intro s' W hX
              have j0 := hX.at0 l0
              have j1 := hX.at0 b0
              have jl := hX.size
              go_wp2
              refine ⟨rfl, rfl, Fr.refl _ _, ?_⟩
              simp only [slotOf, List.getElem?_toArray, List.getElem?_cons_succ, List.getElem?_cons_zero, Option.getD_some]
              rfl
            · intro s'
              simp only [Act.put, List.setIfInBounds_toArray, List.set_cons_succ, List.set_cons_zero]
              rfl
          apply RelW.still (.int .i64 (blk : Int))
          · intro s' W hX
            have hbc := block_any base slots (hX.keep hlog'.out (by simp)) sq (by omega) (by omega) h0 hs (by omega)
            rw [hblkv'.out] at hbc
            have hbc' := Lib.hid hbc
            clear hbc
            go_wp2_with (first | (go_at_call 42; refine hbc'.out.mono ?_; rintro e w9 ⟨rfl, hf9⟩))
            refine ⟨rfl, rfl, hf9, ?_⟩
            simp only [slotOf, List.getElem?_toArray, List.getElem?_cons_succ, List.getElem?_cons_zero, Option.getD_some]
          · intro s'
            simp only [Act.put, List.setIfInBounds_toArray, List.set_cons_succ, List.set_cons_zero]
            rfl
          iterate 5
            apply RelW.still
            · intro s' W hX
              have j0 := hX.at0 l0
              have j1 := hX.at0 b0
              have jl := hX.size
              go_wp2
              refine ⟨rfl, rfl, Fr.refl _ _, ?_⟩
              simp only [slotOf, List.getElem?_toArray, List.getElem?_cons_succ, List.getElem?_cons_zero, Option.getD_some]
              rfl
            · intro s'
              simp only [Act.put, List.setIfInBounds_toArray, List.set_cons_succ, List.set_cons_zero]
              rfl
          intro s' W hX _
          have hap := aput_any (ha2'.out.fr hX (by simp) (by simp)) (blk + k) (by omega) x hlb2
          rw [show ((blk + k : Nat) : Int) = (blk : Int) + (k : Int) from by omega] at hap
          have hX' := Lib.hid hX
          have hWs := hX.size
          clear hX
          by_cases hz0 : l2 = 0
          · subst hz0
            rw [putP_none] at hap
            dsimp only at hap
            have hap' := Lib.hid hap
            clear hap
            go_wp2_with (first | (go_at_call 47; refine hap'.out.mono ?_; rintro e w10 ⟨rfl, hf10, ha10, hs10⟩))
            go_ret
            have hps1 : putsP A1 l1 blk ps = (211, A2, 0) := by
              rw [← hput'.out, hdk'.out]
              unfold putsP
              rw [putP_none]
              simp
            have hCC : C = (211, A2, 0, last1, K1, ((sq : Int), r2, r3, r4) :: F1) := by
              rw [← hc1'.out]
              unfold commitP
              dsimp only
              rw [show ((sq : Int)).toNat = sq from rfl, ← hblk'.out, ← hps'.out, hps1]
              simp
            rw [hCC]
            have hFt : Fr [ab, ag] U w10 := (((hFX'.out.trans hf2'.out).mono (by simp)).trans hf3'.out).trans ((hX'.out.mono (by simp)).trans hf10)
            refine ⟨rfl, ⟨T1 ++ [ab, ag], fun t ht => ?_, (hf1'.out.mono (fun t ht => by simp [ht])).trans (hFt.mono (by simp))⟩, ha10, hl1'.out.fr hFt (fun t ht => by
              simp only [List.mem_cons, List.not_mem_nil, or_false] at ht
              rcases ht with rfl | rfl
              · exact hab'.out
              · exact hag'.out)⟩
            rcases List.mem_append.1 ht with ht | ht
            · exact hT1'.out t ht
            · simp only [List.mem_cons, List.not_mem_nil, or_false] at ht
              rcases ht with h | h
              · exact .inl h
              · exact .inr (.inl h)
          · have hpp3 := @putP_zero A2 l2 (blk + k) x hz0
            obtain ⟨l3, hl3⟩ : ∃ l3, l3 = if 0 < l2 then l2 - 1 else l2 := ⟨_, rfl⟩
            have hl3b : l3 < 1000000 := by rw [hl3]; split <;> omega
            obtain ⟨A3, hA3⟩ : ∃ A3, A3 = A2.set (blk + k) x := ⟨_, rfl⟩
            rw [← hl3, ← hA3] at hpp3
            rw [hpp3] at hap
            dsimp only at hap
            have hap' := Lib.hid hap; have hpp3' := Lib.hid hpp3
            clear hap hpp3 hl3 hA3 hz0
            go_wp2_with (first | (go_at_call 47; refine hap'.out.mono ?_; rintro e w10 ⟨rfl, hf10, ha10, hs10⟩))
            go_roundg (3 - (k + 1))
            case rel =>
              refine ⟨k + 1, A3, l3, by omega, rfl, rfl, by go_num, ?_, ha10, hl3b, hf3'.out.trans ((hX'.out.mono (by simp)).trans hf10)⟩
              rw [← hput'.out, hdk'.out]
              conv => rhs; unfold putsP
              rw [hpp3'.out]
              simp [Nat.add_assoc]
            case measure => rw [hgk2'.out]; omega
        · have hke : k = 3 := by omega
          subst hke
          have hlog := (((hFX'.out.trans hf2'.out).mono (by simp)).trans hf3'.out).keep q1'.out (show lb ∉ [ab, ag] by simp; omega)
          have hboxw := (((hf2'.out).mono (by simp)).trans hf3'.out).keep hbx'.out (show U.heap.size ∉ [ab, ag] by simp; omega)
          have hps1 : putsP A1 l1 blk ps = (0, A2, l2) := by
            rw [← hput'.out, List.drop_of_length_le (by omega)]
            rfl
          have hCC : commitP base slots F1 A2 l2 sq (K1 ++ [((sq : Int), r2, r3, r4)]) = C := by
            rw [← hc1'.out]
            conv => rhs; unfold commitP
            dsimp only
            rw [show ((sq : Int)).toNat = sq from rfl, ← hblk'.out, ← hps'.out, hps1]
            simp
          have hCC' := Lib.hid hCC
          clear hps1 hCC
          go_upto_region 11 with (fail)
          obtain ⟨Y, hY⟩ : ∃ Y, Y = wr := ⟨_, rfl⟩
          rw [← hY] at hlog hboxw hz3 ha2' hf3' ⊢
          clear hY
          have q4 := (show Y.cell? ⟨lb, 4, none⟩ = some (.slice ak K1.length ck) from cell_at hlog)
          have q5 := (show Y.cell? ⟨lb, 5, none⟩ = some (.slice (some ⟨g, off, none⟩) (F1.length + 1) cf) from cell_at hlog)
          have p0 := (show Y.cell? ⟨U.heap.size, 0, none⟩ = some (.int .i64 sq) from cell_at hboxw)
          have p1 := (show Y.cell? ⟨U.heap.size, 1, none⟩ = some (.int .i64 r2) from cell_at hboxw)
          have p2 := (show Y.cell? ⟨U.heap.size, 2, none⟩ = some (.int .i64 r3) from cell_at hboxw)
          have p3 := (show Y.cell? ⟨U.heap.size, 3, none⟩ = some (.string r4) from cell_at hboxw)
          have hUY : Fr [ab, ag] U Y := ((hFX'.out.trans hf2'.out).mono (by simp)).trans hf3'.out
          have hoY := owns_fr2 q2'.out hUY (fun g' hg' hm => by
            simp only [List.mem_cons, List.not_mem_nil, or_false] at hm
            rcases hm with rfl | rfl
            · exact hab'.out (qG'.out _ hg')
            · exact hag'.out (qG'.out _ hg'))
          have hob := hoY.lt
          have lq := lt_of_cell q4
          have lp := lt_of_cell p0
          have hapb : U.heap.size ∉ (Value.slice ak K1.length ck).ownBlock.toList := fun hm => by
            have := (q2'.out.lt U.heap.size (by simpa using hm)).2
            omega
          have hapl : lb ∉ (Value.slice ak K1.length ck).ownBlock.toList := owns_apart1 q2'.out q1'.out (by decide)
          have hlog' := Lib.hid hlog; have hboxw' := Lib.hid hboxw; have hUY' := Lib.hid hUY; have hoY' := Lib.hid hoY; have hapl' := Lib.hid hapl; have hapb' := Lib.hid hapb
          clear hlog hboxw hUY hoY hapl hapb
          have h1F : (1 : Int) ≤ (F1.length : Int) + 1 := by omega
          have hUl : U.heap.size ≠ lb := by omega
          have hapb2 : U.heap.size ∉ lb :: (Value.slice ak K1.length ck).ownBlock.toList := by
            intro hm
            rcases List.mem_cons.1 hm with h | h
            · exact hUl h
            · exact hapb'.out h
          refine wp_region_relX [19, 22, 25] [0, 1, 2, 3, 4, 5, 10, 11, 12, 13, 14, 16, 17, 18, 20, 21, 23, 24] (fun V => Fr (lb :: (Value.slice ak K1.length ck).ownBlock.toList) Y V) (fun w w' => Fr (Value.slice ak K1.length ck).ownBlock.toList w w' ∧ (w.ownsRow 0 23 4 (Value.slice ak K1.length ck) K1.length (K1.flatMap encR) → w'.ownsRow 0 23 4 (Value.slice ak K1.length ck) K1.length (K1.flatMap encR)) ∧ ∀ v', w.ownsRow 0 23 4 v' (K1.length + 1) ((K1 ++ [((sq : Int), r2, r3, r4)]).flatMap encR) → w'.ownsRow 0 23 4 v' (K1.length + 1) ((K1 ++ [((sq : Int), r2, r3, r4)]).flatMap encR)) (by kernel_rfl) (by kernel_rfl) (by kernel_rfl) (fun h k => ⟨h.1.trans k.1, fun x => k.2.1 (h.2.1 x), fun v x => k.2.2 v (h.2.2 v x)⟩) ⟨(Fr.refl _ _).drew, fun h => owns_fr2 h (Fr.refl [] Y).drew (by simp), fun _ h => owns_fr2 h (Fr.refl [] Y).drew (by simp)⟩ (fun V hV => hV.1.mono (fun t ht => List.mem_cons_of_mem _ ht)) ?_
          dsimp only [List.filterMap_cons, List.filterMap_nil, List.getElem?_cons_succ, List.getElem?_cons_zero]
          apply RelX.idle
          · rfl
          · intro s' W hT
            go_wp2
            refine ⟨rfl, rfl, rfl, ?_⟩
            simp only [slotOf, List.getElem?_toArray, List.getElem?_cons_succ, List.getElem?_cons_zero, Option.getD_some]
            rfl
          · intro s'
            simp only [Act.put, List.setIfInBounds_toArray, List.set_cons_succ, List.set_cons_zero]
            rfl
          apply RelX.idle
          · rfl
          · intro s' W hT
            go_wp2
            refine ⟨rfl, rfl, rfl, ?_⟩
            simp only [slotOf, List.getElem?_toArray, List.getElem?_cons_succ, List.getElem?_cons_zero, Option.getD_some]
            rfl
          · intro s'
            simp only [Act.put, List.setIfInBounds_toArray, List.set_cons_succ, List.set_cons_zero]
            rfl
          apply RelX.idle
          · rfl
          · intro s' W hT
            go_wp2
            refine ⟨rfl, rfl, rfl, ?_⟩
            simp only [slotOf, List.getElem?_toArray, List.getElem?_cons_succ, List.getElem?_cons_zero, Option.getD_some]
            rfl
          · intro s'
            simp only [Act.put, List.setIfInBounds_toArray, List.set_cons_succ, List.set_cons_zero]
            rfl
          apply RelX.idle
          · rfl
          · intro s' W hT
            go_wp2
            refine ⟨rfl, rfl, rfl, ?_⟩
            simp only [slotOf, List.getElem?_toArray, List.getElem?_cons_succ, List.getElem?_cons_zero, Option.getD_some]
            rfl
          · intro s'
            simp only [Act.put, List.setIfInBounds_toArray, List.set_cons_succ, List.set_cons_zero]
            rfl
          apply RelX.idle
          · rfl
          · intro s' W hT
            go_wp2
            refine ⟨rfl, rfl, rfl, ?_⟩
            simp only [slotOf, List.getElem?_toArray, List.getElem?_cons_succ, List.getElem?_cons_zero, Option.getD_some]
            rfl
          · intro s'
            simp only [Act.put, List.setIfInBounds_toArray, List.set_cons_succ, List.set_cons_zero]
            rfl
          apply RelX.idle
          · rfl
          · intro s' W hT
            go_wp2
            refine ⟨rfl, rfl, rfl, ?_⟩
            simp only [slotOf, List.getElem?_toArray, List.getElem?_cons_succ, List.getElem?_cons_zero, Option.getD_some]
            rfl
          · intro s'
            simp only [Act.put, List.setIfInBounds_toArray, List.set_cons_succ, List.set_cons_zero]
            rfl
          apply RelX.still
          · rfl
          · intro s' W hX
            have hbW := hX.1.keep hboxw'.out hapb'.out
            have hlW := hX.1.keep hlog'.out hapl'.out
            have j0 := (show W.cell? ⟨U.heap.size, 0, none⟩ = some (.int .i64 sq) from cell_at hbW)
            have j1 := (show W.cell? ⟨U.heap.size, 1, none⟩ = some (.int .i64 r2) from cell_at hbW)
            have j2 := (show W.cell? ⟨U.heap.size, 2, none⟩ = some (.int .i64 r3) from cell_at hbW)
            have j3 := (show W.cell? ⟨U.heap.size, 3, none⟩ = some (.string r4) from cell_at hbW)
            have j4 := (show W.cell? ⟨lb, 4, none⟩ = some (.slice ak K1.length ck) from cell_at hlW)
            have j5 := (show W.cell? ⟨lb, 5, none⟩ = some (.slice (some ⟨g, off, none⟩) (F1.length + 1) cf) from cell_at hlW)
            have jl := hX.1.size
            clear hbW hlW
            go_wp2
            refine ⟨rfl, rfl, ⟨Fr.refl _ _, fun h => h, fun _ h => h⟩, ?_⟩
            simp only [slotOf, List.getElem?_toArray, List.getElem?_cons_succ, List.getElem?_cons_zero, Option.getD_some]
            rfl
          · intro s'
            simp only [Act.put, List.setIfInBounds_toArray, List.set_cons_succ, List.set_cons_zero]
            rfl
          apply RelX.still
          · rfl
          · intro s' W hX
            have hbW := hX.1.keep hboxw'.out hapb'.out
            have hlW := hX.1.keep hlog'.out hapl'.out
            have j0 := (show W.cell? ⟨U.heap.size, 0, none⟩ = some (.int .i64 sq) from cell_at hbW)
            have j1 := (show W.cell? ⟨U.heap.size, 1, none⟩ = some (.int .i64 r2) from cell_at hbW)
            have j2 := (show W.cell? ⟨U.heap.size, 2, none⟩ = some (.int .i64 r3) from cell_at hbW)
            have j3 := (show W.cell? ⟨U.heap.size, 3, none⟩ = some (.string r4) from cell_at hbW)
            have j4 := (show W.cell? ⟨lb, 4, none⟩ = some (.slice ak K1.length ck) from cell_at hlW)
            have j5 := (show W.cell? ⟨lb, 5, none⟩ = some (.slice (some ⟨g, off, none⟩) (F1.length + 1) cf) from cell_at hlW)
            have jl := hX.1.size
            clear hbW hlW
            go_wp2
            refine ⟨rfl, rfl, ⟨Fr.refl _ _, fun h => h, fun _ h => h⟩, ?_⟩
            simp only [slotOf, List.getElem?_toArray, List.getElem?_cons_succ, List.getElem?_cons_zero, Option.getD_some]
            rfl
          · intro s'
            simp only [Act.put, List.setIfInBounds_toArray, List.set_cons_succ, List.set_cons_zero]
            rfl
          apply RelX.owes (fun v V => ∃ g, v = .slice (some ⟨g, 0, none⟩) 1 1 ∧ (g ∉ (Value.slice ak K1.length ck).ownBlock.toList) ∧ V.heap[g]? = some (.cells #[.int .i64 sq, .int .i64 r2, .int .i64 r3, .string r4] 23 (0, 0)))
          · rfl
          · rintro v u u' hf ⟨g, rfl, hgz, hg⟩
            exact ⟨g, rfl, hgz, hf.1.keep hg hgz⟩
          · intro s' W hX hd
            clear hd
            have hWz := hX.1.size
            have hWb : W.heap.size ∉ (Value.slice ak K1.length ck).ownBlock.toList := fun hm => by
              have := (hob W.heap.size (by simpa using hm)).2
              omega
            have hWb' := Lib.hid hWb
            clear hWb
            go_wp2
            refine ⟨rfl, rfl, ⟨((Fr.refl [] W).alloc _).mono (by simp), fun h => owns_fr2 h ((Fr.refl [] W).alloc _) (by simp), fun _ h => owns_fr2 h ((Fr.refl [] W).alloc _) (by simp)⟩, ?_⟩
            simp only [slotOf, List.getElem?_toArray, List.getElem?_cons_succ, List.getElem?_cons_zero, Option.getD_some]
            exact ⟨_, rfl, hWb'.out, heap_alloc_new W _⟩
          · intro s'
            simp only [Act.put, List.setIfInBounds_toArray, List.set_cons_succ, List.set_cons_zero, Nat.zero_add, Nat.reduceAdd]
            rfl
          apply RelX.owes (fun v V => ∃ g cap, v = .slice (some ⟨g, 0, none⟩) (K1.length + 1) cap ∧ ((Value.slice ak K1.length ck).ownBlock = some g ∨ Y.heap.size ≤ g) ∧ V.ownsRow 0 23 4 v (K1.length + 1) ((K1 ++ [((sq : Int), r2, r3, r4)]).flatMap encR))
          · rfl
          · rintro v u u' hf ⟨g, cap, rfl, hgo, hg⟩
            exact ⟨g, cap, rfl, hgo, hf.2.2 _ hg⟩
          · intro s' W hX hd
            simp [depPhi, Region.binds] at hd
            have hVs := hX.1.size
            have hoW' := Lib.hid (hX.2.1 hoY'.out)
            obtain ⟨-, g8, hg1, hgn, hg2⟩ := hd
            have hg2' := Lib.hid hg2
            clear hg2 hgn hX
            generalize s' 8 = v8 at hg1 ⊢
            subst hg1
            go_wp2_with (first | (at_builtin; refine wpList_push_keep W rfl _ _ 55 rfl 0 23 Try.underlying55 infoR rfl (by omega) (.slice ak K1.length ck) K1 rfl hoW'.out ((sq : Int), r2, r3, r4) g8 rfl hg2'.out rfl encR_len (one_encR _) (by omega) (by omega) (by omega) ?_; intro g9 c9 w9 ho9 hf9 hk9 hp9 hat9; have hat9' := Lib.hid hat9; clear hat9; have ho9' := Lib.hid ho9; have hf9' := Lib.hid hf9; have hk9' := Lib.hid hk9; have hp9' := Lib.hid hp9; clear ho9 hf9 hk9 hp9))
            refine ⟨rfl, rfl, ⟨hf9'.out, fun _ => hk9'.out, fun v h => by
              have := hp9'.out v (by simpa using h)
              simpa using this⟩, ?_⟩
            simp only [slotOf, List.getElem?_toArray, List.getElem?_cons_succ, List.getElem?_cons_zero, Option.getD_some]
            exact ⟨_, ⟨_, rfl⟩, hat9'.out.imp (fun h => h) (fun h => by omega), by
              have := ho9'.out
              simpa using this⟩
          · intro s'
            simp only [Act.put, List.setIfInBounds_toArray, List.set_cons_succ, List.set_cons_zero, Nat.zero_add, Nat.reduceAdd]
            rfl
          apply RelX.idle
          · rfl
          · intro s' W hT
            go_wp2
            refine ⟨rfl, rfl, rfl, ?_⟩
            simp only [slotOf, List.getElem?_toArray, List.getElem?_cons_succ, List.getElem?_cons_zero, Option.getD_some]
            rfl
          · intro s'
            simp only [Act.put, List.setIfInBounds_toArray, List.set_cons_succ, List.set_cons_zero]
            rfl
          apply RelX.idle
          · rfl
          · intro s' W hT
            have hbW := hT.keep hboxw'.out hapb2
            have j0 := (show W.cell? ⟨U.heap.size, 0, none⟩ = some (.int .i64 sq) from cell_at hbW)
            have jl := hT.size
            clear hbW
            go_wp2
            refine ⟨rfl, rfl, rfl, ?_⟩
            simp only [slotOf, List.getElem?_toArray, List.getElem?_cons_succ, List.getElem?_cons_zero, Option.getD_some]
            rfl
          · intro s'
            simp only [Act.put, List.setIfInBounds_toArray, List.set_cons_succ, List.set_cons_zero]
            rfl
          apply RelX.idle
          · rfl
          · intro s' W hT
            go_wp2
            refine ⟨rfl, rfl, rfl, ?_⟩
            simp only [slotOf, List.getElem?_toArray, List.getElem?_cons_succ, List.getElem?_cons_zero, Option.getD_some]
            rfl
          · intro s'
            simp only [Act.put, List.setIfInBounds_toArray, List.set_cons_succ, List.set_cons_zero]
            rfl
          apply RelX.idle
          · rfl
          · intro s' W hT
            go_wp2
            refine ⟨rfl, rfl, rfl, ?_⟩
            simp only [slotOf, List.getElem?_toArray, List.getElem?_cons_succ, List.getElem?_cons_zero, Option.getD_some]
            rfl
          · intro s'
            simp only [Act.put, List.setIfInBounds_toArray, List.set_cons_succ, List.set_cons_zero]
            rfl
          apply RelX.idle
          · rfl
          · intro s' W hT
            go_wp2
            refine ⟨rfl, rfl, rfl, ?_⟩
            simp only [slotOf, List.getElem?_toArray, List.getElem?_cons_succ, List.getElem?_cons_zero, Option.getD_some]
            rfl
          · intro s'
            simp only [Act.put, List.setIfInBounds_toArray, List.set_cons_succ, List.set_cons_zero]
            rfl
          apply RelX.still
          · rfl
          · intro s' W hX
            have hbW := hX.1.keep hboxw'.out hapb'.out
            have hlW := hX.1.keep hlog'.out hapl'.out
            have j0 := (show W.cell? ⟨U.heap.size, 0, none⟩ = some (.int .i64 sq) from cell_at hbW)
            have j1 := (show W.cell? ⟨U.heap.size, 1, none⟩ = some (.int .i64 r2) from cell_at hbW)
            have j2 := (show W.cell? ⟨U.heap.size, 2, none⟩ = some (.int .i64 r3) from cell_at hbW)
            have j3 := (show W.cell? ⟨U.heap.size, 3, none⟩ = some (.string r4) from cell_at hbW)
            have j4 := (show W.cell? ⟨lb, 4, none⟩ = some (.slice ak K1.length ck) from cell_at hlW)
            have j5 := (show W.cell? ⟨lb, 5, none⟩ = some (.slice (some ⟨g, off, none⟩) (F1.length + 1) cf) from cell_at hlW)
            have jl := hX.1.size
            clear hbW hlW
            go_wp2
            refine ⟨rfl, rfl, ⟨Fr.refl _ _, fun h => h, fun _ h => h⟩, ?_⟩
            simp only [slotOf, List.getElem?_toArray, List.getElem?_cons_succ, List.getElem?_cons_zero, Option.getD_some]
            rfl
          · intro s'
            simp only [Act.put, List.setIfInBounds_toArray, List.set_cons_succ, List.set_cons_zero]
            rfl
          obtain ⟨fa, hfa⟩ : ∃ fa : Option Addr, fa = if cf = 1 then some ⟨g, off, none⟩ else some ⟨g, off + 4, none⟩ := ⟨_, rfl⟩
          have hfa' := Lib.hid hfa
          clear hfa
          apply RelX.idle (.slice fa F1.length (cf - 1))
          · rfl
          · intro s' W hT
            go_wp2
            all_goals
              refine ⟨rfl, rfl, rfl, ?_⟩
              rw [hfa'.out]
              simp only [slotOf, List.getElem?_toArray, List.getElem?_cons_succ, List.getElem?_cons_zero, Option.getD_some]
              first | (simp; done) | (simp; assumption) | (simp; omega)
          · intro s'
            simp only [Act.put, List.setIfInBounds_toArray, List.set_cons_succ, List.set_cons_zero]
            rfl
          apply RelX.idle
          · rfl
          · intro s' W hT
            go_wp2
            refine ⟨rfl, rfl, rfl, ?_⟩
            simp only [slotOf, List.getElem?_toArray, List.getElem?_cons_succ, List.getElem?_cons_zero, Option.getD_some]
            rfl
          · intro s'
            simp only [Act.put, List.setIfInBounds_toArray, List.set_cons_succ, List.set_cons_zero]
            rfl
          apply RelX.idle
          · rfl
          · intro s' W hT
            go_wp2
            refine ⟨rfl, rfl, rfl, ?_⟩
            simp only [slotOf, List.getElem?_toArray, List.getElem?_cons_succ, List.getElem?_cons_zero, Option.getD_some]
            rfl
          · intro s'
            simp only [Act.put, List.setIfInBounds_toArray, List.set_cons_succ, List.set_cons_zero]
            rfl
          apply RelX.store rfl rfl
          apply RelX.idle
          · rfl
          · intro s' W hT
            go_wp2
            refine ⟨rfl, rfl, rfl, ?_⟩
            simp only [slotOf, List.getElem?_toArray, List.getElem?_cons_succ, List.getElem?_cons_zero, Option.getD_some]
            rfl
          · intro s'
            simp only [Act.put, List.setIfInBounds_toArray, List.set_cons_succ, List.set_cons_zero]
            rfl
          apply RelX.idle
          · rfl
          · intro s' W hT
            go_wp2
            refine ⟨rfl, rfl, rfl, ?_⟩
            simp only [slotOf, List.getElem?_toArray, List.getElem?_cons_succ, List.getElem?_cons_zero, Option.getD_some]
            rfl
          · intro s'
            simp only [Act.put, List.setIfInBounds_toArray, List.set_cons_succ, List.set_cons_zero]
            rfl
          apply RelX.store rfl rfl
          apply RelX.idle
          · rfl
          · intro s' W hT
            go_wp2
            refine ⟨rfl, rfl, rfl, ?_⟩
            simp only [slotOf, List.getElem?_toArray, List.getElem?_cons_succ, List.getElem?_cons_zero, Option.getD_some]
            rfl
          · intro s'
            simp only [Act.put, List.setIfInBounds_toArray, List.set_cons_succ, List.set_cons_zero]
            rfl
          apply RelX.idle
          · rfl
          · intro s' W hT
            go_wp2
            refine ⟨rfl, rfl, rfl, ?_⟩
            simp only [slotOf, List.getElem?_toArray, List.getElem?_cons_succ, List.getElem?_cons_zero, Option.getD_some]
            rfl
          · intro s'
            simp only [Act.put, List.setIfInBounds_toArray, List.set_cons_succ, List.set_cons_zero]
            rfl
          apply RelX.store rfl rfl
          intro s' W hX hall
          dsimp only
          simp only [List.nil_append, List.cons_append, allPhi, Nat.zero_add, Nat.reduceAdd] at hall
          obtain ⟨-, -, -, -, -, -, -, -, -, ⟨g9, c9, hv9, hgo9, ho9⟩, -⟩ := hall
          generalize s' 9 = v9 at hv9 ho9 ⊢
          subst hv9
          have hlW := hX.1.keep hlog'.out hapl'.out
          have hYW := hX.1.size
          have j3 := (show W.cell? ⟨lb, 3, none⟩ = some (.int .i64 last1) from cell_at hlW)
          have j4 := (show W.cell? ⟨lb, 4, none⟩ = some (.slice ak K1.length ck) from cell_at hlW)
          have j5 := (show W.cell? ⟨lb, 5, none⟩ = some (.slice (some ⟨g, off, none⟩) (F1.length + 1) cf) from cell_at hlW)
          have n3 := (show W.frozen? ⟨lb, 3, none⟩ = false from frozen_at hlW)
          have n4 := (show W.frozen? ⟨lb, 4, none⟩ = false from frozen_at hlW)
          have n5 := (show W.frozen? ⟨lb, 5, none⟩ = false from frozen_at hlW)
          have hlW' := Lib.hid hlW; have hXf := Lib.hid hX.1; have ho9' := Lib.hid ho9; have hgo9' := Lib.hid hgo9
          clear hlW hX ho9 hgo9
          refine tailX_cons ?_
          go_wp2
          have t1 : Fr (lb :: (Value.slice ak K1.length ck).ownBlock.toList) Y (W.setCell ⟨lb, 4, none⟩ (.slice (some ⟨g9, 0, none⟩) (K1.length + 1) c9)) := (hXf.out.mono (fun t ht => List.mem_cons_of_mem _ ht)).setCell _ _ (.inl (by simp))
          first | refine ⟨rfl, rfl, t1, ?_⟩ | refine ⟨t1, ?_⟩
          refine tailX_cons ?_
          go_wp2
          have t2 := t1.setCell ⟨lb, 3, none⟩ (.int .i64 sq) (.inl (by simp))
          first | refine ⟨rfl, rfl, t2, ?_⟩ | refine ⟨t2, ?_⟩
          refine tailX_cons ?_
          go_wp2
          have t3 := t2.setCell ⟨lb, 5, none⟩ (.slice fa F1.length (cf - 1)) (.inl (by simp))
          first | refine ⟨rfl, rfl, t3, ?_⟩ | refine ⟨t3, ?_⟩
          refine tailX_nil ?_
          go_wp2
          obtain ⟨W3, hW3⟩ : ∃ W3, W3 = ((W.setCell ⟨lb, 4, none⟩ (.slice (some ⟨g9, 0, none⟩) (K1.length + 1) c9)).setCell ⟨lb, 3, none⟩ (.int .i64 sq)).setCell ⟨lb, 5, none⟩ (.slice fa F1.length (cf - 1)) := ⟨_, rfl⟩
          rw [← hW3] at t3 ⊢
          have hl3 : W3.heap[lb]? = some (.cells #[areaV ab, .int .i64 base, .int .i64 slots, .int .i64 sq, .slice (some ⟨g9, 0, none⟩) (K1.length + 1) c9, .slice fa F1.length (cf - 1)] 90 (0, 0)) := by
            rw [hW3, setCell_at (setCell_at (setCell_at hlW'.out _) _) _]
            rfl
          have f3 : Fr [lb] W W3 := by
            rw [hW3]
            exact (((Fr.refl [lb] W).setCell _ _ (.inl (by simp))).setCell _ _ (.inl (by simp))).setCell _ _ (.inl (by simp))
          have hblk9 : ∀ t ∈ (Value.slice ak K1.length ck).ownBlock.toList, G t ∧ t < U.heap.size := fun t ht => ⟨qG'.out t (by simpa using ht), (q2'.out.lt t (by simpa using ht)).2⟩
          have ho3 := owns_fr2 ho9'.out f3 (fun g' h1 h2 => by
            have e1 : g' = lb := by simpa using h2
            refine owns_apart1 ho9'.out hlW'.out (by decide) ?_
            rw [h1, e1]; simp)
          have hFt : Fr (ab :: ag :: lb :: (Value.slice ak K1.length ck).ownBlock.toList) U W3 := (hUY'.out.mono (fun t ht => by
            have : t = ab ∨ t = ag := by simpa using ht
            rcases this with rfl | rfl <;> simp)).trans (t3.mono (fun t ht => List.mem_cons_of_mem _ (List.mem_cons_of_mem _ ht)))
          have hfr := (q3'.out.drop encR_len 1 (by simp)).fr hFt (fun g' h1 h2 hm => by
            simp only [List.mem_cons] at hm
            rcases hm with h | h | h | h
            · exact hab'.out (h ▸ h1.1)
            · exact hag'.out (h ▸ h1.1)
            · exact h1.2.1 h
            · exact h1.2.2 (by simpa using h))
          have hdr : SliceIs W3 (fun g' => G g' ∧ g' ≠ lb ∧ (Value.slice (some ⟨g9, 0, none⟩) (K1.length + 1) c9).ownBlock ≠ some g') encR (.slice fa F1.length (cf - 1)) F1 := by
            have hfr2 := ((q3'.out.imp (B' := fun g' => (G g' ∧ g' ≠ lb ∧ (Value.slice ak K1.length ck).ownBlock ≠ some g') ∧ g' < U.heap.size) (fun g' hg hB => ⟨hB, hg⟩)).drop encR_len 1 (by simp)).fr hFt (fun g' h1 h2 hm => by
              simp only [List.mem_cons] at hm
              rcases hm with h | h | h | h
              · exact hab'.out (h ▸ h1.1.1)
              · exact hag'.out (h ▸ h1.1.1)
              · exact h1.1.2.1 h
              · exact h1.1.2.2 (by simpa using h))
            have hfe : (if cf = 1 then (some ⟨g, off, none⟩ : Option Addr) else (some ⟨g, off, none⟩ : Option Addr).map (·.add (1 * 4))) = fa := by
              rw [hfa'.out]
              split
              · rfl
              · simp [Addr.add]
            rw [hfe] at hfr2
            exact hfr2.imp (fun g' _ h1 => ⟨h1.1.1, h1.1.2.1, fun e => by
              have e1 : g9 = g' := by simpa [Value.ownBlock] using e
              rcases hgo9'.out with h | h
              · exact h1.1.2.2 (by rw [h, e1])
              · have := h1.2
                omega⟩)
          have harea := ha2'.out.fr t3 (by
            intro hm
            rcases List.mem_cons.1 hm with h | h
            · exact hlab h.symm
            · exact hab'.out (hblk9 _ h).1) (by
            intro hm
            rcases List.mem_cons.1 hm with h | h
            · exact hlag h.symm
            · exact hag'.out (hblk9 _ h).1)
          have hkl : (K1 ++ [((sq : Int), r2, r3, r4)]).length = K1.length + 1 := by simp
          go_roundg F1.length
          case rel =>
            refine ⟨F1, K1 ++ [((sq : Int), r2, r3, r4)], A2, l2, sq, rfl, rfl, hCC'.out, ⟨hBl'.out, _, _, hl3, by rw [hkl]; exact ho3, fun g' hg' => by
                have e1 : g9 = g' := by simpa [Value.ownBlock] using hg'
                rcases hgo9'.out with h | h
                · exact qG'.out _ (h.trans (congrArg some e1))
                · exact hn'.out _ (by omega), hdr⟩, harea, hlb2, ?_, fun r hr => he1'.out r (List.mem_cons_of_mem _ hr), T1 ++ (ab :: ag :: lb :: (Value.slice ak K1.length ck).ownBlock.toList), ?_, (hf1'.out.mono (fun t ht => List.mem_append_left _ ht)).trans (hFt.mono (fun t ht => List.mem_append_right _ ht))⟩
            · rw [hkl]
              have : (((sq : Int), r2, r3, r4) :: F1).length = F1.length + 1 := rfl
              omega
            · intro t ht
              rcases List.mem_append.1 ht with ht | ht
              · exact hT1'.out t ht
              · simp only [List.mem_cons] at ht
                rcases ht with h | h | h | h
                · exact .inl h
                · exact .inr (.inl h)
                · exact .inr (.inr (h ▸ hBl'.out))
                · exact .inr (.inr (hblk9 t h).1)
          case measure => rw [hgk'.out]; simp
end Go.Proofs.Ytcbccogpogdbmaa
