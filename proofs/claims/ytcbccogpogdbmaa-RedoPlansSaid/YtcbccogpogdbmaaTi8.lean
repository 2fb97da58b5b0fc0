/- slices.IndexFunc, ContainsFunc, Equal at strings; Join's closure: walked. -/
import Derived.Test.YtcbccogpogdbmaaTi5
namespace Go.Proofs.Ytcbccogpogdbmaa
open Go.RowKit Go.Maps Go.Lib Go.Sort
attribute [local go_sem ↓] Go.wp_at_zero Go.wp_at_succ
set_option maxRecDepth 100000 in
theorem odd_any (s : ByteArray) (w : World) : Calls Try.prog 36 #[.string s] w fun e w' => e = .returned (.bool (!(s.size == 16))) ∧ w' = w := by
  by_cases h : s.size = 16
  · have e : (!(s.size == 16)) = false := by simp [h]
    rw [e]
    have h2 : ((s.size : Int) != 16) = false := by simp [h]
    clear e
    go_enter Try.func36, Try.ntmps36
    go_wp2
    go_ret
    exact ⟨rfl, rfl⟩
  · have e : (!(s.size == 16)) = true := by simp [h]
    rw [e]
    have h2 : ((s.size : Int) != 16) = true := by simp; omega
    clear e
    go_enter Try.func36, Try.ntmps36
    go_wp2
    go_ret
    exact ⟨rfl, rfl⟩
theorem any_take_succ {α : Type} {p : α → Bool} {R : List α} {i : Nat} {x : α} (h : R[i]? = some x) (h0 : (R.take i).any p = false) (hx : p x = false) : (R.take (i + 1)).any p = false := by
  rw [List.take_add_one, h, List.any_append, h0]
  simp [hx]
set_option maxRecDepth 100000 in
set_option maxHeartbeats 4000000 in
theorem idxS_any {B : Nat → Prop} (v : Value) (S : List ByteArray) (w : World) (h : SliceIs w B encS v S) (hl : S.length < 1000000) :
    Calls Try.prog 53 #[v, .func (.func 36) #[] #[]] w fun e w' => ∃ i : Int, e = .returned (.int .i64 i) ∧ w' = w ∧ decide (0 ≤ i) = S.any (fun s => !(s.size == 16)) := by
  obtain ⟨a, cap, rfl, hc1, hc2, hat⟩ := h.at encS_len
  have hat' := Lib.hid hat
  clear h hat
  have ho := fun s X => odd_any s X
  have ho' := Lib.hid ho
  clear ho
  go_enter Try.func53, Try.ntmps53
  go_wp2
  go_loopg [8] S.length (fun gk iv wr => ∃ i : Nat, i ≤ S.length ∧ gk = S.length - i ∧ iv = .int .i64 i ∧ (S.take i).any (fun s => !(s.size == 16)) = false ∧ w = wr)
  case atStart => exact ⟨0, Nat.zero_le _, rfl, rfl, rfl, rfl⟩
  case round =>
    obtain ⟨i, hi, hgk, rfl, hno, rfl⟩ := hrel
    have hgk' := Lib.hid hgk; have hno' := Lib.hid hno
    clear hgk hno
    by_cases hlt : i < S.length
    · obtain ⟨g', off, rfl, _, hg2, hcells⟩ := hat'.out (by intro h; rw [h] at hlt; simp at hlt)
      obtain ⟨x, hx⟩ : ∃ x, S[i]? = some x := ⟨_, List.getElem?_eq_getElem hlt⟩
      have k0 := hcells i x 0 _ hx rfl
      rw [Nat.mul_one, Nat.add_zero] at k0
      have hcall := ho'.out x w
      have hx' := Lib.hid hx
      clear hcells hx
      cases hpx : !(x.size == 16) with
      | true =>
        rw [hpx] at hcall
        have hpx' := Lib.hid hpx
        clear hpx
        go_wp2_with (first | (go_at_call 36; refine hcall.mono ?_; rintro e w2 ⟨rfl, rfl⟩))
        go_ret
        refine ⟨_, rfl, rfl, ?_⟩
        rw [decide_eq_true (by omega)]
        exact (List.any_eq_true.2 ⟨x, List.mem_of_getElem? hx'.out, hpx'.out⟩).symm
      | false =>
        rw [hpx] at hcall
        have hpx' := Lib.hid hpx
        clear hpx
        go_wp2_with (first | (go_at_call 36; refine hcall.mono ?_; rintro e w2 ⟨rfl, rfl⟩))
        go_roundg (S.length - (i + 1))
        case rel => exact ⟨i + 1, by omega, rfl, by go_num, any_take_succ hx'.out hno'.out hpx'.out, rfl⟩
        case measure => rw [hgk'.out]; omega
    · have hik : i = S.length := by omega
      subst hik
      go_wp2
      go_ret
      refine ⟨_, rfl, rfl, ?_⟩
      have := hno'.out
      rw [List.take_length] at this
      rw [this]
      rfl
set_option maxRecDepth 100000 in
theorem contS_any {B : Nat → Prop} (v : Value) (S : List ByteArray) (w : World) (h : SliceIs w B encS v S) (hl : S.length < 1000000) :
    Calls Try.prog 37 #[v, .func (.func 36) #[] #[]] w fun e w' => e = .returned (.bool (S.any fun s => !(s.size == 16))) ∧ w' = w := by
  have hi := idxS_any v S w h hl
  go_enter Try.func37, Try.ntmps37
  go_wp2_with (first | (go_at_call 53; refine hi.mono ?_; rintro e w2 ⟨i, rfl, rfl, hi2⟩; have hi2' := Lib.hid hi2; clear hi2))
  go_ret
  exact ⟨by rw [← hi2'.out]; rfl, rfl⟩
set_option maxRecDepth 100000 in
set_option maxHeartbeats 4000000 in
theorem equalS_any {B C : Nat → Prop} (v u : Value) (S T : List ByteArray) (w : World) (h : SliceIs w B encS v S) (h2 : SliceIs w C encS u T) (hl : S.length < 1000000) (hl2 : T.length < 1000000) :
    Calls Try.prog 39 #[v, u] w fun e w' => e = .returned (.bool (decide (S = T))) ∧ Fr [] w w' := by
  obtain ⟨a, cap, rfl, hc1, hc2, hat⟩ := h.at encS_len
  obtain ⟨a2, cap2, rfl, hd1, hd2, hat2⟩ := h2.at encS_len
  have hat' := Lib.hid hat; have hat2' := Lib.hid hat2
  clear h h2 hat hat2
  by_cases hn : S.length = T.length
  · have e1 : ((S.length : Int) == (T.length : Int)) = true := by simp [hn]
    have e2 : (!((S.length : Int) == (T.length : Int))) = false := by simp [hn]
    go_enter Try.func39, Try.ntmps39
    go_wp2
    go_loopg [13] S.length (fun gk iv wr => ∃ i : Nat, i ≤ S.length ∧ gk = S.length - i ∧ iv = .int .i64 i ∧ S.take i = T.take i ∧ Fr [] w wr)
    case atStart => exact ⟨0, Nat.zero_le _, rfl, rfl, rfl, Fr.refl _ _⟩
    case round =>
      obtain ⟨i, hi, hgk, rfl, hsame, hfr⟩ := hrel
      have hgk' := Lib.hid hgk; have hsame' := Lib.hid hsame
      clear hgk hsame
      by_cases hlt : i < S.length
      · obtain ⟨g, off, rfl, _, hg2, hcells⟩ := hat'.out (by intro h; rw [h] at hlt; simp at hlt)
        obtain ⟨g3, off3, rfl, _, hg3, hcells3⟩ := hat2'.out (by intro h; rw [h] at hn; simp at hn; rw [hn] at hlt; simp at hlt)
        have hlt2 : i < T.length := by omega
        obtain ⟨x, hx⟩ : ∃ x, S[i]? = some x := ⟨_, List.getElem?_eq_getElem hlt⟩
        obtain ⟨y, hy⟩ : ∃ y, T[i]? = some y := ⟨_, List.getElem?_eq_getElem hlt2⟩
        have k0 := hcells i x 0 _ hx rfl
        have k1 := hcells3 i y 0 _ hy rfl
        rw [Nat.mul_one, Nat.add_zero] at k0 k1
        have k0 := hfr.at0 k0
        have k1 := hfr.at0 k1
        have hx' := Lib.hid hx; have hy' := Lib.hid hy; have hfr' := Lib.hid hfr
        clear hcells hcells3 hx hy hfr
        by_cases hxy : x = y
        · subst hxy
          have ht : (x.toList == x.toList) = true := by simp
          go_wp2
          refine wp_region_quiet_lit (by kernel_rfl) (by kernel_rfl) ?_
          repeat (go_big_quiet_step (fail))
          refine wpQuiet_nil ?_
          rintro w2 ⟨q, rfl⟩
          go_wp2
          go_roundg (S.length - (i + 1))
          case rel => exact ⟨i + 1, by omega, rfl, by go_num, by rw [List.take_add_one, List.take_add_one, hsame'.out, hx'.out, hy'.out], hfr'.out.drewN q⟩
          case measure => rw [hgk'.out]; omega
        · have ht : (x.toList == y.toList) = false := by
            rw [beq_eq_false_iff_ne]
            intro h
            apply hxy
            rw [toList_data, toList_data] at h
            apply ByteArray.ext
            exact Array.toList_inj.1 h
          go_wp2
          refine wp_region_quiet_lit (by kernel_rfl) (by kernel_rfl) ?_
          repeat (go_big_quiet_step (fail))
          refine wpQuiet_nil ?_
          rintro w2 ⟨q, rfl⟩
          go_wp2
          go_ret
          refine ⟨?_, hfr'.out.drewN q⟩
          have hd : decide (S = T) = false := decide_eq_false (by
            rintro rfl
            have h1 := hx'.out
            rw [hy'.out] at h1
            exact hxy (Option.some.inj h1).symm)
          rw [hd]
          rfl
      · have hik : i = S.length := by omega
        subst hik
        go_wp2
        go_ret
        refine ⟨?_, hfr⟩
        have := hsame'.out
        rw [List.take_length, hn, List.take_length] at this
        rw [decide_eq_true this]
        rfl
  · have e1 : ((S.length : Int) == (T.length : Int)) = false := by simp; omega
    have hne : decide (S = T) = false := decide_eq_false (by rintro rfl; exact hn rfl)
    rw [hne]
    clear hne hn
    go_enter Try.func39, Try.ntmps39
    go_wp2
    go_ret
    exact ⟨rfl, Fr.refl _ _⟩
end Go.Proofs.Ytcbccogpogdbmaa
