/- Pages (chapter 19): slices.ContainsFunc over links. -/
import Derived.Test.YtafeemlojlngfaaPg17
namespace Go.Proofs.Ytafeemlojlngfaa
open Go.RowKit Go.Maps
set_option maxRecDepth 100000 in
set_option maxHeartbeats 1000000 in
theorem drop1_any {x : Nat} {s : Int} {w : World} (h : w.cell? ⟨x, 3, none⟩ = some (.int .i64 s)) :
    Calls Try.prog 37 #[.pointer (some ⟨x, 0, none⟩)] w fun e w' => e = .returned (.bool (s != 0)) ∧ w' = w := by
  have lx := lt_of_cell h
  go_enter Try.func37, Try.ntmps37
  go_wp2
  go_ret
  exact ⟨rfl, rfl⟩
theorem any_take_succ {α : Type} {p : α → Bool} {R : List α} {i : Nat} {x : α} (h : R[i]? = some x) (h0 : (R.take i).any p = false) (hx : p x = false) : (R.take (i + 1)).any p = false := by
  rw [List.take_add_one, h, List.any_append, h0]
  simp [hx]
theorem any_of_at {α : Type} {p : α → Bool} {R : List α} {i : Nat} {x : α} (h : R[i]? = some x) (hx : p x = true) : R.any p = true := by
  rw [List.any_eq_true]; exact ⟨x, List.mem_of_getElem? h, hx⟩
set_option maxRecDepth 100000 in
set_option maxHeartbeats 2000000 in
theorem index_any {R : List Nat} {B : Nat → Prop} {v : Value} {g : Nat} {cbv : Array Value} {p : Nat → Bool} {w : World} (h : SliceIs w B encPtr v R) (hl : R.length < 1000000)
    (eg : ∀ args w, (callFunc g args).run Try.prog w = .ok (.enter g args) w) (hp : ∀ x ∈ R, Calls Try.prog g (#[ptr x] ++ cbv) w fun e w' => e = .returned (.bool (p x)) ∧ w' = w) :
    Calls Try.prog 50 #[v, .func (.func g) #[] cbv] w fun e w' => ∃ i : Int, e = .returned (.int .i64 i) ∧ decide (0 ≤ i) = R.any p ∧ w' = w := by
  obtain ⟨a, cap, rfl, hc1, hc2, hat⟩ := h.at encPtr_len
  have hat' := Lib.hid hat; have hp' := Lib.hid hp
  clear h hat hp
  go_enter Try.func50, Try.ntmps50
  go_wp2
  go_loopg [8] R.length (fun gk iv wr => ∃ i : Nat, i ≤ R.length ∧ gk = R.length - i ∧ iv = .int .i64 i ∧ (R.take i).any p = false ∧ wr = w)
  case atStart => exact ⟨0, Nat.zero_le _, rfl, rfl, rfl, rfl⟩
  case round =>
    obtain ⟨i, hi, hgk, rfl, hno, hwe⟩ := hrel
    have hwe := hwe.symm
    subst hwe
    have hgk' := Lib.hid hgk; have hno' := Lib.hid hno
    clear hgk hno
    by_cases hlt : i < R.length
    · obtain ⟨g', off, rfl, _, hg2, hcells⟩ := hat'.out (by intro h; rw [h] at hlt; simp at hlt)
      obtain ⟨x, hx⟩ : ∃ x, R[i]? = some x := ⟨_, List.getElem?_eq_getElem hlt⟩
      have k0 := hcells i x 0 _ hx rfl
      rw [Nat.mul_one, Nat.add_zero] at k0
      have hcall := hp'.out x (List.mem_of_getElem? hx)
      have hx' := Lib.hid hx
      unfold ptr at hcall k0
      clear hcells hx
      cases hpx : p x with
      | true =>
        rw [hpx] at hcall
        have hy := Lib.hid (any_of_at hx'.out hpx)
        clear hpx
        go_wp2_with (refine hcall.mono ?_; rintro e w2 ⟨rfl, rfl⟩)
        go_ret
        exact ⟨(i : Int), rfl, by rw [hy.out]; simp, rfl⟩
      | false =>
        rw [hpx] at hcall
        have hy := Lib.hid (any_take_succ hx'.out hno'.out hpx)
        clear hpx
        go_wp2_with (refine hcall.mono ?_; rintro e w2 ⟨rfl, rfl⟩)
        go_roundg (R.length - (i + 1))
        case rel => exact ⟨i + 1, by omega, rfl, by go_num, hy.out, rfl⟩
        case measure => rw [hgk'.out]; omega
    · have he : i = R.length := by omega
      subst he
      go_wp2
      go_ret
      refine ⟨-1, rfl, ?_, rfl⟩
      have := hno'.out
      rw [List.take_length] at this
      rw [this]; rfl
set_option maxRecDepth 100000 in
set_option maxHeartbeats 1000000 in
theorem contains_any {R : List Nat} {B : Nat → Prop} {v : Value} {g : Nat} {cbv : Array Value} {p : Nat → Bool} {w : World} (h : SliceIs w B encPtr v R) (hl : R.length < 1000000)
    (eg : ∀ args w, (callFunc g args).run Try.prog w = .ok (.enter g args) w) (hp : ∀ x ∈ R, Calls Try.prog g (#[ptr x] ++ cbv) w fun e w' => e = .returned (.bool (p x)) ∧ w' = w) :
    Calls Try.prog 36 #[v, .func (.func g) #[] cbv] w fun e w' => e = .returned (.bool (R.any p)) ∧ w' = w := by
  have hx := index_any h hl eg hp
  clear eg hp
  go_enter Try.func36, Try.ntmps36
  go_wp2_with (go_at_call 50; refine hx.mono ?_; rintro e w' ⟨i, rfl, hi, rfl⟩)
  go_ret
  exact ⟨by rw [← hi]; rfl, rfl⟩
end Go.Proofs.Ytafeemlojlngfaa
