/- Pages (chapter 19): put, where the page may not be. -/
import Derived.Test.YtafeemlojlngfaaPg7
namespace Go.Proofs.Ytafeemlojlngfaa
open Go.RowKit Go.Maps
/-- A closure that answers 'p' of any page, from here on. -/
def WishOk (g : Nat) (cb : Array Value) (p : Pg → Bool) (w : World) : Prop :=
  ∀ (x : Pg) (W : World), Fr [] w W → Calls Try.prog g (#[aggPg x] ++ cb) W fun e w' => e = .returned (.bool (p x)) ∧ Fr [] W w'
theorem WishOk.later {g : Nat} {cb : Array Value} {p : Pg → Bool} {w w' : World} (h : WishOk g cb p w) (hf : Fr [] w w') : WishOk g cb p w' := fun x W hW => h x W (hf.trans hW)
def badPg (p : Pg) (sq : Bool) : Int :=
  if p.1 < 0 ∨ 256 ≤ p.1 then 71 else if p.2.1 < 0 ∨ 1099511627776 < p.2.1 ∨ sq = false then 1 else if 16 < p.2.2.1.size then 11 else 0
set_option maxRecDepth 100000 in
set_option maxHeartbeats 2000000 in
theorem put_bad {cbv : Value} {fv : Value} (p : Pg) (sq : Bool) (w : World) (h : badPg p sq ≠ 0) :
    Calls Try.prog 32 #[cbv, aggPg p, .bool sq, fv] w fun e w' => e = .returned (.int .i64 (badPg p sq)) ∧ Fr [] w w' := by
  obtain ⟨p1, p2, p3, p4⟩ := p
  unfold badPg at h ⊢
  unfold aggPg
  dsimp only at h ⊢
  obtain ⟨W, hW⟩ : ∃ W, W = w := ⟨_, rfl⟩
  by_cases c1 : p1 < 0
  · rw [if_pos (.inl c1)]
    clear h
    go_enter Try.func32, Try.ntmps32
    go_wp2
    go_ret
    exact ⟨rfl, (Fr.refl _ _).alloc _⟩
  · by_cases c2 : 256 ≤ p1
    · rw [if_pos (.inr c2)]
      clear h
      go_enter Try.func32, Try.ntmps32
      go_wp2
      go_ret
      exact ⟨rfl, (Fr.refl _ _).alloc _⟩
    · rw [if_neg (by omega)] at h ⊢
      by_cases c3 : p2 < 0
      · rw [if_pos (.inl c3)]
        clear h
        go_enter Try.func32, Try.ntmps32
        go_wp2
        go_ret
        exact ⟨rfl, (Fr.refl _ _).alloc _⟩
      · by_cases c4 : 1099511627776 < p2
        · rw [if_pos (.inr (.inl c4))]
          clear h
          go_enter Try.func32, Try.ntmps32
          go_wp2
          go_ret
          exact ⟨rfl, (Fr.refl _ _).alloc _⟩
        · cases sq
          · rw [if_pos (.inr (.inr rfl))]
            clear h
            go_enter Try.func32, Try.ntmps32
            go_wp2
            go_ret
            exact ⟨rfl, (Fr.refl _ _).alloc _⟩
          · rw [if_neg (by simp; omega)] at h ⊢
            by_cases c5 : 16 < p3.size
            · rw [if_pos c5]
              clear h
              go_enter Try.func32, Try.ntmps32
              go_wp2
              go_ret
              exact ⟨rfl, (Fr.refl _ _).alloc _⟩
            · rw [if_neg c5] at h; exact absurd rfl h
end Go.Proofs.Ytafeemlojlngfaa
