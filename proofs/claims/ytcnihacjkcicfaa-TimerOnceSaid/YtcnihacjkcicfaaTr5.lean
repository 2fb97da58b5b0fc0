/- The reference's timers: Next; the loop of Set. -/
import Derived.Test.YtcnihacjkcicfaaTr4
namespace Go.Proofs.Ytcnihacjkcicfaa
open Go.RowKit Go.Lib Go.Sort Go.Shelf

set_option maxRecDepth 100000 in
set_option maxHeartbeats 1000000 in
theorem rnext_any (rb : Nat) (T : List Al) (n : Int) (w : World) (h : RefAt w rb T) (hT : T.length < 1000000) :
    Calls Try.prog 19 #[.pointer (some ⟨rb, 0, none⟩), .int .i64 n] w fun e w' => e = .returned (.tuple #[aggAl ((T.filter fun a => decide (a.1 = n)).headD (0, 0, 0)), .bool (!(T.filter fun a => decide (a.1 = n)).isEmpty)]) ∧ Fr [] w w' := by
  obtain ⟨a, cap, hfd, hfz, hat⟩ := h.open
  have lr := lt_of_cell hfd
  have hat' := Lib.hid hat; clear hat h
  obtain ⟨p, hp⟩ : ∃ p : Al → Bool, p = fun a => decide (a.1 = n) := ⟨_, rfl⟩
  have hpp : ∀ x1 x2 x3, p (x1, x2, x3) = decide (x1 = n) := fun _ _ _ => by rw [hp]
  rw [← hp]
  have hpp' := Lib.hid hpp; clear hpp hp
  go_enter Try.func19, Try.ntmps19
  go_wp2
  go_loopg [6] T.length (fun gk iv wr => ∃ i, i ≤ T.length ∧ gk = T.length - i ∧ iv = .int .i64 i ∧ (T.take i).filter p = [] ∧ wr = w.alloc (Obj.cells #[.int .i64 0, .int .i64 0, .int .i64 0] 34))
  case atStart => exact ⟨0, Nat.zero_le _, rfl, rfl, rfl, rfl⟩
  case round =>
    obtain ⟨i, hi, hgk, rfl, hnone, rfl⟩ := hrel
    have hgk' := Lib.hid hgk; clear hgk
    by_cases hlt : i < T.length
    · obtain ⟨g', off, rfl, hq1, hq2, hcells⟩ := hat'.out (by intro h; rw [h] at hlt; simp at hlt)
      obtain ⟨⟨x1, x2, x3⟩, hx⟩ : ∃ x, T[i]? = some x := ⟨_, List.getElem?_eq_getElem hlt⟩
      have k0 : w.cell? ⟨g', off + i * 3, none⟩ = some (.int .i64 x1) := hcells i _ 0 _ hx rfl
      have k1 : w.cell? ⟨g', off + i * 3 + 1, none⟩ = some (.int .i64 x2) := hcells i _ 1 _ hx rfl
      have k2 : w.cell? ⟨g', off + i * 3 + 2, none⟩ = some (.int .i64 x3) := hcells i _ 2 _ hx rfl
      have hpx := hpp'.out x1 x2 x3
      by_cases h1 : x1 = n
      · subst h1
        have hpt : p (x1, x2, x3) = true := by rw [hpx]; simp
        have hh : T.filter p = (x1, x2, x3) :: (T.drop (i + 1)).filter p := by
          have e1 : T = T.take (i + 1) ++ T.drop (i + 1) := (List.take_append_drop _ _).symm
          rw [e1, List.filter_append, filter_take_yes hx hpt, hnone]
          simp
        have hh' := Lib.hid hh
        clear hcells hx hpx hpt hnone hh
        go_wp2
        refine bodyPost_ret (v := .tuple #[.agg #[.int .i64 x1, .int .i64 x2, .int .i64 x3], .bool true]) (by simp [results, Try.results19, go_sem]) rfl ?_
        refine ⟨by rw [hh'.out]; rfl, (Fr.refl _ _).alloc _⟩
      · have hpt : p (x1, x2, x3) = false := by rw [hpx]; simp [h1]
        have hn' := Lib.hid (show (T.take (i + 1)).filter p = [] by rw [filter_take_no hx hpt, hnone])
        have h1' : (x1 == n) = false := by simpa using h1
        clear hcells hx hpx hpt hnone h1
        go_wp2
        go_roundg (T.length - (i + 1))
        case rel => exact ⟨i + 1, by omega, rfl, by go_num, hn'.out, rfl⟩
        case measure => rw [hgk'.out]; omega
    · have hiT : i = T.length := by omega
      subst hiT
      rw [List.take_length] at hnone
      have hn' := Lib.hid hnone; clear hnone
      go_wp2
      refine bodyPost_ret (v := .tuple #[.agg #[.int .i64 0, .int .i64 0, .int .i64 0], .bool false]) (by simp [results, Try.results19, go_sem]) rfl ?_
      refine ⟨by rw [hn'.out]; rfl, (Fr.refl _ _).alloc _⟩

theorem insA_snoc (a c : Al) : ∀ l : List Al, insA a (l ++ [c]) = if (∃ b ∈ l, ltA a b) then insA a l ++ [c] else if ltA a c then l ++ [a, c] else l ++ [c, a]
  | [] => by by_cases h : ltA a c <;> simp [insA, h]
  | b :: l => by
    have ih := insA_snoc a c l
    by_cases hb : ltA a b
    · simp [insA, hb]
    · simp only [List.cons_append, insA, hb, if_false, ih, List.mem_cons, exists_eq_or_imp, false_or]
      split
      · rfl
      · split <;> rfl
theorem insA_none (a : Al) : ∀ l : List Al, (∀ b ∈ l, ¬ ltA a b) → insA a l = l ++ [a]
  | [], _ => rfl
  | b :: l, h => by
    unfold insA
    rw [if_neg (h b (List.mem_cons_self ..)), insA_none a l (fun c hc => h c (List.mem_cons_of_mem _ hc))]; rfl
/-- Where the reference's Set stands behind i alarms. -/
def Ins (a : Al) (W : List Al) (i : Nat) (dn : Bool) (O : List Al) : Prop :=
  if dn then O = insA a (W.take i) ∧ ∃ b ∈ W.take i, ltA a b else O = W.take i ∧ ∀ b ∈ W.take i, ¬ ltA a b
theorem Ins.zero (a : Al) (W : List Al) : Ins a W 0 false [] := ⟨rfl, by simp⟩
theorem Ins.done {a : Al} {W O : List Al} {i : Nat} {x : Al} (h : Ins a W i true O) (hx : W[i]? = some x) : Ins a W (i + 1) true (O ++ [x]) := by
  obtain ⟨rfl, b, hb, hl⟩ := h
  refine ⟨?_, b, by rw [take_add hx]; exact List.mem_append_left _ hb, hl⟩
  rw [take_add hx, insA_snoc, if_pos ⟨b, hb, hl⟩]
theorem Ins.hit {a : Al} {W O : List Al} {i : Nat} {x : Al} (h : Ins a W i false O) (hx : W[i]? = some x) (hl : ltA a x) : Ins a W (i + 1) true ((O ++ [a]) ++ [x]) := by
  obtain ⟨rfl, hn⟩ := h
  refine ⟨?_, x, by rw [take_add hx]; simp, hl⟩
  rw [take_add hx, insA_snoc, if_neg (by rintro ⟨b, hb, h⟩; exact hn b hb h), if_pos hl]; simp
theorem Ins.miss {a : Al} {W O : List Al} {i : Nat} {x : Al} (h : Ins a W i false O) (hx : W[i]? = some x) (hl : ¬ ltA a x) : Ins a W (i + 1) false (O ++ [x]) := by
  obtain ⟨rfl, hn⟩ := h
  refine ⟨(take_add hx).symm, ?_⟩
  rw [take_add hx]
  intro b hb
  rcases List.mem_append.1 hb with hb | hb
  · exact hn b hb
  · simp at hb; rw [hb]; exact hl
theorem Ins.end_true {a : Al} {W O : List Al} (h : Ins a W W.length true O) : O = insA a W := by obtain ⟨rfl, _⟩ := h; rw [List.take_length]
theorem Ins.end_false {a : Al} {W O : List Al} (h : Ins a W W.length false O) : O ++ [a] = insA a W := by
  obtain ⟨rfl, hn⟩ := h; rw [List.take_length] at *; exact (insA_none a W hn).symm
theorem Ins.len {a : Al} {W O : List Al} {i : Nat} {dn : Bool} (h : Ins a W i dn O) : O.length ≤ W.length + 1 := by
  have h1 : (W.take i).length ≤ W.length := by simp; omega
  cases dn
  · obtain ⟨rfl, _⟩ := h; omega
  · obtain ⟨rfl, _⟩ := h; have := (insA_perm a (W.take i)).length_eq; simp at this h1 ⊢; omega
end Go.Proofs.Ytcnihacjkcicfaa
