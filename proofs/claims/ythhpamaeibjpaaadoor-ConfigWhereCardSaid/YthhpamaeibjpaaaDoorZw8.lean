/- Contracts and words, several texts in one. -/
import Derived.Test.YthhpamaeibjpaaaDoorZw1
import Derived.Test.YthhpamaeibjpaaaDoorZw3
import Derived.Test.YthhpamaeibjpaaaDoorZw7
section
namespace Go.Proofs.YthhpamaeibjpaaaDoor
open Go.RowKit Go.Proofs.YthhpamaeibjpaaaDoorW.PrintWords K
abbrev SP := S71
abbrev SR := S73
def toP (p : Pt) : SP := ⟨⟨p.1, p.2.1⟩, p.2.2.1, p.2.2.2⟩
def toR (p : Pt) : SR := ⟨⟨p.1, p.2.1⟩, p.2.2.1, p.2.2.2⟩
theorem wrap_small (i : Nat) (h : i < 4611686018427387904) : wrap64 ((i : Int) + 1) = ((i + 1 : Nat) : Int) := by unfold wrap64; omega
theorem rd_at {l : List Int} {i : Nat} {x : Int} (h : l[i]? = some x) : rd l (i : Int) = x := by
  unfold rd
  rw [List.getD_eq_getElem?_getD]; simp [h]
theorem rdP_at {l : List Pt} {i : Nat} {p : Pt} (h : l[i]? = some p) : rd_T71 (l.map toP) (i : Int) = toP p := by
  unfold rd_T71
  rw [List.getD_eq_getElem?_getD]; simp [h]
theorem rdR_at {l : List Pt} {i : Nat} {p : Pt} (h : l[i]? = some p) : rd_T73 (l.map toR) (i : Int) = toR p := by
  unfold rd_T73
  rw [List.getD_eq_getElem?_getD]; simp [h]
theorem drop_at {α : Type} {l : List α} {i : Nat} {x : α} (h : l[i]? = some x) : l.drop i = x :: l.drop (i + 1) := by
  obtain ⟨h1, rfl⟩ := List.getElem?_eq_some_iff.1 h
  exact (List.getElem_cons_drop (h := h1)).symm
theorem some_at {α : Type} {l : List α} {i : Nat} (h : i < l.length) : ∃ x, l[i]? = some x := ⟨_, List.getElem?_eq_getElem h⟩
theorem drop_end {α : Type} {l : List α} {i : Nat} (h : ¬ i < l.length) : l.drop i = [] := List.drop_eq_nil_of_le (by omega)
theorem index_l0 (a : Int) (l : List Int) (hl : l.length < 4611686018427387904) : ∀ (d i k : Nat), l.length - i = d → d < k → ∃ r, slices_Index_int_int.l0 k l a (l.length : Int) (i : Int) = some r ∧ (0 ≤ r ↔ a ∈ l.drop i) := by
  intro d
  induction d with
  | zero =>
    intro i k hd hk
    obtain ⟨k, rfl⟩ : ∃ m, k = m + 1 := ⟨k - 1, by omega⟩
    refine ⟨-1, ?_, ?_⟩
    · simp only [slices_Index_int_int.l0]
      rw [if_neg (by omega)]
    · rw [drop_end (by omega)]; simp
  | succ d ih =>
    intro i k hd hk
    obtain ⟨k, rfl⟩ : ∃ m, k = m + 1 := ⟨k - 1, by omega⟩
    obtain ⟨x, hx⟩ := some_at (l := l) (i := i) (by omega)
    rw [drop_at hx]
    by_cases e : a = x
    · refine ⟨(i : Int), ?_, ?_⟩
      · simp only [slices_Index_int_int.l0]
        rw [if_pos (by omega), if_pos (by omega), if_pos (by omega), rd_at hx, if_pos e]
      · simp [e]
    · obtain ⟨r, h1, h2⟩ := ih (i + 1) k (by omega) (by omega)
      refine ⟨r, ?_, by rw [h2]; simp [e]⟩
      simp only [slices_Index_int_int.l0]
      rw [if_pos (by omega), if_pos (by omega), if_pos (by omega), rd_at hx, if_neg e, wrap_small i (by omega)]
      exact h1
theorem contains_f (l : List Int) (a : Int) (hl : l.length < 4611686018427387904) (k : Nat) (hk : l.length < k) : slices_Contains_int_int.f k l a = some (l.contains a) := by
  obtain ⟨r, h1, h2⟩ := index_l0 a l hl l.length 0 k rfl hk
  unfold slices_Contains_int_int.f slices_Index_int_int.f
  rw [show (0 : Int) = ((0 : Nat) : Int) from rfl, h1]
  simp only [Option.bind_some]
  congr 1
  rw [Bool.eq_iff_iff, decide_eq_true_eq, List.contains_iff_mem]
  simpa using h2
theorem has_f (e : Int) (l : List Int) (p : List SP) (t a : Int) (hl : l.length < 4611686018427387904) (k : Nat) (hk : l.length < k) : config_Config_has.f k e l p t a = some (l.contains a) := by
  unfold config_Config_has.f
  rw [contains_f l a hl k hk]; rfl
theorem rhas_l0 (a : Int) (l : List Int) (hl : l.length < 4611686018427387904) : ∀ (d i k : Nat), l.length - i = d → d < k → weirkeepref12_Has.l0 k l a (i : Int) = some ((l.drop i).contains a) := by
  intro d
  induction d with
  | zero =>
    intro i k hd hk
    obtain ⟨k, rfl⟩ : ∃ m, k = m + 1 := ⟨k - 1, by omega⟩
    simp only [weirkeepref12_Has.l0]
    rw [if_neg (by omega), drop_end (by omega)]; rfl
  | succ d ih =>
    intro i k hd hk
    obtain ⟨k, rfl⟩ : ∃ m, k = m + 1 := ⟨k - 1, by omega⟩
    obtain ⟨x, hx⟩ := some_at (l := l) (i := i) (by omega)
    rw [drop_at hx]
    simp only [weirkeepref12_Has.l0]
    rw [if_pos (by omega), if_pos (by omega), rd_at hx]
    by_cases e : x = a
    · rw [if_pos e, e]; simp
    · rw [if_neg e, wrap_small i (by omega), ih (i + 1) k (by omega) (by omega), List.contains_cons]
      rw [beq_eq_false_iff_ne.2 (Ne.symm e)]; rfl
theorem rhas_f (a : Int) (l : List Int) (hl : l.length < 4611686018427387904) (k : Nat) (hk : l.length < k) : weirkeepref12_Has.f k l a = some (l.contains a) := by
  unfold weirkeepref12_Has.f
  have := rhas_l0 a l hl l.length 0 k rfl hk
  rw [List.drop_zero] at this
  exact this
theorem ris_cons (last x : Int) (l : List Int) : risB last (x :: l) = (decide (last < x ∧ x < 8) && risB x l) := rfl
theorem err_bad {c : Cfg} (h : ¬ (1 ≤ c.ep ∧ c.ep ≤ 1099511627776 ∧ 1 ≤ c.tb ∧ c.tb ≤ 8 ∧ 2 ≤ c.sv.length)) : errC c = 1 := by
  unfold errC
  rw [if_neg]
  rw [okC_iff]
  exact fun hh => h hh.1
theorem check_l1 (c : Cfg) (hs : c.sv.length < 4611686018427387904) (hp : c.pt.length < 4611686018427387904) : ∀ (d i k : Nat) (at' : Int), c.pt.length - i = d → d + c.sv.length < k →
    config_Check.l1 k at' (c.pt.map toP) (c.pt.length : Int) (i : Int) c.ep c.sv (c.pt.map toP) c.tb = some (if tilB c.sv at' (c.pt.drop i) = true then 0 else 1) := by
  intro d
  induction d with
  | zero =>
    intro i k at' hd hk
    obtain ⟨k, rfl⟩ : ∃ m, k = m + 1 := ⟨k - 1, by omega⟩
    simp only [config_Check.l1]
    rw [if_neg (by omega), drop_end (by omega)]
    unfold tilB
    by_cases e : at' = 256 <;> simp [e]
  | succ d ih =>
    intro i k at' hd hk
    obtain ⟨k, rfl⟩ : ∃ m, k = m + 1 := ⟨k - 1, by omega⟩
    obtain ⟨x, hx⟩ := some_at (l := c.pt) (i := i) (by omega)
    rw [drop_at hx]
    simp only [config_Check.l1]
    rw [if_pos (by omega), if_pos (by omega), if_pos (by rw [List.length_map]; omega), rdP_at hx]
    unfold tilB
    simp only [toP]
    rw [has_f _ _ _ _ _ hs k (by omega), has_f _ _ _ _ _ hs k (by omega), wrap_small i (by omega), ih (i + 1) k _ (by omega) (by omega)]
    simp only [Option.bind_some]
    by_cases e1 : x.1 = at'
    · rw [if_pos e1]
      by_cases e2 : x.2.1 ≤ at'
      · rw [if_pos e2, if_neg]
        simp; omega
      · rw [if_neg e2]
        by_cases e3 : x.2.2.1 = x.2.2.2
        · rw [if_pos e3, if_neg]
          simp [e3]
        · rw [if_neg e3]
          have e4 : decide (x.1 = at' ∧ at' < x.2.1 ∧ x.2.2.1 ≠ x.2.2.2) = true := by simp; omega
          rw [e4]
          cases h1 : c.sv.contains x.2.2.1 with
          | false => simp
          | true =>
            cases h2 : c.sv.contains x.2.2.2 with
            | false => simp
            | true => simp
    · rw [if_neg e1, if_neg]
      simp [e1]
theorem check_l0 (c : Cfg) (hs : c.sv.length < 4611686018427387904) (hp : c.pt.length < 4611686018427387904) : ∀ (d i k : Nat) (last : Int), c.sv.length - i = d → d + c.pt.length + c.sv.length + 1 < k →
    config_Check.l0 k last c.sv (c.sv.length : Int) (i : Int) c.ep c.sv (c.pt.map toP) c.tb = some (if (risB last (c.sv.drop i) && tilB c.sv 0 c.pt) = true then 0 else 1) := by
  intro d
  induction d with
  | zero =>
    intro i k last hd hk
    obtain ⟨k, rfl⟩ : ∃ m, k = m + 1 := ⟨k - 1, by omega⟩
    simp only [config_Check.l0]
    rw [if_neg (by omega), drop_end (by omega), List.length_map, show (0 : Int) = ((0 : Nat) : Int) from rfl, check_l1 c hs hp c.pt.length 0 k _ rfl (by omega)]
    rfl
  | succ d ih =>
    intro i k last hd hk
    obtain ⟨k, rfl⟩ : ∃ m, k = m + 1 := ⟨k - 1, by omega⟩
    obtain ⟨x, hx⟩ := some_at (l := c.sv) (i := i) (by omega)
    rw [drop_at hx]
    simp only [config_Check.l0]
    rw [if_pos (by omega), if_pos (by omega), if_pos (by omega), rd_at hx, wrap_small i (by omega), ih (i + 1) k _ (by omega) (by omega), ris_cons]
    by_cases e1 : x ≤ last
    · rw [if_pos e1, if_neg]
      simp; omega
    · rw [if_neg e1]
      by_cases e2 : x ≥ 8
      · rw [if_pos e2, if_neg]
        simp; omega
      · rw [if_neg e2]
        have e3 : decide (last < x ∧ x < 8) = true := by simp; omega
        rw [e3]; simp
theorem check_f (c : Cfg) (hs : c.sv.length < 4611686018427387904) (hp : c.pt.length < 4611686018427387904) : ∃ k, config_Check.f k c.ep c.sv (c.pt.map toP) c.tb = some (errC c) := by
  refine ⟨c.sv.length + c.pt.length + c.sv.length + 4, ?_⟩
  unfold config_Check.f config_within.f
  have key := check_l0 c hs hp c.sv.length 0 (c.sv.length + c.pt.length + c.sv.length + 3) (-1) rfl (by omega)
  rw [List.drop_zero] at key
  have kt : ∀ k : Nat, config_Check.j0 (k + 1) true c.ep c.sv (c.pt.map toP) c.tb = some 1 := fun k => by simp [config_Check.j0]
  by_cases h1 : 1 ≤ c.ep ∧ c.ep ≤ 1099511627776
  · rw [if_pos h1.1]
    simp only [Option.bind_some, h1.2, decide_true, if_true]
    by_cases h2 : 1 ≤ c.tb ∧ c.tb ≤ 8
    · rw [if_pos h2.1]
      simp only [Option.bind_some, h2.2, decide_true, if_true]
      by_cases h3 : (c.sv.length : Int) < 2
      · rw [decide_eq_true h3, kt, err_bad (by omega)]
      · rw [decide_eq_false h3]
        show config_Check.j0 (c.sv.length + c.pt.length + c.sv.length + 3 + 1) false c.ep c.sv (c.pt.map toP) c.tb = _
        simp only [config_Check.j0]
        rw [if_neg (by decide), show (0 : Int) = ((0 : Nat) : Int) from rfl, key]
        have e : decide (1 ≤ c.ep ∧ c.ep ≤ 1099511627776 ∧ 1 ≤ c.tb ∧ c.tb ≤ 8 ∧ 2 ≤ c.sv.length) = true := by simp; omega
        have e2 : okC c = (risB (-1) c.sv && tilB c.sv 0 c.pt) := by unfold okC; rw [e]; rfl
        unfold errC
        rw [e2]
    · by_cases h2' : 1 ≤ c.tb
      · rw [if_pos h2']
        simp only [Option.bind_some]
        have : decide (c.tb ≤ 8) = false := by simp; omega
        rw [this, if_neg (by decide), kt, err_bad (by omega)]
      · rw [if_neg h2']
        simp only [Option.bind_some]
        rw [if_neg (by decide), kt, err_bad (by omega)]
  · by_cases h1' : 1 ≤ c.ep
    · rw [if_pos h1']
      simp only [Option.bind_some]
      have : decide (c.ep ≤ 1099511627776) = false := by simp; omega
      rw [this, if_neg (by decide), kt, err_bad (by omega)]
    · rw [if_neg h1']
      simp only [Option.bind_some]
      rw [if_neg (by decide), kt, err_bad (by omega)]
end Go.Proofs.YthhpamaeibjpaaaDoor
end
section
namespace Go.Proofs.YthhpamaeibjpaaaDoor
open Go.RowKit Go.Proofs.YthhpamaeibjpaaaDoorW.PrintWords K
theorem til_cons (sv : List Int) (k : Int) (p : Pt) (l : List Pt) : tilB sv k (p :: l) = (decide (p.1 = k ∧ k < p.2.1 ∧ p.2.2.1 ≠ p.2.2.2) && sv.contains p.2.2.1 && sv.contains p.2.2.2 && tilB sv p.2.1 l) := rfl
theorem til_bound {sv : List Int} : ∀ (l : List Pt) (k : Int), tilB sv k l = true → 0 ≤ k → (∀ p ∈ l, 0 ≤ p.1 ∧ p.2.1 ≤ 256) ∧ l.length ≤ (256 - k).toNat
  | [], k, h, h0 => by simp
  | p :: l, k, h, h0 => by
    have hc := chain_le _ _ (til_chain _ _ h)
    rw [til_cons] at h
    simp only [Bool.and_eq_true, decide_eq_true_eq] at h
    obtain ⟨⟨⟨⟨h1, h2, _⟩, _⟩, _⟩, h3⟩ := h
    have hc3 := chain_le _ _ (til_chain _ _ h3)
    obtain ⟨i1, i2⟩ := til_bound l _ h3 (by omega)
    refine ⟨fun q hq => ?_, by rw [List.length_cons]; omega⟩
    rcases List.mem_cons.1 hq with rfl | hq
    · omega
    · exact i1 q hq
end Go.Proofs.YthhpamaeibjpaaaDoor
end
