/- Contracts and words, several texts in one. -/
import Derived.Test.YthhpamaeibjpaaaDoorZx1
import Derived.Test.YthhpamaeibjpaaaDoorZx3
import Derived.Test.YthhpamaeibjpaaaDoorZx7
import Derived.Test.YthhpamaeibjpaaaDoorZx8
section
namespace Go.Proofs.YthhpamaeibjpaaaDoor
open Go.RowKit Go.Proofs.YthhpamaeibjpaaaDoorW.PrintWords K
abbrev SP := S71
abbrev SR := S73
def toP (p : Pt) : SP := ⟨⟨p.1, p.2.1⟩, p.2.2.1, p.2.2.2⟩
def toR (p : Pt) : SR := ⟨⟨p.1, p.2.1⟩, p.2.2.1, p.2.2.2⟩
theorem wrap_small (i : Nat) (h : i < 4611686018427387904) : wrap64 ((i : Int) + 1) = ((i + 1 : Nat) : Int) := by unfold wrap64; omega
theorem rd_at {l : List Int} {i : Nat} {x : Int} (h : l[i]? = some x) : rd l (i : Int) = x := by
  unfold rd
  rw [List.getD_eq_getElem?_getD]; simp [h]
theorem rdP_at {l : List Pt} {i : Nat} {p : Pt} (h : l[i]? = some p) : rd_T71 (l.map toP) (i : Int) = toP p := by
  unfold rd_T71
  rw [List.getD_eq_getElem?_getD]; simp [h]
theorem rdR_at {l : List Pt} {i : Nat} {p : Pt} (h : l[i]? = some p) : rd_T73 (l.map toR) (i : Int) = toR p := by
  unfold rd_T73
  rw [List.getD_eq_getElem?_getD]; simp [h]
theorem drop_at {α : Type} {l : List α} {i : Nat} {x : α} (h : l[i]? = some x) : l.drop i = x :: l.drop (i + 1) := by
  obtain ⟨h1, rfl⟩ := List.getElem?_eq_some_iff.1 h
  exact (List.getElem_cons_drop (h := h1)).symm
theorem some_at {α : Type} {l : List α} {i : Nat} (h : i < l.length) : ∃ x, l[i]? = some x := ⟨_, List.getElem?_eq_getElem h⟩
theorem drop_end {α : Type} {l : List α} {i : Nat} (h : ¬ i < l.length) : l.drop i = [] := List.drop_eq_nil_of_le (by omega)
theorem index_l0 (a : Int) (l : List Int) (hl : l.length < 4611686018427387904) : ∀ (d i k : Nat), l.length - i = d → d < k → ∃ r, slices_Index_int_int.l0 k l a (l.length : Int) (i : Int) = some r ∧ (0 ≤ r ↔ a ∈ l.drop i) := by
  intro d
  induction d with
  | zero =>
    intro i k hd hk
    obtain ⟨k, rfl⟩ : ∃ m, k = m + 1 := ⟨k - 1, by omega⟩
    refine ⟨-1, ?_, ?_⟩
    · simp only [slices_Index_int_int.l0]
      rw [if_neg (by omega)]
    · rw [drop_end (by omega)]; simp
  | succ d ih =>
    intro i k hd hk
    obtain ⟨k, rfl⟩ : ∃ m, k = m + 1 := ⟨k - 1, by omega⟩
    obtain ⟨x, hx⟩ := some_at (l := l) (i := i) (by omega)
    rw [drop_at hx]
    by_cases e : a = x
    · refine ⟨(i : Int), ?_, ?_⟩
      · simp only [slices_Index_int_int.l0]
        rw [if_pos (by omega), if_pos (by omega), if_pos (by omega), rd_at hx, if_pos e]
      · simp [e]
    · obtain ⟨r, h1, h2⟩ := ih (i + 1) k (by omega) (by omega)
      refine ⟨r, ?_, by rw [h2]; simp [e]⟩
      simp only [slices_Index_int_int.l0]
      rw [if_pos (by omega), if_pos (by omega), if_pos (by omega), rd_at hx, if_neg e, wrap_small i (by omega)]
      exact h1
theorem contains_f (l : List Int) (a : Int) (hl : l.length < 4611686018427387904) (k : Nat) (hk : l.length < k) : slices_Contains_int_int.f k l a = some (l.contains a) := by
  obtain ⟨r, h1, h2⟩ := index_l0 a l hl l.length 0 k rfl hk
  unfold slices_Contains_int_int.f slices_Index_int_int.f
  rw [show (0 : Int) = ((0 : Nat) : Int) from rfl, h1]
  simp only [Option.bind_some]
  congr 1
  rw [Bool.eq_iff_iff, decide_eq_true_eq, List.contains_iff_mem]
  simpa using h2
theorem has_f (e : Int) (l : List Int) (p : List SP) (t a : Int) (hl : l.length < 4611686018427387904) (k : Nat) (hk : l.length < k) : config_Config_has.f k e l p t a = some (l.contains a) := by
  unfold config_Config_has.f
  rw [contains_f l a hl k hk]; rfl
theorem rhas_l0 (a : Int) (l : List Int) (hl : l.length < 4611686018427387904) : ∀ (d i k : Nat), l.length - i = d → d < k → weirkeepref12_Has.l0 k l a (i : Int) = some ((l.drop i).contains a) := by
  intro d
  induction d with
  | zero =>
    intro i k hd hk
    obtain ⟨k, rfl⟩ : ∃ m, k = m + 1 := ⟨k - 1, by omega⟩
    simp only [weirkeepref12_Has.l0]
    rw [if_neg (by omega), drop_end (by omega)]; rfl
  | succ d ih =>
    intro i k hd hk
    obtain ⟨k, rfl⟩ : ∃ m, k = m + 1 := ⟨k - 1, by omega⟩
    obtain ⟨x, hx⟩ := some_at (l := l) (i := i) (by omega)
    rw [drop_at hx]
    simp only [weirkeepref12_Has.l0]
    rw [if_pos (by omega), if_pos (by omega), rd_at hx]
    by_cases e : x = a
    · rw [if_pos e, e]; simp
    · rw [if_neg e, wrap_small i (by omega), ih (i + 1) k (by omega) (by omega), List.contains_cons]
      rw [beq_eq_false_iff_ne.2 (Ne.symm e)]; rfl
theorem rhas_f (a : Int) (l : List Int) (hl : l.length < 4611686018427387904) (k : Nat) (hk : l.length < k) : weirkeepref12_Has.f k l a = some (l.contains a) := by
  unfold weirkeepref12_Has.f
  have := rhas_l0 a l hl l.length 0 k rfl hk
  rw [List.drop_zero] at this
  exact this
theorem ris_cons (last x : Int) (l : List Int) : risB last (x :: l) = (decide (last < x ∧ x < 8) && risB x l) := rfl
theorem err_bad {c : Cfg} (h : ¬ (1 ≤ c.ep ∧ c.ep ≤ 1099511627776 ∧ 1 ≤ c.tb ∧ c.tb ≤ 8 ∧ 2 ≤ c.sv.length)) : errC c = 1 := by
  unfold errC
  rw [if_neg]
  rw [okC_iff]
  exact fun hh => h hh.1
theorem check_l1 (c : Cfg) (hs : c.sv.length < 4611686018427387904) (hp : c.pt.length < 4611686018427387904) : ∀ (d i k : Nat) (at' : Int), c.pt.length - i = d → d + c.sv.length < k →
    config_Check.l1 k at' (c.pt.map toP) (c.pt.length : Int) (i : Int) c.ep c.sv (c.pt.map toP) c.tb = some (if tilB c.sv at' (c.pt.drop i) = true then 0 else 1) := by
  intro d
  induction d with
  | zero =>
    intro i k at' hd hk
    obtain ⟨k, rfl⟩ : ∃ m, k = m + 1 := ⟨k - 1, by omega⟩
    simp only [config_Check.l1]
    rw [if_neg (by omega), drop_end (by omega)]
    unfold tilB
    by_cases e : at' = 256 <;> simp [e]
  | succ d ih =>
    intro i k at' hd hk
    obtain ⟨k, rfl⟩ : ∃ m, k = m + 1 := ⟨k - 1, by omega⟩
    obtain ⟨x, hx⟩ := some_at (l := c.pt) (i := i) (by omega)
    rw [drop_at hx]
    simp only [config_Check.l1]
    rw [if_pos (by omega), if_pos (by omega), if_pos (by rw [List.length_map]; omega), rdP_at hx]
    unfold tilB
    simp only [toP]
    rw [has_f _ _ _ _ _ hs k (by omega), has_f _ _ _ _ _ hs k (by omega), wrap_small i (by omega), ih (i + 1) k _ (by omega) (by omega)]
    simp only [Option.bind_some]
    by_cases e1 : x.1 = at'
    · rw [if_pos e1]
      by_cases e2 : x.2.1 ≤ at'
      · rw [if_pos e2, if_neg]
        simp; omega
      · rw [if_neg e2]
        by_cases e3 : x.2.2.1 = x.2.2.2
        · rw [if_pos e3, if_neg]
          simp [e3]
        · rw [if_neg e3]
          have e4 : decide (x.1 = at' ∧ at' < x.2.1 ∧ x.2.2.1 ≠ x.2.2.2) = true := by simp; omega
          rw [e4]
          cases h1 : c.sv.contains x.2.2.1 with
          | false => simp
          | true =>
            cases h2 : c.sv.contains x.2.2.2 with
            | false => simp
            | true => simp
    · rw [if_neg e1, if_neg]
      simp [e1]
theorem check_l0 (c : Cfg) (hs : c.sv.length < 4611686018427387904) (hp : c.pt.length < 4611686018427387904) : ∀ (d i k : Nat) (last : Int), c.sv.length - i = d → d + c.pt.length + c.sv.length + 1 < k →
    config_Check.l0 k last c.sv (c.sv.length : Int) (i : Int) c.ep c.sv (c.pt.map toP) c.tb = some (if (risB last (c.sv.drop i) && tilB c.sv 0 c.pt) = true then 0 else 1) := by
  intro d
  induction d with
  | zero =>
    intro i k last hd hk
    obtain ⟨k, rfl⟩ : ∃ m, k = m + 1 := ⟨k - 1, by omega⟩
    simp only [config_Check.l0]
    rw [if_neg (by omega), drop_end (by omega), List.length_map, show (0 : Int) = ((0 : Nat) : Int) from rfl, check_l1 c hs hp c.pt.length 0 k _ rfl (by omega)]
    rfl
  | succ d ih =>
    intro i k last hd hk
    obtain ⟨k, rfl⟩ : ∃ m, k = m + 1 := ⟨k - 1, by omega⟩
    obtain ⟨x, hx⟩ := some_at (l := c.sv) (i := i) (by omega)
    rw [drop_at hx]
    simp only [config_Check.l0]
    rw [if_pos (by omega), if_pos (by omega), if_pos (by omega), rd_at hx, wrap_small i (by omega), ih (i + 1) k _ (by omega) (by omega), ris_cons]
    by_cases e1 : x ≤ last
    · rw [if_pos e1, if_neg]
      simp; omega
    · rw [if_neg e1]
      by_cases e2 : x ≥ 8
      · rw [if_pos e2, if_neg]
        simp; omega
      · rw [if_neg e2]
        have e3 : decide (last < x ∧ x < 8) = true := by simp; omega
        rw [e3]; simp
theorem check_f (c : Cfg) (hs : c.sv.length < 4611686018427387904) (hp : c.pt.length < 4611686018427387904) : ∃ k, config_Check.f k c.ep c.sv (c.pt.map toP) c.tb = some (errC c) := by
  refine ⟨c.sv.length + c.pt.length + c.sv.length + 4, ?_⟩
  unfold config_Check.f config_within.f
  have key := check_l0 c hs hp c.sv.length 0 (c.sv.length + c.pt.length + c.sv.length + 3) (-1) rfl (by omega)
  rw [List.drop_zero] at key
  have kt : ∀ k : Nat, config_Check.j0 (k + 1) true c.ep c.sv (c.pt.map toP) c.tb = some 1 := fun k => by simp [config_Check.j0]
  by_cases h1 : 1 ≤ c.ep ∧ c.ep ≤ 1099511627776
  · rw [if_pos h1.1]
    simp only [Option.bind_some, h1.2, decide_true, if_true]
    by_cases h2 : 1 ≤ c.tb ∧ c.tb ≤ 8
    · rw [if_pos h2.1]
      simp only [Option.bind_some, h2.2, decide_true, if_true]
      by_cases h3 : (c.sv.length : Int) < 2
      · rw [decide_eq_true h3, kt, err_bad (by omega)]
      · rw [decide_eq_false h3]
        show config_Check.j0 (c.sv.length + c.pt.length + c.sv.length + 3 + 1) false c.ep c.sv (c.pt.map toP) c.tb = _
        simp only [config_Check.j0]
        rw [if_neg (by decide), show (0 : Int) = ((0 : Nat) : Int) from rfl, key]
        have e : decide (1 ≤ c.ep ∧ c.ep ≤ 1099511627776 ∧ 1 ≤ c.tb ∧ c.tb ≤ 8 ∧ 2 ≤ c.sv.length) = true := by simp; omega
        have e2 : okC c = (risB (-1) c.sv && tilB c.sv 0 c.pt) := by unfold okC; rw [e]; rfl
        unfold errC
        rw [e2]
    · by_cases h2' : 1 ≤ c.tb
      · rw [if_pos h2']
        simp only [Option.bind_some]
        have : decide (c.tb ≤ 8) = false := by simp; omega
        rw [this, if_neg (by decide), kt, err_bad (by omega)]
      · rw [if_neg h2']
        simp only [Option.bind_some]
        rw [if_neg (by decide), kt, err_bad (by omega)]
  · by_cases h1' : 1 ≤ c.ep
    · rw [if_pos h1']
      simp only [Option.bind_some]
      have : decide (c.ep ≤ 1099511627776) = false := by simp; omega
      rw [this, if_neg (by decide), kt, err_bad (by omega)]
    · rw [if_neg h1']
      simp only [Option.bind_some]
      rw [if_neg (by decide), kt, err_bad (by omega)]
end Go.Proofs.YthhpamaeibjpaaaDoor
end
section
namespace Go.Proofs.YthhpamaeibjpaaaDoor
open Go.RowKit Go.Proofs.YthhpamaeibjpaaaDoorW.PrintWords K
theorem til_cons (sv : List Int) (k : Int) (p : Pt) (l : List Pt) : tilB sv k (p :: l) = (decide (p.1 = k ∧ k < p.2.1 ∧ p.2.2.1 ≠ p.2.2.2) && sv.contains p.2.2.1 && sv.contains p.2.2.2 && tilB sv p.2.1 l) := rfl
theorem rcheck_l1 (c : Cfg) (hs : c.sv.length < 4611686018427387904) (hp : c.pt.length < 4611686018427387904) : ∀ (d i k : Nat) (at' : Int), c.pt.length - i = d → d + c.sv.length < k →
    weirkeepref12_Check.l1 k at' (i : Int) c.ep c.sv (c.pt.map toR) c.tb = some (if tilB c.sv at' (c.pt.drop i) = true then 0 else 1) := by
  intro d
  induction d with
  | zero =>
    intro i k at' hd hk
    obtain ⟨k, rfl⟩ : ∃ m, k = m + 1 := ⟨k - 1, by omega⟩
    simp only [weirkeepref12_Check.l1]
    rw [if_neg (by rw [List.length_map]; omega), drop_end (by omega)]
    unfold tilB
    by_cases e : at' = 256 <;> simp [e]
  | succ d ih =>
    intro i k at' hd hk
    obtain ⟨k, rfl⟩ : ∃ m, k = m + 1 := ⟨k - 1, by omega⟩
    obtain ⟨x, hx⟩ := some_at (l := c.pt) (i := i) (by omega)
    rw [drop_at hx]
    simp only [weirkeepref12_Check.l1]
    rw [if_pos (by rw [List.length_map]; omega), if_pos (by omega), rdR_at hx, til_cons]
    simp only [toR]
    rw [rhas_f _ _ hs k (by omega), rhas_f _ _ hs k (by omega), wrap_small i (by omega), ih (i + 1) k _ (by omega) (by omega)]
    simp only [Option.bind_some]
    by_cases e1 : x.1 = at'
    · rw [if_pos e1]
      by_cases e2 : x.2.1 ≤ at'
      · rw [if_pos e2, if_neg]
        simp; omega
      · rw [if_neg e2]
        cases h1 : c.sv.contains x.2.2.1 with
        | false => simp
        | true =>
          cases h2 : c.sv.contains x.2.2.2 with
          | false => simp
          | true =>
            by_cases e3 : x.2.2.1 = x.2.2.2
            · simp [e3]
            · have e4 : decide (x.1 = at' ∧ at' < x.2.1 ∧ x.2.2.1 ≠ x.2.2.2) = true := by simp; omega
              rw [e4]; simp [e3]
    · rw [if_neg e1, if_neg]
      simp [e1]
def lastI (l : List Int) : Nat → Int
  | 0 => -1
  | i + 1 => l.getD i 0
theorem rcheck_l0 (c : Cfg) (hs : c.sv.length < 4611686018427387904) (hp : c.pt.length < 4611686018427387904) : ∀ (d i k : Nat), c.sv.length - i = d → d + c.pt.length + c.sv.length + 1 < k → -1 ≤ lastI c.sv i →
    weirkeepref12_Check.l0 k (i : Int) c.ep c.sv (c.pt.map toR) c.tb = some (if (risB (lastI c.sv i) (c.sv.drop i) && tilB c.sv 0 c.pt) = true then 0 else 1) := by
  intro d
  induction d with
  | zero =>
    intro i k hd hk _
    obtain ⟨k, rfl⟩ : ∃ m, k = m + 1 := ⟨k - 1, by omega⟩
    simp only [weirkeepref12_Check.l0]
    rw [if_neg (by omega), drop_end (by omega), show (0 : Int) = ((0 : Nat) : Int) from rfl, rcheck_l1 c hs hp c.pt.length 0 k _ rfl (by omega)]
    rfl
  | succ d ih =>
    intro i k hd hk hl
    obtain ⟨k, rfl⟩ : ∃ m, k = m + 1 := ⟨k - 1, by omega⟩
    obtain ⟨x, hx⟩ := some_at (l := c.sv) (i := i) (by omega)
    have hx' : c.sv.getD i 0 = x := by rw [List.getD_eq_getElem?_getD, hx]; rfl
    have hl1 : lastI c.sv (i + 1) = x := hx'
    rw [drop_at hx, ris_cons]
    simp only [weirkeepref12_Check.l0]
    rw [if_pos (by omega), if_pos (by omega), rd_at hx, wrap_small i (by omega)]
    by_cases e1 : x < 0
    · rw [if_pos e1, if_neg]
      simp; omega
    rw [if_neg e1]
    by_cases e2 : x ≥ 8
    · rw [if_pos e2, if_neg]
      simp; omega
    rw [if_neg e2]
    have ih' := ih (i + 1) k (by omega) (by omega) (by rw [hl1]; omega)
    rw [hl1] at ih'
    cases i with
    | zero =>
      rw [if_neg (by omega), ih']
      have e3 : decide (lastI c.sv 0 < x ∧ x < 8) = true := by unfold lastI; simp; omega
      rw [e3]; simp
    | succ j =>
      have ew : wrap64 (((j + 1 : Nat) : Int) - 1) = (j : Int) := by unfold wrap64; omega
      obtain ⟨y, hy⟩ := some_at (l := c.sv) (i := j) (by omega)
      have hly : lastI c.sv (j + 1) = y := by show c.sv.getD j 0 = y; rw [List.getD_eq_getElem?_getD, hy]; rfl
      rw [if_pos (by omega), ew, if_pos (by omega), if_pos (by omega), rd_at hy, hly]
      by_cases e3 : x ≤ y
      · rw [if_pos e3, if_neg]
        simp; omega
      · rw [if_neg e3, ih']
        have e4 : decide (y < x ∧ x < 8) = true := by simp; omega
        rw [e4]; simp
theorem rcheck_f (c : Cfg) (hs : c.sv.length < 4611686018427387904) (hp : c.pt.length < 4611686018427387904) : ∃ k, weirkeepref12_Check.f k c.ep c.sv (c.pt.map toR) c.tb = some (errC c) := by
  refine ⟨c.sv.length + c.pt.length + c.sv.length + 4, ?_⟩
  unfold weirkeepref12_Check.f
  have key := rcheck_l0 c hs hp c.sv.length 0 (c.sv.length + c.pt.length + c.sv.length + 3) rfl (by omega) (by simp [lastI])
  rw [List.drop_zero] at key
  have kt : ∀ k : Nat, weirkeepref12_Check.j0 (k + 1) true c.ep c.sv (c.pt.map toR) c.tb = some 1 := fun k => by simp [weirkeepref12_Check.j0]
  by_cases h1 : c.ep < 1
  · rw [if_pos h1, kt, err_bad (by omega)]
  rw [if_neg h1]
  by_cases h2 : c.ep > 1099511627776
  · rw [if_pos h2, kt, err_bad (by omega)]
  rw [if_neg h2]
  by_cases h3 : c.tb < 1
  · rw [if_pos h3, kt, err_bad (by omega)]
  rw [if_neg h3]
  by_cases h4 : c.tb > 8
  · rw [if_pos h4, kt, err_bad (by omega)]
  rw [if_neg h4]
  by_cases h5 : (c.sv.length : Int) < 2
  · rw [if_pos h5, kt, err_bad (by omega)]
  rw [if_neg h5]
  have e : decide (1 ≤ c.ep ∧ c.ep ≤ 1099511627776 ∧ 1 ≤ c.tb ∧ c.tb ≤ 8 ∧ 2 ≤ c.sv.length) = true := by simp; omega
  have e2 : okC c = (risB (-1) c.sv && tilB c.sv 0 c.pt) := by unfold okC; rw [e]; rfl
  unfold errC
  rw [e2]
  by_cases h6 : ((c.pt.map toR).length : Int) < 1
  · rw [decide_eq_true h6, kt]
    rw [List.length_map] at h6
    have h0 : c.pt = [] := List.eq_nil_of_length_eq_zero (by omega)
    rw [h0, if_neg]
    simp [tilB]
  · rw [decide_eq_false h6]
    show weirkeepref12_Check.j0 (c.sv.length + c.pt.length + c.sv.length + 3 + 1) false c.ep c.sv (c.pt.map toR) c.tb = _
    simp only [weirkeepref12_Check.j0]
    rw [if_neg (by decide), show (0 : Int) = ((0 : Nat) : Int) from rfl, key]
    rfl
def toB (x : Int × Int) : SR := ⟨⟨0, 0⟩, x.1, x.2⟩
def need (l : List Pt) : Nat := match l with | [] => 0 | p :: l => (p.2.1 - p.1).toNat + 2 + need l
theorem blocks_l (c : Cfg) (hp : c.pt.length < 4398046511104) (hb : ∀ p ∈ c.pt, 0 ≤ p.1 ∧ p.2.1 ≤ 256) : ∀ (d i k : Nat) (acc : List SR), c.pt.length - i = d → acc.length + (blk (c.pt.drop i)).length < 4398046511104 → need (c.pt.drop i) < k →
    weirkeepref12_Config_blocks.l0 k acc (i : Int) c.ep c.sv (c.pt.map toR) c.tb = some (acc ++ (blk (c.pt.drop i)).map toB) := by
  intro d
  induction d with
  | zero =>
    intro i k acc hd ha hk
    obtain ⟨k, rfl⟩ : ∃ m, k = m + 1 := ⟨k - 1, by omega⟩
    simp only [weirkeepref12_Config_blocks.l0]
    rw [if_neg (by rw [List.length_map]; omega), drop_end (by omega)]
    simp [blk]
  | succ d ih =>
    intro i k acc hd ha hk
    obtain ⟨k, rfl⟩ : ∃ m, k = m + 1 := ⟨k - 1, by omega⟩
    obtain ⟨x, hx⟩ := some_at (l := c.pt) (i := i) (by omega)
    rw [drop_at hx] at ha hk ⊢
    have hxb := hb x (List.mem_of_getElem? hx)
    rw [blk_cons] at ha ⊢
    simp only [weirkeepref12_Config_blocks.l0]
    rw [if_pos (by rw [List.length_map]; omega), if_pos (by omega), rdR_at hx]
    have inner : ∀ (m k : Nat) (acc : List SR) (j : Int), (x.2.1 - j).toNat = m → 0 ≤ j → m + 1 + need (c.pt.drop (i + 1)) < k → acc.length + m + (blk (c.pt.drop (i + 1))).length < 4398046511104 →
        weirkeepref12_Config_blocks.l1 k acc (i : Int) j c.ep c.sv (c.pt.map toR) c.tb = some (acc ++ List.replicate m (toB (x.2.2.1, x.2.2.2)) ++ (blk (c.pt.drop (i + 1))).map toB) := by
      intro m
      induction m with
      | zero =>
        intro k acc j hm hj hk ha
        obtain ⟨k, rfl⟩ : ∃ m, k = m + 1 := ⟨k - 1, by omega⟩
        simp only [weirkeepref12_Config_blocks.l1]
        rw [if_pos (by omega), if_pos (by rw [List.length_map]; omega), rdR_at hx, if_neg (by simp only [toR]; omega), wrap_small i (by omega), ih (i + 1) k acc (by omega) (by omega) (by omega)]
        simp
      | succ m ihm =>
        intro k acc j hm hj hk ha
        obtain ⟨k, rfl⟩ : ∃ m, k = m + 1 := ⟨k - 1, by omega⟩
        have ej : wrap64 (j + 1) = j + 1 := by unfold wrap64; omega
        simp only [weirkeepref12_Config_blocks.l1]
        rw [if_pos (by omega), if_pos (by rw [List.length_map]; omega), rdR_at hx, if_pos (by simp only [toR]; omega), if_pos (by omega), ej,
          ihm k _ (j + 1) (by omega) (by omega) (by omega) (by rw [List.length_append, List.length_singleton]; omega)]
        rw [List.replicate_succ]
        simp only [toR, toB, List.append_assoc, List.cons_append, List.nil_append]
    unfold need at hk
    rw [List.length_append, List.length_replicate] at ha
    have := inner (x.2.1 - x.1).toNat k acc x.1 rfl hxb.1 (by omega) (by omega)
    simp only [toR]
    rw [this, List.map_append, List.map_replicate, List.append_assoc]
theorem til_bound {sv : List Int} : ∀ (l : List Pt) (k : Int), tilB sv k l = true → 0 ≤ k → (∀ p ∈ l, 0 ≤ p.1 ∧ p.2.1 ≤ 256) ∧ l.length ≤ (256 - k).toNat
  | [], k, h, h0 => by simp
  | p :: l, k, h, h0 => by
    have hc := chain_le _ _ (til_chain _ _ h)
    rw [til_cons] at h
    simp only [Bool.and_eq_true, decide_eq_true_eq] at h
    obtain ⟨⟨⟨⟨h1, h2, _⟩, _⟩, _⟩, h3⟩ := h
    have hc3 := chain_le _ _ (til_chain _ _ h3)
    obtain ⟨i1, i2⟩ := til_bound l _ h3 (by omega)
    refine ⟨fun q hq => ?_, by rw [List.length_cons]; omega⟩
    rcases List.mem_cons.1 hq with rfl | hq
    · omega
    · exact i1 q hq
theorem blocks_f (c : Cfg) (h : okC c = true) : ∃ k, weirkeepref12_Config_blocks.f k c.ep c.sv (c.pt.map toR) c.tb = some ((blk c.pt).map toB) := by
  have ht := ((okC_iff c).1 h).2.2
  obtain ⟨b1, b2⟩ := til_bound _ _ ht (by omega)
  have hl := chain_blk _ _ (til_chain _ _ ht)
  refine ⟨need c.pt + 1, ?_⟩
  have := blocks_l c (by omega) b1 c.pt.length 0 (need c.pt + 1) [] rfl (by simp; omega) (by simp)
  simpa [weirkeepref12_Config_blocks.f] using this
theorem other_l0 (a b : Int) (l : List Int) (hl : l.length < 4611686018427387904) : ∀ (d i k : Nat), l.length - i = d → d < k → weirkeepref12_other.l0 k l a b (i : Int) = some (((l.drop i).find? fun m => m != a && m != b).getD a) := by
  intro d
  induction d with
  | zero =>
    intro i k hd hk
    obtain ⟨k, rfl⟩ : ∃ m, k = m + 1 := ⟨k - 1, by omega⟩
    simp only [weirkeepref12_other.l0]
    rw [if_neg (by omega), drop_end (by omega)]; rfl
  | succ d ih =>
    intro i k hd hk
    obtain ⟨k, rfl⟩ : ∃ m, k = m + 1 := ⟨k - 1, by omega⟩
    obtain ⟨x, hx⟩ := some_at (l := l) (i := i) (by omega)
    rw [drop_at hx, List.find?_cons]
    simp only [weirkeepref12_other.l0]
    rw [if_pos (by omega), if_pos (by omega), rd_at hx, wrap_small i (by omega), ih (i + 1) k (by omega) (by omega)]
    by_cases e1 : x = a
    · rw [if_pos e1]; simp [e1]
    · rw [if_neg e1]
      by_cases e2 : x = b
      · rw [if_pos e2]; simp [e2]
      · have e3 : (x != a && x != b) = true := by simp [e1, e2]
        rw [if_neg e2, e3]; rfl
theorem other_f (l : List Int) (a b : Int) (hl : l.length < 4611686018427387904) : ∃ k, weirkeepref12_other.f k l a b = some (otherR l a b) :=
  ⟨l.length + 1, by have := other_l0 a b l hl l.length 0 (l.length + 1) rfl (by omega); simpa [weirkeepref12_other.f, otherR] using this⟩
theorem same_l1 (c : Cfg) (hp : c.pt.length < 4611686018427387904) : ∀ (d i k : Nat), c.pt.length - i = d → d < k →
    weirkeepref12_Same.l1 k (i : Int) c.ep c.sv (c.pt.map toR) c.tb c.ep c.sv (c.pt.map toR) c.tb = some true := by
  intro d
  induction d with
  | zero =>
    intro i k hd hk
    obtain ⟨k, rfl⟩ : ∃ m, k = m + 1 := ⟨k - 1, by omega⟩
    simp only [weirkeepref12_Same.l1]
    rw [if_neg (by rw [List.length_map]; omega)]
  | succ d ih =>
    intro i k hd hk
    obtain ⟨k, rfl⟩ : ∃ m, k = m + 1 := ⟨k - 1, by omega⟩
    simp only [weirkeepref12_Same.l1]
    rw [if_pos (by rw [List.length_map]; omega), if_pos (by omega), if_pos (by rw [List.length_map]; omega), if_neg (by simp), wrap_small i (by omega)]
    exact ih (i + 1) k (by omega) (by omega)
theorem same_l0 (c : Cfg) (hs : c.sv.length < 4611686018427387904) (hp : c.pt.length < 4611686018427387904) : ∀ (d i k : Nat), c.sv.length - i = d → d + c.pt.length + 1 < k →
    weirkeepref12_Same.l0 k (i : Int) c.ep c.sv (c.pt.map toR) c.tb c.ep c.sv (c.pt.map toR) c.tb = some true := by
  intro d
  induction d with
  | zero =>
    intro i k hd hk
    obtain ⟨k, rfl⟩ : ∃ m, k = m + 1 := ⟨k - 1, by omega⟩
    simp only [weirkeepref12_Same.l0]
    rw [if_neg (by omega), show (0 : Int) = ((0 : Nat) : Int) from rfl]
    exact same_l1 c hp c.pt.length 0 k rfl (by omega)
  | succ d ih =>
    intro i k hd hk
    obtain ⟨k, rfl⟩ : ∃ m, k = m + 1 := ⟨k - 1, by omega⟩
    simp only [weirkeepref12_Same.l0]
    rw [if_pos (by omega), if_pos (by omega), if_pos (by omega), if_pos trivial, wrap_small i (by omega)]
    exact ih (i + 1) k (by omega) (by omega)
theorem same_f (c : Cfg) (hs : c.sv.length < 4611686018427387904) (hp : c.pt.length < 4611686018427387904) : ∃ k, weirkeepref12_Same.f k c.ep c.sv (c.pt.map toR) c.tb c.ep c.sv (c.pt.map toR) c.tb = some true := by
  refine ⟨c.sv.length + c.pt.length + 4, ?_⟩
  unfold weirkeepref12_Same.f
  rw [if_pos rfl, if_pos rfl, if_pos rfl]
  show weirkeepref12_Same.j0 (c.sv.length + c.pt.length + 3 + 1) _ _ _ _ _ _ _ _ _ = _
  simp only [weirkeepref12_Same.j0]
  rw [if_neg (by simp), show (0 : Int) = ((0 : Nat) : Int) from rfl]
  exact same_l0 c hs hp c.sv.length 0 _ rfl (by omega)
end Go.Proofs.YthhpamaeibjpaaaDoor
end
