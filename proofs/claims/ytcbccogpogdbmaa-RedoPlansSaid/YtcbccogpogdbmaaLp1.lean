/- Logs, in plain words: what lies in an area; Open. -/
import Derived.Test.YtcbccogpogdbmaaRd
import Derived.Test.YtcbccogpogdbmaaGen
namespace Go.Proofs.Ytcbccogpogdbmaa
/-- The three texts of a slot. -/
def textsP (A : List ByteArray) (base i : Nat) : List ByteArray := [A[base + 3 * i]?.getD ⟨#[]⟩, A[base + 3 * i + 1]?.getD ⟨#[]⟩, A[base + 3 * i + 2]?.getD ⟨#[]⟩]
def lieP (A : List ByteArray) (base slots i : Nat) : Option Rec := (joinP (textsP A base i)).filter fun r => decide ((r.1 - 1) % (slots : Int) = i)
def liesP (A : List ByteArray) (base slots k : Nat) : List Rec := (List.range k).filterMap (lieP A base slots)
def maxP (l : List Rec) : Int := l.foldl (fun m r => max m r.1) 0
def findP (l : List Rec) (s : Int) : Option Rec := l.find? fun r => decide (s = r.1)
def downP (l : List Rec) : Nat → List Rec
  | 0 => []
  | s + 1 => match findP l ((s : Int) + 1) with
    | none => []
    | some r => r :: downP l s
def lastP (A : List ByteArray) (base slots : Nat) : Int := maxP (liesP A base slots slots)
def keptP (A : List ByteArray) (base slots : Nat) : List Rec := (downP (liesP A base slots slots) (lastP A base slots).toNat).reverse
theorem lies_succ (A : List ByteArray) (base slots k : Nat) : liesP A base slots (k + 1) = liesP A base slots k ++ (lieP A base slots k).toList := by
  unfold liesP
  rw [List.range_succ, List.filterMap_append]
  simp only [List.filterMap_cons, List.filterMap_nil]
  cases lieP A base slots k <;> rfl
theorem max_snoc (l : List Rec) (r : Rec) : maxP (l ++ [r]) = max (maxP l) r.1 := by simp [maxP]
theorem max_nonneg : ∀ (l : List Rec) (m : Int), 0 ≤ m → 0 ≤ l.foldl (fun m r => max m r.1) m
  | [], m, h => h
  | r :: l, m, h => max_nonneg l (max m r.1) (by omega)
theorem lie_some {A : List ByteArray} {base slots i : Nat} {r : Rec} (h : lieP A base slots i = some r) : joinP (textsP A base i) = some r ∧ (r.1 - 1) % (slots : Int) = i ∧ errR r = 0 := by
  unfold lieP at h
  rw [Option.filter_eq_some_iff] at h
  exact ⟨h.1, by simpa using h.2, (join_some h.1).1⟩
theorem mem_lies {A : List ByteArray} {base slots k : Nat} {r : Rec} (h : r ∈ liesP A base slots k) : ∃ i, i < k ∧ lieP A base slots i = some r := by
  unfold liesP at h
  obtain ⟨i, hi, h⟩ := List.mem_filterMap.1 h
  exact ⟨i, List.mem_range.1 hi, h⟩
/-- A number that lies in a later slot is not there yet. -/
theorem lies_fresh {A : List ByteArray} {base slots k : Nat} {r : Rec} (h : lieP A base slots k = some r) : ∀ q ∈ liesP A base slots k, q.1 ≠ r.1 := by
  intro q hq he
  obtain ⟨i, hi, hl⟩ := mem_lies hq
  have h1 := (lie_some hl).2.1
  have h2 := (lie_some h).2.1
  rw [he, h2] at h1
  omega
def pairR (r : Rec) : Int × Rec := (r.1, r)
theorem upsert_lies {A : List ByteArray} {base slots k : Nat} {r : Rec} (h : lieP A base slots k = some r) : upsert ((liesP A base slots k).map pairR) r.1 r = (liesP A base slots (k + 1)).map pairR := by
  have hno : (((liesP A base slots k).map pairR).any fun p => decide (r.1 = p.1)) = false := by
    rw [List.any_eq_false]
    intro p hp
    obtain ⟨q, hq, rfl⟩ := List.mem_map.1 hp
    have := lies_fresh h q hq
    exact fun e => this (of_decide_eq_true e).symm
  unfold upsert
  rw [hno, lies_succ, h]
  simp [pairR]
theorem look_pairs (l : List Rec) (s : Int) : look (l.map pairR) s = findP l s := by
  unfold look findP
  rw [List.find?_map, Option.map_map]
  have : (fun p : Int × Rec => decide (s = p.1)) ∘ pairR = fun r => decide (s = r.1) := rfl
  rw [this]
  cases l.find? (fun r => decide (s = r.1)) <;> rfl
theorem max_le {l : List Rec} {n : Int} (h : ∀ r ∈ l, r.1 ≤ n) (hn : 0 ≤ n) : maxP l ≤ n := by
  have : ∀ (l : List Rec) (m : Int), m ≤ n → (∀ r ∈ l, r.1 ≤ n) → l.foldl (fun m r => max m r.1) m ≤ n := by
    intro l
    induction l with
    | nil => intro m hm _; exact hm
    | cons r l ih => intro m hm hl; exact ih _ (by have := hl r (by simp); show max m r.1 ≤ n; omega) (fun q hq => hl q (List.mem_cons_of_mem _ hq))
  exact this l 0 hn h
theorem lies_bounds {A : List ByteArray} {base slots k : Nat} {r : Rec} (h : r ∈ liesP A base slots k) : 1 ≤ r.1 ∧ r.1 ≤ 1099511627776 := by
  obtain ⟨i, _, hl⟩ := mem_lies h
  have := errR_zero (lie_some hl).2.2
  omega
theorem max_bounds (A : List ByteArray) (base slots k : Nat) : 0 ≤ maxP (liesP A base slots k) ∧ maxP (liesP A base slots k) ≤ 1099511627776 :=
  ⟨max_nonneg _ 0 (Int.le_refl _), max_le (fun r hr => (lies_bounds hr).2) (by omega)⟩
theorem lies_len (A : List ByteArray) (base slots k : Nat) : (liesP A base slots k).length ≤ k := by
  unfold liesP
  have := List.length_filterMap_le (lieP A base slots) (List.range k)
  simpa using this
theorem find_mem {l : List Rec} {s : Int} {r : Rec} (h : findP l s = some r) : r ∈ l ∧ r.1 = s := by
  unfold findP at h
  exact ⟨List.mem_of_find?_eq_some h, by have := List.find?_some h; simpa using (of_decide_eq_true this).symm⟩
end Go.Proofs.Ytcbccogpogdbmaa
