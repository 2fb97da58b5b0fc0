/- Logs, in plain words: what Commit leaves; what Open finds then. -/
import Derived.Test.YtcbccogpogdbmaaLg4
namespace Go.Proofs.Ytcbccogpogdbmaa
open Go.Lib
def setsP (A : List ByteArray) (i : Nat) : List ByteArray → List ByteArray
  | [] => A
  | s :: ps => setsP (A.set i s) (i + 1) ps
theorem sets_len : ∀ (ps A : List ByteArray) (i : Nat), (setsP A i ps).length = A.length
  | [], A, i => rfl
  | s :: ps, A, i => by rw [setsP, sets_len ps]; simp
theorem sets_get : ∀ (ps A : List ByteArray) (i x : Nat), i + ps.length ≤ A.length → (setsP A i ps)[x]? = if i ≤ x ∧ x < i + ps.length then ps[x - i]? else A[x]?
  | [], A, i, x, h => by simp only [setsP, List.length_nil]; rw [if_neg (by omega)]
  | s :: ps, A, i, x, h => by
    simp only [List.length_cons] at h ⊢
    rw [setsP, sets_get ps (A.set i s) (i + 1) x (by simp; omega)]
    by_cases h1 : i = x
    · subst h1
      rw [if_neg (by omega), if_pos (by omega), List.getElem?_set_self (by omega)]
      simp
    · by_cases h2 : i + 1 ≤ x ∧ x < i + 1 + ps.length
      · rw [if_pos h2, if_pos (by omega), show x - i = (x - (i + 1)) + 1 from by omega]
        rfl
      · rw [if_neg h2, if_neg (by omega), List.getElem?_set_ne h1]
theorem puts_cut : ∀ (ps A : List ByteArray) (left : Int) (i : Nat), ∃ k, (putsP A left i ps).2.1 = setsP A i (ps.take k) ∧ ((putsP A left i ps).1 = 0 ∧ k = ps.length ∨ (putsP A left i ps).1 = 211 ∧ k < ps.length)
  | [], A, left, i => ⟨0, rfl, .inl ⟨rfl, rfl⟩⟩
  | s :: ps, A, left, i => by
    unfold putsP
    by_cases h0 : left = 0
    · subst h0
      rw [putP_none, if_pos (by simp)]
      exact ⟨0, rfl, .inr ⟨rfl, by simp⟩⟩
    · rw [putP_zero h0, if_neg (by simp)]
      obtain ⟨k, h1, h2⟩ := puts_cut ps (A.set i s) (if 0 < left then left - 1 else left) (i + 1)
      refine ⟨k + 1, h1, ?_⟩
      rcases h2 with h2 | h2
      · exact .inl ⟨h2.1, by simp [h2.2]⟩
      · exact .inr ⟨h2.1, by simpa using h2.2⟩
theorem puts_free : ∀ (ps A : List ByteArray) (left : Int) (i : Nat), left < 0 → putsP A left i ps = (0, setsP A i ps, left)
  | [], A, left, i, _ => rfl
  | s :: ps, A, left, i, h => by
    unfold putsP
    rw [putP_zero (by omega), if_neg (by simp)]
    dsimp only
    rw [if_neg (by omega)]
    exact puts_free ps _ _ _ h
def lastQ (last : Int) : List Rec → Int
  | [] => last
  | r :: D => lastQ r.1 D
def posP (base slots : Nat) (r : Rec) : Nat := base + (r.1.toNat - 1) % slots * 3
def allP (base slots : Nat) : List Rec → List ByteArray → List ByteArray
  | [], A => A
  | r :: D, A => allP base slots D (setsP A (posP base slots r) (partsP r))
/-- What Commit leaves, wherever the area stops. -/
theorem commit_cut (base slots : Nat) : ∀ (F : List Rec) (A : List ByteArray) (left last : Int) (K : List Rec), ∃ (D F' : List Rec) (e : Int) (A' : List ByteArray) (left' : Int), F = D ++ F' ∧ commitP base slots F A left last K = (e, A', left', lastQ last D, K ++ D, F') ∧
    ((e = 0 ∧ F' = [] ∧ A' = allP base slots D A) ∨ (e = 211 ∧ ∃ r F'' k, F' = r :: F'' ∧ k < (partsP r).length ∧ A' = setsP (allP base slots D A) (posP base slots r) ((partsP r).take k)))
  | [], A, left, last, K => ⟨[], [], 0, A, left, rfl, by simp [commitP, lastQ], .inl ⟨rfl, rfl, rfl⟩⟩
  | r :: F, A, left, last, K => by
    unfold commitP
    dsimp only
    obtain ⟨k, h1, h2⟩ := puts_cut (partsP r) A left (base + (r.1.toNat - 1) % slots * 3)
    rcases h2 with ⟨h2, rfl⟩ | ⟨h2, h3⟩
    · rw [if_neg (by rw [h2]; simp)]
      obtain ⟨D, F', e, A', left', e1, e2, e3⟩ := commit_cut base slots F (putsP A left (base + (r.1.toNat - 1) % slots * 3) (partsP r)).2.1 (putsP A left (base + (r.1.toNat - 1) % slots * 3) (partsP r)).2.2 r.1 (K ++ [r])
      refine ⟨r :: D, F', e, A', left', by rw [e1]; rfl, ?_, ?_⟩
      · rw [e2]
        simp [lastQ]
      · rw [List.take_length] at h1
        rw [h1] at e3
        exact e3
    · rw [if_pos (by rw [h2]; decide)]
      exact ⟨[], r :: F, 211, _, (putsP A left (base + (r.1.toNat - 1) % slots * 3) (partsP r)).2.2, rfl, by rw [h2]; simp [lastQ], .inr ⟨rfl, r, F, k, rfl, h3, h1⟩⟩
theorem commit_free (base slots : Nat) : ∀ (F : List Rec) (A : List ByteArray) (left last : Int) (K : List Rec), left < 0 → commitP base slots F A left last K = (0, allP base slots F A, left, lastQ last F, K ++ F, [])
  | [], A, left, last, K, _ => by simp [commitP, lastQ, allP]
  | r :: F, A, left, last, K, h => by
    unfold commitP
    dsimp only
    rw [puts_free _ _ _ _ h, if_neg (by simp)]
    dsimp only
    rw [commit_free base slots F _ _ _ _ h]
    simp [lastQ, allP, posP]
/-- Numbers that rise by one. -/
def RowQ (a : Int) (l : List Rec) : Prop := ∀ (j : Nat) r, l[j]? = some r → r.1 = a + j + 1
structure OkL (slots : Nat) (last : Int) (K F : List Rec) : Prop where
  row : RowQ (last - K.length) (K ++ F)
  good : ∀ r ∈ K ++ F, errR r = 0
  nn : (K.length : Int) ≤ last
  mx : last ≤ 1099511627776
  room : K.length + F.length ≤ slots
theorem last_row : ∀ (D : List Rec) (last : Int), RowQ last D → lastQ last D = last + D.length
  | [], last, _ => by simp [lastQ]
  | r :: D, last, h => by
    have h0 := h 0 r rfl
    rw [lastQ, last_row D r.1 (fun j q hq => by have := h (j + 1) q hq; omega)]
    simp only [List.length_cons]
    omega
theorem OkL.fresh {slots : Nat} {last : Int} {K F : List Rec} (h : OkL slots last K F) : RowQ last F := fun j r hr => by
  have := h.row (K.length + j) r (by rw [List.getElem?_append_right (by omega)]; simpa using hr)
  omega
theorem OkL.kept {slots : Nat} {last : Int} {K F : List Rec} (h : OkL slots last K F) : RowQ (last - K.length) K := fun j r hr => by
  have hj := (List.getElem?_eq_some_iff.1 hr).1
  exact h.row j r (by rw [List.getElem?_append_left hj]; exact hr)
theorem OkL.commit {slots : Nat} {last : Int} {K D F : List Rec} (h : OkL slots last K (D ++ F)) : OkL slots (lastQ last D) (K ++ D) F := by
  have h1 := last_row D last (fun j r hr => h.fresh j r (by rw [List.getElem?_append_left (List.getElem?_eq_some_iff.1 hr).1]; exact hr))
  have hg : lastQ last D ≤ 1099511627776 := by
    cases hD : D.getLast? with
    | none => rw [List.getLast?_eq_none_iff] at hD; subst hD; exact h.mx
    | some r =>
      have hm := List.mem_of_getLast? hD
      have hr : D[D.length - 1]? = some r := by rw [← List.getLast?_eq_getElem?]; exact hD
      have hp : 0 < D.length := List.length_pos_of_mem hm
      have h2 := h.fresh (D.length - 1) r (by rw [List.getElem?_append_left (by omega)]; exact hr)
      have h3 := errR_zero (h.good r (by simp [hm]))
      rw [h1]
      omega
  refine ⟨?_, fun r hr => h.good r (by simpa using hr), ?_, hg, ?_⟩
  · rw [h1, List.append_assoc, List.length_append]
    have : last + (D.length : Int) - ((K.length + D.length : Nat) : Int) = last - K.length := by omega
    rw [this]
    exact h.row
  · rw [h1, List.length_append]
    have := h.nn
    omega
  · have := h.room
    simp only [List.length_append] at this ⊢
    omega
theorem OkL.drop {slots : Nat} {last : Int} {K F : List Rec} (h : OkL slots last K F) (i : Nat) (hi : i ≤ K.length) : OkL slots last (K.drop i) F := by
  have h1 := h.row
  refine ⟨fun j r hr => ?_, fun r hr => h.good r ?_, ?_, h.mx, ?_⟩
  · have e : K.drop i ++ F = (K ++ F).drop i := by rw [List.drop_append_of_le_length hi]
    rw [e, List.getElem?_drop] at hr
    have := h1 (i + j) r hr
    rw [List.length_drop]
    omega
  · rcases List.mem_append.1 hr with hr | hr
    · exact List.mem_append_left _ (List.mem_of_mem_drop hr)
    · exact List.mem_append_right _ hr
  · have := h.nn
    rw [List.length_drop]
    omega
  · have := h.room
    rw [List.length_drop]
    omega
theorem OkL.append {slots : Nat} {last : Int} {K F : List Rec} (h : OkL slots last K F) (b s : Int) (d : ByteArray) :
    OkL slots last K (appendP slots last K F b s d).2.2 ∧ ((appendP slots last K F b s d).2.1 = 0 → (appendP slots last K F b s d).2.2 = F ++ [((appendP slots last K F b s d).1, b, s, d)] ∧ (appendP slots last K F b s d).1 = last + F.length + 1) ∧ ((appendP slots last K F b s d).2.1 ≠ 0 → (appendP slots last K F b s d).2.2 = F) := by
  unfold appendP
  dsimp only
  split
  · rename_i hE
    exact ⟨h, fun h0 => absurd h0 hE, fun _ => rfl⟩
  · rename_i hE
    split
    · exact ⟨h, fun h0 => absurd h0 (by simp), fun _ => rfl⟩
    · split
      · exact ⟨h, fun h0 => absurd h0 (by simp), fun _ => rfl⟩
      · rename_i h1 h2
        have hm : min (last + F.length + 1) 1099511627776 = last + F.length + 1 := by omega
        rw [hm] at hE ⊢
        refine ⟨⟨fun j r hr => ?_, fun r hr => ?_, h.nn, h.mx, by simp only [List.length_append, List.length_singleton]; omega⟩, fun _ => ⟨rfl, rfl⟩, fun h0 => absurd rfl h0⟩
        · rw [← List.append_assoc] at hr
          by_cases hj : j < (K ++ F).length
          · rw [List.getElem?_append_left hj] at hr
            exact h.row j r hr
          · rw [List.getElem?_append_right (by omega)] at hr
            have hj2 : j - (K ++ F).length = 0 := by
              have := (List.getElem?_eq_some_iff.1 hr).1
              simp at this ⊢
              omega
            rw [hj2] at hr
            simp only [List.getElem?_cons_zero, Option.some.injEq] at hr
            subst hr
            simp only [List.length_append] at hj hj2
            show last + F.length + 1 = _
            omega
        · rw [← List.append_assoc] at hr
          rcases List.mem_append.1 hr with hr | hr
          · exact h.good r hr
          · rw [List.mem_singleton.1 hr]
            simpa using hE
/-- What an area keeps of a log. -/
structure AreaOk (base slots : Nat) (A : List ByteArray) (last : Int) (K : List Rec) : Prop where
  len : A.length = 256
  lies : ∀ r ∈ K, lieP A base slots ((r.1.toNat - 1) % slots) = some r
  top : 0 < last → ∃ r, lieP A base slots ((last.toNat - 1) % slots) = some r ∧ r.1 = last
  third : ∀ i, i < slots → ∀ r, errR r = 0 → last < r.1 → A[base + 3 * i + 2]? ≠ some (mkS (partB r 2))
theorem area_empty (base slots : Nat) : AreaOk base slots (List.replicate 256 ⟨#[]⟩) 0 [] := by
  refine ⟨List.length_replicate, fun _ h => absurd h List.not_mem_nil, fun h => absurd h (by decide), fun i _ r hr _ he => ?_⟩
  rw [List.getElem?_replicate] at he
  split at he
  · have h1 := Option.some.inj he
    have h2 := congrArg ByteArray.size h1
    rw [mkS_size, partB_len hr (by omega)] at h2
    exact absurd h2 (by decide)
  · cases he
theorem mod_ne {a b m : Nat} (h : a < b) (h2 : b < a + m) : a % m ≠ b % m := by
  intro he
  have h3 : (b - a) % m = 0 := Nat.sub_mod_eq_zero_of_mod_eq he.symm
  rw [Nat.mod_eq_of_lt (by omega)] at h3
  omega
theorem lie_same {A A' : List ByteArray} {base slots i : Nat} (h : ∀ j, j < 3 → A'[base + 3 * i + j]? = A[base + 3 * i + j]?) : lieP A' base slots i = lieP A base slots i := by
  have h0 := h 0 (by omega); have h1 := h 1 (by omega); have h2 := h 2 (by omega)
  simp only [Nat.add_zero] at h0
  unfold lieP textsP
  rw [h0, h1, h2]
theorem texts_sets {A ps : List ByteArray} {base i : Nat} (hp : ps.length = 3) (hA : base + 3 * i + 3 ≤ A.length) : textsP (setsP A (base + i * 3) ps) base i = ps := by
  have hg := fun x => sets_get ps A (base + i * 3) x (by omega)
  unfold textsP
  rw [hg, hg, hg, if_pos (by omega), if_pos (by omega), if_pos (by omega)]
  rw [show base + 3 * i - (base + i * 3) = 0 from by omega, show base + 3 * i + 1 - (base + i * 3) = 1 from by omega, show base + 3 * i + 2 - (base + i * 3) = 2 from by omega]
  match ps, hp with
  | [a, b, c], _ => rfl
theorem slot_int {r : Rec} {slots : Nat} (h : 1 ≤ r.1) : (r.1 - 1) % (slots : Int) = ((r.1.toNat - 1) % slots : Nat) := by
  have : r.1 - 1 = ((r.1.toNat - 1 : Nat) : Int) := by omega
  rw [this]
  rfl
theorem AreaOk.commit {base slots : Nat} {A : List ByteArray} {last : Int} {K : List Rec} {r : Rec} (h : AreaOk base slots A last K) (hs : 1 ≤ slots) (hb : base + 3 * slots ≤ 256) (h0 : 0 ≤ last) (hr : r.1 = last + 1) (he : errR r = 0) (hK : ∀ q ∈ K, 1 ≤ q.1 ∧ q.1 ≤ last ∧ r.1 < q.1 + slots) :
    AreaOk base slots (setsP A (posP base slots r) (partsP r)) r.1 (K ++ [r]) := by
  have hl := h.len
  have hp := parts_len he
  have hsl : (r.1.toNat - 1) % slots < slots := Nat.mod_lt _ (by omega)
  obtain ⟨i0, hi0⟩ : ∃ i0, i0 = (r.1.toNat - 1) % slots := ⟨_, rfl⟩
  have hpos : posP base slots r = base + i0 * 3 := by unfold posP; rw [hi0]
  rw [← hi0] at hsl
  have hg := fun x => sets_get (partsP r) A (base + i0 * 3) x (by omega)
  rw [hpos]
  have hlie : lieP (setsP A (base + i0 * 3) (partsP r)) base slots i0 = some r := by
    unfold lieP
    rw [texts_sets hp (by omega), join_parts he, Option.filter_eq_some_iff]
    refine ⟨rfl, ?_⟩
    rw [decide_eq_true_iff, slot_int (by omega), hi0]
  have hoth : ∀ i, i ≠ i0 → ∀ j, j < 3 → (setsP A (base + i0 * 3) (partsP r))[base + 3 * i + j]? = A[base + 3 * i + j]? := fun i hi j hj => by
    rw [hg, if_neg (by omega)]
  refine ⟨by rw [sets_len]; exact hl, fun q hq => ?_, fun _ => ⟨r, by rw [← hi0]; exact hlie, rfl⟩, fun i hi q hq hlt hc => ?_⟩
  · rcases List.mem_append.1 hq with hq | hq
    · obtain ⟨k1, k2, k3⟩ := hK q hq
      rw [lie_same (hoth _ ?_)]
      · exact h.lies q hq
      · rw [hi0]
        exact mod_ne (by omega) (by omega)
    · rw [List.mem_singleton.1 hq, ← hi0]
      exact hlie
  · by_cases hi1 : i = i0
    · subst hi1
      rw [hg, if_pos (by omega), show base + 3 * i + 2 - (base + i * 3) = 2 from by omega] at hc
      unfold partsP at hc
      rw [if_pos he] at hc
      have h1 : mkS (partB r 2) = mkS (partB q 2) := Option.some.inj hc
      have h2 := mkS_inj h1
      have h3 : leB r.1.toNat 6 = leB q.1.toNat 6 := by
        have := congrArg (List.take 6) h2
        unfold partB at this
        rwa [List.take_append_of_le_length (by rw [leB_len]; omega), List.take_append_of_le_length (by rw [leB_len]; omega), List.take_of_length_le (by rw [leB_len]; omega), List.take_of_length_le (by rw [leB_len]; omega)] at this
      have e1 := errR_zero he
      have e2 := errR_zero hq
      have h4 := congrArg valB h3
      rw [valB_leB 6 _ (by omega), valB_leB 6 _ (by omega)] at h4
      omega
    · rw [hoth i hi1 2 (by omega)] at hc
      exact h.third i hi q hq (by omega) hc
theorem AreaOk.part {base slots : Nat} {A : List ByteArray} {last : Int} {K : List Rec} {r : Rec} (h : AreaOk base slots A last K) (hs : 2 ≤ slots) (hb : base + 3 * slots ≤ 256) (h0 : 0 ≤ last) (hr : r.1 = last + 1) (he : errR r = 0) (hK : ∀ q ∈ K, 1 ≤ q.1 ∧ q.1 ≤ last ∧ r.1 < q.1 + slots) (k : Nat) (hk : k < 3) :
    AreaOk base slots (setsP A (posP base slots r) ((partsP r).take k)) last K := by
  have hl := h.len
  have hp := parts_len he
  have hpt : ((partsP r).take k).length = k := by rw [List.length_take, hp]; omega
  have hsl : (r.1.toNat - 1) % slots < slots := Nat.mod_lt _ (by omega)
  obtain ⟨i0, hi0⟩ : ∃ i0, i0 = (r.1.toNat - 1) % slots := ⟨_, rfl⟩
  have hpos : posP base slots r = base + i0 * 3 := by unfold posP; rw [hi0]
  rw [← hi0] at hsl
  have hg := fun x => sets_get ((partsP r).take k) A (base + i0 * 3) x (by omega)
  rw [hpos]
  have hoth : ∀ i, i ≠ i0 → ∀ j, j < 3 → (setsP A (base + i0 * 3) ((partsP r).take k))[base + 3 * i + j]? = A[base + 3 * i + j]? := fun i hi j hj => by
    rw [hg, if_neg (by omega)]
  refine ⟨by rw [sets_len]; exact hl, fun q hq => ?_, fun hp => ?_, fun i hi q hq hlt hc => ?_⟩
  · obtain ⟨k1, k2, k3⟩ := hK q hq
    rw [lie_same (hoth _ ?_)]
    · exact h.lies q hq
    · rw [hi0]
      exact mod_ne (by omega) (by omega)
  · obtain ⟨q, q1, q2⟩ := h.top hp
    refine ⟨q, ?_, q2⟩
    rw [lie_same (hoth _ ?_)]
    · exact q1
    · rw [hi0]
      exact mod_ne (by omega) (by omega)
  · by_cases hi1 : i = i0
    · subst hi1
      rw [hg, if_neg (by omega)] at hc
      exact h.third i hi q hq hlt hc
    · rw [hoth i hi1 2 (by omega)] at hc
      exact h.third i hi q hq hlt hc
theorem OkL.near {slots : Nat} {last : Int} {K F : List Rec} {r : Rec} (h : OkL slots last K (r :: F)) : r.1 = last + 1 ∧ errR r = 0 ∧ ∀ q ∈ K, 1 ≤ q.1 ∧ q.1 ≤ last ∧ r.1 < q.1 + slots := by
  have h1 := h.fresh 0 r rfl
  refine ⟨by omega, h.good r (by simp), fun q hq => ?_⟩
  obtain ⟨j, hj⟩ := List.getElem?_of_mem hq
  have h2 := h.kept j q hj
  have h3 := (List.getElem?_eq_some_iff.1 hj).1
  have h4 := errR_zero (h.good q (by simp [hq]))
  have h5 := h.room
  simp only [List.length_cons] at h5
  omega
theorem AreaOk.all {base slots : Nat} (hs : 1 ≤ slots) (hb : base + 3 * slots ≤ 256) : ∀ (D F : List Rec) {A : List ByteArray} {last : Int} {K : List Rec}, AreaOk base slots A last K → OkL slots last K (D ++ F) → AreaOk base slots (allP base slots D A) (lastQ last D) (K ++ D)
  | [], F, A, last, K, h, _ => by simpa [allP, lastQ] using h
  | r :: D, F, A, last, K, h, hk => by
    obtain ⟨h1, h2, h3⟩ := hk.near
    have h0 := hk.nn
    have := AreaOk.all hs hb D F (h.commit hs hb (by omega) h1 h2 h3) (OkL.commit (D := [r]) hk)
    rw [List.append_assoc] at this
    exact this
/-- Wherever the area stops in a Commit, it keeps the log. -/
theorem AreaOk.cut {base slots : Nat} {F : List Rec} {A : List ByteArray} {left last : Int} {K : List Rec} (hs : 2 ≤ slots) (hb : base + 3 * slots ≤ 256) (h : AreaOk base slots A last K) (hk : OkL slots last K F) :
    AreaOk base slots (commitP base slots F A left last K).2.1 (commitP base slots F A left last K).2.2.2.1 (commitP base slots F A left last K).2.2.2.2.1 ∧ OkL slots (commitP base slots F A left last K).2.2.2.1 (commitP base slots F A left last K).2.2.2.2.1 (commitP base slots F A left last K).2.2.2.2.2 := by
  obtain ⟨D, F', e, A', left', rfl, h2, h3⟩ := commit_cut base slots F A left last K
  rw [h2]
  dsimp only
  have hk2 := hk.commit
  have hA := h.all (by omega) hb D F' hk
  refine ⟨?_, hk2⟩
  rcases h3 with ⟨_, _, rfl⟩ | ⟨_, r, F'', k, rfl, hkl, rfl⟩
  · exact hA
  · obtain ⟨n1, n2, n3⟩ := hk2.near
    rw [parts_len n2] at hkl
    have := hk2.nn
    exact hA.part hs hb (by omega) n1 n2 n3 k hkl
/-! ### What Open finds -/
theorem find_lie {A : List ByteArray} {base slots : Nat} (hs : 1 ≤ slots) {s : Int} (h1 : 1 ≤ s) {r : Rec} : findP (liesP A base slots slots) s = some r ↔ lieP A base slots ((s.toNat - 1) % slots) = some r ∧ r.1 = s := by
  have fwd : ∀ r, findP (liesP A base slots slots) s = some r → lieP A base slots ((s.toNat - 1) % slots) = some r ∧ r.1 = s := fun r hr => by
    obtain ⟨hm, he⟩ := find_mem hr
    obtain ⟨i, hi, hl⟩ := mem_lies hm
    have h2 := (lie_some hl).2.1
    rw [slot_int (by omega), he] at h2
    have h3 : (s.toNat - 1) % slots = i := by omega
    rw [h3]
    exact ⟨hl, he⟩
  constructor
  · exact fwd r
  · rintro ⟨hl, he⟩
    have hm : r ∈ liesP A base slots slots := by
      unfold liesP
      exact List.mem_filterMap.2 ⟨_, List.mem_range.2 (Nat.mod_lt _ (by omega)), hl⟩
    cases hf : findP (liesP A base slots slots) s with
    | none =>
      unfold findP at hf
      have := List.find?_eq_none.1 hf r hm
      exact absurd he.symm (by simpa using this)
    | some q =>
      have := (fwd q hf).1
      rw [hl] at this
      exact this.symm
theorem down_pre (L : List Rec) : ∀ (l : List Rec) (N : Nat), l.length ≤ N → (∀ (j : Nat) r, l[j]? = some r → findP L ((N : Int) - j) = some r) → downP L N = l ++ downP L (N - l.length)
  | [], N, _, _ => by simp
  | r :: l, 0, h, _ => by simp at h
  | r :: l, N + 1, h, hl => by
    have h0 := hl 0 r rfl
    have e1 : downP L (N + 1) = match findP L ((N : Int) + 1) with | none => [] | some r => r :: downP L N := rfl
    rw [e1, show ((N : Int) + 1) = ((N + 1 : Nat) : Int) - ((0 : Nat) : Int) from by omega, h0]
    dsimp only
    simp only [List.length_cons] at h
    rw [down_pre L l N (by omega) (fun j q hq => by
      have := hl (j + 1) q hq
      rw [← this]
      congr 1
      omega)]
    simp only [List.length_cons, List.cons_append]
    rw [show N + 1 - (l.length + 1) = N - l.length from by omega]
theorem down_at (L : List Rec) : ∀ (N j : Nat) (r : Rec), (downP L N)[j]? = some r → j < N ∧ findP L ((N : Int) - j) = some r
  | 0, j, r, h => by simp [downP] at h
  | N + 1, j, r, h => by
    have e1 : downP L (N + 1) = match findP L ((N : Int) + 1) with | none => [] | some r => r :: downP L N := rfl
    rw [e1] at h
    cases hf : findP L ((N : Int) + 1) with
    | none => rw [hf] at h; simp at h
    | some q =>
      rw [hf] at h
      cases j with
      | zero =>
        simp only [List.getElem?_cons_zero, Option.some.injEq] at h
        subst h
        refine ⟨by omega, ?_⟩
        rw [← hf]
        congr 1
      | succ j =>
        simp only [List.getElem?_cons_succ] at h
        obtain ⟨h1, h2⟩ := down_at L N j r h
        refine ⟨by omega, ?_⟩
        rw [← h2]
        congr 1
        omega
theorem last_is {base slots : Nat} {A : List ByteArray} {last : Int} {K : List Rec} (h : AreaOk base slots A last K) (hs : 1 ≤ slots) (h0 : 0 ≤ last) : lastP A base slots = last := by
  have hle : ∀ r ∈ liesP A base slots slots, r.1 ≤ last := fun r hr => by
    obtain ⟨i, hi, hl⟩ := mem_lies hr
    obtain ⟨j1, j2, j3⟩ := lie_some hl
    have j4 := (join_some j1).2
    refine Int.not_lt.1 (fun hlt => h.third i hi r j3 hlt ?_)
    unfold partsP at j4
    rw [if_pos j3] at j4
    unfold textsP at j4
    have j5 := congrArg (fun l => l[2]?) j4
    simp only [List.getElem?_cons_succ, List.getElem?_cons_zero, Option.some.injEq] at j5
    cases hc : A[base + 3 * i + 2]? with
    | none =>
      rw [hc] at j5
      have := congrArg ByteArray.size j5
      rw [mkS_size, partB_len j3 (by omega)] at this
      exact absurd this (by decide)
    | some x => rw [hc] at j5; exact congrArg some j5.symm
  unfold lastP
  refine Int.le_antisymm (max_le hle h0) ?_
  by_cases hp : 0 < last
  · obtain ⟨r, h1, h2⟩ := h.top hp
    have hm : r ∈ liesP A base slots slots := by
      unfold liesP
      exact List.mem_filterMap.2 ⟨_, List.mem_range.2 (Nat.mod_lt _ (by omega)), h1⟩
    have hge : ∀ (l : List Rec) (m : Int), m ≤ l.foldl (fun m r => max m r.1) m ∧ ∀ r ∈ l, r.1 ≤ l.foldl (fun m r => max m r.1) m := by
      intro l
      induction l with
      | nil => intro m; simp
      | cons x l ih =>
        intro m
        obtain ⟨a1, a2⟩ := ih (max m x.1)
        refine ⟨Int.le_trans (by omega) a1, fun r hr => ?_⟩
        rcases List.mem_cons.1 hr with rfl | hr
        · exact Int.le_trans (by omega) a1
        · exact a2 r hr
    have := (hge (liesP A base slots slots) 0).2 r hm
    rw [h2] at this
    exact this
  · have := max_nonneg (liesP A base slots slots) 0 (Int.le_refl _)
    unfold maxP
    omega
/-- What Open finds: all that is kept, and maybe more ahead of it, in order. -/
theorem kept_is {base slots : Nat} {A : List ByteArray} {last : Int} {K F : List Rec} (h : AreaOk base slots A last K) (hk : OkL slots last K F) (hs : 1 ≤ slots) :
    ∃ P, keptP A base slots = P ++ K ∧ (K.length = last → P = []) ∧ (P ++ K).length ≤ last ∧ RowQ (last - (P ++ K).length) (P ++ K) ∧ (∀ r ∈ P ++ K, lieP A base slots ((r.1.toNat - 1) % slots) = some r) ∧ (P ++ K).length ≤ slots := by
  have hn := hk.nn
  have hl := last_is h hs (by omega)
  obtain ⟨N, rfl⟩ := Int.eq_ofNat_of_zero_le (show 0 ≤ last by omega)
  obtain ⟨L, hL⟩ : ∃ L, L = liesP A base slots slots := ⟨_, rfl⟩
  have hfl : ∀ (s : Int) (r : Rec), 1 ≤ s → (findP L s = some r ↔ lieP A base slots ((s.toNat - 1) % slots) = some r ∧ r.1 = s) := fun s r h1 => by rw [hL]; exact find_lie hs h1
  have hd := down_pre L K.reverse N (by rw [List.length_reverse]; omega) (fun j r hr => by
    have hj := (List.getElem?_eq_some_iff.1 hr).1
    rw [List.length_reverse] at hj
    rw [List.getElem?_reverse hj] at hr
    have h1 := hk.kept _ r hr
    have e1 : r.1 = (N : Int) - j := by omega
    refine (hfl _ _ (by omega)).2 ⟨?_, e1⟩
    rw [← e1]
    exact h.lies r (List.mem_of_getElem? hr))
  rw [List.length_reverse] at hd
  have hke : keptP A base slots = (downP L N).reverse := by
    unfold keptP
    rw [hl, ← hL]
    rfl
  have hat := fun (j : Nat) (r : Rec) (hr : (downP L N).reverse[j]? = some r) => by
    have hj := (List.getElem?_eq_some_iff.1 hr).1
    rw [List.length_reverse] at hj
    rw [List.getElem?_reverse hj] at hr
    have h1 := down_at L N _ r hr
    have h2 := (hfl _ _ (by omega)).1 h1.2
    exact (show j < (downP L N).length ∧ (downP L N).length - 1 - j < N ∧ r.1 = (N : Int) - ((downP L N).length - 1 - j : Nat) ∧ lieP A base slots ((r.1.toNat - 1) % slots) = some r from ⟨hj, h1.1, h2.2, by rw [h2.2]; exact h2.1⟩)
  have heq : (downP L N).reverse = (downP L (N - K.length)).reverse ++ K := by rw [hd]; simp
  have hlN : (downP L N).length ≤ N := by
    cases hc : (downP L N).length with
    | zero => omega
    | succ m =>
      obtain ⟨r, hr⟩ : ∃ r, (downP L N)[m]? = some r := ⟨_, List.getElem?_eq_getElem (by omega)⟩
      have := (down_at L N m r hr).1
      omega
  have hlr : ((downP L N).reverse).length = (downP L N).length := List.length_reverse
  refine ⟨(downP L (N - K.length)).reverse, by rw [hke, heq], fun hz => ?_, ?_, ?_, ?_, ?_⟩
  · rw [show N - K.length = 0 from by omega]
    rfl
  · rw [← heq, hlr]; omega
  · rw [← heq]
    intro j r hr
    obtain ⟨a1, a2, a3, a4⟩ := hat j r hr
    rw [hlr, a3]
    omega
  · rw [← heq]
    intro r hr
    obtain ⟨j, hj⟩ := List.getElem?_of_mem hr
    exact (hat j r hj).2.2.2
  · rw [← heq, hlr]
    refine Nat.not_lt.1 (fun hlt => ?_)
    obtain ⟨r, hr⟩ : ∃ r, (downP L N)[0]? = some r := ⟨_, List.getElem?_eq_getElem (by omega)⟩
    obtain ⟨q, hq⟩ : ∃ q, (downP L N)[slots]? = some q := ⟨_, List.getElem?_eq_getElem (by omega)⟩
    obtain ⟨b1, b2⟩ := down_at L N _ r hr
    obtain ⟨c1, c2⟩ := down_at L N _ q hq
    replace b2 := (hfl _ _ (by omega)).1 b2
    replace c2 := (hfl _ _ (by omega)).1 c2
    have e1 : (((N : Int) - ((0 : Nat) : Int)).toNat - 1) % slots = (((N : Int) - (slots : Int)).toNat - 1) % slots := by
      have : ((N : Int) - ((0 : Nat) : Int)).toNat - 1 = (((N : Int) - (slots : Int)).toNat - 1) + slots := by omega
      rw [this, Nat.add_mod_right]
    rw [e1, c2.1] at b2
    have e2 := Option.some.inj b2.1
    have e3 := b2.2
    rw [← e2, c2.2] at e3
    omega
theorem open_ok_l {base slots : Nat} {A : List ByteArray} {last : Int} {K F : List Rec} (h : AreaOk base slots A last K) (hk : OkL slots last K F) (hs : 1 ≤ slots) :
    lastP A base slots = last ∧ OkL slots last (keptP A base slots) [] ∧ AreaOk base slots A last (keptP A base slots) := by
  have hn := hk.nn
  obtain ⟨P, h1, h2, h3, h4, h5, h6⟩ := kept_is h hk hs
  rw [h1]
  refine ⟨last_is h hs (by omega), ⟨by rw [List.append_nil]; exact h4, fun r hr => ?_, h3, hk.mx, by simpa using h6⟩, ⟨h.len, h5, h.top, h.third⟩⟩
  rw [List.append_nil] at hr
  exact (lie_some (h5 r hr)).2.2
end Go.Proofs.Ytcbccogpogdbmaa
