/- Contracts and words, several texts in one. -/
section
namespace Go.Proofs.YthhpamaeibjpaaaDoor
abbrev Pt := Int × Int × Int × Int
structure Cfg where
  ep : Int
  sv : List Int
  pt : List Pt
  tb : Int
abbrev Ord := Int × Int × Int × Int × Int
def zeroCfg : Cfg := ⟨0, [], [], 0⟩
def newCfg : Cfg := ⟨1, [0, 1], [(0, 256, 0, 1)], 1⟩
def risB : Int → List Int → Bool
  | _, [] => true
  | last, n :: l => decide (last < n ∧ n < 8) && risB n l
def tilB (sv : List Int) : Int → List Pt → Bool
  | k, [] => decide (k = 256)
  | k, p :: l => decide (p.1 = k ∧ k < p.2.1 ∧ p.2.2.1 ≠ p.2.2.2) && sv.contains p.2.2.1 && sv.contains p.2.2.2 && tilB sv p.2.1 l
def okC (c : Cfg) : Bool := decide (1 ≤ c.ep ∧ c.ep ≤ 1099511627776 ∧ 1 ≤ c.tb ∧ c.tb ≤ 8 ∧ 2 ≤ c.sv.length) && risB (-1) c.sv && tilB c.sv 0 c.pt
def errC (c : Cfg) : Int := if okC c = true then 0 else 1
def blk (l : List Pt) : List (Int × Int) := l.flatMap fun p => List.replicate (p.2.1 - p.1).toNat (p.2.2.1, p.2.2.2)
def jput (out : List Pt) (p : Pt) : List Pt :=
  match out.getLast? with
  | none => out ++ [p]
  | some q => if q.2.2.1 = p.2.2.1 ∧ q.2.2.2 = p.2.2.2 then out.dropLast ++ [(q.1, p.2.1, q.2.2.1, q.2.2.2)] else out ++ [p]
def jstep (out : List Pt) (p : Pt) : List Pt := if p.2.1 ≤ p.1 then out else jput out p
def joinP (l : List Pt) : List Pt := l.foldl jstep []
def prun : List Pt → Nat → List (Int × Int) → List Pt
  | out, _, [] => out
  | out, k, x :: xs => prun (jput out ((k : Int), (k : Int) + 1, x.1, x.2)) (k + 1) xs
def partsP (l : List (Int × Int)) : List Pt := prun [] 0 l
def Chain : Int → List Pt → Prop
  | k, [] => k = 256
  | k, p :: l => (p.2.1 ≤ p.1 ∧ Chain k l) ∨ (p.1 = k ∧ k < p.2.1 ∧ Chain p.2.1 l)
theorem jput_jput (out : List Pt) (f t u a b : Int) : jput (jput out (f, t, a, b)) (t, u, a, b) = jput out (f, u, a, b) := by
  unfold jput
  cases h : out.getLast? with
  | none => simp
  | some q =>
    obtain ⟨q1, q2, q3, q4⟩ := q
    dsimp only
    by_cases e : q3 = a ∧ q4 = b
    · obtain ⟨rfl, rfl⟩ := e
      simp
    · rw [if_neg e]
      simp [e]
theorem prun_rep (a b : Int) : ∀ (m : Nat) (out : List Pt) (f : Int) (k : Nat) (l : List (Int × Int)), prun (jput out (f, (k : Int), a, b)) k (List.replicate m (a, b) ++ l) = prun (jput out (f, (k : Int) + m, a, b)) (k + m) l
  | 0, out, f, k, l => by simp
  | m + 1, out, f, k, l => by
    rw [List.replicate_succ, List.cons_append]
    show prun (jput (jput out (f, (k : Int), a, b)) ((k : Int), (k : Int) + 1, a, b)) (k + 1) _ = _
    rw [jput_jput]
    have := prun_rep a b m out f (k + 1) l
    rw [show ((k + 1 : Nat) : Int) = (k : Int) + 1 from by omega] at this
    rw [this]
    congr 1
    · congr 3; omega
    · omega
theorem prun_part (out : List Pt) (k : Nat) (t a b : Int) (l : List (Int × Int)) (h : (k : Int) < t) : prun out k (List.replicate (t - k).toNat (a, b) ++ l) = prun (jput out ((k : Int), t, a, b)) t.toNat l := by
  obtain ⟨m, hm⟩ : ∃ m : Nat, (t - k).toNat = m + 1 := ⟨(t - k).toNat - 1, by omega⟩
  rw [hm, List.replicate_succ, List.cons_append]
  show prun (jput out ((k : Int), (k : Int) + 1, a, b)) (k + 1) _ = _
  have := prun_rep a b m out k (k + 1) l
  rw [show ((k + 1 : Nat) : Int) = (k : Int) + 1 from by omega] at this
  rw [this]
  have e1 : (k : Int) + 1 + m = t := by omega
  have e2 : k + 1 + m = t.toNat := by omega
  rw [e1, e2]
theorem chain_run : ∀ (l : List Pt) (out : List Pt) (k : Nat), Chain k l → l.foldl jstep out = prun out k (blk l)
  | [], out, k, _ => rfl
  | p :: l, out, k, h => by
    obtain ⟨f, t, a, b⟩ := p
    rcases h with ⟨h1, h2⟩ | ⟨h1, h2, h3⟩
    · dsimp only at h1
      have e : blk ((f, t, a, b) :: l) = blk l := by
        unfold blk
        rw [List.flatMap_cons]
        dsimp only
        rw [show (t - f).toNat = 0 from by omega]; rfl
      rw [List.foldl_cons, e, ← chain_run l out k h2]
      unfold jstep
      rw [if_pos h1]
    · dsimp only at h1 h2 h3
      subst h1
      have e : blk (((k : Int), t, a, b) :: l) = List.replicate (t - k).toNat (a, b) ++ blk l := rfl
      rw [List.foldl_cons, e, prun_part out k t a b _ h2]
      have h3' : Chain (t.toNat : Nat) l := by rw [show ((t.toNat : Nat) : Int) = t from by omega]; exact h3
      rw [← chain_run l _ t.toNat h3']
      congr 1
      unfold jstep
      dsimp only
      rw [if_neg (by omega)]
theorem join_parts {l : List Pt} (h : Chain 0 l) : joinP l = partsP (blk l) := chain_run l [] 0 h
theorem til_chain {sv : List Int} : ∀ (l : List Pt) (k : Int), tilB sv k l = true → Chain k l
  | [], k, h => (by
    have h' : decide (k = 256) = true := h
    show k = 256
    exact of_decide_eq_true h')
  | p :: l, k, h => by
    unfold tilB at h
    simp only [Bool.and_eq_true, decide_eq_true_eq] at h
    obtain ⟨⟨⟨⟨h1, h2, _⟩, _⟩, _⟩, h3⟩ := h
    exact .inr ⟨h1, h2, til_chain l _ h3⟩
theorem chain_le : ∀ (l : List Pt) (k : Int), Chain k l → k ≤ 256
  | [], k, h => by have : k = 256 := h; omega
  | p :: l, k, h => by
    rcases h with ⟨_, h2⟩ | ⟨_, h2, h3⟩
    · exact chain_le l k h2
    · have := chain_le l _ h3; omega
theorem chain_blk : ∀ (l : List Pt) (k : Int), Chain k l → (blk l).length = (256 - k).toNat
  | [], k, h => by have : k = 256 := h; subst this; rfl
  | p :: l, k, h => by
    obtain ⟨f, t, a, b⟩ := p
    have e : blk ((f, t, a, b) :: l) = List.replicate (t - f).toNat (a, b) ++ blk l := rfl
    rw [e, List.length_append, List.length_replicate]
    rcases h with ⟨h1, h2⟩ | ⟨h1, h2, h3⟩
    · dsimp only at h1
      rw [chain_blk l k h2]; omega
    · dsimp only at h1 h2 h3
      subst h1
      have := chain_le l _ h3
      rw [chain_blk l _ h3]; omega
end Go.Proofs.YthhpamaeibjpaaaDoor
end
section
namespace Go.Proofs.YthhpamaeibjpaaaDoor
def Tile : Int → List Pt → Int → Prop
  | s, [], e => s = e
  | s, p :: l, e => p.1 = s ∧ s < p.2.1 ∧ Tile p.2.1 l e
def OkP (sv : List Int) (p : Pt) : Prop := p.2.2.1 ≠ p.2.2.2 ∧ p.2.2.1 ∈ sv ∧ p.2.2.2 ∈ sv
theorem til_iff {sv : List Int} : ∀ (l : List Pt) (k : Int), tilB sv k l = true ↔ Tile k l 256 ∧ ∀ p ∈ l, OkP sv p
  | [], k => by simp [tilB, Tile]
  | p :: l, k => by
    unfold tilB Tile
    simp only [Bool.and_eq_true, decide_eq_true_eq, til_iff l, List.mem_cons, forall_eq_or_imp, OkP, List.contains_iff_mem]
    constructor
    · rintro ⟨⟨⟨⟨h1, h2, h3⟩, h4⟩, h5⟩, h6, h7⟩
      exact ⟨⟨h1, h2, h6⟩, ⟨h3, h4, h5⟩, h7⟩
    · rintro ⟨⟨h1, h2, h6⟩, ⟨h3, h4, h5⟩, h7⟩
      exact ⟨⟨⟨⟨h1, h2, h3⟩, h4⟩, h5⟩, h6, h7⟩
theorem Tile.snoc {p : Pt} {e : Int} : ∀ {l : List Pt} {s : Int}, Tile s (l ++ [p]) e ↔ Tile s l p.1 ∧ p.1 < p.2.1 ∧ p.2.1 = e
  | [], s => by
    show (p.1 = s ∧ s < p.2.1 ∧ p.2.1 = e) ↔ (s = p.1 ∧ p.1 < p.2.1 ∧ p.2.1 = e)
    constructor <;> (rintro ⟨h1, h2, h3⟩; subst h1; exact ⟨rfl, h2, h3⟩)
  | q :: l, s => by
    rw [List.cons_append]
    unfold Tile
    rw [Tile.snoc (l := l)]
    constructor
    · rintro ⟨h1, h2, h3, h4, h5⟩; exact ⟨⟨h1, h2, h3⟩, h4, h5⟩
    · rintro ⟨⟨h1, h2, h3⟩, h4, h5⟩; exact ⟨h1, h2, h3, h4, h5⟩
theorem jput_cases (out : List Pt) (p : Pt) : jput out p = out ++ [p] ∨ ∃ o f t, out = o ++ [(f, t, p.2.2.1, p.2.2.2)] ∧ jput out p = o ++ [(f, p.2.1, p.2.2.1, p.2.2.2)] := by
  unfold jput
  cases h : out.getLast? with
  | none => exact .inl rfl
  | some q =>
    obtain ⟨q1, q2, q3, q4⟩ := q
    dsimp only
    obtain ⟨o, rfl⟩ := List.getLast?_eq_some_iff.1 h
    by_cases e : q3 = p.2.2.1 ∧ q4 = p.2.2.2
    · rw [if_pos e]
      obtain ⟨rfl, rfl⟩ := e
      exact .inr ⟨o, q1, q2, rfl, by simp⟩
    · rw [if_neg e]; exact .inl rfl
theorem Tile.put {s : Int} {out : List Pt} {p : Pt} (h : Tile s out p.1) (hp : p.1 < p.2.1) : Tile s (jput out p) p.2.1 := by
  rcases jput_cases out p with e | ⟨o, f, t, rfl, e⟩
  · rw [e]; exact Tile.snoc.2 ⟨h, hp, rfl⟩
  · rw [e]
    obtain ⟨h1, h2, h3⟩ := Tile.snoc.1 h
    dsimp only at h1 h2 h3
    exact Tile.snoc.2 ⟨h1, by dsimp only; omega, rfl⟩
theorem OkP.put {sv : List Int} {out : List Pt} {p : Pt} (h : ∀ q ∈ out, OkP sv q) (hp : OkP sv p) : ∀ q ∈ jput out p, OkP sv q := by
  rcases jput_cases out p with e | ⟨o, f, t, rfl, e⟩
  · rw [e]
    intro q hq
    rcases List.mem_append.1 hq with hq | hq
    · exact h q hq
    · rw [List.mem_singleton] at hq; subst hq; exact hp
  · rw [e]
    intro q hq
    rcases List.mem_append.1 hq with hq | hq
    · exact h q (List.mem_append_left _ hq)
    · rw [List.mem_singleton] at hq; subst hq; exact hp
theorem rep_add (x : Int × Int) {a b c : Int} (h1 : a ≤ b) (h2 : b ≤ c) : List.replicate (c - a).toNat x = List.replicate (b - a).toNat x ++ List.replicate (c - b).toNat x := by
  rw [List.replicate_append_replicate]; congr 1; omega
theorem blk_append (l m : List Pt) : blk (l ++ m) = blk l ++ blk m := List.flatMap_append
theorem blk_put {s : Int} {out : List Pt} {p : Pt} (h : Tile s out p.1) (hp : p.1 < p.2.1) : blk (jput out p) = blk out ++ List.replicate (p.2.1 - p.1).toNat (p.2.2.1, p.2.2.2) := by
  rcases jput_cases out p with e | ⟨o, f, t, rfl, e⟩
  · rw [e, blk_append]
    unfold blk
    simp
  · rw [e, blk_append, blk_append, List.append_assoc]
    obtain ⟨h1, h2, h3⟩ := Tile.snoc.1 h
    dsimp only at h1 h2 h3
    congr 1
    have : ∀ q : Pt, blk [q] = List.replicate (q.2.1 - q.1).toNat (q.2.2.1, q.2.2.2) := fun q => by unfold blk; simp
    rw [this, this]
    dsimp only
    subst h3
    exact rep_add _ (by omega) (by omega)
theorem join_tile {sv : List Int} : ∀ (l out : List Pt) (k : Int), Chain k l → Tile 0 out k → (∀ p ∈ l, p.1 < p.2.1 → OkP sv p) → (∀ p ∈ out, OkP sv p) →
    Tile 0 (l.foldl jstep out) 256 ∧ (∀ p ∈ l.foldl jstep out, OkP sv p) ∧ blk (l.foldl jstep out) = blk out ++ blk l
  | [], out, k, hc, ht, _, ho => by
    have hk : k = 256 := hc
    subst hk
    exact ⟨ht, ho, by simp [blk]⟩
  | p :: l, out, k, hc, ht, hl, ho => by
    have e : blk (p :: l) = List.replicate (p.2.1 - p.1).toNat (p.2.2.1, p.2.2.2) ++ blk l := rfl
    rw [List.foldl_cons, e]
    rcases hc with ⟨h1, h2⟩ | ⟨h1, h2, h3⟩
    · have e1 : jstep out p = out := by unfold jstep; rw [if_pos h1]
      rw [e1, show (p.2.1 - p.1).toNat = 0 from by omega]
      exact join_tile l out k h2 ht (fun q hq => hl q (List.mem_cons_of_mem _ hq)) ho
    · have e1 : jstep out p = jput out p := by unfold jstep; rw [if_neg (by omega)]
      subst h1
      rw [e1, ← List.append_assoc, ← blk_put ht h2]
      exact join_tile l _ _ h3 (ht.put h2) (fun q hq => hl q (List.mem_cons_of_mem _ hq)) (OkP.put ho (hl p (by simp) h2))
theorem join_all {sv : List Int} {l : List Pt} (hc : Chain 0 l) (hl : ∀ p ∈ l, p.1 < p.2.1 → OkP sv p) : tilB sv 0 (joinP l) = true ∧ blk (joinP l) = blk l := by
  obtain ⟨h1, h2, h3⟩ := join_tile (sv := sv) l [] 0 hc rfl hl (by simp)
  exact ⟨(til_iff _ _).2 ⟨h1, h2⟩, by rw [show joinP l = l.foldl jstep [] from rfl, h3]; simp [blk]⟩
def pickP (sv : List Int) (x : Int) : Int := (sv.find? fun n => n != x).getD 0
def swapP (sv : List Int) (n : Int) (x : Int × Int) : Int × Int :=
  let a := if x.1 = n then pickP sv x.2 else x.1
  (a, if x.2 = n then pickP sv a else x.2)
def swapT (sv : List Int) (n : Int) (p : Pt) : Pt := (p.1, p.2.1, swapP sv n p.2.2)
theorem chain_swap {sv : List Int} {n : Int} : ∀ (l : List Pt) (k : Int), Chain k l → Chain k (l.map (swapT sv n))
  | [], k, h => h
  | p :: l, k, h => by
    rcases h with ⟨h1, h2⟩ | ⟨h1, h2, h3⟩
    · exact .inl ⟨h1, chain_swap l k h2⟩
    · exact .inr ⟨h1, h2, chain_swap l _ h3⟩
theorem blk_swap {sv : List Int} {n : Int} : ∀ (l : List Pt), blk (l.map (swapT sv n)) = (blk l).map (swapP sv n)
  | [] => rfl
  | p :: l => by
    show List.replicate _ _ ++ blk (l.map (swapT sv n)) = ((List.replicate _ _) ++ blk l).map _
    rw [blk_swap l, List.map_append, List.map_replicate]; rfl
def otherR (sv : List Int) (n x : Int) : Int := (sv.find? fun m => m != n && m != x).getD n
def swapR (sv : List Int) (n : Int) (x : Int × Int) : Int × Int :=
  let a := if x.1 = n then otherR sv n x.2 else x.1
  (a, if x.2 = n then otherR sv n a else x.2)
theorem ris_mem : ∀ (l : List Int) (k : Int), risB k l = true → (∀ n ∈ l, k < n ∧ n < 8) ∧ l.Pairwise (· < ·)
  | [], k, _ => by simp
  | n :: l, k, h => by
    unfold risB at h
    simp only [Bool.and_eq_true, decide_eq_true_eq] at h
    obtain ⟨⟨h1, h2⟩, h3⟩ := h
    obtain ⟨i1, i2⟩ := ris_mem l n h3
    refine ⟨fun m hm => ?_, List.pairwise_cons.2 ⟨fun m hm => (i1 m hm).1, i2⟩⟩
    rcases List.mem_cons.1 hm with rfl | hm
    · exact ⟨h1, h2⟩
    · have := i1 m hm; omega
theorem ris_of : ∀ (l : List Int) (k : Int), (∀ n ∈ l, k < n ∧ n < 8) → l.Pairwise (· < ·) → risB k l = true
  | [], k, _, _ => rfl
  | n :: l, k, h, hp => by
    unfold risB
    obtain ⟨h1, h2⟩ := h n (by simp)
    obtain ⟨p1, p2⟩ := List.pairwise_cons.1 hp
    simp only [Bool.and_eq_true, decide_eq_true_eq]
    exact ⟨⟨h1, h2⟩, ris_of l n (fun m hm => ⟨p1 m hm, (h m (List.mem_cons_of_mem _ hm)).2⟩) p2⟩
theorem pick_some {sv : List Int} (hp : sv.Pairwise (· < ·)) (hl : 2 ≤ sv.length) (x : Int) : ∃ i, sv.findIdx? (fun n => n != x) = some i ∧ sv[i]? = some (pickP sv x) ∧ pickP sv x ∈ sv ∧ pickP sv x ≠ x := by
  match sv, hp, hl with
  | a :: b :: l, hp, _ =>
    obtain ⟨p1, _⟩ := List.pairwise_cons.1 hp
    have hab := p1 b (by simp)
    unfold pickP
    by_cases e : a = x
    · have hb : b ≠ x := by omega
      refine ⟨1, ?_⟩
      simp [List.findIdx?_cons, e, hb]
    · refine ⟨0, ?_⟩
      simp [List.findIdx?_cons, e]
theorem filter_ne_len {n : Int} : ∀ {l : List Int}, l.Pairwise (· < ·) → n ∈ l → (l.filter fun m => m != n).length + 1 = l.length
  | a :: l, hp, hn => by
    obtain ⟨p1, p2⟩ := List.pairwise_cons.1 hp
    by_cases e : a = n
    · subst e
      have : (l.filter fun m => m != a) = l := List.filter_eq_self.2 fun m hm => by have := p1 m hm; simp; omega
      rw [List.filter_cons]
      simp [this]
    · have hn' : n ∈ l := by
        rcases List.mem_cons.1 hn with h | h
        · exact absurd h.symm e
        · exact h
      have := filter_ne_len p2 hn'
      rw [List.filter_cons]
      simp only [bne_iff_ne, ne_eq, e, not_false_eq_true, if_true, List.length_cons]
      omega
theorem find_pick {sv : List Int} (hp : sv.Pairwise (· < ·)) (hl : 2 ≤ sv.length) (x : Int) : (sv.find? fun n => n != x) = some (pickP sv x) := by
  obtain ⟨i, _, h2, h3, h4⟩ := pick_some hp hl x
  unfold pickP at *
  cases h : sv.find? (fun n => n != x) with
  | none =>
    rw [h] at h3 h4
    have := List.find?_eq_none.1 h _ h3
    simp at h4 this
    exact absurd this h4
  | some q => rfl
theorem other_pick {sv : List Int} (hp : sv.Pairwise (· < ·)) {n : Int} (hn : n ∈ sv) (hl : 3 ≤ sv.length) (x : Int) : otherR sv n x = pickP (sv.filter fun m => m != n) x := by
  have hf : (sv.filter fun m => m != n).Pairwise (· < ·) := hp.filter _
  have hlen := filter_ne_len hp hn
  have h := find_pick hf (by omega) x
  rw [List.find?_filter] at h
  have e : (fun m : Int => m != n && m != x) = fun a => decide ((a != n) = true ∧ (a != x) = true) := by
    funext a
    rw [Bool.eq_iff_iff]
    simp
  unfold otherR
  rw [e, h]; rfl
theorem swap_same {sv : List Int} (hp : sv.Pairwise (· < ·)) {n : Int} (hn : n ∈ sv) (hl : 3 ≤ sv.length) (x : Int × Int) : swapR sv n x = swapP (sv.filter fun m => m != n) n x := by
  unfold swapR swapP
  dsimp only
  rw [other_pick hp hn hl, other_pick hp hn hl]
end Go.Proofs.YthhpamaeibjpaaaDoor
end
section
namespace Go.Proofs.YthhpamaeibjpaaaDoor
def pcs (F T n m : Int) (p : Pt) : List Pt := [(p.1, min p.2.1 F, p.2.2.1, p.2.2.2), (max p.1 F, min p.2.1 T, n, m), (max p.1 T, p.2.1, p.2.2.1, p.2.2.2)]
def setR (F T : Int) (x : Int × Int) : Int → List (Int × Int) → List (Int × Int)
  | _, [] => []
  | k, y :: l => (if F ≤ k ∧ k < T then x else y) :: setR F T x (k + 1) l
theorem setR_cons (F T : Int) (x y : Int × Int) (k : Int) (l : List (Int × Int)) : setR F T x k (y :: l) = (if F ≤ k ∧ k < T then x else y) :: setR F T x (k + 1) l := rfl
theorem setR_len (F T : Int) (x : Int × Int) : ∀ (l : List (Int × Int)) (k : Int), (setR F T x k l).length = l.length
  | [], _ => rfl
  | _ :: l, k => by unfold setR; rw [List.length_cons, setR_len F T x l, List.length_cons]
theorem setR_append (F T : Int) (x : Int × Int) (m : List (Int × Int)) : ∀ (l : List (Int × Int)) (k : Int), setR F T x k (l ++ m) = setR F T x k l ++ setR F T x (k + l.length) m
  | [], k => by simp [setR]
  | y :: l, k => by
    rw [List.cons_append, setR_cons, setR_cons, List.cons_append, setR_append F T x m l, List.length_cons]
    rw [show k + 1 + (l.length : Int) = k + ((l.length + 1 : Nat) : Int) from by omega]
theorem setR_get (F T : Int) (x : Int × Int) : ∀ (l : List (Int × Int)) (k : Int) (i : Nat), (setR F T x k l)[i]? = (l[i]?).map fun y => if F ≤ k + i ∧ k + i < T then x else y
  | [], k, i => by simp [setR]
  | y :: l, k, 0 => by simp [setR]
  | y :: l, k, i + 1 => by
    unfold setR
    rw [List.getElem?_cons_succ, List.getElem?_cons_succ, setR_get F T x l (k + 1) i]
    rw [show k + 1 + (i : Int) = k + ((i + 1 : Nat) : Int) from by omega]
theorem setR_rep (F T : Int) (x y : Int × Int) : ∀ (n : Nat) (k : Int), setR F T x k (List.replicate n y) = List.replicate (min (k + n) F - k).toNat y ++ (List.replicate (min (k + n) T - max k F).toNat x ++ List.replicate (k + n - max k (max F T)).toNat y) ∨ T ≤ F
  | 0, k => by
    left
    rw [show (min (k + ((0 : Nat) : Int)) F - k).toNat = 0 from by omega, show (min (k + ((0 : Nat) : Int)) T - max k F).toNat = 0 from by omega, show (k + ((0 : Nat) : Int) - max k (max F T)).toNat = 0 from by omega]
    rfl
  | n + 1, k => by
    by_cases hTF : T ≤ F
    · exact .inr hTF
    rcases setR_rep F T x y n (k + 1) with h | h
    · left
      rw [List.replicate_succ]
      unfold setR
      rw [h]
      have e : k + 1 + (n : Int) = k + ((n + 1 : Nat) : Int) := by omega
      rw [e]
      generalize hN : k + ((n + 1 : Nat) : Int) = N
      have hk : k < N := by omega
      by_cases h1 : k < F
      · rw [if_neg (by omega)]
        have e1 : (min N F - k).toNat = (min N F - (k + 1)).toNat + 1 := by omega
        rw [e1, List.replicate_succ, List.cons_append]
        congr 4
        all_goals omega
      · have e1 : (min N F - (k + 1)).toNat = 0 := by omega
        have e2 : (min N F - k).toNat = 0 := by omega
        rw [e1, e2]
        by_cases h2 : k < T
        · rw [if_pos ⟨by omega, h2⟩]
          have e3 : (min N T - max k F).toNat = (min N T - max (k + 1) F).toNat + 1 := by omega
          rw [e3, List.replicate_succ]
          simp only [List.replicate_zero, List.nil_append, List.cons_append]
          congr 3; omega
        · rw [if_neg (by omega)]
          have e3 : (min N T - max (k + 1) F).toNat = 0 := by omega
          have e4 : (min N T - max k F).toNat = 0 := by omega
          have e5 : (N - max k (max F T)).toNat = (N - max (k + 1) (max F T)).toNat + 1 := by omega
          rw [e3, e4, e5, List.replicate_succ]; rfl
    · exact .inr h
theorem blk_cons (p : Pt) (l : List Pt) : blk (p :: l) = List.replicate (p.2.1 - p.1).toNat (p.2.2.1, p.2.2.2) ++ blk l := rfl
theorem chain_skip {p : Pt} {l : List Pt} {k : Int} (h : p.2.1 ≤ p.1) : Chain k (p :: l) ↔ Chain k l :=
  ⟨fun h' => by
    rcases h' with ⟨_, h2⟩ | ⟨h1, h2, _⟩
    · exact h2
    · omega, fun h2 => .inl ⟨h, h2⟩⟩
theorem chain_take {p : Pt} {l : List Pt} {k : Int} (h : p.1 < p.2.1) (h1 : p.1 = k) (h2 : Chain p.2.1 l) : Chain k (p :: l) := .inr ⟨h1, by omega, h2⟩
theorem chain_pcs {F T n m : Int} (hFT : F < T) : ∀ (l : List Pt) (k : Int), Chain k l → (∀ p ∈ l, p.1 < p.2.1) → Chain k (l.flatMap (pcs F T n m)) ∧ blk (l.flatMap (pcs F T n m)) = setR F T (n, m) k (blk l)
  | [], k, h, _ => ⟨h, rfl⟩
  | p :: l, k, h, hl => by
    obtain ⟨f, t, a, b⟩ := p
    have hp := hl (f, t, a, b) (by simp)
    dsimp only at hp
    rcases h with ⟨h1, _⟩ | ⟨h1, h2, h3⟩
    · dsimp only at h1; omega
    dsimp only at h1 h2 h3
    subst h1
    obtain ⟨i1, i2⟩ := chain_pcs hFT l t h3 (fun q hq => hl q (List.mem_cons_of_mem _ hq))
    have e0 : (((f, t, a, b) : Pt) :: l).flatMap (pcs F T n m) = (f, min t F, a, b) :: (max f F, min t T, n, m) :: (max f T, t, a, b) :: l.flatMap (pcs F T n m) := rfl
    rw [e0]
    refine ⟨?_, ?_⟩
    · by_cases c1 : F ≤ f
      · rw [chain_skip (by dsimp only; omega)]
        by_cases c2 : f < T
        · refine chain_take (by dsimp only; omega) (by dsimp only; omega) ?_
          dsimp only
          by_cases c3 : t ≤ T
          · rw [chain_skip (by dsimp only; omega), show min t T = t from by omega]; exact i1
          · refine chain_take (by dsimp only; omega) (by dsimp only; omega) ?_
            exact i1
        · rw [chain_skip (by dsimp only; omega)]
          exact chain_take (by dsimp only; omega) (by dsimp only; omega) i1
      · refine chain_take (by dsimp only; omega) (by dsimp only) ?_
        dsimp only
        by_cases c2 : t ≤ F
        · rw [chain_skip (by dsimp only; omega), chain_skip (by dsimp only; omega), show min t F = t from by omega]; exact i1
        · refine chain_take (by dsimp only; omega) (by dsimp only; omega) ?_
          dsimp only
          by_cases c3 : t ≤ T
          · rw [chain_skip (by dsimp only; omega), show min t T = t from by omega]; exact i1
          · exact chain_take (by dsimp only; omega) (by dsimp only; omega) i1
    · rw [blk_cons, blk_cons, blk_cons, i2, blk_cons, setR_append]
      dsimp only
      rcases setR_rep F T (n, m) (a, b) (t - f).toNat f with h | h
      · rw [h, show f + ((t - f).toNat : Int) = t from by omega, show max F T = T from by omega, List.length_replicate]
        rw [show f + ((t - f).toNat : Int) = t from by omega, List.append_assoc, List.append_assoc]
      · omega
def cnt : Option (Int × Int) → List (Int × Int) → Nat
  | _, [] => 0
  | o, x :: l => (if o = some x then 0 else 1) + cnt (some x) l
theorem cnt_cons (o : Option (Int × Int)) (x : Int × Int) (l : List (Int × Int)) : cnt o (x :: l) = (if o = some x then 0 else 1) + cnt (some x) l := rfl
theorem jput_len (out : List Pt) (p : Pt) : (jput out p).length = out.length + (if out.getLast?.map (fun q => (q.2.2.1, q.2.2.2)) = some (p.2.2.1, p.2.2.2) then 0 else 1) ∧ (jput out p).getLast?.map (fun q => (q.2.2.1, q.2.2.2)) = some (p.2.2.1, p.2.2.2) := by
  unfold jput
  cases h : out.getLast? with
  | none => simp
  | some q =>
    obtain ⟨q1, q2, q3, q4⟩ := q
    obtain ⟨o, rfl⟩ := List.getLast?_eq_some_iff.1 h
    dsimp only
    by_cases e : q3 = p.2.2.1 ∧ q4 = p.2.2.2
    · rw [if_pos e]
      obtain ⟨rfl, rfl⟩ := e
      simp
    · rw [if_neg e]
      simp [e]
theorem prun_len : ∀ (xs : List (Int × Int)) (out : List Pt) (k : Nat), (prun out k xs).length = out.length + cnt (out.getLast?.map fun q => (q.2.2.1, q.2.2.2)) xs
  | [], out, k => rfl
  | x :: xs, out, k => by
    obtain ⟨h1, h2⟩ := jput_len out ((k : Int), (k : Int) + 1, x.1, x.2)
    show (prun (jput out _) (k + 1) xs).length = _
    rw [prun_len xs, h1, h2, cnt_cons, Nat.add_assoc]
theorem parts_len (xs : List (Int × Int)) : (partsP xs).length = cnt none xs := by
  have := prun_len xs [] 0
  simpa [partsP] using this
theorem join_len : ∀ (l out : List Pt), (l.foldl jstep out).length ≤ out.length + l.length
  | [], out => Nat.le_refl _
  | p :: l, out => by
    rw [List.foldl_cons]
    have h1 := join_len l (jstep out p)
    have h2 : (jstep out p).length ≤ out.length + 1 := by
      unfold jstep
      split
      · omega
      · have := (jput_len out p).1
        rw [this]; split <;> omega
    rw [List.length_cons]; omega
theorem cnt_any (o o' : Option (Int × Int)) (l : List (Int × Int)) : cnt o l ≤ cnt o' l + 1 := by
  cases l with
  | nil => unfold cnt; omega
  | cons x l => unfold cnt; split <;> split <;> omega
theorem setR_far {F T : Int} (x : Int × Int) : ∀ (l : List (Int × Int)) (k : Int), T ≤ k → setR F T x k l = l
  | [], _, _ => rfl
  | y :: l, k, h => by unfold setR; rw [if_neg (by omega), setR_far x l (k + 1) (by omega)]
theorem cnt_in {F T : Int} (x : Int × Int) : ∀ (l : List (Int × Int)) (k : Int) (o : Option (Int × Int)), F ≤ k → cnt (some x) (setR F T x k l) ≤ cnt o l + 1
  | [], k, o, _ => by unfold setR cnt; omega
  | y :: l, k, o, h => by
    by_cases hT : k < T
    · unfold setR
      rw [if_pos ⟨h, hT⟩]
      unfold cnt
      rw [if_pos rfl]
      have := cnt_in (F := F) (T := T) x l (k + 1) (some y) (by omega)
      omega
    · rw [setR_far (F := F) (T := T) x _ k (by omega)]
      exact cnt_any _ _ _
theorem cnt_set {F T : Int} (x : Int × Int) : ∀ (l : List (Int × Int)) (k : Int) (o : Option (Int × Int)), cnt o (setR F T x k l) ≤ cnt o l + 2
  | [], k, o => by unfold setR cnt; omega
  | y :: l, k, o => by
    by_cases h : F ≤ k
    · by_cases hT : k < T
      · unfold setR
        rw [if_pos ⟨h, hT⟩]
        unfold cnt
        have := cnt_in (F := F) (T := T) x l (k + 1) (some y) (by omega)
        split <;> omega
      · rw [setR_far (F := F) (T := T) x _ k (by omega)]
        omega
    · unfold setR
      rw [if_neg (by omega)]
      unfold cnt
      have := cnt_set (F := F) (T := T) x l (k + 1) (some y)
      omega
theorem place_len {F T n m : Int} (hFT : F < T) {l : List Pt} (h : Chain 0 l) (hl : ∀ p ∈ l, p.1 < p.2.1) : (joinP (l.flatMap (pcs F T n m))).length ≤ l.length + 2 := by
  obtain ⟨h1, h2⟩ := chain_pcs (n := n) (m := m) hFT l 0 h hl
  rw [join_parts h1, h2, parts_len]
  have h3 := cnt_set (F := F) (T := T) (n, m) (blk l) 0 none
  have h4 := parts_len (blk l)
  rw [← join_parts h] at h4
  have h5 := join_len l []
  have h6 : (l.foldl jstep []) = joinP l := rfl
  rw [h6] at h5
  simp only [List.length_nil] at h5
  omega
theorem setR_twice {F T : Int} (x : Int × Int) : ∀ (l : List (Int × Int)) (k : Int), setR F T x k (setR F T x k l) = setR F T x k l
  | [], _ => rfl
  | y :: l, k => by
    rw [setR_cons, setR_cons, setR_twice x l (k + 1)]
    congr 1
    split <;> rfl
end Go.Proofs.YthhpamaeibjpaaaDoor
end
section
namespace Go.Proofs.YthhpamaeibjpaaaDoor
theorem okC_iff (c : Cfg) : okC c = true ↔ (1 ≤ c.ep ∧ c.ep ≤ 1099511627776 ∧ 1 ≤ c.tb ∧ c.tb ≤ 8 ∧ 2 ≤ c.sv.length) ∧ risB (-1) c.sv = true ∧ tilB c.sv 0 c.pt = true := by
  unfold okC
  simp only [Bool.and_eq_true, decide_eq_true_eq]
  constructor
  · rintro ⟨⟨h1, h2⟩, h3⟩; exact ⟨h1, h2, h3⟩
  · rintro ⟨h1, h2, h3⟩; exact ⟨⟨h1, h2⟩, h3⟩
theorem til_pos {sv : List Int} : ∀ (l : List Pt) (k : Int), tilB sv k l = true → ∀ p ∈ l, p.1 < p.2.1
  | [], _, _ => by simp
  | p :: l, k, h => by
    unfold tilB at h
    simp only [Bool.and_eq_true, decide_eq_true_eq] at h
    obtain ⟨⟨⟨⟨h1, h2, _⟩, _⟩, _⟩, h3⟩ := h
    intro q hq
    rcases List.mem_cons.1 hq with rfl | hq
    · omega
    · exact til_pos l _ h3 q hq
def comeL (sv : List Int) (n : Int) : List Int := ([0, 1, 2, 3, 4, 5, 6, 7] : List Int).filter fun i => decide (i = n) || sv.contains i
theorem mem_come {sv : List Int} {n : Int} (hs : risB (-1) sv = true) (h0 : 0 ≤ n) (h7 : n ≤ 7) (i : Int) : i ∈ comeL sv n ↔ i = n ∨ i ∈ sv := by
  obtain ⟨h1, _⟩ := ris_mem _ _ hs
  unfold comeL
  simp only [List.mem_filter, Bool.or_eq_true, decide_eq_true_eq, List.contains_iff_mem]
  constructor
  · exact fun h => h.2
  · intro h
    refine ⟨?_, h⟩
    have : 0 ≤ i ∧ i ≤ 7 := by
      rcases h with rfl | h
      · exact ⟨h0, h7⟩
      · have := h1 i h; omega
    simp; omega
theorem come_srt (sv : List Int) (n : Int) : (comeL sv n).Pairwise (· < ·) := List.Pairwise.filter _ (by decide)
theorem come_ris {sv : List Int} {n : Int} (hs : risB (-1) sv = true) (h0 : 0 ≤ n) (h7 : n ≤ 7) : risB (-1) (comeL sv n) = true := by
  obtain ⟨h1, _⟩ := ris_mem _ _ hs
  refine ris_of _ _ (fun i hi => ?_) (come_srt sv n)
  rcases (mem_come hs h0 h7 i).1 hi with rfl | h
  · omega
  · exact h1 i h
theorem srt_ext : ∀ {l m : List Int}, l.Pairwise (· < ·) → m.Pairwise (· < ·) → (∀ i, i ∈ l ↔ i ∈ m) → l = m
  | [], [], _, _, _ => rfl
  | [], b :: m, _, _, h => absurd ((h b).2 (by simp)) (by simp)
  | a :: l, [], _, _, h => absurd ((h a).1 (by simp)) (by simp)
  | a :: l, b :: m, hl, hm, h => by
    obtain ⟨l1, l2⟩ := List.pairwise_cons.1 hl
    obtain ⟨m1, m2⟩ := List.pairwise_cons.1 hm
    have e : a = b := by
      rcases List.mem_cons.1 ((h a).1 (by simp)) with e | e
      · exact e
      · rcases List.mem_cons.1 ((h b).2 (by simp)) with e' | e'
        · exact e'.symm
        · have := m1 a e; have := l1 b e'; omega
    subst e
    rw [srt_ext l2 m2 fun i => ?_]
    constructor
    · intro hi
      rcases List.mem_cons.1 ((h i).1 (by simp [hi])) with e | e
      · subst e; have := l1 i hi; omega
      · exact e
    · intro hi
      rcases List.mem_cons.1 ((h i).2 (by simp [hi])) with e | e
      · subst e; have := m1 i hi; omega
      · exact e
theorem come_is {sv l : List Int} {n : Int} (hs : risB (-1) sv = true) (h0 : 0 ≤ n) (h7 : n ≤ 7) (hn : n ∉ sv) (hp : l.Perm (sv ++ [n])) (hl : l.Pairwise (· ≤ ·)) : l = comeL sv n := by
  obtain ⟨h1, h2⟩ := ris_mem _ _ hs
  have hnd : (sv ++ [n]).Nodup := by
    rw [List.nodup_append]
    refine ⟨h2.imp (fun h => by omega), by simp, ?_⟩
    intro a ha b hb
    rw [List.mem_singleton] at hb
    subst hb
    exact fun e => hn (e ▸ ha)
  have hnl : l.Nodup := hp.symm.nodup hnd
  refine srt_ext ?_ (come_srt sv n) fun i => ?_
  · exact (List.pairwise_and_iff.2 ⟨hl, hnl⟩).imp (fun h => by obtain ⟨h1, h2⟩ := h; omega)
  · rw [hp.mem_iff, mem_come hs h0 h7]
    simp [or_comm]
def comeP (c : Cfg) (n : Int) : Int × Cfg :=
  if n < 0 ∨ 7 < n then (1, c) else if n ∈ c.sv then (4, c) else (0, { c with sv := comeL c.sv n })
def leaveP (c : Cfg) (n : Int) : Int × Cfg :=
  if n ∉ c.sv then (3, c) else if c.sv.length ≤ 2 then (110, c) else
    (0, { c with sv := c.sv.filter (fun m => m != n), pt := joinP (c.pt.map (swapT (c.sv.filter (fun m => m != n)) n)) })
def placeP (c : Cfg) (n m F T : Int) : Int × Cfg :=
  if F < 0 ∨ T ≤ F ∨ 256 < T then (71, c) else if n = m then (1, c) else if n ∉ c.sv ∨ m ∉ c.sv then (3, c) else
    (0, { c with pt := joinP (c.pt.flatMap (pcs F T n m)) })
def tablesP (c : Cfg) (n : Int) : Int × Cfg := if n < 1 ∨ 8 < n then (1, c) else (0, { c with tb := n })
def doP (c : Cfg) (o : Ord) : Int × Cfg :=
  if o.1 = 1 then comeP c o.2.1 else if o.1 = 2 then leaveP c o.2.1 else if o.1 = 3 then placeP c o.2.1 o.2.2.1 o.2.2.2.1 o.2.2.2.2 else tablesP c o.2.1
def applyP (c : Cfg) (o : Ord) : Cfg × Int :=
  if okC c = false then (zeroCfg, 1) else if c.ep = 1099511627776 then (zeroCfg, 6) else if o.1 < 1 ∨ 4 < o.1 then (zeroCfg, 1) else
    if (doP c o).1 = 0 then ({ (doP c o).2 with ep := c.ep + 1 }, 0) else (zeroCfg, (doP c o).1)
theorem ok_sv {c : Cfg} (h : okC c = true) : (∀ n ∈ c.sv, 0 ≤ n ∧ n < 8) ∧ c.sv.Pairwise (· < ·) := by
  obtain ⟨h1, h2⟩ := ris_mem _ _ ((okC_iff c).1 h).2.1
  exact ⟨fun n hn => by have := h1 n hn; omega, h2⟩
theorem ok_chain {c : Cfg} (h : okC c = true) : Chain 0 c.pt ∧ (∀ p ∈ c.pt, p.1 < p.2.1) ∧ ∀ p ∈ c.pt, OkP c.sv p := by
  obtain ⟨_, _, h3⟩ := (okC_iff c).1 h
  exact ⟨til_chain _ _ h3, til_pos _ _ h3, ((til_iff _ _).1 h3).2⟩
theorem blk_mem {sv : List Int} {l : List Pt} (h : ∀ p ∈ l, OkP sv p) : ∀ x ∈ blk l, x.1 ≠ x.2 ∧ x.1 ∈ sv ∧ x.2 ∈ sv := by
  intro x hx
  obtain ⟨p, hp, hx⟩ := List.mem_flatMap.1 hx
  obtain ⟨_, rfl⟩ := List.mem_replicate.1 hx
  exact h p hp
theorem pick_in {sv : List Int} (hp : sv.Pairwise (· < ·)) (hl : 2 ≤ sv.length) (x : Int) : pickP sv x ∈ sv ∧ pickP sv x ≠ x := by
  obtain ⟨_, _, _, h3, h4⟩ := pick_some hp hl x
  exact ⟨h3, h4⟩
theorem swap_ok {sv : List Int} (hp : sv.Pairwise (· < ·)) {n : Int} (hn : n ∈ sv) (hl : 3 ≤ sv.length) {x : Int × Int} (hx : x.1 ≠ x.2 ∧ x.1 ∈ sv ∧ x.2 ∈ sv) :
    (swapP (sv.filter fun m => m != n) n x).1 ≠ (swapP (sv.filter fun m => m != n) n x).2 ∧ (swapP (sv.filter fun m => m != n) n x).1 ∈ (sv.filter fun m => m != n) ∧ (swapP (sv.filter fun m => m != n) n x).2 ∈ (sv.filter fun m => m != n) := by
  obtain ⟨a, b⟩ := x
  obtain ⟨h1, h2, h3⟩ := hx
  dsimp only at h1 h2 h3
  have hf : (sv.filter fun m => m != n).Pairwise (· < ·) := hp.filter _
  have hlen := filter_ne_len hp hn
  have hk := fun y => pick_in hf (by omega) y
  have hm : ∀ y, y ∈ sv → y ≠ n → y ∈ (sv.filter fun m => m != n) := fun y hy h => List.mem_filter.2 ⟨hy, by simpa using h⟩
  unfold swapP
  dsimp only
  by_cases ea : a = n
  · subst ea
    rw [if_pos rfl, if_neg (fun e => h1 e.symm)]
    exact ⟨(hk b).2, (hk b).1, hm b h3 (fun e => h1 e.symm)⟩
  · rw [if_neg ea]
    by_cases eb : b = n
    · rw [if_pos eb]
      exact ⟨fun e => (hk a).2 e.symm, hm a h2 ea, (hk a).1⟩
    · rw [if_neg eb]
      exact ⟨h1, hm a h2 ea, hm b h3 eb⟩
theorem come_ok {c : Cfg} (h : okC c = true) (n : Int) (e : (comeP c n).1 = 0) : risB (-1) (comeP c n).2.sv = true ∧ 2 ≤ (comeP c n).2.sv.length ∧ tilB (comeP c n).2.sv 0 (comeP c n).2.pt = true ∧ (comeP c n).2.pt = c.pt := by
  obtain ⟨⟨_, _, _, _, h2⟩, h3, h4⟩ := (okC_iff c).1 h
  unfold comeP at e ⊢
  split at e
  · simp at e
  · rename_i hn
    split at e
    · simp at e
    · rename_i hm
      rw [if_neg hn, if_neg hm]
      dsimp only
      have hr := come_ris h3 (n := n) (by omega) (by omega)
      have hmem := mem_come h3 (n := n) (by omega) (by omega)
      refine ⟨hr, ?_, ?_, rfl⟩
      · have hsub : c.sv.Sublist (comeL c.sv n) := by
          have : c.sv = (comeL c.sv n).filter fun i => c.sv.contains i := by
            refine srt_ext (ris_mem _ _ h3).2 ((come_srt _ _).filter _) fun i => ?_
            rw [List.mem_filter, hmem]
            simp only [List.contains_iff_mem]
            exact ⟨fun h => ⟨.inr h, h⟩, fun h => h.2⟩
          rw [this]
          exact (List.filter_sublist).trans (by rw [← this]; exact List.Sublist.refl _)
        have := hsub.length_le
        omega
      · rw [til_iff] at h4 ⊢
        refine ⟨h4.1, fun p hp => ?_⟩
        obtain ⟨a, b, d⟩ := h4.2 p hp
        exact ⟨a, (hmem _).2 (.inr b), (hmem _).2 (.inr d)⟩
theorem leave_ok {c : Cfg} (h : okC c = true) (n : Int) (e : (leaveP c n).1 = 0) : risB (-1) (leaveP c n).2.sv = true ∧ 2 ≤ (leaveP c n).2.sv.length ∧ tilB (leaveP c n).2.sv 0 (leaveP c n).2.pt = true ∧
    blk (leaveP c n).2.pt = (blk c.pt).map (swapP (c.sv.filter (fun m => m != n)) n) ∧ n ∈ c.sv ∧ 3 ≤ c.sv.length := by
  obtain ⟨_, h3, _⟩ := (okC_iff c).1 h
  obtain ⟨c1, c2, c3⟩ := ok_chain h
  unfold leaveP at e ⊢
  split at e
  · simp at e
  · rename_i hn
    split at e
    · simp at e
    · rename_i hm
      rw [if_neg hn, if_neg hm]
      rw [Decidable.not_not] at hn
      dsimp only
      obtain ⟨r1, r2⟩ := ris_mem _ _ h3
      have hlen := filter_ne_len r2 hn
      have hj := join_all (sv := c.sv.filter fun m => m != n) (chain_swap (sv := c.sv.filter fun m => m != n) (n := n) _ _ c1) (fun p hp _ => by
        obtain ⟨q, hq, rfl⟩ := List.mem_map.1 hp
        exact swap_ok r2 hn (by omega) (c3 q hq))
      refine ⟨ris_of _ _ (fun m hm => r1 m (List.mem_filter.1 hm).1) (r2.filter _), by omega, hj.1, ?_, hn, by omega⟩
      rw [hj.2, blk_swap]
theorem place_ok {c : Cfg} (h : okC c = true) (n m F T : Int) (e : (placeP c n m F T).1 = 0) : tilB (placeP c n m F T).2.sv 0 (placeP c n m F T).2.pt = true ∧ (placeP c n m F T).2.sv = c.sv ∧
    blk (placeP c n m F T).2.pt = setR F T (n, m) 0 (blk c.pt) ∧ 0 ≤ F ∧ F < T ∧ T ≤ 256 ∧ n ≠ m ∧ n ∈ c.sv ∧ m ∈ c.sv ∧ (placeP c n m F T).2.pt.length ≤ c.pt.length + 2 := by
  obtain ⟨c1, c2, c3⟩ := ok_chain h
  unfold placeP at e ⊢
  split at e
  · simp at e
  · rename_i h1
    split at e
    · simp at e
    · rename_i h2
      split at e
      · simp at e
      · rename_i h3
        rw [if_neg h1, if_neg h2, if_neg h3]
        have hFT : F < T := by omega
        have hn : n ∈ c.sv := Decidable.byContradiction fun hh => h3 (.inl hh)
        have hm : m ∈ c.sv := Decidable.byContradiction fun hh => h3 (.inr hh)
        obtain ⟨i1, i2⟩ := chain_pcs (n := n) (m := m) hFT _ _ c1 c2
        have hj := join_all (sv := c.sv) i1 (fun p hp _ => by
          obtain ⟨q, hq, hp⟩ := List.mem_flatMap.1 hp
          have hq' := c3 q hq
          unfold pcs at hp
          simp only [List.mem_cons, List.not_mem_nil, or_false] at hp
          rcases hp with rfl | rfl | rfl
          · exact hq'
          · exact ⟨h2, hn, hm⟩
          · exact hq')
        exact ⟨hj.1, rfl, by rw [hj.2, i2], by omega, hFT, by omega, h2, hn, hm, place_len hFT c1 c2⟩
theorem apply_ok {c : Cfg} {o : Ord} (e : (applyP c o).2 = 0) : okC c = true ∧ okC (applyP c o).1 = true ∧ (applyP c o).1.ep = c.ep + 1 ∧ 1 ≤ o.1 ∧ o.1 ≤ 4 ∧ (doP c o).1 = 0 ∧ (applyP c o).1 = { (doP c o).2 with ep := c.ep + 1 } := by
  unfold applyP at e ⊢
  split at e
  · simp at e
  · rename_i h0
    rw [Bool.not_eq_false] at h0
    split at e
    · simp at e
    · rename_i h1
      split at e
      · simp at e
      · rename_i h2
        split at e
        · rename_i h3
          rw [if_neg (by simp [h0]), if_neg h1, if_neg h2, if_pos h3]
          obtain ⟨⟨a1, a2, a3, a4, a5⟩, a6, a7⟩ := (okC_iff c).1 h0
          refine ⟨h0, (okC_iff _).2 ⟨⟨by dsimp only; omega, by dsimp only; omega, ?_⟩, ?_⟩, rfl, by omega, by omega, h3, rfl⟩
          all_goals
            unfold doP at h3 ⊢
            by_cases k1 : o.1 = 1
            · rw [if_pos k1] at h3 ⊢
              obtain ⟨b1, b2, b3, b4⟩ := come_ok h0 _ h3
              have : (comeP c o.2.1).2.tb = c.tb := by unfold comeP; split <;> (try split) <;> rfl
              first | exact ⟨by dsimp only; omega, by dsimp only; omega, b2⟩ | exact ⟨b1, b3⟩
            · rw [if_neg k1] at h3 ⊢
              by_cases k2 : o.1 = 2
              · rw [if_pos k2] at h3 ⊢
                obtain ⟨b1, b2, b3, _⟩ := leave_ok h0 _ h3
                have : (leaveP c o.2.1).2.tb = c.tb := by unfold leaveP; split <;> (try split) <;> rfl
                first | exact ⟨by dsimp only; omega, by dsimp only; omega, b2⟩ | exact ⟨b1, b3⟩
              · rw [if_neg k2] at h3 ⊢
                by_cases k3 : o.1 = 3
                · rw [if_pos k3] at h3 ⊢
                  obtain ⟨b1, b2, _⟩ := place_ok h0 _ _ _ _ h3
                  have : (placeP c o.2.1 o.2.2.1 o.2.2.2.1 o.2.2.2.2).2.tb = c.tb := by unfold placeP; split <;> (try split) <;> (try split) <;> rfl
                  first | exact ⟨by dsimp only; omega, by dsimp only; omega, by rw [b2]; exact a5⟩ | exact ⟨by rw [b2]; exact a6, b1⟩
                · rw [if_neg k3] at h3 ⊢
                  unfold tablesP at h3 ⊢
                  split at h3
                  · simp at h3
                  · rename_i k4
                    rw [if_neg k4]
                    first | exact ⟨by dsimp only; omega, by dsimp only; omega, a5⟩ | exact ⟨a6, a7⟩
        · rename_i h3
          exact absurd e h3
theorem new_ok : okC newCfg = true := by decide
def leaveR (c : Cfg) (n : Int) : Int × Cfg :=
  if n ∉ c.sv then (3, c) else if c.sv.length ≤ 2 then (110, c) else (0, { c with sv := c.sv.filter (fun m => m != n), pt := partsP ((blk c.pt).map (swapR c.sv n)) })
def placeR (c : Cfg) (n m F T : Int) : Int × Cfg :=
  if F < 0 ∨ T ≤ F ∨ 256 < T then (71, c) else if n = m then (1, c) else if n ∉ c.sv ∨ m ∉ c.sv then (3, c) else (0, { c with pt := partsP (setR F T (n, m) 0 (blk c.pt)) })
theorem leave_same {c : Cfg} (h : okC c = true) (n : Int) : leaveR c n = leaveP c n := by
  obtain ⟨_, h3, _⟩ := (okC_iff c).1 h
  obtain ⟨c1, c2, c3⟩ := ok_chain h
  unfold leaveR leaveP
  by_cases hn : n ∉ c.sv
  · rw [if_pos hn, if_pos hn]
  · rw [if_neg hn, if_neg hn]
    rw [Decidable.not_not] at hn
    by_cases hl : c.sv.length ≤ 2
    · rw [if_pos hl, if_pos hl]
    · rw [if_neg hl, if_neg hl, join_parts (chain_swap _ _ c1), blk_swap]
      have e : swapR c.sv n = swapP (c.sv.filter fun m => m != n) n := funext fun x => swap_same (ris_mem _ _ h3).2 hn (by omega) x
      rw [e]
theorem place_same {c : Cfg} (h : okC c = true) (n m F T : Int) : placeR c n m F T = placeP c n m F T := by
  obtain ⟨c1, c2, c3⟩ := ok_chain h
  unfold placeR placeP
  by_cases h1 : F < 0 ∨ T ≤ F ∨ 256 < T
  · rw [if_pos h1, if_pos h1]
  · rw [if_neg h1, if_neg h1]
    by_cases h2 : n = m
    · rw [if_pos h2, if_pos h2]
    · rw [if_neg h2, if_neg h2]
      by_cases h3 : n ∉ c.sv ∨ m ∉ c.sv
      · rw [if_pos h3, if_pos h3]
      · rw [if_neg h3, if_neg h3]
        obtain ⟨i1, i2⟩ := chain_pcs (n := n) (m := m) (show F < T by omega) _ _ c1 c2
        rw [join_parts i1, i2]
def whereP (c : Cfg) (b : Int) : Int × Int × Int :=
  match c.pt.find? fun p => decide (p.1 ≤ b ∧ b < p.2.1) with
  | some p => (p.2.2.1, p.2.2.2, 0)
  | none => (0, 0, 71)
theorem find_chain (b : Int) : ∀ (l : List Pt) (k : Int), Chain k l → (∀ p ∈ l, p.1 < p.2.1) → 
    (l.find? fun p => decide (p.1 ≤ b ∧ b < p.2.1)).map (fun p => (p.2.2.1, p.2.2.2)) = if k ≤ b then (blk l)[(b - k).toNat]? else none
  | [], k, h, _ => by simp [blk]
  | p :: l, k, h, hl => by
    obtain ⟨f, t, a, d⟩ := p
    have hp := hl (f, t, a, d) (by simp)
    dsimp only at hp
    rcases h with ⟨h1, _⟩ | ⟨h1, h2, h3⟩
    · dsimp only at h1; omega
    dsimp only at h1 h2 h3
    subst h1
    have ih := find_chain b l t h3 (fun q hq => hl q (List.mem_cons_of_mem _ hq))
    rw [List.find?_cons, blk_cons]
    dsimp only
    by_cases c1 : f ≤ b
    · rw [if_pos c1]
      by_cases c2 : b < t
      · simp only [c1, c2, and_self, decide_true]
        rw [List.getElem?_append_left (by rw [List.length_replicate]; omega), List.getElem?_replicate, if_pos (by omega)]
        rfl
      · have : decide (f ≤ b ∧ b < t) = false := by simp; omega
        rw [this]
        dsimp only
        rw [ih, if_pos (by omega), List.getElem?_append_right (by rw [List.length_replicate]; omega), List.length_replicate]
        congr 1; omega
    · have : decide (f ≤ b ∧ b < t) = false := by simp; omega
      rw [this, if_neg c1]
      dsimp only
      rw [ih, if_neg (by omega)]
theorem where_blk {c : Cfg} (h : okC c = true) (b : Int) : (0 ≤ b ∧ b < 256 ∧ ∃ x, (blk c.pt)[b.toNat]? = some x ∧ whereP c b = (x.1, x.2, 0) ∧ x.1 ≠ x.2 ∧ x.1 ∈ c.sv ∧ x.2 ∈ c.sv) ∨ ((b < 0 ∨ 256 ≤ b) ∧ whereP c b = (0, 0, 71)) := by
  obtain ⟨c1, c2, c3⟩ := ok_chain h
  have hf := find_chain b c.pt 0 c1 c2
  have hl := chain_blk _ _ c1
  unfold whereP
  by_cases hb : 0 ≤ b ∧ b < 256
  · left
    refine ⟨hb.1, hb.2, ?_⟩
    rw [if_pos hb.1, Int.sub_zero] at hf
    have hlt : b.toNat < (blk c.pt).length := by omega
    rw [List.getElem?_eq_getElem hlt] at hf ⊢
    obtain ⟨p, hp1, hp2⟩ := Option.map_eq_some_iff.1 hf
    refine ⟨_, rfl, ?_, blk_mem c3 _ (List.getElem_mem hlt)⟩
    rw [hp1, ← hp2]
  · right
    refine ⟨by omega, ?_⟩
    have : (c.pt.find? fun p => decide (p.1 ≤ b ∧ b < p.2.1)) = none := by
      cases h : (c.pt.find? fun p => decide (p.1 ≤ b ∧ b < p.2.1)) with
      | none => rfl
      | some p =>
        rw [h] at hf
        exfalso
        split at hf
        · rw [List.getElem?_eq_none (by omega)] at hf
          simp at hf
        · simp at hf
    rw [this]
end Go.Proofs.YthhpamaeibjpaaaDoor
end
section
namespace Go.Proofs.YthhpamaeibjpaaaDoor
set_option linter.unusedVariables false
theorem where_of {c : Cfg} (h : okC c = true) {b : Int} (h0 : 0 ≤ b) (h1 : b < 256) {x : Int × Int} (hx : (blk c.pt)[b.toNat]? = some x) : whereP c b = (x.1, x.2, 0) := by
  rcases where_blk h b with ⟨_, _, y, hy, hw, _⟩ | ⟨hb, _⟩
  · rw [hx] at hy
    obtain rfl := Option.some.inj hy
    exact hw
  · omega
theorem where_in {c : Cfg} (h : okC c = true) {b x y : Int} (hw : whereP c b = (x, y, 0)) : 0 ≤ b ∧ b < 256 ∧ (blk c.pt)[b.toNat]? = some (x, y) ∧ x ≠ y ∧ x ∈ c.sv ∧ y ∈ c.sv := by
  rcases where_blk h b with ⟨h0, h1, z, hz, hw', h2⟩ | ⟨_, hw'⟩
  · rw [hw] at hw'
    simp only [Prod.mk.injEq] at hw'
    obtain ⟨rfl, rfl, _⟩ := hw'
    exact ⟨h0, h1, hz, h2⟩
  · rw [hw] at hw'
    simp at hw'
theorem do_pt {c : Cfg} {o : Ord} (ho : okC c = true) (h1 : 1 ≤ o.1) (h4 : o.1 ≤ 4) (e : (doP c o).1 = 0) : blk (doP c o).2.pt = (if o.1 = 2 then (blk c.pt).map (swapP (c.sv.filter (fun m => m != o.2.1)) o.2.1) else if o.1 = 3 then setR o.2.2.2.1 o.2.2.2.2 (o.2.1, o.2.2.1) 0 (blk c.pt) else blk c.pt) := by
  unfold doP at e ⊢
  by_cases k1 : o.1 = 1
  · rw [if_pos k1] at e ⊢
    rw [if_neg (by omega), if_neg (by omega), (come_ok ho _ e).2.2.2]
  rw [if_neg k1] at e ⊢
  by_cases k2 : o.1 = 2
  · rw [if_pos k2] at e ⊢
    rw [if_pos k2, (leave_ok ho _ e).2.2.2.1]
  rw [if_neg k2] at e ⊢
  by_cases k3 : o.1 = 3
  · rw [if_pos k3] at e ⊢
    rw [if_neg k2, if_pos k3, (place_ok ho _ _ _ _ e).2.2.1]
  rw [if_neg k3] at e ⊢
  rw [if_neg k2, if_neg k3]
  unfold tablesP at e ⊢
  split at e
  · simp at e
  · rename_i hh; rw [if_neg hh]
theorem apply_blk {c : Cfg} {o : Ord} (e : (applyP c o).2 = 0) : blk (applyP c o).1.pt = (if o.1 = 2 then (blk c.pt).map (swapP (c.sv.filter (fun m => m != o.2.1)) o.2.1) else if o.1 = 3 then setR o.2.2.2.1 o.2.2.2.2 (o.2.1, o.2.2.1) 0 (blk c.pt) else blk c.pt) := by
  obtain ⟨ho, _, _, h1, h4, hd, he⟩ := apply_ok e
  rw [he]
  exact do_pt ho h1 h4 hd
theorem keeps_law {c : Cfg} {k n m F T b a1 b1 : Int} (e : (applyP c (k, n, m, F, T)).2 = 0) (hw : whereP c b = (a1, b1, 0)) :
    ∃ x y, whereP (applyP c (k, n, m, F, T)).1 b = (x, y, 0) ∧
      (k = 2 → a1 ≠ n → b1 ≠ n → x = a1 ∧ y = b1) ∧ (k = 2 → a1 = n → y = b1 ∧ x ≠ n ∧ y ≠ n) ∧ (k = 2 → b1 = n → x = a1 ∧ x ≠ n ∧ y ≠ n) ∧
      (k = 3 → F ≤ b ∧ b < T → x = n ∧ y = m) ∧ (k ≠ 2 → (k = 3 → ¬ (F ≤ b ∧ b < T)) → x = a1 ∧ y = b1) := by
  have hb := apply_blk e
  obtain ⟨ho, hod, _, h1, h4, hd, he⟩ := apply_ok e
  obtain ⟨h0, h256, hx, hne, ha, hb1⟩ := where_in ho hw
  dsimp only at hb h1 h4
  by_cases k2 : k = 2
  · subst k2
    rw [if_pos rfl] at hb
    have hx' : (blk (applyP c (2, n, m, F, T)).1.pt)[b.toNat]? = some (swapP (c.sv.filter fun m => m != n) n (a1, b1)) := by rw [hb, List.getElem?_map, hx]; rfl
    have hwd := where_of hod h0 h256 hx'
    have hlv : (leaveP c n).1 = 0 := by
      have := hd
      unfold doP at this
      dsimp only at this
      rw [if_neg (by omega), if_pos rfl] at this
      exact this
    obtain ⟨_, _, _, _, hns, hl3⟩ := leave_ok ho n hlv
    have hso := swap_ok (ok_sv ho).2 hns hl3 (x := (a1, b1)) ⟨hne, ha, hb1⟩
    have hn1 : (swapP (c.sv.filter fun m => m != n) n (a1, b1)).1 ≠ n := fun h => by have := (List.mem_filter.1 hso.2.1).2; rw [h] at this; simp at this
    have hn2 : (swapP (c.sv.filter fun m => m != n) n (a1, b1)).2 ≠ n := fun h => by have := (List.mem_filter.1 hso.2.2).2; rw [h] at this; simp at this
    refine ⟨_, _, hwd, fun _ h1 h2 => ?_, fun _ h1 => ⟨?_, hn1, hn2⟩, fun _ h1 => ⟨?_, hn1, hn2⟩, fun h => by omega, fun h => by omega⟩
    · unfold swapP; simp [h1, h2]
    · show (if b1 = n then _ else b1) = b1
      rw [if_neg (by omega)]
    · show (if a1 = n then _ else a1) = a1
      rw [if_neg (by omega)]
  rw [if_neg k2] at hb
  by_cases k3 : k = 3
  · subst k3
    rw [if_pos rfl] at hb
    have hx' : (blk (applyP c (3, n, m, F, T)).1.pt)[b.toNat]? = some (if F ≤ b ∧ b < T then (n, m) else (a1, b1)) := by
      rw [hb, setR_get, hx]
      simp only [Option.map_some, Int.zero_add, show ((b.toNat : Nat) : Int) = b by omega]
    have hwd := where_of hod h0 h256 hx'
    refine ⟨_, _, hwd, fun h => by omega, fun h => by omega, fun h => by omega, fun _ h => ?_, fun _ h => ?_⟩
    · rw [if_pos h]; exact ⟨rfl, rfl⟩
    · rw [if_neg (h rfl)]; exact ⟨rfl, rfl⟩
  rw [if_neg k3] at hb
  have hwd := where_of hod h0 h256 (x := (a1, b1)) (by rw [hb]; exact hx)
  exact ⟨_, _, hwd, fun h => absurd h k2, fun h => absurd h k2, fun h => absurd h k2, fun h => absurd h k3, fun _ _ => ⟨rfl, rfl⟩⟩
end Go.Proofs.YthhpamaeibjpaaaDoor
end
