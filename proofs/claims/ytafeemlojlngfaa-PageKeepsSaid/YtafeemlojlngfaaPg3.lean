/- Pages (chapter 19): a link taken off the ring, and laid on. -/
import Derived.Test.YtafeemlojlngfaaPg2
import Derived.Lib.Hide
import Derived.StillTailTactics
namespace Go.Proofs.Ytafeemlojlngfaa
open Go.RowKit Go.Maps
theorem lt_of_cell {w : World} {b o : Nat} {v : Value} (h : w.cell? ⟨b, o, none⟩ = some v) : b < w.heap.size := World.block_lt_of_cell? w _ h
theorem keyI : KeyEnc Try.prog 3 encI := ⟨⟨_, Try.underlying3, .inl (fun a b => by simp [Instr.sameNow, encI]; exact Bool.beq_eq_decide_eq _ _)⟩, fun a em w => Go.MapKept.run_checkKey (k := .int .i64 a) Try.underlying3 rfl em 9999, fun a => by simp [encI, Instr.sameBits]⟩
/-- The page of a block, and its link. -/
def atQ (Q : List (Nat × Pg)) (b : Int) : Option (Nat × Pg) := Q.find? fun q => decide (b = q.2.1)
def keysQ (Q : List (Nat × Pg)) : List (Int × Nat) := Q.map fun q => (q.2.1, q.1)
theorem find_perm {α : Type} {p : α → Bool} {l l' : List α} (h : l.Perm l') (h1 : ∀ a ∈ l, ∀ b ∈ l, p a = true → p b = true → a = b) : l.find? p = l'.find? p := by
  cases hl : l.find? p with
  | none =>
    symm
    rw [List.find?_eq_none] at hl ⊢
    exact fun a ha => hl a (h.mem_iff.2 ha)
  | some a =>
    have ha := List.mem_of_find?_eq_some hl
    have hpa := List.find?_some hl
    cases hl' : l'.find? p with
    | none => exact absurd hpa (List.find?_eq_none.1 hl' a (h.mem_iff.1 ha))
    | some b =>
      have hb := List.mem_of_find?_eq_some hl'
      exact congrArg some (h1 a ha b (h.mem_iff.2 hb) hpa (List.find?_some hl'))
theorem inj_once {α β : Type} {f : α → β} : ∀ {l : List α}, (l.map f).Nodup → ∀ {a b : α}, a ∈ l → b ∈ l → f a = f b → a = b
  | [], _, _, _, h, _, _ => by simp at h
  | x :: l, hn, a, b, ha, hb, he => by
    simp only [List.map_cons, List.nodup_cons] at hn
    rcases List.mem_cons.1 ha with rfl | ha' <;> rcases List.mem_cons.1 hb with rfl | hb'
    · rfl
    · exact absurd (List.mem_map.2 ⟨b, hb', he.symm⟩) hn.1
    · exact absurd (List.mem_map.2 ⟨a, ha', he⟩) hn.1
    · exact inj_once hn.2 ha' hb' he
theorem look_keys {L : List (Int × Nat)} {Q : List (Nat × Pg)} (h : L.Perm (keysQ Q)) (hn : (L.map (·.1)).Nodup) (b : Int) : look L b = (atQ Q b).map (·.1) := by
  unfold look
  rw [find_perm h (fun x hx y hy h1 h2 => inj_once hn hx hy (by simp at h1 h2; rw [← h1, ← h2]))]
  unfold keysQ atQ
  rw [List.find?_map, Option.map_map]
  rfl
theorem atQ_split {Q : List (Nat × Pg)} {b : Int} {q : Nat × Pg} (h : atQ Q b = some q) : q.2.1 = b ∧ q ∈ Q := by
  have h1 := List.find?_some h
  simp at h1
  exact ⟨h1.symm, List.mem_of_find?_eq_some h⟩
/-- All but one link. -/
def cutQ (Q : List (Nat × Pg)) (x : Nat) : List (Nat × Pg) := Q.filter fun q => decide (q.1 ≠ x)
theorem cutQ_at {l r : List (Nat × Pg)} {q : Nat × Pg} (hn : ((l ++ q :: r).map (·.1)).Nodup) : cutQ (l ++ q :: r) q.1 = l ++ r := by
  rw [List.map_append, List.map_cons, List.nodup_append] at hn
  obtain ⟨_, h2, h3⟩ := hn
  rw [List.nodup_cons] at h2
  unfold cutQ
  rw [List.filter_append, List.filter_cons, if_neg (by simp)]
  congr 1
  · rw [List.filter_eq_self]
    intro a ha
    simpa using h3 a.1 (List.mem_map_of_mem ha) q.1 (by simp)
  · rw [List.filter_eq_self]
    intro a ha
    have : a.1 ≠ q.1 := fun e => h2.1 (by rw [← e]; exact List.mem_map_of_mem ha)
    simpa using this
/-- A cache whose ring has been taken off a link, which is there yet, under its key. -/
structure HalfAt (w : World) (cb bm rg : Nat) (n : Nat) (Q : List (Nat × Pg)) (k : Int) (x : Nat) (p : Pg) : Prop where
  top : w.heap[cb]? = some (.cells #[.int .i64 n, .map (some bm), .pointer (some ⟨rg, 0, none⟩)] 65 (0, 0))
  map : ∃ L : List (Int × Nat), MapOf w encI ptr bm L ∧ L.Perm ((k, x) :: keysQ Q)
  ring : ∃ ah bh pg, LinksAt w (rg :: Q.map (·.1)) pg ah bh ∧ Seg ah bh rg (Q.map (·.1)) rg ∧ ∀ q ∈ Q, pg q.1 = q.2
  link : ∃ va vh, LinkV w x p va vh
  apart : (cb :: bm :: rg :: x :: Q.map (·.1)).Nodup
  few : Q.length < n ∧ n ≤ 64
theorem mem_mid {α : Type} {l r : List α} {x y : α} (h : y ∈ l ++ r) : y ∈ l ++ x :: r := by
  rcases List.mem_append.1 h with h | h
  · exact List.mem_append_left _ h
  · exact List.mem_append_right _ (List.mem_cons_of_mem _ h)
theorem perm_mid {α : Type} (l r : List α) (a : α) : (l ++ a :: r).Perm (a :: (l ++ r)) := List.perm_middle
theorem cut_half {cb bm rg n : Nat} {Q : List (Nat × Pg)} {x : Nat} {p : Pg} {w : World} (h : CacheAt w cb bm rg n Q) (hx : (x, p) ∈ Q) :
    Calls Try.prog 30 #[.pointer (some ⟨x, 0, none⟩)] w fun e w' => e = .returned (.tuple #[]) ∧ Fr (rg :: Q.map (·.1)) w w' ∧ HalfAt w' cb bm rg n (cutQ Q x) p.1 x p := by
  obtain ⟨t, ⟨L, m, pm⟩, ⟨ah, bh, pg, l, s, q⟩, a, f⟩ := h
  obtain ⟨l1, l2, rfl⟩ := List.append_of_mem hx
  have hnd := a
  simp only [List.nodup_cons] at hnd
  obtain ⟨a1, a2, a3, a4⟩ := hnd
  rw [show x = (x, p).1 from rfl, cutQ_at a4]
  have hblocks : (l1 ++ (x, p) :: l2).map (·.1) = l1.map (·.1) ++ x :: l2.map (·.1) := by simp
  rw [hblocks] at l s a a1 a2 a3 a4
  obtain ⟨g1, g2⟩ := s.split
  have m1 := g1.ahead_mem
  have m2 := g2.behind_mem
  have hp : ah x ∈ rg :: (l1.map (·.1) ++ x :: l2.map (·.1)) := by
    rcases List.mem_cons.1 m1 with h | h
    · rw [h]; simp
    · simp only [List.mem_cons, List.mem_append]; exact .inr (.inl h)
  have hq : bh x ∈ rg :: (l1.map (·.1) ++ x :: l2.map (·.1)) := by
    rcases List.mem_append.1 m2 with h | h
    · simp only [List.mem_cons, List.mem_append]; exact .inr (.inr (.inr h))
    · simp at h; rw [h]; simp
  refine (cut_any x _ pg ah bh w l (by simp) hp hq).mono ?_
  rintro e w' ⟨rfl, hf, hl⟩
  rw [hblocks]
  refine ⟨rfl, hf, hf.keep t ?_, ⟨L, m.fr hf ?_, ?_⟩, ⟨upd ah (bh x) (ah x), upd bh (ah x) (bh x), pg, ?_, ?_, ?_⟩, ⟨ptr (upd ah (bh x) (ah x) x), ptr (upd bh (ah x) (bh x) x), ?_⟩, ?_, ?_⟩
  · exact fun h => a1 (List.mem_cons_of_mem _ h)
  · exact a2
  · refine pm.trans ?_
    simp only [List.map_append, List.map_cons, keysQ]
    exact perm_mid _ _ _
  · intro b hb
    rw [List.map_append] at hb
    refine hl b ?_
    rcases List.mem_cons.1 hb with rfl | hb
    · simp
    · exact List.mem_cons_of_mem _ (mem_mid hb)
  · rw [List.map_append]
    exact s.cut a4 a3 a3
  · intro y hy
    exact q y (mem_mid hy)
  · have := hl x (by simp)
    rwa [q (x, p) (by simp)] at this
  · rw [List.map_append]
    refine (List.Perm.nodup_iff ?_).1 a
    exact ((perm_mid _ _ _).cons _ |>.cons _ |>.cons _)
  · simp at f ⊢; omega
theorem use_half {cb bm rg n : Nat} {Q : List (Nat × Pg)} {x : Nat} {p : Pg} {w : World} (h : HalfAt w cb bm rg n Q p.1 x p) :
    Calls Try.prog 31 #[.pointer (some ⟨cb, 0, none⟩), .pointer (some ⟨x, 0, none⟩)] w fun e w' => e = .returned (.tuple #[]) ∧ Fr (x :: rg :: Q.map (·.1)) w w' ∧ CacheAt w' cb bm rg n ((x, p) :: Q) := by
  obtain ⟨t, ⟨L, m, pm⟩, ⟨ah, bh, pg, l, s, q⟩, ⟨va, vh, lx⟩, a, f⟩ := h
  have hnd := a
  simp only [List.nodup_cons, List.mem_cons, not_or] at hnd
  obtain ⟨⟨a1, a2, a3, a4⟩, ⟨a5, a6, a7⟩, ⟨a8, a9⟩, a10, a11⟩ := hnd
  have hf : bh rg ∈ rg :: Q.map (·.1) := by
    have h0 : Seg ah bh rg (Q.map (·.1)) rg := s
    cases hQ : Q.map (·.1) with
    | nil => rw [hQ] at h0; rw [h0.1]; simp
    | cons y r => rw [hQ] at h0; rw [h0.1]; simp
  refine (use_any cb x rg (rg :: Q.map (·.1)) pg ah bh p va vh w l (by simp) hf lx (by simp only [List.mem_cons, not_or]; exact ⟨Ne.symm a8, a10⟩) (by simp only [List.mem_cons, not_or]; exact ⟨a2, a4⟩) a3 ?_).mono ?_
  · rw [cell_at t]; rfl
  rintro e w' ⟨rfl, hfr, hl⟩
  refine ⟨rfl, hfr, hfr.keep t ?_, ⟨L, m.fr hfr ?_, pm⟩, ⟨upd (upd ah x rg) (bh rg) x, upd (upd bh x (bh rg)) rg x, fun b => if b = x then p else pg b, fun b hb => hl b ?_, s.push a11 a9 a10 (Ne.symm a8), ?_⟩, ?_, by simp; omega⟩
  · simp only [List.mem_cons, not_or]; exact ⟨a3, a2, a4⟩
  · simp only [List.mem_cons, not_or]; exact ⟨a6, a5, a7⟩
  · simp only [List.map_cons, List.mem_cons] at hb ⊢
    rcases hb with h | h | h
    · exact .inr (.inl h)
    · exact .inl h
    · exact .inr (.inr h)
  · intro y hy
    rcases List.mem_cons.1 hy with rfl | hy
    · simp
    · have : y.1 ≠ x := fun e => a10 (by rw [← e]; exact List.mem_map_of_mem hy)
      simp [this, q y hy]
  · simpa using a
end Go.Proofs.Ytafeemlojlngfaa
