/- The law's pages: both caches over the same pages. -/
import Derived.Test.YtafeemlojlngfaaRp12
namespace Go.Proofs.Ytafeemlojlngfaa
open Go.RowKit Go.Maps Go.Lib Go.Sort
theorem CacheAt.nodupP {w : World} {cb bm rg n : Nat} {Q : List (Nat × Pg)} (h : CacheAt w cb bm rg n Q) : ((Q.map (·.2)).map (·.1)).Nodup := by
  rw [List.map_map]; exact h.nodup
theorem CacheAt.not_cells {w : World} {cb bm rg n : Nat} {Q : List (Nat × Pg)} (h : CacheAt w cb bm rg n Q) {b : Nat} {cs : Array Value} {t : TypeId} (hb : w.heap[b]? = some (.cells cs t (0, 0))) (h1 : t ≠ 63) (h2 : t ≠ 65) : b ∉ cb :: bm :: rg :: Q.map (·.1) := by
  obtain ⟨t0, ⟨L, ⟨es, c, m⟩, p⟩, ⟨ah, bh, pg, l, s, q⟩, a, f⟩ := h
  intro hm
  rcases List.mem_cons.1 hm with rfl | hm
  · rw [t0] at hb
    injection hb with hb
    injection hb with _ ht
    exact h2 ht.symm
  · rcases List.mem_cons.1 hm with rfl | hm
    · have := m.block
      rw [this] at hb
      cases hb
    · have := l b hm
      unfold LinkV at this
      rw [this] at hb
      injection hb with hb
      injection hb with _ ht
      exact h1 ht.symm
theorem RefC.frC {w w' : World} {rb cb bm rg n m : Nat} {Q : List (Nat × Pg)} {P : List Pg} {S : List Nat} (h : RefC w rb n P) (hc : CacheAt w cb bm rg m Q) (hf : Fr S w w') (hS : ∀ s ∈ S, s ∈ cb :: bm :: rg :: Q.map (·.1)) : RefC w' rb n P := by
  obtain ⟨v, h1, h2⟩ := h
  refine ⟨v, hf.keep h1 (fun hm => hc.not_cells h1 (by decide) (by decide) (hS _ hm)), owns_fr2 h2 hf (fun g hg hm => ?_)⟩
  rcases h2.2 with ⟨rfl, _⟩ | ⟨g', cap, cur, rfl, _, hh, _⟩
  · simp [Value.ownBlock] at hg
  · have : g' = g := by simpa [Value.ownBlock] using hg
    subst this
    exact hc.not_cells hh (by decide) (by decide) (hS _ hm)
theorem CacheAt.frR {w w' : World} {rb cb bm rg n m : Nat} {Q : List (Nat × Pg)} {P : List Pg} (hc : CacheAt w cb bm rg m Q) (h : RefC w rb n P) (hf : Fr [rb] w w') : CacheAt w' cb bm rg m Q := by
  obtain ⟨v, h1, h2⟩ := h
  refine hc.fr hf (fun b hb hm => ?_)
  simp only [List.mem_singleton] at hm
  subst hm
  exact hc.not_cells h1 (by decide) (by decide) hb
/-- Both caches, over the same pages, in blocks from B to M. -/
def Both (w : World) (B M cb bm rg rb n : Nat) (P : List Pg) : Prop := ∃ Q, Q.map (·.2) = P ∧ CacheAt w cb bm rg n Q ∧ RefC w rb n P ∧ ∀ b ∈ rb :: cb :: bm :: rg :: Q.map (·.1), B ≤ b ∧ b < M
/-- Nothing has turned but blocks from B to M, and new ones. -/
def FrB (B M : Nat) (w w' : World) : Prop := ∃ S, Fr S w w' ∧ ∀ s ∈ S, B ≤ s ∧ s < M
theorem FrB.mono {B M M' : Nat} {a b : World} (h : FrB B M a b) (hM : M ≤ M') : FrB B M' a b := by
  obtain ⟨S, h1, h2⟩ := h
  exact ⟨S, h1, fun s hs => ⟨(h2 s hs).1, Nat.lt_of_lt_of_le (h2 s hs).2 hM⟩⟩
theorem FrB.trans {B M : Nat} {a b c : World} (h : FrB B M a b) (k : FrB B M b c) : FrB B M a c := by
  obtain ⟨S, h1, h2⟩ := h
  obtain ⟨T, k1, k2⟩ := k
  refine ⟨S ++ T, (h1.mono (by simp +contextual)).trans (k1.mono (by simp +contextual)), ?_⟩
  intro s hs
  rcases List.mem_append.1 hs with h | h
  · exact h2 s h
  · exact k2 s h
theorem FrB.of {B M : Nat} {a b : World} {S : List Nat} (h : Fr S a b) (hS : ∀ s ∈ S, B ≤ s ∧ s < M) : FrB B M a b := ⟨S, h, hS⟩
theorem FrB.of0 {B M : Nat} {a b : World} (h : Fr [] a b) : FrB B M a b := ⟨[], h, by simp⟩
theorem FrB.fr {M : Nat} {w0 a b : World} (h : FrB w0.heap.size M a b) (h0 : Fr [] w0 a) : Fr [] w0 b := by
  obtain ⟨S, h1, h2⟩ := h
  exact h0.andThen h1 (fun t ht => .inr (h2 t ht).1)
theorem FrB.size {B M : Nat} {a b : World} (h : FrB B M a b) : a.heap.size ≤ b.heap.size := by
  obtain ⟨S, h1, h2⟩ := h
  exact h1.size
theorem FrB.keep {B M : Nat} {a b : World} (h : FrB B M a b) {k : Nat} {o : Obj} (hk : a.heap[k]? = some o) (hM : M ≤ k) : b.heap[k]? = some o := by
  obtain ⟨S, h1, h2⟩ := h
  exact h1.keep hk (fun hs => by have := (h2 k hs).2; omega)
theorem Both.fr0 {w w' : World} {B M cb bm rg rb n : Nat} {P : List Pg} (h : Both w B M cb bm rg rb n P) (hf : Fr [] w w') : Both w' B M cb bm rg rb n P := by
  obtain ⟨Q, h1, h2, h3, h4⟩ := h
  exact ⟨Q, h1, h2.fr0 hf, h3.fr0 hf, h4⟩
theorem Both.grow {w : World} {B M M' cb bm rg rb n : Nat} {P : List Pg} (h : Both w B M cb bm rg rb n P) (hM : M ≤ M') : Both w B M' cb bm rg rb n P := by
  obtain ⟨Q, h1, h2, h3, h4⟩ := h
  exact ⟨Q, h1, h2, h3, fun b hb => ⟨(h4 b hb).1, Nat.lt_of_lt_of_le (h4 b hb).2 hM⟩⟩
theorem Both.few {w : World} {B M cb bm rg rb n : Nat} {P : List Pg} (h : Both w B M cb bm rg rb n P) : P.length ≤ n ∧ n ≤ 64 := by
  obtain ⟨Q, rfl, h2, _⟩ := h
  have := h2.few
  rw [List.length_map]; exact this
theorem Both.nodup {w : World} {B M cb bm rg rb n : Nat} {P : List Pg} (h : Both w B M cb bm rg rb n P) : (P.map (·.1)).Nodup := by
  obtain ⟨Q, rfl, h2, _⟩ := h
  exact h2.nodupP
theorem Both.ref {w : World} {B M cb bm rg rb n : Nat} {P : List Pg} (h : Both w B M cb bm rg rb n P) : RefC w rb n P := by obtain ⟨Q, h1, h2, h3, h4⟩ := h; exact h3
theorem Both.rb {w : World} {B M cb bm rg rb n : Nat} {P : List Pg} (h : Both w B M cb bm rg rb n P) : rb < M := by obtain ⟨Q, h1, h2, h3, h4⟩ := h; exact (h4 rb (by simp)).2
theorem Both.cb {w : World} {B M cb bm rg rb n : Nat} {P : List Pg} (h : Both w B M cb bm rg rb n P) : cb < M := by obtain ⟨Q, h1, h2, h3, h4⟩ := h; exact (h4 cb (by simp)).2
/-- The cache has turned, by a call of the program; the reference's not yet. -/
def Half (w : World) (B M cb bm rg rb n : Nat) (P P' : List Pg) : Prop := ∃ Q, Q.map (·.2) = P' ∧ CacheAt w cb bm rg n Q ∧ RefC w rb n P ∧ ∀ b ∈ rb :: cb :: bm :: rg :: Q.map (·.1), B ≤ b ∧ b < M
theorem Both.after {w w' : World} {B M cb bm rg rb n : Nat} {P P' : List Pg} {Q Q' : List (Nat × Pg)} (hc : CacheAt w cb bm rg n Q) (hr : RefC w rb n P) (hB : ∀ b ∈ rb :: cb :: bm :: rg :: Q.map (·.1), B ≤ b ∧ b < M) (hw : B ≤ M) (hM : M ≤ w.heap.size)
    (hf : Fr (bm :: rg :: Q.map (·.1)) w w') (hq' : Q'.map (·.2) = P') (hc' : CacheAt w' cb bm rg n Q') (hn : ∀ q ∈ Q', q.1 ∈ Q.map (·.1) ∨ w.heap.size ≤ q.1) : Half w' B w'.heap.size cb bm rg rb n P P' ∧ FrB B M w w' := by
  refine ⟨⟨Q', hq', hc', hr.frC hc hf (by simp +contextual), ?_⟩, FrB.of hf (fun s hs => hB s (by simp only [List.mem_cons] at hs ⊢; rcases hs with h | h | h <;> simp [h]))⟩
  have hz := hf.size
  have hlt := hc'.lt
  intro b hb
  simp only [List.mem_cons] at hb
  rcases hb with rfl | rfl | rfl | rfl | hb
  · have := hB b (by simp); omega
  · have := hB b (by simp); omega
  · have := hB b (by simp); omega
  · have := hB b (by simp); omega
  · refine ⟨?_, hlt b (by simp only [List.mem_cons]; exact .inr (.inr (.inr hb)))⟩
    obtain ⟨q, hq, rfl⟩ := List.mem_map.1 hb
    rcases hn q hq with h | h
    · exact (hB _ (by simp only [List.mem_cons]; exact .inr (.inr (.inr (.inr h))))).1
    · omega
theorem Half.after {w w' : World} {B M cb bm rg rb n : Nat} {P P' : List Pg} (h : Half w B M cb bm rg rb n P P') (hf : Fr [rb] w w') (hr : RefC w' rb n P') : Both w' B M cb bm rg rb n P' := by
  obtain ⟨Q, h1, h2, h3, h4⟩ := h
  exact ⟨Q, h1, h2.frR h3 hf, hr, h4⟩
theorem Half.fr0 {w w' : World} {B M cb bm rg rb n : Nat} {P P' : List Pg} (h : Half w B M cb bm rg rb n P P') (hf : Fr [] w w') : Half w' B M cb bm rg rb n P P' := by
  obtain ⟨Q, h1, h2, h3, h4⟩ := h
  exact ⟨Q, h1, h2.fr0 hf, h3.fr0 hf, h4⟩
theorem Half.ref {w : World} {B M cb bm rg rb n : Nat} {P P' : List Pg} (h : Half w B M cb bm rg rb n P P') : RefC w rb n P := by obtain ⟨Q, h1, h2, h3, h4⟩ := h; exact h3
/-! ### The program's calls, over both -/
def HalfOut (B M cb bm rg rb n : Nat) (P P' : List Pg) (v : Value) (w : World) (e : Ending) (w' : World) : Prop := e = .returned v ∧ Half w' B w'.heap.size cb bm rg rb n P P' ∧ FrB B M w w'
theorem bfill {w : World} {B M cb bm rg rb n : Nat} {P : List Pg} (h : Both w B M cb bm rg rb n P) (hw : B ≤ M) (hM : M ≤ w.heap.size) (p : Pg) : Calls Try.prog 19 #[.pointer (some ⟨cb, 0, none⟩), aggPg p] w (HalfOut B M cb bm rg rb n P (fillP n P p).2 (.int .i64 (fillP n P p).1) w) := by
  obtain ⟨Q, rfl, h2, h3, h4⟩ := h
  refine (fill_any h2 p).mono ?_
  rintro e w' ⟨rfl, hf, Q', hq, hc, hn⟩
  exact ⟨rfl, Both.after h2 h3 h4 hw hM hf hq hc hn⟩
theorem bset {w : World} {B M cb bm rg rb n : Nat} {P : List Pg} (h : Both w B M cb bm rg rb n P) (hw : B ≤ M) (hM : M ≤ w.heap.size) (p : Pg) : Calls Try.prog 20 #[.pointer (some ⟨cb, 0, none⟩), aggPg p] w (HalfOut B M cb bm rg rb n P (setP n P p).2 (.int .i64 (setP n P p).1) w) := by
  obtain ⟨Q, rfl, h2, h3, h4⟩ := h
  refine (set_any h2 p).mono ?_
  rintro e w' ⟨rfl, hf, Q', hq, hc, hn⟩
  exact ⟨rfl, Both.after h2 h3 h4 hw hM hf hq hc hn⟩
theorem bclean {w : World} {B M cb bm rg rb n : Nat} {P : List Pg} (h : Both w B M cb bm rg rb n P) (hw : B ≤ M) (hM : M ≤ w.heap.size) (b t : Int) : Calls Try.prog 21 #[.pointer (some ⟨cb, 0, none⟩), .int .i64 b, .int .i64 t] w (HalfOut B M cb bm rg rb n P (cleanP P b t).2 (.int .i64 (cleanP P b t).1) w) := by
  obtain ⟨Q, rfl, h2, h3, h4⟩ := h
  refine (clean_any h2 b t).mono ?_
  rintro e w' ⟨rfl, hf, Q', hq, hc, hn⟩
  exact ⟨rfl, Both.after h2 h3 h4 hw hM hf hq hc hn⟩
theorem bdrop {w : World} {B M cb bm rg rb n : Nat} {P : List Pg} (h : Both w B M cb bm rg rb n P) (hw : B ≤ M) (hM : M ≤ w.heap.size) (r1 r2 : Int) : Calls Try.prog 22 #[.pointer (some ⟨cb, 0, none⟩), .agg #[.int .i64 r1, .int .i64 r2]] w (HalfOut B M cb bm rg rb n P (dropP P r1 r2).2 (.tuple #[.int .i64 (dropP P r1 r2).1.1, .int .i64 (dropP P r1 r2).1.2]) w) := by
  obtain ⟨Q, rfl, h2, h3, h4⟩ := h
  refine (drop_any h2 r1 r2).mono ?_
  rintro e w' ⟨rfl, hf, Q', hq, hc, hn⟩
  exact ⟨rfl, Both.after h2 h3 h4 hw hM hf hq hc hn⟩
theorem bget {w : World} {B M cb bm rg rb n : Nat} {P : List Pg} (h : Both w B M cb bm rg rb n P) (hw : B ≤ M) (hM : M ≤ w.heap.size) (b : Int) : Calls Try.prog 18 #[.pointer (some ⟨cb, 0, none⟩), .int .i64 b] w (HalfOut B M cb bm rg rb n P (getP P b).2 (.tuple #[aggPg (getP P b).1.1, .bool (getP P b).1.2]) w) := by
  obtain ⟨Q, rfl, h2, h3, h4⟩ := h
  refine (get_any h2 b).mono ?_
  rintro e w' ⟨rfl, hf, hc⟩
  have hat := atQ_pages Q b
  have e1 : ((atQ Q b).map (·.2)).getD zeroPg = (getP (Q.map (·.2)) b).1.1 ∧ (atQ Q b).isSome = (getP (Q.map (·.2)) b).1.2 ∧ (getQ Q b).map (·.2) = (getP (Q.map (·.2)) b).2 := by
    unfold getP getQ
    rw [← hat]
    cases hq : atQ Q b with
    | none => exact ⟨rfl, rfl, rfl⟩
    | some q =>
      refine ⟨rfl, rfl, ?_⟩
      obtain ⟨hk, hm⟩ := atQ_split hq
      have := cutQ_pages (x := q.1) (p := q.2) h2.blocks h2.nodup hm
      simp only [List.map_cons, Option.map_some]
      rw [this, hk]
  obtain ⟨e1, e2, e3⟩ := e1
  refine ⟨by rw [e1, e2], Both.after h2 h3 h4 hw hM (hf.mono (by simp +contextual)) e3 hc ?_⟩
  intro q hq
  left
  unfold getQ at hq
  cases hq' : atQ Q b with
  | none => rw [hq'] at hq; exact List.mem_map_of_mem (f := (·.1)) hq
  | some q0 =>
    rw [hq'] at hq
    rcases List.mem_cons.1 hq with rfl | hq
    · exact List.mem_map_of_mem (f := (·.1)) (atQ_split hq').2
    · exact cutQ_sub (List.mem_map_of_mem (f := (·.1)) hq)
end Go.Proofs.Ytafeemlojlngfaa
