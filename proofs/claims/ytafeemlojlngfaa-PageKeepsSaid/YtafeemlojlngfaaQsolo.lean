/- The law's pages: the program's cache alone. -/
import Derived.Test.YtafeemlojlngfaaLq5
namespace Go.Proofs.Ytafeemlojlngfaa
open Go.RowKit Go.Maps Go.Lib Go.Sort
/-- The program's cache alone, over pages, in blocks from B to M that are none of Z. -/
def Solo (w : World) (B M : Nat) (Z : List Nat) (cb bm rg n : Nat) (P : List Pg) : Prop := ∃ Q, Q.map (·.2) = P ∧ CacheAt w cb bm rg n Q ∧ ∀ b ∈ cb :: bm :: rg :: Q.map (·.1), B ≤ b ∧ b < M ∧ b ∉ Z
def FrZ (B : Nat) (Z : List Nat) (w w' : World) : Prop := ∃ S, Fr S w w' ∧ ∀ s ∈ S, B ≤ s ∧ s ∉ Z
theorem FrZ.of0 {B : Nat} {Z : List Nat} {a b : World} (h : Fr [] a b) : FrZ B Z a b := ⟨[], h, by simp⟩
theorem FrZ.trans {B : Nat} {Z : List Nat} {a b c : World} (h : FrZ B Z a b) (k : FrZ B Z b c) : FrZ B Z a c := by
  obtain ⟨S, h1, h2⟩ := h
  obtain ⟨T, k1, k2⟩ := k
  refine ⟨S ++ T, (h1.mono (by simp +contextual)).trans (k1.mono (by simp +contextual)), ?_⟩
  intro s hs
  rcases List.mem_append.1 hs with h | h
  · exact h2 s h
  · exact k2 s h
theorem FrZ.fr {Z : List Nat} {w0 a b : World} (h : FrZ w0.heap.size Z a b) (h0 : Fr [] w0 a) : Fr [] w0 b := by
  obtain ⟨S, h1, h2⟩ := h
  exact h0.andThen h1 (fun t ht => .inr (h2 t ht).1)
theorem FrZ.size {B : Nat} {Z : List Nat} {a b : World} (h : FrZ B Z a b) : a.heap.size ≤ b.heap.size := by
  obtain ⟨S, h1, h2⟩ := h
  exact h1.size
theorem FrZ.cell {B : Nat} {Z : List Nat} {a b : World} (h : FrZ B Z a b) {k o : Nat} (hM : k ∈ Z ∨ k < B) (hk : k < a.heap.size) : b.cell? ⟨k, o, none⟩ = a.cell? ⟨k, o, none⟩ := by
  obtain ⟨S, h1, h2⟩ := h
  exact h1.cell (p := ⟨k, o, none⟩) hk (fun hs => by
    have := h2 k hs
    rcases hM with hz | hb
    · exact this.2 hz
    · omega)
theorem FrZ.weak {B : Nat} {Z Z' : List Nat} {a b : World} (h : FrZ B Z a b) (hz : ∀ z ∈ Z', z ∈ Z) : FrZ B Z' a b := by
  obtain ⟨S, h1, h2⟩ := h
  exact ⟨S, h1, fun s hs => ⟨(h2 s hs).1, fun hm => (h2 s hs).2 (hz s hm)⟩⟩
theorem Both.solo {w : World} {B M cb bm rg rb n : Nat} {P : List Pg} (h : Both w B M cb bm rg rb n P) : Solo w B M [] cb bm rg n P := by
  obtain ⟨Q, h1, h2, _, h4⟩ := h
  exact ⟨Q, h1, h2, fun b hb => ⟨(h4 b (List.mem_cons_of_mem _ hb)).1, (h4 b (List.mem_cons_of_mem _ hb)).2, by simp⟩⟩
theorem Solo.fr0 {w w' : World} {B M cb bm rg n : Nat} {Z : List Nat} {P : List Pg} (h : Solo w B M Z cb bm rg n P) (hf : Fr [] w w') : Solo w' B M Z cb bm rg n P := by
  obtain ⟨Q, h1, h2, h4⟩ := h
  exact ⟨Q, h1, h2.fr0 hf, h4⟩
theorem Solo.grow {w : World} {B M M' cb bm rg n : Nat} {Z : List Nat} {P : List Pg} (h : Solo w B M Z cb bm rg n P) (hM : M ≤ M') : Solo w B M' Z cb bm rg n P := by
  obtain ⟨Q, h1, h2, h4⟩ := h
  exact ⟨Q, h1, h2, fun b hb => ⟨(h4 b hb).1, Nat.lt_of_lt_of_le (h4 b hb).2.1 hM, (h4 b hb).2.2⟩⟩
theorem Solo.guard {w : World} {B M cb bm rg n : Nat} {Z : List Nat} {P : List Pg} (h : Solo w B M Z cb bm rg n P) {g : Nat} (hg : M ≤ g ∨ g < B) : Solo w B M (g :: Z) cb bm rg n P := by
  obtain ⟨Q, h1, h2, h4⟩ := h
  refine ⟨Q, h1, h2, fun b hb => ⟨(h4 b hb).1, (h4 b hb).2.1, ?_⟩⟩
  have := h4 b hb
  simp only [List.mem_cons, not_or]
  exact ⟨by omega, this.2.2⟩
theorem Solo.few {w : World} {B M cb bm rg n : Nat} {Z : List Nat} {P : List Pg} (h : Solo w B M Z cb bm rg n P) : P.length ≤ n ∧ n ≤ 64 := by
  obtain ⟨Q, rfl, h2, _⟩ := h
  have := h2.few
  rw [List.length_map]; exact this
theorem Solo.nodup {w : World} {B M cb bm rg n : Nat} {Z : List Nat} {P : List Pg} (h : Solo w B M Z cb bm rg n P) : (P.map (·.1)).Nodup := by
  obtain ⟨Q, rfl, h2, _⟩ := h
  exact h2.nodupP
theorem Solo.start {w w1 : World} {cb bm rg n : Nat} (l1 : w.heap.size ≤ cb) (l2 : w.heap.size ≤ bm) (l3 : w.heap.size ≤ rg) (hC : CacheAt w1 cb bm rg n []) : Solo w1 w.heap.size w1.heap.size [] cb bm rg n [] := by
  have hlt := hC.lt
  refine ⟨[], rfl, hC, ?_⟩
  intro b hb
  have h2 := hlt b hb
  simp only [List.map_nil, List.mem_cons, List.not_mem_nil, or_false] at hb
  rcases hb with rfl | rfl | rfl
  · exact ⟨l1, h2, by simp⟩
  · exact ⟨l2, h2, by simp⟩
  · exact ⟨l3, h2, by simp⟩
theorem Solo.after {w w' : World} {B M cb bm rg n : Nat} {Z : List Nat} {P' : List Pg} {Q Q' : List (Nat × Pg)} (hB : ∀ b ∈ cb :: bm :: rg :: Q.map (·.1), B ≤ b ∧ b < M ∧ b ∉ Z) (hw : B ≤ M) (hM : M ≤ w.heap.size) (hZ : ∀ z ∈ Z, z < w.heap.size)
    (hf : Fr (bm :: rg :: Q.map (·.1)) w w') (hq' : Q'.map (·.2) = P') (hc' : CacheAt w' cb bm rg n Q') (hn : ∀ q ∈ Q', q.1 ∈ Q.map (·.1) ∨ w.heap.size ≤ q.1) : Solo w' B w'.heap.size Z cb bm rg n P' ∧ FrZ B Z w w' := by
  refine ⟨⟨Q', hq', hc', ?_⟩, ⟨_, hf, fun s hs => ?_⟩⟩
  · have hlt := hc'.lt
    intro b hb
    refine ⟨?_, hlt b hb, ?_⟩
    · simp only [List.mem_cons] at hb
      rcases hb with rfl | rfl | rfl | hb
      · exact (hB _ (by simp)).1
      · exact (hB _ (by simp)).1
      · exact (hB _ (by simp)).1
      · obtain ⟨q, hq, rfl⟩ := List.mem_map.1 hb
        rcases hn q hq with h | h
        · exact (hB _ (by simp only [List.mem_cons]; exact .inr (.inr (.inr h)))).1
        · omega
    · simp only [List.mem_cons] at hb
      rcases hb with rfl | rfl | rfl | hb
      · exact (hB _ (by simp)).2.2
      · exact (hB _ (by simp)).2.2
      · exact (hB _ (by simp)).2.2
      · obtain ⟨q, hq, rfl⟩ := List.mem_map.1 hb
        rcases hn q hq with h | h
        · exact (hB _ (by simp only [List.mem_cons]; exact .inr (.inr (.inr h)))).2.2
        · exact fun hm => by have := hZ _ hm; omega
  · have := hB s (List.mem_cons_of_mem _ hs)
    exact ⟨this.1, this.2.2⟩
def SoloOut (B : Nat) (Z : List Nat) (cb bm rg n : Nat) (P' : List Pg) (v : Value) (w : World) (e : Ending) (w' : World) : Prop := e = .returned v ∧ Solo w' B w'.heap.size Z cb bm rg n P' ∧ FrZ B Z w w'
section
variable {w : World} {B M cb bm rg n : Nat} {Z : List Nat} {P : List Pg}
theorem sfill (h : Solo w B M Z cb bm rg n P) (hw : B ≤ M) (hM : M ≤ w.heap.size) (hZ : ∀ z ∈ Z, z < w.heap.size) (p : Pg) : Calls Try.prog 19 #[.pointer (some ⟨cb, 0, none⟩), aggPg p] w (SoloOut B Z cb bm rg n (fillP n P p).2 (.int .i64 (fillP n P p).1) w) := by
  obtain ⟨Q, rfl, h2, h4⟩ := h
  refine (fill_any h2 p).mono ?_
  rintro e w' ⟨rfl, hf, Q', hq, hc, hn⟩
  exact ⟨rfl, Solo.after h4 hw hM hZ hf hq hc hn⟩
theorem sset (h : Solo w B M Z cb bm rg n P) (hw : B ≤ M) (hM : M ≤ w.heap.size) (hZ : ∀ z ∈ Z, z < w.heap.size) (p : Pg) : Calls Try.prog 20 #[.pointer (some ⟨cb, 0, none⟩), aggPg p] w (SoloOut B Z cb bm rg n (setP n P p).2 (.int .i64 (setP n P p).1) w) := by
  obtain ⟨Q, rfl, h2, h4⟩ := h
  refine (set_any h2 p).mono ?_
  rintro e w' ⟨rfl, hf, Q', hq, hc, hn⟩
  exact ⟨rfl, Solo.after h4 hw hM hZ hf hq hc hn⟩
theorem sclean (h : Solo w B M Z cb bm rg n P) (hw : B ≤ M) (hM : M ≤ w.heap.size) (hZ : ∀ z ∈ Z, z < w.heap.size) (b t : Int) : Calls Try.prog 21 #[.pointer (some ⟨cb, 0, none⟩), .int .i64 b, .int .i64 t] w (SoloOut B Z cb bm rg n (cleanP P b t).2 (.int .i64 (cleanP P b t).1) w) := by
  obtain ⟨Q, rfl, h2, h4⟩ := h
  refine (clean_any h2 b t).mono ?_
  rintro e w' ⟨rfl, hf, Q', hq, hc, hn⟩
  exact ⟨rfl, Solo.after h4 hw hM hZ hf hq hc hn⟩
theorem sdrop (h : Solo w B M Z cb bm rg n P) (hw : B ≤ M) (hM : M ≤ w.heap.size) (hZ : ∀ z ∈ Z, z < w.heap.size) (r1 r2 : Int) : Calls Try.prog 22 #[.pointer (some ⟨cb, 0, none⟩), .agg #[.int .i64 r1, .int .i64 r2]] w (SoloOut B Z cb bm rg n (dropP P r1 r2).2 (.tuple #[.int .i64 (dropP P r1 r2).1.1, .int .i64 (dropP P r1 r2).1.2]) w) := by
  obtain ⟨Q, rfl, h2, h4⟩ := h
  refine (drop_any h2 r1 r2).mono ?_
  rintro e w' ⟨rfl, hf, Q', hq, hc, hn⟩
  exact ⟨rfl, Solo.after h4 hw hM hZ hf hq hc hn⟩
theorem sget (h : Solo w B M Z cb bm rg n P) (hw : B ≤ M) (hM : M ≤ w.heap.size) (hZ : ∀ z ∈ Z, z < w.heap.size) (b : Int) : Calls Try.prog 18 #[.pointer (some ⟨cb, 0, none⟩), .int .i64 b] w (SoloOut B Z cb bm rg n (getP P b).2 (.tuple #[aggPg (getP P b).1.1, .bool (getP P b).1.2]) w) := by
  obtain ⟨Q, rfl, h2, h4⟩ := h
  refine (get_any h2 b).mono ?_
  rintro e w' ⟨rfl, hf, hc⟩
  have hat := atQ_pages Q b
  have e1 : ((atQ Q b).map (·.2)).getD zeroPg = (getP (Q.map (·.2)) b).1.1 ∧ (atQ Q b).isSome = (getP (Q.map (·.2)) b).1.2 ∧ (getQ Q b).map (·.2) = (getP (Q.map (·.2)) b).2 := by
    unfold getP getQ
    rw [← hat]
    cases hq : atQ Q b with
    | none => exact ⟨rfl, rfl, rfl⟩
    | some q =>
      refine ⟨rfl, rfl, ?_⟩
      obtain ⟨hk, hm⟩ := atQ_split hq
      have := cutQ_pages (x := q.1) (p := q.2) h2.blocks h2.nodup hm
      simp only [List.map_cons, Option.map_some]
      rw [this, hk]
  obtain ⟨e1, e2, e3⟩ := e1
  refine ⟨by rw [e1, e2], Solo.after h4 hw hM hZ (hf.mono (by simp +contextual)) e3 hc ?_⟩
  intro q hq
  left
  unfold getQ at hq
  cases hq' : atQ Q b with
  | none => rw [hq'] at hq; exact List.mem_map_of_mem (f := (·.1)) hq
  | some q0 =>
    rw [hq'] at hq
    rcases List.mem_cons.1 hq with rfl | hq
    · exact List.mem_map_of_mem (f := (·.1)) (atQ_split hq').2
    · exact cutQ_sub (List.mem_map_of_mem (f := (·.1)) hq)
theorem slist (h : Solo w B M Z cb bm rg n P) :
    Calls Try.prog 15 #[.pointer (some ⟨cb, 0, none⟩)] w fun e w' => ∃ v, e = .returned v ∧ Fr [] w w' ∧ SliceIs w' (w.heap.size ≤ ·) encPg v P := by
  obtain ⟨Q, rfl, h2, _⟩ := h
  refine (list_any h2).mono ?_
  rintro e w' ⟨v, rfl, hf, hown⟩
  exact ⟨v, rfl, hf, SliceIs.of_owns hown rfl⟩
theorem sdirty (h : Solo w B M Z cb bm rg n P) (r1 r2 : Int) :
    Calls Try.prog 23 #[.pointer (some ⟨cb, 0, none⟩), .agg #[.int .i64 r1, .int .i64 r2]] w fun e w' => ∃ v, e = .returned v ∧ Fr [] w w' ∧ SliceIs w' (w.heap.size ≤ ·) encPg v (dirtyP P r1 r2) := by
  obtain ⟨Q, rfl, h2, _⟩ := h
  exact dirty_any h2 r1 r2
theorem sold (h : Solo w B M Z cb bm rg n P) :
    Calls Try.prog 16 #[.pointer (some ⟨cb, 0, none⟩)] w fun e w' => e = .returned (.int .i64 (oldP P)) ∧ Fr [] w w' := by
  obtain ⟨Q, rfl, h2, _⟩ := h
  exact oldest_any h2
end
end Go.Proofs.Ytafeemlojlngfaa
