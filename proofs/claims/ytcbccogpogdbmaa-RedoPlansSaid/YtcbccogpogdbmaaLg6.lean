/- One log over one area, and what each call makes of both. -/
import Derived.Test.YtcbccogpogdbmaaLg5
namespace Go.Proofs.Ytcbccogpogdbmaa
open Go.RowKit Go.Maps Go.Lib Go.Sort
/-- A log over an area, with the blocks that are the log's own. -/
structure LA (G : Nat → Prop) (W : World) (lb ab ag base slots : Nat) (A : List ByteArray) (left last : Int) (K F : List Rec) : Prop where
  log : LogAt G W lb ab base slots last K F
  area : AreaAt W ab ag A left
  nab : ¬ G ab
  nag : ¬ G ag
  ok : OkL slots last K F
  low : left < 1000000
  s1 : 1 ≤ slots
  s2 : slots ≤ 20
  s3 : base + 3 * slots ≤ 256
/-- What belongs to it then: what did, and new blocks. -/
def Gr (G : Nat → Prop) (W W' : World) : Nat → Prop := fun g => G g ∨ (W.heap.size ≤ g ∧ g < W'.heap.size)
section
variable {G : Nat → Prop} {W : World} {lb ab ag base slots : Nat} {A : List ByteArray} {left last : Int} {K F : List Rec}
theorem LA.fr (h : LA G W lb ab ag base slots A left last K F) {S : List Nat} {W' : World} (hf : Fr S W W') (h1 : ∀ g ∈ S, ¬ G g ∧ g ≠ ab ∧ g ≠ ag) : LA G W' lb ab ag base slots A left last K F :=
  ⟨h.log.fr hf (fun g hg => (h1 g hg).1), h.area.fr hf (fun hm => (h1 _ hm).2.1 rfl) (fun hm => (h1 _ hm).2.2 rfl), h.nab, h.nag, h.ok, h.low, h.s1, h.s2, h.s3⟩
theorem LA.fr0 (h : LA G W lb ab ag base slots A left last K F) {W' : World} (hf : Fr [] W W') : LA G W' lb ab ag base slots A left last K F := h.fr hf (by simp)
theorem LA.imp (h : LA G W lb ab ag base slots A left last K F) {G' : Nat → Prop} (h1 : ∀ g, g < W.heap.size → G g → G' g) (h2 : ∀ g, G' g → G g ∨ W.heap.size ≤ g) : LA G' W lb ab ag base slots A left last K F :=
  ⟨h.log.imp h1, h.area, fun hg => (h2 _ hg).elim h.nab (fun h3 => by have := h.area.lt.1; omega), fun hg => (h2 _ hg).elim h.nag (fun h3 => by have := h.area.lt.2; omega), h.ok, h.low, h.s1, h.s2, h.s3⟩
theorem LA.bounds (h : LA G W lb ab ag base slots A left last K F) : 0 ≤ last ∧ last ≤ 1099511627776 ∧ K.length ≤ 20 ∧ F.length ≤ 20 ∧ (K.length : Int) ≤ last := by
  have h1 := h.ok.nn
  have h2 := h.ok.mx
  have h3 := h.ok.room
  have h4 := h.s2
  omega
theorem LA.wide (h : LA G W lb ab ag base slots A left last K F) : LA (fun g => G g ∨ W.heap.size ≤ g) W lb ab ag base slots A left last K F := h.imp (fun _ _ hg => .inl hg) (fun _ hg => hg)
theorem gr_of {W' : World} (g : Nat) (hg : g < W'.heap.size) (h : G g ∨ W.heap.size ≤ g) : Gr G W W' g := h.elim .inl (fun h => .inr ⟨h, hg⟩)
theorem gr_no {W' : World} {g : Nat} (h : g < W.heap.size) (hg : ¬ G g) : ¬ Gr G W W' g := fun h2 => h2.elim hg (fun h3 => by omega)
/-- Append. -/
theorem LA.append (h : LA G W lb ab ag base slots A left last K F) (b s : Int) (d : ByteArray) {n e : Int} {F1 : List Rec} (hr : appendP slots last K F b s d = (n, e, F1)) :
    Calls Try.prog 17 #[.pointer (some ⟨lb, 0, none⟩), .int .i64 b, .int .i64 s, .string d] W fun x W' => x = .returned (.tuple #[.int .i64 n, .int .i64 e]) ∧ Fr [lb] W W' ∧ LA (Gr G W W') W' lb ab ag base slots A left last K F1 := by
  obtain ⟨b1, b2, b3, b4, -⟩ := h.bounds
  refine (append_any h.wide.log (fun g hg => .inr hg) h.s2 b1 b2 (by omega) (by omega) b s d).mono ?_
  have hk := (h.ok.append b s d).1
  rw [hr] at hk ⊢
  rintro x W' ⟨rfl, hf, hl⟩
  have hne1 : ab ∉ [lb] := fun hm => h.nab (by rw [List.mem_singleton.1 hm]; exact h.log.at.1)
  have hne2 : ag ∉ [lb] := fun hm => h.nag (by rw [List.mem_singleton.1 hm]; exact h.log.at.1)
  exact ⟨rfl, hf, hl.imp (fun g hg hh => gr_of g hg hh), h.area.fr hf hne1 hne2, gr_no h.area.lt.1 h.nab, gr_no h.area.lt.2 h.nag, hk, h.low, h.s1, h.s2, h.s3⟩
/-- Commit. -/
theorem LA.commit (h : LA G W lb ab ag base slots A left last K F) {e left1 last1 : Int} {A1 : List ByteArray} {K1 F1 : List Rec} (hr : commitP base slots F A left last K = (e, A1, left1, last1, K1, F1)) (hl : left1 < 1000000) :
    Calls Try.prog 18 #[.pointer (some ⟨lb, 0, none⟩)] W fun x W' => x = .returned (.int .i64 e) ∧ (∃ T, (∀ t ∈ T, t = ab ∨ t = ag ∨ G t ∨ W.heap.size ≤ t) ∧ Fr T W W') ∧ LA (Gr G W W') W' lb ab ag base slots A1 left1 last1 K1 F1 := by
  obtain ⟨b1, b2, b3, b4, -⟩ := h.bounds
  have hw := h.wide
  refine (commit_any hw.log (fun g hg => .inr hg) h.area hw.nab hw.nag h.s1 h.s2 h.s3 h.low (by omega) (fun r hr => h.ok.good r (List.mem_append_right _ hr))).mono ?_
  obtain ⟨D, F', e', A', left', rfl, h2, -⟩ := commit_cut base slots F A left last K
  have hk := h.ok.commit
  rw [hr] at h2 ⊢
  simp only [Prod.mk.injEq] at h2
  obtain ⟨-, -, -, rfl, rfl, rfl⟩ := h2
  rintro x W' ⟨rfl, hT, ha, hl9⟩
  exact ⟨rfl, hT, hl9.imp (fun g hg hh => gr_of g hg hh), ha, gr_no h.area.lt.1 h.nab, gr_no h.area.lt.2 h.nag, hk, hl, h.s1, h.s2, h.s3⟩
theorem over_drop (upto : Int) : ∀ K : List Rec, ∃ i, i ≤ K.length ∧ overP upto K = K.drop i
  | [] => ⟨0, Nat.le_refl _, rfl⟩
  | r :: K => by
    unfold overP
    rw [List.dropWhile_cons]
    by_cases hc : r.1 ≤ upto
    · rw [if_pos (by simpa using hc)]
      obtain ⟨i, hi, he⟩ := over_drop upto K
      exact ⟨i + 1, by simpa using hi, by rw [List.drop_succ_cons]; exact he⟩
    · rw [if_neg (by simpa using hc)]
      exact ⟨0, Nat.zero_le _, rfl⟩
/-- Reclaim. -/
theorem LA.reclaim (h : LA G W lb ab ag base slots A left last K F) (upto : Int) {e : Int} {K1 : List Rec} (hr : reclaimP last K upto = (e, K1)) :
    Calls Try.prog 23 #[.pointer (some ⟨lb, 0, none⟩), .int .i64 upto] W fun x W' => x = .returned (.int .i64 e) ∧ Fr [lb] W W' ∧ LA (Gr G W W') W' lb ab ag base slots A left last K1 F := by
  obtain ⟨b1, b2, b3, b4, -⟩ := h.bounds
  refine (reclaim_any h.wide.log (fun g hg => .inr hg) (by omega) upto).mono ?_
  rw [hr]
  rintro x W' ⟨rfl, hf, hl⟩
  have hne1 : ab ∉ [lb] := fun hm => h.nab (by rw [List.mem_singleton.1 hm]; exact h.log.at.1)
  have hne2 : ag ∉ [lb] := fun hm => h.nag (by rw [List.mem_singleton.1 hm]; exact h.log.at.1)
  have hk : OkL slots last K1 F := by
    unfold reclaimP at hr
    split at hr
    · simp only [Prod.mk.injEq] at hr
      rw [← hr.2]
      exact h.ok
    · simp only [Prod.mk.injEq] at hr
      obtain ⟨i, hi, he⟩ := over_drop upto K
      rw [← hr.2, he]
      exact h.ok.drop i hi
  exact ⟨rfl, hf, hl.imp (fun g hg hh => gr_of g hg hh), h.area.fr hf hne1 hne2, gr_no h.area.lt.1 h.nab, gr_no h.area.lt.2 h.nag, hk, h.low, h.s1, h.s2, h.s3⟩
theorem LA.live (h : LA G W lb ab ag base slots A left last K F) :
    Calls Try.prog 22 #[.pointer (some ⟨lb, 0, none⟩)] W fun e W' => ∃ a c, e = .returned (.slice a K.length c) ∧ K.length ≤ c ∧ Fr [] W W' ∧ W'.ownsRow W.heap.size 23 4 (.slice a K.length c) K.length (K.flatMap encR) := by
  refine (live_any h.log (by have := h.bounds; omega)).mono ?_
  rintro e W' ⟨v, rfl, hf, ho⟩
  obtain ⟨a, c, rfl, hc, -⟩ := (SliceIs.of_owns ho rfl).at encR_len
  exact ⟨a, c, rfl, hc, hf, ho⟩
/-- Open over an area that keeps a log. -/
theorem open_la {w : World} (hA : AreaAt w ab ag A left) (hl : left < 1000000) {base slots : Nat} (h1 : 1 ≤ slots) (h2 : slots ≤ 20) (h3 : base + 3 * slots ≤ 256) {last1 : Int} {K1 : List Rec} (hk : OkL slots last1 K1 []) (e1 : lastP A base slots = last1) (e2 : keptP A base slots = K1) :
    Calls Try.prog 16 #[.iface 39 (.pointer (some ⟨ab, 0, none⟩)), .int .i64 base, .int .i64 slots] w fun e w' => ∃ lb, e = .returned (.tuple #[.pointer (some ⟨lb, 0, none⟩), .int .i64 0]) ∧ Fr [] w w' ∧ w.heap.size ≤ lb ∧ LA (fun g => w.heap.size ≤ g ∧ g < w'.heap.size) w' lb ab ag base slots A left last1 K1 [] := by
  refine (open_ok hA base slots h1 h2 h3).mono ?_
  rintro e w' ⟨lb, rfl, hf, hlg⟩
  rw [e1, e2] at hlg
  exact ⟨lb, rfl, hf, hlg.at.1, hlg.imp (fun g hg hh => ⟨hh, hg⟩), hA.fr hf (by simp) (by simp), fun h => by have := hA.lt.1; omega, fun h => by have := hA.lt.2; omega, hk, hl, h1, h2, h3⟩
theorem gr_ge {W' : World} {b : Nat} (h : ∀ g, G g → b ≤ g) (hb : b ≤ W.heap.size) : ∀ g, Gr G W W' g → b ≤ g := fun g hg => hg.elim (h g) (fun h2 => by omega)
theorem LA.step1 {w W' : World} (h : LA G W lb ab ag base slots A left last K F) (hG : ∀ g, G g → w.heap.size ≤ g) (hF : Fr [] w W) (hf : Fr [lb] W W') : Fr [] w W' :=
  hF.andThen hf (fun t ht => .inr (by rw [List.mem_singleton.1 ht]; exact hG _ h.log.at.1))
theorem stepT {w W' : World} (hG : ∀ g, G g → w.heap.size ≤ g) (ha : w.heap.size ≤ ab) (hg : w.heap.size ≤ ag) (hF : Fr [] w W) (hf : ∃ T, (∀ t ∈ T, t = ab ∨ t = ag ∨ G t ∨ W.heap.size ≤ t) ∧ Fr T W W') : Fr [] w W' := by
  obtain ⟨T, hT, hf⟩ := hf
  refine hF.andThen hf (fun t ht => .inr ?_)
  rcases hT t ht with h | h | h | h
  · omega
  · omega
  · exact hG t h
  · have := hF.size; omega
/-- Open over an empty area. -/
theorem open_fresh {w : World} (hA : AreaAt w ab ag (List.replicate 256 ⟨#[]⟩) left) (hl : left < 1000000) {base slots : Nat} (h1 : 1 ≤ slots) (h2 : slots ≤ 20) (h3 : base + 3 * slots ≤ 256) :
    Calls Try.prog 16 #[.iface 39 (.pointer (some ⟨ab, 0, none⟩)), .int .i64 base, .int .i64 slots] w fun e w' => ∃ lb, e = .returned (.tuple #[.pointer (some ⟨lb, 0, none⟩), .int .i64 0]) ∧ Fr [] w w' ∧ w.heap.size ≤ lb ∧ LA (fun g => w.heap.size ≤ g ∧ g < w'.heap.size) w' lb ab ag base slots (List.replicate 256 ⟨#[]⟩) left 0 [] [] := by
  obtain ⟨P, k1, k2, -⟩ := kept_is (area_empty base slots) (okl_nil slots) h1
  refine open_la hA hl h1 h2 h3 (okl_nil slots) (last_is (area_empty base slots) h1 (by omega)) ?_
  rw [k1, k2 rfl]
  rfl
end
end Go.Proofs.Ytcbccogpogdbmaa
