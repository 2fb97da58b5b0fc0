/- One log over one area, and rows that are none of its own; what a Commit that is cut off leaves, in plain words. -/
import Derived.Test.YtcbccogpogdbmaaLg8
namespace Go.Proofs.Ytcbccogpogdbmaa
open Go.RowKit Go.Maps Go.Lib Go.Sort
structure One (w W : World) (H : Nat → Prop) (lx ax gx base slots : Nat) (A : List ByteArray) (t m : Int) (K F : List Rec) (G : Nat → Prop) : Prop where
  x : LA G W lx ax gx base slots A t m K F
  gb : ∀ g, G g → w.heap.size ≤ g ∧ g < W.heap.size
  ob : w.heap.size ≤ ax ∧ w.heap.size ≤ gx
  hp : ∀ g, H g → ¬ G g ∧ g ≠ ax ∧ g ≠ gx ∧ g < W.heap.size ∧ w.heap.size ≤ g
  fr : Fr [] w W
/-- Nothing of these blocks has turned. -/
def Off (H : Nat → Prop) (W W' : World) : Prop := ∃ T, (∀ t ∈ T, ¬ H t) ∧ Fr T W W'
theorem Off.slice {H : Nat → Prop} {W W' : World} (h : Off H W W') {α : Type} {enc : α → List Value} {v : Value} {S : List α} {B : Nat → Prop} (hs : SliceIs W B enc v S) (hB : ∀ g, B g → H g) : SliceIs W' B enc v S := by
  obtain ⟨T, hT, hf⟩ := h
  exact hs.fr hf (fun g hg _ hm => hT g hm (hB g hg))
theorem Off.owns {H : Nat → Prop} {W W' : World} (h : Off H W W') {v : Value} {base k n : Nat} {e : TypeId} {xs : List Value} (hs : W.ownsRow base e k v n xs) (hB : ∀ g, v.ownBlock = some g → H g) : W'.ownsRow base e k v n xs := by
  obtain ⟨T, hT, hf⟩ := h
  exact owns_fr2 hs hf (fun g hg hm => hT g hm (hB g hg))
theorem Off.of0 {H : Nat → Prop} {W W' : World} (h : Fr [] W W') : Off H W W' := ⟨[], by simp, h⟩
theorem Off.size {H : Nat → Prop} {W W' : World} (h : Off H W W') : W.heap.size ≤ W'.heap.size := by obtain ⟨T, _, hf⟩ := h; exact hf.size
section
variable {w W : World} {H : Nat → Prop} {lx ax gx base slots : Nat} {A : List ByteArray} {t m : Int} {K F : List Rec} {G : Nat → Prop}
theorem One.fr0 (h : One w W H lx ax gx base slots A t m K F G) {W' : World} (hf : Fr [] W W') : One w W' H lx ax gx base slots A t m K F G := by
  have hz := hf.size
  exact ⟨h.x.fr0 hf, fun g hg => by have := h.gb g hg; omega, h.ob, fun g hg => by have := h.hp g hg; exact ⟨this.1, this.2.1, this.2.2.1, by omega, this.2.2.2.2⟩, h.fr.trans hf⟩
theorem One.step (h : One w W H lx ax gx base slots A t m K F G) {W' : World} {T : List Nat} (hT : ∀ u ∈ T, u = ax ∨ u = gx ∨ G u ∨ W.heap.size ≤ u) (hf : Fr T W W') {A' : List ByteArray} {t' m' : Int} {K' F' : List Rec} (hx : LA (Gr G W W') W' lx ax gx base slots A' t' m' K' F') :
    One w W' H lx ax gx base slots A' t' m' K' F' (Gr G W W') ∧ Off H W W' := by
  have hz := hf.size
  have hx1 := h.x.area.lt
  have hzw := h.fr.size
  refine ⟨⟨hx, fun g h1 => ?_, h.ob, fun g hg => ?_, h.fr.andThen hf (fun u hu => .inr ?_)⟩, T, fun u hu hH => ?_, hf⟩
  · rcases h1 with h1 | h1
    · have := h.gb g h1; omega
    · omega
  · obtain ⟨p1, p2, p3, p4, p5⟩ := h.hp g hg
    exact ⟨fun h1 => h1.elim p1 (fun h2 => by omega), p2, p3, by omega, p5⟩
  · have h4 := h.ob
    rcases hT u hu with e | e | e | e
    · omega
    · omega
    · exact (h.gb u e).1
    · omega
  · obtain ⟨p1, p2, p3, p4, p5⟩ := h.hp u hH
    rcases hT u hu with e | e | e | e
    · exact p2 e
    · exact p3 e
    · exact p1 e
    · omega
theorem One.append (h : One w W H lx ax gx base slots A t m K F G) (b s : Int) (d : ByteArray) {n e : Int} {F1 : List Rec} (hr : appendP slots m K F b s d = (n, e, F1)) :
    Calls Try.prog 17 #[.pointer (some ⟨lx, 0, none⟩), .int .i64 b, .int .i64 s, .string d] W fun z W' => z = .returned (.tuple #[.int .i64 n, .int .i64 e]) ∧ Off H W W' ∧ ∃ G', One w W' H lx ax gx base slots A t m K F1 G' := by
  refine (h.x.append b s d hr).mono ?_
  rintro z W' ⟨rfl, hf, hl⟩
  obtain ⟨h1, h2⟩ := h.step (fun u hu => .inr (.inr (.inl (by rw [List.mem_singleton.1 hu]; exact h.x.log.at.1)))) hf hl
  exact ⟨rfl, h2, _, h1⟩
theorem One.reclaim (h : One w W H lx ax gx base slots A t m K F G) (upto : Int) {e : Int} {K1 : List Rec} (hr : reclaimP m K upto = (e, K1)) :
    Calls Try.prog 23 #[.pointer (some ⟨lx, 0, none⟩), .int .i64 upto] W fun z W' => z = .returned (.int .i64 e) ∧ Off H W W' ∧ ∃ G', One w W' H lx ax gx base slots A t m K1 F G' := by
  refine (h.x.reclaim upto hr).mono ?_
  rintro z W' ⟨rfl, hf, hl⟩
  obtain ⟨h1, h2⟩ := h.step (fun u hu => .inr (.inr (.inl (by rw [List.mem_singleton.1 hu]; exact h.x.log.at.1)))) hf hl
  exact ⟨rfl, h2, _, h1⟩
theorem One.commit (h : One w W H lx ax gx base slots A t m K F G) {e t1 m1 : Int} {A1 : List ByteArray} {K1 F1 : List Rec} (hr : commitP base slots F A t m K = (e, A1, t1, m1, K1, F1)) (hl : t1 < 1000000) :
    Calls Try.prog 18 #[.pointer (some ⟨lx, 0, none⟩)] W fun z W' => z = .returned (.int .i64 e) ∧ Off H W W' ∧ ∃ G', One w W' H lx ax gx base slots A1 t1 m1 K1 F1 G' := by
  refine (h.x.commit hr hl).mono ?_
  rintro z W' ⟨rfl, ⟨T, hT, hf⟩, hx⟩
  obtain ⟨h1, h2⟩ := h.step hT hf hx
  exact ⟨rfl, h2, _, h1⟩
theorem One.left (h : One w W H lx ax gx base slots A t m K F G) (v : Int) (hv : v < 1000000) : Off H W (W.setCell ⟨ax, 1, none⟩ (.int .i64 v)) ∧ ∃ G', One w (W.setCell ⟨ax, 1, none⟩ (.int .i64 v)) H lx ax gx base slots A v m K F G' := by
  obtain ⟨ha, hf⟩ := h.x.area.left v
  have hl := h.x.log.fr hf (fun g hg => by rw [List.mem_singleton.1 hg]; exact h.x.nab)
  obtain ⟨h1, h2⟩ := h.step (T := [ax]) (fun u hu => .inl (List.mem_singleton.1 hu)) hf ⟨hl.imp (fun g _ hg => .inl hg), ha, gr_no h.x.area.lt.1 h.x.nab, gr_no h.x.area.lt.2 h.x.nag, h.x.ok, hv, h.x.s1, h.x.s2, h.x.s3⟩
  exact ⟨h2, _, h1⟩
/-- New blocks are none of the log's. -/
theorem One.more (h : One w W H lx ax gx base slots A t m K F G) {W' : World} {T : List Nat} (hf : Fr T W W') (hT : ∀ u ∈ T, H u) {H' : Nat → Prop} (hH : ∀ g, H' g → H g ∨ W.heap.size ≤ g ∧ g < W'.heap.size) : One w W' H' lx ax gx base slots A t m K F G := by
  have hz := hf.size
  have hx1 := h.x.area.lt
  have hzw := h.fr.size
  refine ⟨h.x.fr hf (fun u hu => by have := h.hp u (hT u hu); exact ⟨this.1, this.2.1, this.2.2.1⟩), fun g hg => by have := h.gb g hg; omega, h.ob, fun g hg => ?_, h.fr.andThen hf (fun u hu => .inr (h.hp u (hT u hu)).2.2.2.2)⟩
  rcases hH g hg with h1 | h1
  · obtain ⟨p1, p2, p3, p4, p5⟩ := h.hp g h1
    exact ⟨p1, p2, p3, by omega, p5⟩
  · exact ⟨fun h2 => by have := (h.gb g h2).2; omega, by omega, by omega, by omega, by omega⟩
end
theorem AreaOk.sub {base slots : Nat} {A : List ByteArray} {last : Int} {K K1 : List Rec} (h : AreaOk base slots A last K) (hs : ∀ r ∈ K1, r ∈ K) : AreaOk base slots A last K1 := ⟨h.len, fun r hr => h.lies r (hs r hr), h.top, h.third⟩
theorem reclaim_sub {last upto e : Int} {K K1 : List Rec} (hr : reclaimP last K upto = (e, K1)) : ∀ r ∈ K1, r ∈ K := by
  unfold reclaimP at hr
  split at hr
  · simp only [Prod.mk.injEq] at hr
    rw [← hr.2]
    exact fun _ h => h
  · simp only [Prod.mk.injEq] at hr
    obtain ⟨i, hi, he⟩ := over_drop upto K
    rw [← hr.2, he]
    exact fun _ h => List.mem_of_mem_drop h
/-- What is found behind a Commit that was cut off. -/
structure CutOf (m0 m1 e : Int) (K0 F All : List Rec) (q : Nat) : Prop where
  kept : ∀ (i : Nat) x (k : Nat) y, All[i]? = some x → K0[k]? = some y → (i = q + k ∧ x = y) ∨ (i ≠ q + k ∧ x.1 ≠ y.1)
  fresh : ∀ (i : Nat) x (k : Nat) y, All[i]? = some x → F[k]? = some y → x.1 = y.1 → x = y
  rise : ∀ (i : Nat) x y, All[i]? = some x → All[i + 1]? = some y → y.1 = x.1 + 1
  len : q + K0.length ≤ All.length
  lim : All.length ≤ 20
  done : e = 0 → ∀ r, F[F.length - 1]? = some r → r.1 = m1
theorem cut_opens {base slots : Nat} {A A1 : List ByteArray} {t t1 m0 m1 e : Int} {K0 F K1 F1 : List Rec} (hA : AreaOk base slots A m0 K0) (hk : OkL slots m0 K0 F) (hs : 2 ≤ slots) (hs2 : slots ≤ 20) (hb : base + 3 * slots ≤ 256) (hr : commitP base slots F A t m0 K0 = (e, A1, t1, m1, K1, F1)) :
    lastP A1 base slots = m1 ∧ OkL slots m1 (keptP A1 base slots) [] ∧ ∃ q, CutOf m0 m1 e K0 F (keptP A1 base slots) q := by
  have hcut := hA.cut (left := t) hs hb hk
  rw [hr] at hcut
  dsimp only at hcut
  obtain ⟨hA1, hk1⟩ := hcut
  obtain ⟨o1, o2, -⟩ := open_ok_l hA1 hk1 (by omega)
  refine ⟨o1, o2, ?_⟩
  obtain ⟨D, F', e', A', left', hF, h2, h3⟩ := commit_cut base slots F A t m0 K0
  rw [hr] at h2
  simp only [Prod.mk.injEq] at h2
  obtain ⟨rfl, rfl, rfl, rfl, rfl, rfl⟩ := h2
  obtain ⟨Q, k1, -⟩ := kept_is hA1 hk1 (by omega)
  have hrow := o2.kept
  have hroom := o2.room
  rw [k1] at hrow hroom ⊢
  have hfr := hk.fresh
  have hlq : lastQ m0 D = m0 + D.length := last_row D m0 (fun j r hr => hfr j r (by rw [hF, List.getElem?_append_left (List.getElem?_eq_some_iff.1 hr).1]; exact hr))
  obtain ⟨All, hAll⟩ : ∃ All, All = Q ++ (K0 ++ D) := ⟨_, rfl⟩
  have hlen : All.length = Q.length + K0.length + D.length := by rw [hAll]; simp; omega
  rw [← hAll] at hrow hroom ⊢
  have hx : ∀ (i : Nat) x, All[i]? = some x → x.1 = m0 - Q.length - K0.length + i + 1 := fun i x hi => by
    have := hrow i x hi
    rw [hlq, hlen] at this
    omega
  have hK : ∀ (k : Nat) y, K0[k]? = some y → All[Q.length + k]? = some y := fun k y hy => by
    have := (List.getElem?_eq_some_iff.1 hy).1
    rw [hAll, List.getElem?_append_right (by omega), Nat.add_sub_cancel_left, List.getElem?_append_left this]
    exact hy
  refine ⟨Q.length, fun i x k y hi hy => ?_, fun i x k y hi hy he => ?_, fun i x y hi hy => ?_, by omega, by simp at hroom; omega, fun he r hr => ?_⟩
  · have h1 := hK k y hy
    by_cases hc : i = Q.length + k
    · left
      refine ⟨hc, ?_⟩
      rw [hc, h1] at hi
      exact (Option.some.inj hi).symm
    · right
      refine ⟨hc, ?_⟩
      have e1 := hx _ _ hi
      have e2 := hx _ _ h1
      omega
  · have e1 := hx _ _ hi
    have e2 := hfr k y hy
    have e3 : i = Q.length + K0.length + k := by omega
    have hil := (List.getElem?_eq_some_iff.1 hi).1
    have hkD : k < D.length := by omega
    rw [hF, List.getElem?_append_left hkD] at hy
    rw [hAll, List.getElem?_append_right (by omega), List.getElem?_append_right (by omega), show i - Q.length - K0.length = k by omega, hy] at hi
    exact (Option.some.inj hi).symm
  · have e1 := hx _ _ hi
    have e2 := hx _ _ hy
    omega
  · rcases h3 with ⟨_, h4, _⟩ | ⟨h4, _⟩
    · rw [h4, List.append_nil] at hF
      have h5 := hfr _ r hr
      have h6 := (List.getElem?_eq_some_iff.1 hr).1
      rw [hF] at h6 h5
      rw [hlq]
      omega
    · omega
end Go.Proofs.Ytcbccogpogdbmaa
