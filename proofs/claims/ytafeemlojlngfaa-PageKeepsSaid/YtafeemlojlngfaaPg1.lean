/- Pages (chapter 19): the ring of links; cut, use. -/
import Derived.Test.YtafeemlojlngfaaProg
import Derived.Test.YtafeemlojlngfaaLst2
import Derived.BigRegion
import Derived.WalkKit
namespace Go.Proofs.Ytafeemlojlngfaa
open Go.RowKit
/-- The links of a ring from a to z by way of l: 'bh' tells what is behind one, 'ah' what is ahead of it. -/
def Seg (ah bh : Nat → Nat) : Nat → List Nat → Nat → Prop
  | a, [], z => bh a = z ∧ ah z = a
  | a, x :: l, z => bh a = x ∧ ah x = a ∧ Seg ah bh x l z
def upd (f : Nat → Nat) (a v : Nat) : Nat → Nat := fun b => if b = a then v else f b
theorem upd_at (f : Nat → Nat) (a v : Nat) : upd f a v a = v := by simp [upd]
theorem upd_ne (f : Nat → Nat) {a b : Nat} (v : Nat) (h : b ≠ a) : upd f a v b = f b := by simp [upd, h]
theorem Seg.congr {ah bh ah' bh' : Nat → Nat} : ∀ {l : List Nat} {a z : Nat}, Seg ah bh a l z → (∀ y ∈ a :: l, bh' y = bh y) → (∀ y ∈ l ++ [z], ah' y = ah y) → Seg ah' bh' a l z
  | [], a, z, h, h1, h2 => ⟨by rw [h1 a (by simp)]; exact h.1, by rw [h2 z (by simp)]; exact h.2⟩
  | x :: l, a, z, h, h1, h2 => ⟨by rw [h1 a (by simp)]; exact h.1, by rw [h2 x (by simp)]; exact h.2.1, h.2.2.congr (fun y hy => h1 y (by simp at hy ⊢; exact .inr hy)) (fun y hy => h2 y (by simp at hy ⊢; exact .inr hy))⟩
theorem Seg.split {ah bh : Nat → Nat} {x : Nat} {r : List Nat} {z : Nat} : ∀ {l : List Nat} {a : Nat}, Seg ah bh a (l ++ x :: r) z → Seg ah bh a l x ∧ Seg ah bh x r z
  | [], a, h => ⟨⟨h.1, h.2.1⟩, h.2.2⟩
  | b :: l, a, h => by
    obtain ⟨h1, h2⟩ := Seg.split (l := l) h.2.2
    exact ⟨⟨h.1, h.2.1, h1⟩, h2⟩
theorem Seg.ahead_mem {ah bh : Nat → Nat} {x : Nat} : ∀ {l : List Nat} {a : Nat}, Seg ah bh a l x → ah x ∈ a :: l
  | [], a, h => by simp [h.2]
  | b :: l, a, h => by have := Seg.ahead_mem h.2.2; simp at this ⊢; rcases this with h | h <;> simp [h]
theorem Seg.behind_mem {ah bh : Nat → Nat} {x z : Nat} : ∀ {r : List Nat}, Seg ah bh x r z → bh x ∈ r ++ [z]
  | [], h => by simp [h.1]
  | y :: r, h => by simp [h.1]
theorem Seg.cut {ah bh : Nat → Nat} {x : Nat} {r : List Nat} {z : Nat} : ∀ {l : List Nat} {a : Nat}, Seg ah bh a (l ++ x :: r) z → (l ++ x :: r).Nodup → a ∉ l ++ x :: r → z ∉ l ++ x :: r →
    Seg (upd ah (bh x) (ah x)) (upd bh (ah x) (bh x)) a (l ++ r) z
  | [], a, h, hn, ha, hz => by
    obtain ⟨h1, h2, h3⟩ := h
    simp only [List.nil_append, List.nodup_cons, List.mem_cons, not_or] at hn ha hz
    rw [h2]
    cases r with
    | nil =>
      obtain ⟨h4, h5⟩ := h3
      rw [h4]
      exact ⟨upd_at _ _ _, upd_at _ _ _⟩
    | cons y r =>
      obtain ⟨h4, h5, h6⟩ := h3
      rw [h4]
      simp only [List.nodup_cons, List.mem_cons, not_or] at hn ha hz
      refine ⟨upd_at _ _ _, upd_at _ _ _, h6.congr (fun b hb => upd_ne _ _ ?_) (fun b hb => upd_ne _ _ ?_)⟩
      · rintro rfl
        rcases List.mem_cons.1 hb with h | h
        · exact ha.2.1 h
        · exact ha.2.2 h
      · rintro rfl
        rcases List.mem_append.1 hb with h | h
        · exact hn.2.1 h
        · simp at h; exact hz.2.1 h.symm
  | b :: l, a, h, hn, ha, hz => by
    obtain ⟨h1, h2, h3⟩ := h
    simp only [List.cons_append, List.nodup_cons, List.mem_cons, not_or] at hn ha hz
    have ih := Seg.cut h3 hn.2 hn.1 hz.2
    obtain ⟨g1, g2⟩ := h3.split
    have m1 := g1.ahead_mem
    have m2 := g2.behind_mem
    refine ⟨?_, ?_, ih⟩
    · rw [upd_ne]; exact h1
      rintro rfl
      rcases List.mem_cons.1 m1 with h | h
      · exact ha.1 h
      · exact ha.2 (List.mem_append_left _ h)
    · rw [upd_ne]; exact h2
      rintro rfl
      rcases List.mem_append.1 m2 with h | h
      · exact hn.1 (List.mem_append_right _ (List.mem_cons_of_mem _ h))
      · simp at h; exact hz.1 h.symm
theorem Seg.push {ah bh : Nat → Nat} {rg x : Nat} {l : List Nat} (h : Seg ah bh rg l rg) (hn : l.Nodup) (hr : rg ∉ l) (hx : x ∉ l) (hxr : x ≠ rg) :
    Seg (upd (upd ah x rg) (bh rg) x) (upd (upd bh x (bh rg)) rg x) rg (x :: l) rg := by
  cases l with
  | nil =>
    obtain ⟨h1, h2⟩ := h
    rw [h1]
    refine ⟨upd_at _ _ _, ?_, ?_, upd_at _ _ _⟩
    · rw [upd_ne _ _ hxr, upd_at]
    · rw [upd_ne _ _ hxr, upd_at]
  | cons y l =>
    obtain ⟨h1, h2, h3⟩ := h
    simp only [List.nodup_cons, List.mem_cons, not_or] at hn hr hx
    rw [h1]
    refine ⟨upd_at _ _ _, ?_, ?_, upd_at _ _ _, h3.congr (fun b hb => ?_) (fun b hb => ?_)⟩
    · rw [upd_ne _ _ hx.1, upd_at]
    · rw [upd_ne _ _ hxr, upd_at]
    · rcases List.mem_cons.1 hb with rfl | hb
      · rw [upd_ne _ _ (Ne.symm hr.1), upd_ne _ _ (Ne.symm hx.1)]
      · rw [upd_ne, upd_ne]
        · rintro rfl; exact hx.2 hb
        · rintro rfl; exact hr.2 hb
    · rcases List.mem_append.1 hb with hb | hb
      · rw [upd_ne, upd_ne]
        · rintro rfl; exact hx.2 hb
        · rintro rfl; exact hn.1 hb
      · simp at hb; subst hb
        rw [upd_ne _ _ hr.1, upd_ne _ _ (Ne.symm hxr)]
set_option maxRecDepth 100000 in
set_option maxHeartbeats 2000000 in
theorem cut_raw (x p q : Nat) (w : World) (h4 : w.cell? ⟨x, 4, none⟩ = some (.pointer (some ⟨p, 0, none⟩))) (h5 : w.cell? ⟨x, 5, none⟩ = some (.pointer (some ⟨q, 0, none⟩)))
    (hp : ∃ v, w.cell? ⟨p, 5, none⟩ = some v) (hq : ∃ v, w.cell? ⟨q, 4, none⟩ = some v) (fp : w.frozen? ⟨p, 5, none⟩ = false) (fq : w.frozen? ⟨q, 4, none⟩ = false) :
    Calls Try.prog 30 #[.pointer (some ⟨x, 0, none⟩)] w fun e w' => e = .returned (.tuple #[]) ∧ w' = ((w.setCell ⟨p, 5, none⟩ (.pointer (some ⟨q, 0, none⟩))).setCell ⟨q, 4, none⟩ (.pointer (some ⟨p, 0, none⟩))).drew := by
  obtain ⟨v1, hp⟩ := hp
  obtain ⟨v2, hq⟩ := hq
  have l1 := World.block_lt_of_cell? w _ hp
  have l2 := World.block_lt_of_cell? w _ hq
  go_enter Try.func30, Try.ntmps30
  go_region
  go_end0
  exact ⟨rfl, rfl⟩
set_option maxRecDepth 100000 in
set_option maxHeartbeats 2000000 in
theorem use_raw (cb x rg f : Nat) (w : World) (hc : w.cell? ⟨cb, 2, none⟩ = some (.pointer (some ⟨rg, 0, none⟩))) (hf : w.cell? ⟨rg, 5, none⟩ = some (.pointer (some ⟨f, 0, none⟩)))
    (hx4 : ∃ v, w.cell? ⟨x, 4, none⟩ = some v) (hx5 : ∃ v, w.cell? ⟨x, 5, none⟩ = some v) (hf4 : ∃ v, w.cell? ⟨f, 4, none⟩ = some v)
    (fx4 : w.frozen? ⟨x, 4, none⟩ = false) (fx5 : w.frozen? ⟨x, 5, none⟩ = false) (ff4 : w.frozen? ⟨f, 4, none⟩ = false) (fr5 : w.frozen? ⟨rg, 5, none⟩ = false)
    (n1 : x ≠ rg) (n2 : x ≠ f) (n3 : cb ≠ x) (n4 : cb ≠ f) (n5 : cb ≠ rg) :
    Calls Try.prog 31 #[.pointer (some ⟨cb, 0, none⟩), .pointer (some ⟨x, 0, none⟩)] w fun e w' => e = .returned (.tuple #[]) ∧ w' = ((((w.setCell ⟨x, 4, none⟩ (.pointer (some ⟨rg, 0, none⟩))).setCell ⟨x, 5, none⟩ (.pointer (some ⟨f, 0, none⟩))).setCell ⟨f, 4, none⟩ (.pointer (some ⟨x, 0, none⟩))).setCell ⟨rg, 5, none⟩ (.pointer (some ⟨x, 0, none⟩))).drew.drew := by
  obtain ⟨v1, hx4⟩ := hx4
  obtain ⟨v2, hx5⟩ := hx5
  obtain ⟨v3, hf4⟩ := hf4
  have l1 := World.block_lt_of_cell? w _ hx4
  have l2 := World.block_lt_of_cell? w _ hf4
  have l3 := World.block_lt_of_cell? w _ hf
  have l4 := World.block_lt_of_cell? w _ hc
  dsimp only at l1 l2 l3 l4
  have n1' := n1.symm; have n2' := n2.symm; have n3' := n3.symm; have n4' := n4.symm; have n5' := n5.symm
  go_enter Try.func31, Try.ntmps31
  go_wp2
  go_region
  go_wp2
  go_region
  go_end0
  exact ⟨rfl, rfl⟩
theorem setCell_at {w : World} {b i : Nat} {cs : Array Value} {t : TypeId} (h : w.heap[b]? = some (.cells cs t (0, 0))) (v : Value) : (w.setCell ⟨b, i, none⟩ v).heap[b]? = some (.cells (cs.setIfInBounds i v) t (0, 0)) := by
  simp [World.setCell, Array.getElem?_modify, h]
theorem cell_at {w : World} {b i : Nat} {cs : Array Value} {t : TypeId} (h : w.heap[b]? = some (.cells cs t (0, 0))) : w.cell? ⟨b, i, none⟩ = cs[i]? := by simp [World.cell?, h]
theorem frozen_at {w : World} {b i : Nat} {cs : Array Value} {t : TypeId} (h : w.heap[b]? = some (.cells cs t (0, 0))) : w.frozen? ⟨b, i, none⟩ = false := by simp [World.frozen?, h]
abbrev Pg := Int × Int × ByteArray × Int
def encPg (p : Pg) : List Value := [.int .i64 p.1, .int .i64 p.2.1, .string p.2.2.1, .int .i64 p.2.2.2]
theorem encPg_len (p : Pg) : (encPg p).length = 4 := rfl
def ptr (b : Nat) : Value := .pointer (some ⟨b, 0, none⟩)
/-- A link in memory: its page, what is ahead, what is behind. -/
def LinkV (w : World) (b : Nat) (p : Pg) (a h : Value) : Prop := w.heap[b]? = some (.cells #[.int .i64 p.1, .int .i64 p.2.1, .string p.2.2.1, .int .i64 p.2.2.2, a, h] 63 (0, 0))
def LinksAt (w : World) (B : List Nat) (pg : Nat → Pg) (ah bh : Nat → Nat) : Prop := ∀ b ∈ B, LinkV w b (pg b) (ptr (ah b)) (ptr (bh b))
theorem LinkV.lt {w : World} {b : Nat} {p : Pg} {a h : Value} (k : LinkV w b p a h) : b < w.heap.size := lt_of_block k
theorem LinkV.fr {w w' : World} {S : List Nat} {b : Nat} {p : Pg} {a h : Value} (k : LinkV w b p a h) (hf : Fr S w w') (hb : b ∉ S) : LinkV w' b p a h := hf.keep k hb
theorem LinkV.set_ahead {w : World} {b : Nat} {p : Pg} {a h : Value} (k : LinkV w b p a h) (v : Value) : LinkV (w.setCell ⟨b, 4, none⟩ v) b p v h := setCell_at k v
theorem LinkV.set_behind {w : World} {b : Nat} {p : Pg} {a h : Value} (k : LinkV w b p a h) (v : Value) : LinkV (w.setCell ⟨b, 5, none⟩ v) b p a v := setCell_at k v
theorem LinkV.far {w : World} {b g i : Nat} {p : Pg} {a h : Value} (k : LinkV w b p a h) (v : Value) (hb : b ≠ g) : LinkV (w.setCell ⟨g, i, none⟩ v) b p a h := (Below.heap_setCell w ⟨g, i, none⟩ v b hb).trans k
theorem LinkV.drew {w : World} {b : Nat} {p : Pg} {a h : Value} (k : LinkV w b p a h) : LinkV w.drew b p a h := k
theorem LinkV.cells {w : World} {b : Nat} {p : Pg} {a h : Value} (k : LinkV w b p a h) : w.cell? ⟨b, 0, none⟩ = some (.int .i64 p.1) ∧ w.cell? ⟨b, 1, none⟩ = some (.int .i64 p.2.1) ∧ w.cell? ⟨b, 2, none⟩ = some (.string p.2.2.1) ∧ w.cell? ⟨b, 3, none⟩ = some (.int .i64 p.2.2.2) ∧ w.cell? ⟨b, 4, none⟩ = some a ∧ w.cell? ⟨b, 5, none⟩ = some h :=
  ⟨cell_at k, cell_at k, cell_at k, cell_at k, cell_at k, cell_at k⟩
theorem LinkV.free {w : World} {b : Nat} {p : Pg} {a h : Value} (k : LinkV w b p a h) (i : Nat) : w.frozen? ⟨b, i, none⟩ = false := frozen_at k
theorem LinksAt.set_ahead {w : World} {B : List Nat} {pg : Nat → Pg} {ah bh : Nat → Nat} (h : LinksAt w B pg ah bh) (x v : Nat) : LinksAt (w.setCell ⟨x, 4, none⟩ (ptr v)) B pg (upd ah x v) bh := by
  intro b hb
  by_cases hx : b = x
  · subst hx; rw [upd_at]; exact (h b hb).set_ahead _
  · rw [upd_ne _ _ hx]; exact (h b hb).far _ hx
theorem LinksAt.set_behind {w : World} {B : List Nat} {pg : Nat → Pg} {ah bh : Nat → Nat} (h : LinksAt w B pg ah bh) (x v : Nat) : LinksAt (w.setCell ⟨x, 5, none⟩ (ptr v)) B pg ah (upd bh x v) := by
  intro b hb
  by_cases hx : b = x
  · subst hx; rw [upd_at]; exact (h b hb).set_behind _
  · rw [upd_ne _ _ hx]; exact (h b hb).far _ hx
theorem LinksAt.drew {w : World} {B : List Nat} {pg : Nat → Pg} {ah bh : Nat → Nat} (h : LinksAt w B pg ah bh) : LinksAt w.drew B pg ah bh := h
theorem LinksAt.fr {w w' : World} {S B : List Nat} {pg : Nat → Pg} {ah bh : Nat → Nat} (h : LinksAt w B pg ah bh) (hf : Fr S w w') (hS : ∀ b ∈ B, b ∉ S) : LinksAt w' B pg ah bh := fun b hb => (h b hb).fr hf (hS b hb)
theorem cut_any (x : Nat) (B : List Nat) (pg : Nat → Pg) (ah bh : Nat → Nat) (w : World) (h : LinksAt w B pg ah bh) (hx : x ∈ B) (hp : ah x ∈ B) (hq : bh x ∈ B) :
    Calls Try.prog 30 #[.pointer (some ⟨x, 0, none⟩)] w fun e w' => e = .returned (.tuple #[]) ∧ Fr B w w' ∧ LinksAt w' B pg (upd ah (bh x) (ah x)) (upd bh (ah x) (bh x)) := by
  have kx := (h x hx).cells
  have kp := h _ hp
  have kq := h _ hq
  refine (cut_raw x (ah x) (bh x) w kx.2.2.2.2.1 kx.2.2.2.2.2 ⟨_, kp.cells.2.2.2.2.2⟩ ⟨_, kq.cells.2.2.2.2.1⟩ (kp.free 5) (kq.free 4)).mono ?_
  rintro e w' ⟨rfl, rfl⟩
  exact ⟨rfl, (((Fr.refl B w).setCell _ _ (.inl hp)).setCell _ _ (.inl hq)).drew, ((h.set_behind (ah x) (bh x)).set_ahead (bh x) (ah x)).drew⟩
theorem use_any (cb x rg : Nat) (B : List Nat) (pg : Nat → Pg) (ah bh : Nat → Nat) (p : Pg) (va vh : Value) (w : World) (h : LinksAt w B pg ah bh) (hr : rg ∈ B) (hf : bh rg ∈ B) (hx : LinkV w x p va vh) (hxB : x ∉ B) (hcB : cb ∉ B) (hcx : cb ≠ x)
    (hc : w.cell? ⟨cb, 2, none⟩ = some (.pointer (some ⟨rg, 0, none⟩))) :
    Calls Try.prog 31 #[.pointer (some ⟨cb, 0, none⟩), .pointer (some ⟨x, 0, none⟩)] w fun e w' => e = .returned (.tuple #[]) ∧ Fr (x :: B) w w' ∧ LinksAt w' (x :: B) (fun b => if b = x then p else pg b) (upd (upd ah x rg) (bh rg) x) (upd (upd bh x (bh rg)) rg x) := by
  have kf := h _ hf
  have kr := h _ hr
  have ne : ∀ b ∈ B, b ≠ x := fun b hb e => hxB (e ▸ hb)
  have nc : ∀ b ∈ B, cb ≠ b := fun b hb e => hcB (e ▸ hb)
  refine (use_raw cb x rg (bh rg) w hc kr.cells.2.2.2.2.2 ⟨_, hx.cells.2.2.2.2.1⟩ ⟨_, hx.cells.2.2.2.2.2⟩ ⟨_, kf.cells.2.2.2.2.1⟩ (hx.free 4) (hx.free 5) (kf.free 4) (kr.free 5) (ne _ hr).symm (ne _ hf).symm hcx (nc _ hf) (nc _ hr)).mono ?_
  rintro e w' ⟨rfl, rfl⟩
  refine ⟨rfl, (((((Fr.refl (x :: B) w).setCell _ _ (.inl (by simp))).setCell _ _ (.inl (by simp))).setCell _ _ (.inl (by simp [hf]))).setCell _ _ (.inl (by simp [hr]))).drew.drew, ?_⟩
  have h1 : LinksAt ((w.setCell ⟨x, 4, none⟩ (ptr rg)).setCell ⟨x, 5, none⟩ (ptr (bh rg))) (x :: B) (fun b => if b = x then p else pg b) (upd ah x rg) (upd bh x (bh rg)) := by
    intro b hb
    rcases List.mem_cons.1 hb with rfl | hb
    · dsimp only; rw [if_pos rfl, upd_at, upd_at]; exact (hx.set_ahead _).set_behind _
    · dsimp only; rw [if_neg (ne b hb), upd_ne _ _ (ne b hb), upd_ne _ _ (ne b hb)]; exact ((h b hb).far _ (ne b hb)).far _ (ne b hb)
  exact ((h1.set_ahead (bh rg) x).set_behind rg x).drew.drew
end Go.Proofs.Ytafeemlojlngfaa
