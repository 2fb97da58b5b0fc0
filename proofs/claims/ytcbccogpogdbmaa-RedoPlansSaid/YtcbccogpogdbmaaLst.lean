/- Slices that read as a list; append to a slice of a call's own. -/
import Derived.Test.YtcbccogpogdbmaaGen
import Derived.Shelf.GgSortFunc.InsertionK
import Derived.Shelf.SlSortCmp.InsertionK
namespace Go.Proofs.Ytcbccogpogdbmaa
open Go.RowKit Go.Maps Go.Sort

/-! ### A slice that reads as a list -/
/-- The slice value v reads as the list S, each element by 'enc'; where it is not empty its block meets B. -/
def SliceIs (w : World) (B : Nat → Prop) {α : Type} (enc : α → List Value) (v : Value) (S : List α) : Prop :=
  ∃ a cap, v = .slice a S.length cap ∧ S.length ≤ cap ∧ cap ≤ maxLen ∧ (S = [] ∨ ∃ g off, a = some ⟨g, off, none⟩ ∧ B g ∧ g < w.heap.size ∧ ∀ j u, (S.flatMap enc)[j]? = some u → w.cell? ⟨g, off + j, none⟩ = some u)

section
variable {α : Type} {enc : α → List Value} {k : Nat} {w : World} {B : Nat → Prop} {v : Value} {S : List α}

theorem SliceIs.nil (w : World) (B : Nat → Prop) (enc : α → List Value) : SliceIs w B enc (.slice none 0 0) [] := ⟨none, 0, rfl, Nat.le_refl _, Nat.zero_le _, .inl rfl⟩
theorem SliceIs.fr {T : List Nat} {w' : World} (h : SliceIs w B enc v S) (hf : Fr T w w') (hT : ∀ g, B g → g < w.heap.size → g ∉ T) : SliceIs w' B enc v S := by
  obtain ⟨a, cap, hv, h1, h2, h3⟩ := h
  refine ⟨a, cap, hv, h1, h2, ?_⟩
  rcases h3 with h3 | ⟨g, off, ha, hb, hg, hc⟩
  · exact .inl h3
  · refine .inr ⟨g, off, ha, hb, Nat.lt_of_lt_of_le hg hf.size, fun j u hj => ?_⟩
    rw [hf.cell (p := ⟨g, off + j, none⟩) hg (hT g hb hg)]
    exact hc j u hj
theorem SliceIs.imp {B' : Nat → Prop} (h : SliceIs w B enc v S) (hB : ∀ g, g < w.heap.size → B g → B' g) : SliceIs w B' enc v S := by
  obtain ⟨a, cap, hv, h1, h2, h3⟩ := h
  refine ⟨a, cap, hv, h1, h2, ?_⟩
  rcases h3 with h3 | ⟨g, off, ha, hb, hg, hc⟩
  · exact .inl h3
  · exact .inr ⟨g, off, ha, hB g hg hb, hg, hc⟩

theorem flat_len (hk : ∀ x, (enc x).length = k) (S : List α) : (S.flatMap enc).length = S.length * k := by
  induction S with
  | nil => simp
  | cons x S ih => simp [hk, ih, Nat.add_mul]; omega
theorem flat_get (hk : ∀ x, (enc x).length = k) : ∀ (S : List α) (i : Nat) (x : α) (j : Nat) (u : Value), S[i]? = some x → (enc x)[j]? = some u → (S.flatMap enc)[i * k + j]? = some u := by
  intro S
  induction S with
  | nil => intro i x j u h; simp at h
  | cons y S ih =>
    intro i x j u h hj
    cases i with
    | zero =>
      simp at h; subst h
      simp only [List.flatMap_cons, Nat.zero_mul, Nat.zero_add]
      rw [List.getElem?_append_left (List.getElem?_eq_some_iff.1 hj).1]; exact hj
    | succ i =>
      simp at h
      simp only [List.flatMap_cons]
      rw [List.getElem?_append_right (by rw [hk, Nat.add_mul]; omega), hk]
      rw [show (i + 1) * k + j - k = i * k + j from by rw [Nat.add_mul]; omega]
      exact ih i x j u h hj

/-- Element i's cell j. -/
theorem SliceIs.at (h : SliceIs w B enc v S) (hk : ∀ x, (enc x).length = k) : ∃ a cap, v = .slice a S.length cap ∧ S.length ≤ cap ∧ cap ≤ maxLen ∧ (S ≠ [] → ∃ g off, a = some ⟨g, off, none⟩ ∧ B g ∧ g < w.heap.size ∧
    ∀ i x j u, S[i]? = some x → (enc x)[j]? = some u → w.cell? ⟨g, off + (i * k + j), none⟩ = some u) := by
  obtain ⟨a, cap, hv, h1, h2, h3⟩ := h
  refine ⟨a, cap, hv, h1, h2, fun hne => ?_⟩
  rcases h3 with h3 | ⟨g, off, ha, hb, hg, hc⟩
  · exact absurd h3 hne
  · exact ⟨g, off, ha, hb, hg, fun i x j u hi hj => hc _ _ (flat_get hk S i x j u hi hj)⟩

theorem addr_add (g j : Nat) : (⟨g, 0, none⟩ : Addr).add j = ⟨g, j, none⟩ := by unfold Addr.add; split <;> simp_all

theorem SliceIs.of_owns {base : Nat} {e : TypeId} {n : Nat} (h : w.ownsRow base e k v n (S.flatMap enc)) (hn : n = S.length) : SliceIs w (base ≤ ·) enc v S := by
  subst hn
  rcases h.2 with ⟨rfl, h0⟩ | ⟨g, cap, cur, rfl, hb, hg, hnc, hcm, hcs, htake⟩
  · have : S = [] := List.eq_nil_of_length_eq_zero h0
    subst this; exact SliceIs.nil _ _ _
  · refine ⟨_, cap, rfl, hnc, hcm, .inr ⟨g, 0, rfl, hb, lt_of_block hg, fun j u hj => ?_⟩⟩
    have := h.cells (g := g) rfl j u hj
    rw [addr_add] at this; rw [Nat.zero_add]; exact this

theorem flatK_eq [Inhabited α] (hk : ∀ x, (enc x).length = k) (hk0 : 0 < k) (S : List α) : flatK enc k S.toArray = (S.flatMap enc).toArray := by
  apply Array.ext_getElem?
  intro t
  by_cases ht : t < S.length * k
  · have h1 : t < (flatK enc k S.toArray).size := by simpa using ht
    have hq : t / k < S.length := (Nat.div_lt_iff_lt_mul hk0).2 ht
    rw [Array.getElem?_eq_getElem h1, ← getElem!_pos (flatK enc k S.toArray) t h1, get_flatK _ _ _ t (by simpa using ht)]
    have hx : S[t / k]? = some S[t / k] := List.getElem?_eq_getElem hq
    have hm : t % k < (enc S[t / k]).length := by rw [hk]; exact Nat.mod_lt _ hk0
    have := flat_get hk S (t / k) S[t / k] (t % k) _ hx (List.getElem?_eq_getElem hm)
    rw [Nat.mul_comm (t / k) k, Nat.div_add_mod] at this
    simp only [List.getElem?_toArray, this]
    simp [hq, List.getElem?_eq_getElem hm]
  · rw [Array.getElem?_eq_none (by simpa using ht), Array.getElem?_eq_none (by simp [flat_len hk]; omega)]

theorem holdsK_of_owns [Inhabited α] {base : Nat} {e : TypeId} {n g : Nat} {cap : Nat} (hk : ∀ x, (enc x).length = k) (hk0 : 0 < k) (h : w.ownsRow base e k (.slice (some ⟨g, 0, none⟩) n cap) n (S.flatMap enc)) : HoldsK enc k w g 0 S.toArray := by
  unfold HoldsK
  rw [flatK_eq hk hk0]
  rcases h.2 with ⟨h0, _⟩ | ⟨g', cap', cur, hv, hb, hg, hnc, hcm, hcs, htake⟩
  · cases h0
  · cases hv
    intro j hj
    have hj' : j < (S.flatMap enc).length := by simpa using hj
    have hu : (S.flatMap enc)[j]? = some (S.flatMap enc)[j] := List.getElem?_eq_getElem hj'
    have := h.cells (g := g) rfl j _ hu
    refine ⟨?_, ?_⟩
    · rw [getElem!_pos (S.flatMap enc).toArray j hj]
      rw [addr_add] at this; rw [Nat.zero_add]; simpa using this
    · simp [World.frozen?, hg]

theorem fr_mapBlock (w : World) (b : Nat) (f : Array Value → Array Value) : Fr [b] w (mapBlock w b f) :=
  ⟨rfl, rfl, rfl, by simp [mapBlock], fun k _ hk => by simp at hk; simp [mapBlock, Array.getElem?_modify, Ne.symm hk]⟩
theorem fr_grow (S : List Nat) (w : World) (os : Array Obj) : Fr S w (grow w os) :=
  ⟨rfl, rfl, rfl, by simp [grow], fun k hk _ => by simp [grow, Array.getElem?_append_left hk]⟩
theorem fr_sortWorldK [Inhabited α] (enc : α → List Value) (k : Nat) (w : World) (blk off m : Nat) (d : Array α) (os : Array Obj) : Fr [blk] w (sortWorldK enc k w blk off m d os) := by
  unfold sortWorldK
  refine Fr.trans (b := putRowK enc k (Sort.ahead w m) blk off d) ?_ (fr_grow _ _ _)
  unfold putRowK putRow
  have h1 : Fr [blk] w (Sort.ahead w m) := ⟨rfl, rfl, rfl, Nat.le_refl _, fun _ _ _ => rfl⟩
  exact h1.trans (fr_mapBlock _ _ _)

theorem SliceIs.of_sorted [Inhabited α] {blk m n cap : Nat} {d d' : List α} {os : Array Obj} (hk : ∀ x, (enc x).length = k) (hk0 : 0 < k) (hH : HoldsK enc k w blk 0 d.toArray) (hblk : blk < w.heap.size) (hd : d'.length = d.length) (hn : n = d.length) (hc1 : n ≤ cap) (hc2 : cap ≤ maxLen) (hB : B blk) :
    SliceIs (sortWorldK enc k w blk 0 m d'.toArray os) B enc (.slice (some ⟨blk, 0, none⟩) n cap) d' := by
  have h := holdsK_sortWorldK_c enc k w blk 0 d.toArray d'.toArray m os hH hblk (by simpa using hd)
  refine ⟨_, cap, by rw [hn, ← hd], by omega, hc2, .inr ⟨blk, 0, rfl, hB, Nat.lt_of_lt_of_le hblk (size_sortWorldK_c enc k w blk 0 m _ os), fun j u hj => ?_⟩⟩
  unfold HoldsK at h
  rw [flatK_eq hk hk0] at h
  have hj' := (List.getElem?_eq_some_iff.1 hj).1
  have := (h j (by simpa using hj')).1
  rw [this, getElem!_pos (d'.flatMap enc).toArray j (by simpa using hj')]
  have e := (List.getElem?_eq_some_iff.1 hj).2
  simp [e]

theorem owns_fr {base : Nat} {e : TypeId} {n : Nat} {xs : List Value} {T : List Nat} {w' : World} (h : w.ownsRow base e k v n xs) (hf : Fr T w w') (hT : ∀ t ∈ T, t < base) : w'.ownsRow base e k v n xs := by
  refine ⟨h.1, ?_⟩
  rcases h.2 with h0 | ⟨g, cap, cur, rfl, hb, hg, rest⟩
  · exact .inl h0
  · exact .inr ⟨g, cap, cur, rfl, hb, hf.keep hg (fun hm => by have := hT g hm; omega), rest⟩

theorem cells_new (w : World) (cs : Array Value) (t : TypeId) : ∀ j u, cs.toList[j]? = some u → (w.alloc (.cells cs t)).cell? ((⟨w.heap.size, 0, none⟩ : Addr).add j) = some u := by
  intro j u hj
  rw [addr_add, World.cell?_alloc_new]
  simpa using hj

/-- 'l = append(l, y)' on a slice of the call's own, of elements of k cells. -/
theorem wpList_push {P : Program} {ops : Array Oper} {rest : List Oper} {o : Oper} {a : Act} {Q : Exit → Act → World → Prop} (w0 : World) (cs : Array Value) (e' : TypeId) (hgd : o.guard = none) (s x : Operand) (t : TypeId)
    (ho : o.op = .call { callee := .builtin .append, args := #[s, x], argTypes := #[t, t] })
    (base : Nat) (e : TypeId) {z : Value} {bytes : Nat} (ht : P.underlying t = some (.slice e)) (hinfo : (P.info? e).map (fun i => (i.zero, i.size, i.bytes)) = some (some z, k, bytes)) (hzs : z.cells.size = k) (hk0 : 0 < k)
    (v : Value) (S : List α) (hs : a.eval s = v) (hown : w0.ownsRow base e k v S.length (S.flatMap enc))
    (y : α) (hcs : cs.toList = enc y) (hk : ∀ x, (enc x).length = k) (hone : ∀ u ∈ enc y, u.oneCell' = true) (hx : a.eval x = .slice (some ⟨w0.heap.size, 0, none⟩) 1 1)
    (hn : S.length < 1099511627776) (hb : bytes ≤ 100) (hbase : base ≤ w0.heap.size)
    (h : ∀ v' w', w'.ownsRow base e k v' (S ++ [y]).length ((S ++ [y]).flatMap enc) → Fr v.ownBlock.toList w0 w' → wpList P ops Q rest (a.put o.dst v') w') : wpList P ops Q (o :: rest) a (w0.alloc (.cells cs e')) := by
  obtain ⟨i, hi, hz0, hz1, hz2⟩ := info_parts hinfo
  refine wpList_append_own _ hgd s x t ho base e i z k bytes ht hi hz0 hz1 hz2 hzs hk0 v S.length (S.flatMap enc) hs (hown.alloc _) ⟨w0.heap.size, 0, none⟩ 1 1 (enc y) hx (by rw [hk]; omega) ?_ hone (by unfold maxLen; omega) ?_ (by simp; omega) ?_
  · intro j u hj
    rw [← hcs] at hj
    exact cells_new w0 cs e' j u hj
  · have : (S.length + 1) * bytes ≤ 1099511627776 * 100 := Nat.mul_le_mul (by omega) hb
    omega
  · intro v' w' h1 h2 _
    refine h v' w' ?_ ?_
    · rw [List.flatMap_append, List.length_append]
      simpa using h1
    · have h3 : Fr [] w0 (w0.alloc (.cells cs e')) := (Fr.refl [] w0).alloc _
      refine h3.mono (by simp) |>.andThen (Fr.of_grown h2) ?_
      intro t ht
      exact .inl ht
end
end Go.Proofs.Ytcbccogpogdbmaa
