/- What changes in memory (frames), and maps whose entries stand for a list. -/
import Derived.Maps.RangeWalk
import Derived.Maps.OwnSet
import Derived.WalkKit
import Derived.Deep.Draws
namespace Go.Proofs.Ytcbccogpogdbmaa
open Go.RowKit Go.Maps
open Go.ChangeMaps (setBlock)
open Go.MapKept (run_findKey)

/-! ### What has turned: nothing but the blocks of a list, and new ones -/
structure Fr (S : List Nat) (w w' : World) : Prop where
  os : w'.os = w.os
  tape : w'.tape = w.tape
  output : w'.output = w.output
  size : w.heap.size ≤ w'.heap.size
  block : ∀ k, k < w.heap.size → k ∉ S → w'.heap[k]? = w.heap[k]?

theorem Fr.refl (S : List Nat) (w : World) : Fr S w w := ⟨rfl, rfl, rfl, Nat.le_refl _, fun _ _ _ => rfl⟩
theorem Fr.trans {S : List Nat} {a b c : World} (h : Fr S a b) (k : Fr S b c) : Fr S a c :=
  ⟨k.os.trans h.os, k.tape.trans h.tape, k.output.trans h.output, Nat.le_trans h.size k.size, fun i hi hs => (k.block i (Nat.lt_of_lt_of_le hi h.size) hs).trans (h.block i hi hs)⟩
/-- A second step that may turn blocks that are new since the first world. -/
theorem Fr.andThen {S T : List Nat} {a b c : World} (h : Fr S a b) (k : Fr T b c) (hT : ∀ t ∈ T, t ∈ S ∨ a.heap.size ≤ t) : Fr S a c :=
  ⟨k.os.trans h.os, k.tape.trans h.tape, k.output.trans h.output, Nat.le_trans h.size k.size, fun i hi hs =>
    (k.block i (Nat.lt_of_lt_of_le hi h.size) (fun ht => (hT i ht).elim hs (fun h1 => by omega))).trans (h.block i hi hs)⟩
theorem Fr.mono {S T : List Nat} {a b : World} (h : Fr S a b) (hT : ∀ t ∈ S, t ∈ T) : Fr T a b :=
  ⟨h.os, h.tape, h.output, h.size, fun i hi hs => h.block i hi (fun ht => hs (hT i ht))⟩
theorem Fr.drew {S : List Nat} {a b : World} (h : Fr S a b) : Fr S a b.drew := ⟨h.os, h.tape, h.output, h.size, h.block⟩
theorem Fr.drewN {S : List Nat} {a b : World} (h : Fr S a b) (n : Nat) : Fr S a (b.drewN n) := ⟨h.os, h.tape, h.output, h.size, h.block⟩
theorem Fr.alloc {S : List Nat} {a b : World} (h : Fr S a b) (o : Obj) : Fr S a (b.alloc o) :=
  h.andThen (T := []) ⟨rfl, rfl, rfl, by simp, fun k hk _ => Below.heap_alloc _ _ _ hk⟩ (by simp)
theorem Fr.setCell {S : List Nat} {a b : World} (h : Fr S a b) (p : Addr) (u : Value) (hp : p.block ∈ S ∨ a.heap.size ≤ p.block) : Fr S a (b.setCell p u) :=
  h.andThen (T := [p.block]) ⟨rfl, rfl, rfl, by simp [World.setCell], fun k _ hs => Below.heap_setCell _ _ _ _ (by simpa using hs)⟩ (by simpa using hp)
theorem Fr.grown {S : List Nat} {a b c : World} {row : Option Nat} (h : Fr S a b) (hg : b.grownBy c row) (hr : ∀ k, row = some k → k ∈ S ∨ a.heap.size ≤ k) : Fr S a c :=
  h.andThen (T := row.toList) ⟨hg.os, hg.tape, hg.output, hg.size, fun k hk hs => hg.block k hk (fun e => hs (by simp [← e]))⟩ (fun t ht => hr t (by simpa using ht))
theorem Fr.below {B : Nat} {S : List Nat} {a b : World} (h : Fr S a b) (hB : B ≤ a.heap.size) (hS : ∀ t ∈ S, B ≤ t) : Below B a b :=
  ⟨h.os, h.tape, h.output, h.size, fun k hk => h.block k (by omega) (fun hs => by have := hS k hs; omega)⟩
theorem Fr.of_below {a b : World} (h : Below a.heap.size a b) (S : List Nat) : Fr S a b := ⟨h.os, h.tape, h.output, h.size, fun k hk _ => h.block k hk⟩
theorem Fr.of_grown {a b : World} {row : Option Nat} (hg : a.grownBy b row) : Fr row.toList a b := ⟨hg.os, hg.tape, hg.output, hg.size, fun k hk hs => hg.block k hk (fun e => hs (by simp [← e]))⟩
theorem Fr.keep {S : List Nat} {a b : World} (h : Fr S a b) {k : Nat} {o : Obj} (hk : a.heap[k]? = some o) (hs : k ∉ S) : b.heap[k]? = some o := by
  rw [h.block k (Array.getElem?_eq_some_iff.1 hk).1 hs]; exact hk
theorem Fr.cell {S : List Nat} {a b : World} (h : Fr S a b) {p : Addr} (hp : p.block < a.heap.size) (hs : p.block ∉ S) : b.cell? p = a.cell? p := World.cell?_of_block (w := a) (h.block p.block hp hs)
theorem Fr.frozen {S : List Nat} {a b : World} (h : Fr S a b) {p : Addr} (hp : p.block < a.heap.size) (hs : p.block ∉ S) : b.frozen? p = a.frozen? p := World.frozen?_of_block (w := a) (h.block p.block hp hs)
theorem Fr.setBlock (w : World) (r : Nat) (o : Obj) : Fr [r] w (setBlock w r o) :=
  ⟨rfl, rfl, rfl, by simp [ChangeMaps.setBlock], fun k _ hs => by simp only [List.mem_singleton] at hs; simp [ChangeMaps.setBlock, Ne.symm hs]⟩
theorem setBlock_at {w : World} {r : Nat} (h : r < w.heap.size) (o : Obj) : (setBlock w r o).heap[r]? = some o := by simp [ChangeMaps.setBlock, h]
theorem lt_of_block {w : World} {r : Nat} {o : Obj} (h : w.heap[r]? = some o) : r < w.heap.size := (Array.getElem?_eq_some_iff.1 h).1

/-! ### A map, its entries in the order in which they were laid -/
/-- How Go's values of a key's type stand for α. -/
structure KeyEnc (P : Program) (k : TypeId) {α : Type} [DecidableEq α] (enc : α → Value) : Prop where
  desc : ∃ d, P.underlying k = some d ∧ ((∀ a b, Instr.sameNow d (enc a) (enc b) = some (decide (a = b))) ∨ ((∀ a b, Instr.sameNow d (enc a) (enc b) = none) ∧ ∀ a b w, (Op.equal k (enc a) (enc b)).run P w = .ok (decide (a = b)) w))
  check : ∀ a em w, (Instr.checkKey em 10000 k (enc a)).run P w = .ok () w
  bits : ∀ a, Instr.sameBits 10000 (enc a) (enc a) = true

def ents {α β : Type} (encK : α → Value) (encV : β → Value) (L : List (α × β)) : List (Value × Value) := L.map fun p => (encK p.1, encV p.2)

structure MapIs (w : World) {α β : Type} (encK : α → Value) (encV : β → Value) (b : Nat) (L : List (α × β)) (es : Array MapEntry) (clock : Nat) : Prop where
  block : w.heap[b]? = some (.map es clock)
  same : es.toList.map (fun e => (e.key, e.val)) = ents encK encV L
  born : (es.toList.map (·.born)).Pairwise (· < ·)
  young : ∀ x ∈ es.toList, x.born < clock
  once : (L.map (·.1)).Nodup

def MapOf (w : World) {α β : Type} (encK : α → Value) (encV : β → Value) (b : Nat) (L : List (α × β)) : Prop := ∃ es clock, MapIs w encK encV b L es clock

section
variable {P : Program} {α β : Type} {encK : α → Value} {encV : β → Value} {w : World} {b : Nat} {L : List (α × β)} {k : TypeId}

theorem MapOf.lt (h : MapOf w encK encV b L) : b < w.heap.size := by obtain ⟨es, c, h⟩ := h; exact lt_of_block h.block
theorem MapOf.once (h : MapOf w encK encV b L) : (L.map (·.1)).Nodup := by obtain ⟨es, c, h⟩ := h; exact h.once
theorem MapOf.fr {S : List Nat} {w' : World} (h : MapOf w encK encV b L) (hf : Fr S w w') (hs : b ∉ S) : MapOf w' encK encV b L := by
  obtain ⟨es, c, h⟩ := h
  exact ⟨es, c, hf.keep h.block hs, h.same, h.born, h.young, h.once⟩
theorem MapOf.drew (h : MapOf w encK encV b L) : MapOf w.drew encK encV b L := by obtain ⟨es, c, h⟩ := h; exact ⟨es, c, h.block, h.same, h.born, h.young, h.once⟩
theorem MapOf.made (w : World) (encK : α → Value) (encV : β → Value) : MapOf (w.alloc (.map #[] 0)) encK encV w.heap.size [] :=
  ⟨#[], 0, heap_alloc_new w _, rfl, by simp, by simp, by simp⟩
variable [DecidableEq α]

theorem findAt (K : KeyEnc P k encK) (a : α) (w : World) : ∀ (es : List MapEntry) (L : List (α × β)), es.map (fun e => (e.key, e.val)) = ents encK encV L →
    ∃ r, (Instr.findKey k (encK a) es).run P w = .ok r w ∧ r = ((L.findIdx? fun p => decide (a = p.1)).bind fun i => L[i]?.map fun p => (i, encV p.2)) := by
  obtain ⟨d, hd, hK⟩ := K.desc
  intro es L he
  rcases hK with hK | ⟨hK, hE⟩
  · have key : ∀ (es : List MapEntry) (L : List (α × β)) (i : Nat), es.map (fun e => (e.key, e.val)) = ents encK encV L →
        Instr.findNow d (encK a) es i = some ((L.findIdx? fun p => decide (a = p.1)).bind fun j => L[j]?.map fun p => (i + j, encV p.2)) := by
      intro es
      induction es with
      | nil =>
        intro L i h
        have : L = [] := by cases L with | nil => rfl | cons => simp [ents] at h
        subst this; rfl
      | cons e es ih =>
        intro L i h
        cases L with
        | nil => simp [ents] at h
        | cons p L =>
          simp only [ents, List.map_cons, List.cons.injEq, Prod.mk.injEq] at h
          obtain ⟨⟨h1, h2⟩, h3⟩ := h
          unfold Instr.findNow
          rw [h1, hK, h2]
          by_cases hap : a = p.1
          · simp [hap, List.findIdx?_cons]
          · simp only [hap, decide_false]
            rw [ih L (i + 1) h3, List.findIdx?_cons]
            simp only [hap, decide_false, Bool.false_eq_true, if_false]
            cases L.findIdx? (fun p => decide (a = p.1)) with
            | none => rfl
            | some j => simp; cases L[j]? <;> simp; omega
    refine ⟨_, run_findKey hd (key es L 0 he), by simp⟩
  · have key : ∀ (es : List MapEntry) (L : List (α × β)) (i : Nat), es.map (fun e => (e.key, e.val)) = ents encK encV L →
        (Instr.findAsking k (encK a) es i).run P w = .ok ((L.findIdx? fun p => decide (a = p.1)).bind fun j => L[j]?.map fun p => (i + j, encV p.2)) w := by
      intro es
      induction es with
      | nil =>
        intro L i h
        have : L = [] := by cases L with | nil => rfl | cons => simp [ents] at h
        subst this; rfl
      | cons e es ih =>
        intro L i h
        cases L with
        | nil => simp [ents] at h
        | cons p L =>
          simp only [ents, List.map_cons, List.cons.injEq, Prod.mk.injEq] at h
          obtain ⟨⟨h1, h2⟩, h3⟩ := h
          unfold Instr.findAsking
          rw [h1, h2, Sem.run_bind, hE]
          by_cases hap : a = p.1
          · simp [hap, List.findIdx?_cons, Result.andThen, Sem.run_pure]
          · simp only [hap, decide_false, Result.andThen, Bool.false_eq_true, if_false]
            rw [ih L (i + 1) h3, List.findIdx?_cons]
            simp only [hap, decide_false, Bool.false_eq_true, if_false]
            cases L.findIdx? (fun p => decide (a = p.1)) with
            | none => rfl
            | some j => simp; cases L[j]? <;> simp; omega
    have now : ∀ (es : List MapEntry) (L : List (α × β)) (i : Nat), es.map (fun e => (e.key, e.val)) = ents encK encV L → es = [] ∨ Instr.findNow d (encK a) es i = none := by
      intro es L i h
      cases es with
      | nil => exact .inl rfl
      | cons e es =>
        cases L with
        | nil => simp [ents] at h
        | cons p L =>
          simp only [ents, List.map_cons, List.cons.injEq, Prod.mk.injEq] at h
          right; unfold Instr.findNow; rw [h.1.1, hK]
    rcases now es L 0 he with rfl | hn
    · have : L = [] := by cases L with | nil => rfl | cons => simp [ents] at he
      subst this
      exact ⟨none, by simp [Instr.findKey, run_underlying hd, Result.andThen, Instr.findNow], rfl⟩
    · refine ⟨_, ?_, rfl⟩
      have := key es L 0 he
      simp only [Nat.zero_add] at this
      simp [Instr.findKey, run_underlying hd, Result.andThen, hn, this]


/-- What a key has. -/
def look (L : List (α × β)) (a : α) : Option β := (L.find? fun p => decide (a = p.1)).map (·.2)
/-- A key gets an element: in its place, or at the end. -/
def upsert (L : List (α × β)) (a : α) (v : β) : List (α × β) :=
  if (L.any fun p => decide (a = p.1)) then L.map (fun p => if a = p.1 then (a, v) else p) else L ++ [(a, v)]
def erase (L : List (α × β)) (a : α) : List (α × β) := L.filter fun p => decide (a ≠ p.1)

theorem find_of_idx (L : List (α × β)) (a : α) :
    (L.findIdx? (fun p => decide (a = p.1)) = none ∧ look L a = none ∧ (L.any fun p => decide (a = p.1)) = false) ∨
    ∃ i v, L.findIdx? (fun p => decide (a = p.1)) = some i ∧ L[i]? = some (a, v) ∧ look L a = some v ∧ (L.any fun p => decide (a = p.1)) = true := by
  induction L with
  | nil => left; simp [look]
  | cons p L ih =>
    by_cases h : a = p.1
    · right; refine ⟨0, p.2, ?_, ?_, ?_, ?_⟩ <;> simp [List.findIdx?_cons, look, h]
    · rcases ih with ⟨h1, h2, h3⟩ | ⟨i, v, h1, h2, h3, h4⟩
      · left; refine ⟨?_, ?_, ?_⟩
        · simp [List.findIdx?_cons, h, h1]
        · unfold look at h2 ⊢; simpa [List.find?_cons, h] using h2
        · simpa [h] using h3
      · right; refine ⟨i + 1, v, ?_, ?_, ?_, ?_⟩
        · simp [List.findIdx?_cons, h, h1]
        · simpa using h2
        · unfold look at h3 ⊢; simpa [List.find?_cons, h] using h3
        · simpa [h] using h4

theorem run_find (K : KeyEnc P k encK) (a : α) (w : World) {es : List MapEntry} (he : es.map (fun e => (e.key, e.val)) = ents encK encV L) :
    (look L a = none ∧ (Instr.findKey k (encK a) es).run P w = .ok none w ∧ (L.any fun p => decide (a = p.1)) = false) ∨
    ∃ i v, look L a = some v ∧ (Instr.findKey k (encK a) es).run P w = .ok (some (i, encV v)) w ∧ L[i]? = some (a, v) ∧ (L.any fun p => decide (a = p.1)) = true := by
  obtain ⟨r, h1, h2⟩ := findAt (encV := encV) K a w es L he
  rcases find_of_idx L a with ⟨f1, f2, f3⟩ | ⟨i, v, f1, f2, f3, f4⟩
  · left; refine ⟨f2, ?_, f3⟩; rw [h1, h2, f1]; rfl
  · right; refine ⟨i, v, f3, ?_, f2, f4⟩; rw [h1, h2, f1]; simp [f2]

/-- 'm[a]', with or without 'ok'. -/
theorem MapOf.run_look (h : MapOf w encK encV b L) (K : KeyEnc P k encK) {t e : TypeId} (ht : P.underlying t = some (.map k e)) {z : Value} (hz : (zeroValue e).run P w = .ok z w) (a : α) (c : Bool) :
    (Instr.lookup t (.map (some b)) (encK a) c).run P w = .ok (if c then .tuple #[((look L a).map encV).getD z, .bool (look L a).isSome] else ((look L a).map encV).getD z) w := by
  obtain ⟨es, clock, h⟩ := h
  unfold Instr.lookup
  simp only [Sem.run_bind, run_underlying ht, Result.andThen, MapKept.run_getObj_map h.block, Sem.run_pure, K.check]
  rcases run_find (encV := encV) K a w h.same with ⟨l, r, _⟩ | ⟨i, v, l, r, _, _⟩
  · simp only [r, l, hz, Sem.run_bind, Sem.run_pure, Result.andThen]; cases c <;> rfl
  · simp only [r, l]; cases c <;> rfl

theorem MapOf.run_look_nil (K : KeyEnc P k encK) {t e : TypeId} (ht : P.underlying t = some (.map k e)) {z : Value} (hz : (zeroValue e).run P w = .ok z w) (a : α) (c : Bool) :
    (Instr.lookup t (.map none) (encK a) c).run P w = .ok (if c then .tuple #[z, .bool false] else z) w := by
  obtain ⟨d, hd, _⟩ := K.desc
  unfold Instr.lookup
  simp only [Sem.run_bind, run_underlying ht, Result.andThen, Sem.run_pure, K.check]
  have : (Instr.findKey k (encK a) #[].toList).run P w = .ok none w := by simp [Instr.findKey, run_underlying hd, Result.andThen, Instr.findNow]
  simp only [this, hz, Sem.run_bind, Result.andThen]; cases c <;> rfl

omit [DecidableEq α] in
/-- 'len(m)'. -/
theorem MapOf.run_len (h : MapOf w encK encV b L) {t e : TypeId} (ht : P.underlying t = some (.map k e)) (ty : TypeId) :
    (Builtin.len_ #[t] ty #[.map (some b)]).run P w = .ok (.int .i64 L.length) w := by
  obtain ⟨es, clock, h⟩ := h
  have hl : es.size = L.length := by have := congrArg List.length h.same; simpa [ents] using this
  simp [Builtin.len_, run_underlying ht, MapKept.run_getObj_map h.block, hl, goInt]


theorem upsert_keys (L : List (α × β)) (a : α) (v : β) : (upsert L a v).map (·.1) = if (L.any fun p => decide (a = p.1)) then L.map (·.1) else L.map (·.1) ++ [a] := by
  unfold upsert
  split
  · rw [List.map_map]; apply List.map_congr_left; intro p _; simp only [Function.comp]; split <;> simp_all
  · simp

theorem run_keyStays {old new : Value} (h : old = new) (K : Instr.sameBits 10000 new new = true) (w : World) : (Instr.keyThatStays old new).run P w = .ok new w := by
  subst h; simp [Instr.keyThatStays, K]

theorem map_modify_at {γ : Type} (f : MapEntry → γ) (g : MapEntry → MapEntry) : ∀ (l : List MapEntry) (i : Nat), (l.modify i g).map f = (match l[i]? with | some e => (l.map f).set i (f (g e)) | none => l.map f) := by
  intro l
  induction l with
  | nil => intro i; simp
  | cons e l ih =>
    intro i
    cases i with
    | zero => simp
    | succ i => simp only [List.modify_succ_cons, List.map_cons, ih, List.getElem?_cons_succ]; cases l[i]? <;> simp

theorem set_at_key (L : List (α × β)) (a : α) (v v' : β) (i : Nat) (h : L[i]? = some (a, v')) (hn : (L.map (·.1)).Nodup) : L.set i (a, v) = L.map (fun p => if a = p.1 then (a, v) else p) := by
  induction L generalizing i with
  | nil => simp
  | cons p L ih =>
    simp only [List.map_cons, List.nodup_cons] at hn
    cases i with
    | zero =>
      simp only [List.getElem?_cons_zero, Option.some.injEq] at h; subst h
      simp only [List.set_cons_zero, List.map_cons, if_true, List.cons.injEq, true_and]
      rw [List.map_congr_left (g := id)]; · simp
      intro q hq; simp only [id]; rw [if_neg]; intro e; exact hn.1 (List.mem_map.2 ⟨q, hq, e.symm⟩)
    | succ i =>
      simp only [List.getElem?_cons_succ] at h
      simp only [List.set_cons_succ, List.map_cons, List.cons.injEq]
      refine ⟨?_, ih i h hn.2⟩
      rw [if_neg]; intro e; exact hn.1 (by rw [← e]; exact List.mem_map_of_mem (List.mem_of_getElem? h))

/-- 'm[a] = v'. -/
theorem MapOf.run_update (h : MapOf w encK encV b L) (K : KeyEnc P k encK) {t e : TypeId} (ht : P.underlying t = some (.map k e)) (a : α) (v : β) :
    ∃ o, (Instr.mapUpdate t (.map (some b)) (encK a) (encV v)).run P w = .ok () (setBlock w b o) ∧ MapOf (setBlock w b o) encK encV b (upsert L a v) := by
  obtain ⟨es, clock, h⟩ := h
  have hlt := lt_of_block h.block
  unfold Instr.mapUpdate
  simp only [Sem.run_bind, run_underlying ht, Result.andThen, MapKept.run_getObj_map h.block, K.check]
  rcases run_find (encV := encV) K a w h.same with ⟨l, r, hany⟩ | ⟨i, v', l, r, hi, hany⟩
  · refine ⟨.map (es.push { key := encK a, val := encV v, born := clock }) (clock + 1), ?_, _, _, setBlock_at hlt _, ?_, ?_, ?_, ?_⟩
    · simp only [r]; exact MapKept.run_setObj_map _ h.block
    · simp only [Array.toList_push, List.map_append, h.same, upsert, hany, ents]; simp
    · simp only [Array.toList_push, List.map_append, List.pairwise_append]
      refine ⟨h.born, by simp, ?_⟩
      intro x hx y hy
      simp at hy; subst hy
      obtain ⟨e, he, rfl⟩ := List.mem_map.1 hx
      exact h.young e he
    · intro x hx
      simp only [Array.toList_push, List.mem_append, List.mem_singleton] at hx
      rcases hx with hx | rfl
      · have := h.young x hx; omega
      · simp
    · rw [upsert_keys, hany]
      simp only [Bool.false_eq_true, if_false]
      rw [List.nodup_append]
      refine ⟨h.once, by simp, ?_⟩
      intro x hx y hy
      simp at hy; subst hy
      rintro rfl
      obtain ⟨p, hp, hpe⟩ := List.mem_map.1 hx
      have : L.any (fun p => decide (x = p.1)) = true := List.any_eq_true.2 ⟨p, hp, by simp [hpe]⟩
      rw [hany] at this; cases this
  · have hkey : (((es[i]?).map (·.key)).getD (encK a)) = encK a := by
      have e1 := congrArg (fun l => l[i]?) h.same
      simp only [List.getElem?_map, ents, hi, Option.map_some, Array.getElem?_toList] at e1
      cases he : es[i]? with
      | none => simp
      | some e => rw [he] at e1; simp at e1; simp [e1.1]
    refine ⟨.map (es.modify i fun e => { e with key := encK a, val := encV v }) clock, ?_, _, _, setBlock_at hlt _, ?_, ?_, ?_, ?_⟩
    · simp only [r, Sem.run_bind, run_keyStays hkey (K.bits a), Result.andThen]; exact MapKept.run_setObj_map _ h.block
    · rw [Array.toList_modify, map_modify_at]
      have hes : ∃ e, es.toList[i]? = some e := by
        have hl : es.toList.length = L.length := by have := congrArg List.length h.same; simpa [ents] using this
        have : i < L.length := (List.getElem?_eq_some_iff.1 hi).1
        exact ⟨_, List.getElem?_eq_getElem (by omega)⟩
      obtain ⟨e, he⟩ := hes
      simp only [he, h.same, ents]
      rw [show (encK a, encV v) = (fun p : α × β => (encK p.1, encV p.2)) (a, v) from rfl, ← List.map_set, set_at_key L a v v' i hi h.once]
      simp only [upsert, hany, if_true]
    · rw [Array.toList_modify, map_modify_at]
      cases he : es.toList[i]? with
      | none => exact h.born
      | some e =>
        simp only
        have : (es.toList.map (·.born)).set i e.born = es.toList.map (·.born) := by
          apply List.ext_getElem?; intro j
          rw [List.getElem?_set]
          split
          · rename_i hij; subst hij; simp only [List.length_map, List.getElem?_map, he, Option.map_some]; split
            · rfl
            · rename_i hn; exact absurd (List.getElem?_eq_some_iff.1 he).1 (by simpa using hn)
          · rfl
        rw [this]; exact h.born
    · intro x hx
      have : x.born ∈ (es.modify i fun e => { e with key := encK a, val := encV v }).toList.map (·.born) := List.mem_map_of_mem hx
      have e1 : (es.modify i fun e => { e with key := encK a, val := encV v }).toList.map (·.born) = es.toList.map (·.born) := by
        rw [Array.toList_modify, map_modify_at]
        cases he : es.toList[i]? with
        | none => rfl
        | some e =>
          simp only
          apply List.ext_getElem?; intro j
          rw [List.getElem?_set]
          split
          · rename_i hij; subst hij; simp only [List.length_map, List.getElem?_map, he, Option.map_some]; split
            · rfl
            · rename_i hn; exact absurd (List.getElem?_eq_some_iff.1 he).1 (by simpa using hn)
          · rfl
      rw [e1] at this
      obtain ⟨e, he, hb⟩ := List.mem_map.1 this
      rw [← hb]; exact h.young e he
    · rw [upsert_keys, hany]; exact h.once

theorem erase_at (L : List (α × β)) (a : α) (v : β) (i : Nat) (h : L[i]? = some (a, v)) (hn : (L.map (·.1)).Nodup) : L.eraseIdx i = erase L a := by
  induction L generalizing i with
  | nil => simp [erase]
  | cons p L ih =>
    simp only [List.map_cons, List.nodup_cons] at hn
    cases i with
    | zero =>
      simp only [List.getElem?_cons_zero, Option.some.injEq] at h; subst h
      simp only [List.eraseIdx_cons_zero, erase, List.filter_cons]
      simp only [ne_eq, not_true_eq_false, decide_false, Bool.false_eq_true, if_false]
      symm; rw [List.filter_eq_self]
      intro q hq; simp only [decide_not, Bool.not_eq_true', decide_eq_false_iff_not]
      intro e; exact hn.1 (by rw [show (a, v).1 = a from rfl, e]; exact List.mem_map_of_mem hq)
    | succ i =>
      simp only [List.getElem?_cons_succ] at h
      have hne : a ≠ p.1 := by intro e; exact hn.1 (by rw [← e]; exact List.mem_map_of_mem (List.mem_of_getElem? h))
      simp only [List.eraseIdx_cons_succ, erase, List.filter_cons, hne, ne_eq, not_false_eq_true, decide_true, if_true]
      rw [ih i h hn.2]; rfl

theorem erase_none (L : List (α × β)) (a : α) (h : (L.any fun p => decide (a = p.1)) = false) : erase L a = L := by
  unfold erase; rw [List.filter_eq_self]
  intro p hp
  have := List.any_eq_false.1 h p hp
  simpa using this

theorem map_erase_idx {γ δ : Type} (f : γ → δ) : ∀ (l : List γ) (i : Nat), (l.eraseIdx i).map f = (l.map f).eraseIdx i
  | [], _ => rfl
  | _ :: _, 0 => rfl
  | x :: l, i + 1 => by simp [map_erase_idx f l i]

theorem mapOf_erased {es : Array MapEntry} {clock : Nat} (h : MapIs w encK encV b L es clock) (a : α) (v : β) (i : Nat) (hi : L[i]? = some (a, v)) :
    MapIs (setBlock w b (.map (es.eraseIdxIfInBounds i) clock)) encK encV b (erase L a) (es.eraseIdxIfInBounds i) clock := by
  have hl : es.toList.length = L.length := by have := congrArg List.length h.same; simpa [ents] using this
  have hil : i < L.length := (List.getElem?_eq_some_iff.1 hi).1
  have hie : i < es.size := by simpa using (by omega : i < es.toList.length)
  have he : (es.eraseIdxIfInBounds i).toList = es.toList.eraseIdx i := by
    unfold Array.eraseIdxIfInBounds; rw [dif_pos hie]; simp
  refine ⟨setBlock_at (lt_of_block h.block) _, ?_, ?_, ?_, ?_⟩
  · rw [he, ← erase_at L a v i hi h.once, map_erase_idx, h.same, ents, ents, map_erase_idx]
  · rw [he]; exact h.born.sublist ((List.eraseIdx_sublist _ _).map _)
  · intro x hx; rw [he] at hx; exact h.young x ((List.eraseIdx_sublist _ _).subset hx)
  · unfold erase; exact h.once.sublist (List.filter_sublist.map _)

/-- 'delete(m, a)'. -/
theorem MapOf.run_delete (h : MapOf w encK encV b L) (K : KeyEnc P k encK) {t e : TypeId} (ht : P.underlying t = some (.map k e)) (a : α) (ty : TypeId) :
    ∃ o, (Builtin.delete_ #[t, k] ty #[.map (some b), encK a]).run P w = .ok (.tuple #[]) (setBlock w b o) ∧ MapOf (setBlock w b o) encK encV b (erase L a) := by
  obtain ⟨es, clock, h⟩ := h
  have hlt := lt_of_block h.block
  have e0 : (#[t, k] : Array TypeId)[0]? = some t := rfl
  have e1 : (#[Value.map (some b), encK a] : Array Value)[0]? = some (.map (some b)) := rfl
  have e2 : (#[Value.map (some b), encK a] : Array Value)[1]? = some (encK a) := rfl
  unfold Builtin.delete_
  simp only [e0, e1, e2, Sem.run_bind, run_underlying ht, Result.andThen, MapKept.run_getObj_map h.block, K.check]
  rcases run_find (encV := encV) K a w h.same with ⟨l, r, hany⟩ | ⟨i, v', l, r, hi, hany⟩
  · refine ⟨.map es clock, ?_, es, clock, setBlock_at hlt _, ?_, h.born, h.young, ?_⟩
    · simp only [r, Sem.run_bind, MapKept.run_setObj_map _ h.block, Result.andThen, Sem.run_pure]; rfl
    · rw [erase_none L a hany]; exact h.same
    · rw [erase_none L a hany]; exact h.once
  · refine ⟨.map (es.eraseIdxIfInBounds i) clock, ?_, _, _, mapOf_erased h a v' i hi⟩
    simp only [r, Sem.run_bind, MapKept.run_setObj_map _ h.block, Result.andThen, Sem.run_pure]; rfl


/-! ### A range over a map -/
/-- Block r is an iterator over the map in block b; of the map's entries those are still to come whose key 'left' says. -/
def RangeOf (w : World) (encK : α → Value) (encV : β → Value) (b r : Nat) (L : List (α × β)) (left : α → Bool) : Prop :=
  ∃ es clock since seen c0, MapIs w encK encV b L es clock ∧ w.heap[r]? = some (.mapIter (some b) since seen c0) ∧ (∀ x ∈ es.toList, x.born < since) ∧ since ≤ c0 ∧ since ≤ clock ∧
    ∀ (i : Nat) (x : MapEntry) (p : α × β), es.toList[i]? = some x → L[i]? = some p → left p.1 = !seen.contains x.born

omit [DecidableEq α] in
theorem RangeOf.map {r : Nat} {left : α → Bool} (h : RangeOf w encK encV b r L left) : MapOf w encK encV b L := by obtain ⟨es, c, _, _, _, h, _⟩ := h; exact ⟨es, c, h⟩
omit [DecidableEq α] in
theorem RangeOf.iter_lt {r : Nat} {left : α → Bool} (h : RangeOf w encK encV b r L left) : r < w.heap.size := by obtain ⟨_, _, _, _, _, _, h, _⟩ := h; exact lt_of_block h
omit [DecidableEq α] in
theorem RangeOf.fr {r : Nat} {left : α → Bool} {S : List Nat} {w' : World} (h : RangeOf w encK encV b r L left) (hf : Fr S w w') (hb : b ∉ S) (hr : r ∉ S) : RangeOf w' encK encV b r L left := by
  obtain ⟨es, c, si, se, c0, h, h1, h2, h3, h5, h4⟩ := h
  exact ⟨es, c, si, se, c0, ⟨hf.keep h.block hb, h.same, h.born, h.young, h.once⟩, hf.keep h1 hr, h2, h3, h5, h4⟩
omit [DecidableEq α] in
theorem RangeOf.drew {r : Nat} {left : α → Bool} (h : RangeOf w encK encV b r L left) : RangeOf w.drew encK encV b r L left := h.fr ((Fr.refl [] w).drew) (by simp) (by simp)

omit [DecidableEq α] in
theorem MapOf.run_range (h : MapOf w encK encV b L) {t k e : TypeId} (ht : P.underlying t = some (.map k e)) :
    ∃ o, (Instr.range t (.map (some b))).run P w = .ok (.pointer (some ⟨w.heap.size, 0, none⟩)) (w.alloc o) ∧ RangeOf (w.alloc o) encK encV b w.heap.size L (fun _ => true) := by
  obtain ⟨es, clock, h⟩ := h
  have hb : (w.alloc (.mapIter (some b) clock #[] clock)).heap[b]? = some (.map es clock) := by rw [Below.heap_alloc _ _ _ (lt_of_block h.block)]; exact h.block
  refine ⟨.mapIter (some b) clock #[] clock, ?_, es, clock, clock, #[], clock, ⟨hb, h.same, h.born, h.young, h.once⟩, heap_alloc_new w _, h.young, Nat.le_refl _, Nat.le_refl _, by simp⟩
  unfold Instr.range
  simp only [Sem.run_bind, run_underlying ht, Result.andThen, MapKept.run_getObj_map h.block, Sem.run_pure]
  rfl

omit [DecidableEq α] in
theorem nth_of_entry {es : List MapEntry} {L : List (α × β)} (he : es.map (fun e => (e.key, e.val)) = ents encK encV L) {x : MapEntry} (hx : x ∈ es) :
    ∃ (i : Nat) (p : α × β), es[i]? = some x ∧ L[i]? = some p ∧ x.key = encK p.1 ∧ x.val = encV p.2 := by
  obtain ⟨i, hi, hix⟩ := List.mem_iff_getElem.1 hx
  have hl : es.length = L.length := by have := congrArg List.length he; simpa [ents] using this
  have e1 := congrArg (fun l => l[i]?) he
  simp only [ents, List.getElem?_map, List.getElem?_eq_getElem hi, List.getElem?_eq_getElem (by omega : i < L.length), hix, Option.map_some, Option.some.injEq, Prod.mk.injEq] at e1
  exact ⟨i, L[i], by rw [List.getElem?_eq_getElem hi, hix], List.getElem?_eq_getElem (by omega), e1.1, e1.2⟩

/-- THE STEP: nothing is left, or an entry that is left comes. -/
theorem RangeOf.run_next {r : Nat} {left : α → Bool} (h : RangeOf w encK encV b r L left) (ty : TypeId) :
    ((∀ p ∈ L, left p.1 = false) ∧ (Instr.next (.pointer (some ⟨r, 0, none⟩)) false ty).run P w = .ok (.tuple #[.bool false]) w) ∨
    ∃ (p : α × β) (w1 : World) (o : Obj), p ∈ L ∧ left p.1 = true ∧ (w1 = w ∨ w1 = w.drew) ∧ (Instr.next (.pointer (some ⟨r, 0, none⟩)) false ty).run P w = .ok (.tuple #[.bool true, encK p.1, encV p.2]) (setBlock w1 r o) ∧
      RangeOf (setBlock w1 r o) encK encV b r L (fun z => left z && decide (z ≠ p.1)) ∧ (Instr.entry (.pointer (some ⟨r, 0, none⟩))).run P (setBlock w1 r o) = .ok (.tuple #[encK p.1, encV p.2]) (setBlock w1 r o) := by
  obtain ⟨es, clock, since, seen, c0, h, hr, hold, hsc, hscl, hleft⟩ := h
  have hl : es.toList.length = L.length := by have := congrArg List.length h.same; simpa [ents] using this
  rcases run_next_at (P := P) w ty r b since c0 seen es clock hr h.block hold hsc with ⟨h0, hrun⟩ | ⟨x, hx, w1, hw1, hrun⟩
  · left
    refine ⟨?_, hrun⟩
    intro p hp
    obtain ⟨i, hi, hip⟩ := List.mem_iff_getElem.1 hp
    have hx : es.toList[i]? = some (es.toList[i]'(by omega)) := List.getElem?_eq_getElem (by omega)
    rw [hleft i _ p hx (by rw [List.getElem?_eq_getElem hi, hip])]
    have hnil : leftOf es seen = #[] := Array.eq_empty_of_size_eq_zero h0
    unfold leftOf at hnil
    rw [Array.filter_eq_empty_iff] at hnil
    have := hnil _ (Array.mem_def.2 (List.mem_of_getElem? hx))
    simpa using this
  · right
    have hx' : x ∈ es.toList ∧ seen.contains x.born = false := by
      unfold leftOf at hx
      have := Array.mem_filter.1 (Array.mem_def.2 hx)
      exact ⟨Array.mem_def.1 this.1, by simpa using this.2⟩
    obtain ⟨i, p, hi, hp, hk, hv⟩ := nth_of_entry h.same hx'.1
    have hr1 : w1.heap[r]? = some (.mapIter (some b) since seen c0) := by rcases hw1 with rfl | rfl <;> exact hr
    have hb1 : w1.heap[b]? = some (.map es clock) := by rcases hw1 with rfl | rfl <;> exact h.block
    have hne : r ≠ b := by rintro rfl; rw [hr1] at hb1; cases hb1
    have hb2 : (setBlock w1 r (.mapIter (some b) since (seen.push x.born) clock)).heap[b]? = some (.map es clock) := by
      simp [ChangeMaps.setBlock, hne, hb1]
    have hr2 := setBlock_at (lt_of_block hr1) (.mapIter (some b) since (seen.push x.born) clock)
    refine ⟨p, w1, .mapIter (some b) since (seen.push x.born) clock, List.mem_of_getElem? hp, ?_, hw1, ?_, ?_, ?_⟩
    · rw [hleft i x p hi hp, hx'.2]; rfl
    · rw [hrun, hk, hv]
    · refine ⟨es, clock, since, seen.push x.born, clock, ⟨hb2, h.same, h.born, h.young, h.once⟩, hr2, hold, hscl, hscl, ?_⟩
      intro j y q hj hq
      have hiff : (y.born == x.born) = decide (q.1 = p.1) := by
        by_cases hij : i = j
        · subst hij; rw [hi] at hj; rw [hp] at hq; cases hj; cases hq; simp
        · have n1 : y.born ≠ x.born := by
            have hb := h.born
            rw [List.pairwise_iff_getElem] at hb
            obtain ⟨hi', ei⟩ := List.getElem?_eq_some_iff.1 hi
            obtain ⟨hj', ej⟩ := List.getElem?_eq_some_iff.1 hj
            rcases Nat.lt_or_gt_of_ne hij with hlt | hlt
            · have := hb i j (by simpa using hi') (by simpa using hj') hlt
              simp only [List.getElem_map, ei, ej] at this; omega
            · have := hb j i (by simpa using hj') (by simpa using hi') hlt
              simp only [List.getElem_map, ei, ej] at this; omega
          have n2 : q.1 ≠ p.1 := by
            intro e
            obtain ⟨hi', ei⟩ := List.getElem?_eq_some_iff.1 hp
            obtain ⟨hj', ej⟩ := List.getElem?_eq_some_iff.1 hq
            have hn := h.once
            rw [List.nodup_iff_pairwise_ne, List.pairwise_iff_getElem] at hn
            rcases Nat.lt_or_gt_of_ne hij with hlt | hlt
            · have := hn i j (by simpa using hi') (by simpa using hj') hlt
              simp only [List.getElem_map, ei, ej] at this; exact this e.symm
            · have := hn j i (by simpa using hj') (by simpa using hi') hlt
              simp only [List.getElem_map, ei, ej] at this; exact this e
          simp [n1, n2]
      have hc : (seen.push x.born).contains y.born = (seen.contains y.born || (y.born == x.born)) := by
        rw [Bool.eq_iff_iff]; simp
      show (left q.1 && decide (q.1 ≠ p.1)) = _
      rw [hc, hiff, hleft j y q hj hq]
      cases seen.contains y.born <;> simp
    · rw [← hk, ← hv]
      exact run_entry_at (P := P) _ r b since seen es clock x hr2 hb2 hx'.1 (h.born.imp (fun h => Nat.ne_of_lt h))


/-- 'delete(m, a)' in the midst of a range over m. -/
theorem RangeOf.run_delete {r : Nat} {left : α → Bool} (h : RangeOf w encK encV b r L left) (K : KeyEnc P k encK) {t e : TypeId} (ht : P.underlying t = some (.map k e)) (a : α) (ty : TypeId) :
    ∃ o, (Builtin.delete_ #[t, k] ty #[.map (some b), encK a]).run P w = .ok (.tuple #[]) (setBlock w b o) ∧ RangeOf (setBlock w b o) encK encV b r (erase L a) left := by
  obtain ⟨es, clock, since, seen, c0, h, hr, hold, hsc, hscl, hleft⟩ := h
  have hlt := lt_of_block h.block
  have hne : b ≠ r := by rintro rfl; rw [h.block] at hr; cases hr
  have e0 : (#[t, k] : Array TypeId)[0]? = some t := rfl
  have e1 : (#[Value.map (some b), encK a] : Array Value)[0]? = some (.map (some b)) := rfl
  have e2 : (#[Value.map (some b), encK a] : Array Value)[1]? = some (encK a) := rfl
  unfold Builtin.delete_
  simp only [e0, e1, e2, Sem.run_bind, run_underlying ht, Result.andThen, MapKept.run_getObj_map h.block, K.check]
  have hrk : ∀ o, (setBlock w b o).heap[r]? = some (.mapIter (some b) since seen c0) := fun o => by simp [ChangeMaps.setBlock, hne, hr]
  rcases run_find (encV := encV) K a w h.same with ⟨l, rn, hany⟩ | ⟨i, v', l, rn, hi, hany⟩
  · refine ⟨.map es clock, ?_, es, clock, since, seen, c0, ⟨setBlock_at hlt _, ?_, h.born, h.young, ?_⟩, hrk _, hold, hsc, hscl, ?_⟩
    · simp only [rn, Sem.run_bind, MapKept.run_setObj_map _ h.block, Result.andThen, Sem.run_pure]; rfl
    · rw [erase_none L a hany]; exact h.same
    · rw [erase_none L a hany]; exact h.once
    · rw [erase_none L a hany]; exact hleft
  · have hl : es.toList.length = L.length := by have := congrArg List.length h.same; simpa [ents] using this
    have hil : i < L.length := (List.getElem?_eq_some_iff.1 hi).1
    have hie : i < es.size := by simpa using (by omega : i < es.toList.length)
    have he : (es.eraseIdxIfInBounds i).toList = es.toList.eraseIdx i := by
      unfold Array.eraseIdxIfInBounds; rw [dif_pos hie]; simp
    refine ⟨.map (es.eraseIdxIfInBounds i) clock, ?_, _, _, since, seen, c0, mapOf_erased h a v' i hi, hrk _, ?_, hsc, hscl, ?_⟩
    · simp only [rn, Sem.run_bind, MapKept.run_setObj_map _ h.block, Result.andThen, Sem.run_pure]; rfl
    · intro x hx; rw [he] at hx; exact hold x ((List.eraseIdx_sublist _ _).subset hx)
    · intro j x p hj hp
      rw [he, List.getElem?_eraseIdx] at hj
      rw [← erase_at L a v' i hi h.once, List.getElem?_eraseIdx] at hp
      split at hj
      · rename_i hji; rw [if_pos hji] at hp; exact hleft _ _ _ hj hp
      · rename_i hji; rw [if_neg hji] at hp; exact hleft _ _ _ hj hp

end

/-! ### At the operation, for the walk -/
section
variable {P : Program} {α β : Type} [DecidableEq α] {encK : α → Value} {encV : β → Value} {b : Nat} {L : List (α × β)}
variable (w : World) {ops : Array Oper} {rest : List Oper} {o : Oper} {a : Act} {Q : Exit → Act → World → Prop}

theorem wpList_look (hg : o.guard = none) (m x : Operand) (t : TypeId) (c : Bool) (hop : o.op = Op.lookup t m x c) {k e : TypeId} (K : KeyEnc P k encK) (ht : P.underlying t = some (.map k e)) {z : Value} (hz : ∀ w, (zeroValue e).run P w = .ok z w)
    (hm : a.eval m = .map (some b)) (h : MapOf w encK encV b L) (y : α) (hx : a.eval x = encK y)
    (hK : wpList P ops Q rest (a.put o.dst (if c then .tuple #[((look L y).map encV).getD z, .bool (look L y).isSome] else ((look L y).map encV).getD z)) w) : wpList P ops Q (o :: rest) a w := by
  refine wpList_plain hg fun K' hK' => ?_
  unfold Oper.wp
  simp only [execOp, hop, hm, hx, Sem.run_bind, h.run_look K ht (hz w) y c, Result.andThen]
  exact hK' _ _ hK

theorem wpList_update (hg : o.guard = none) (m x v : Operand) (t : TypeId) (hop : o.op = Op.mapUpdate t m x v) {k e : TypeId} (K : KeyEnc P k encK) (ht : P.underlying t = some (.map k e))
    (hm : a.eval m = .map (some b)) (h : MapOf w encK encV b L) (y : α) (hx : a.eval x = encK y) (u : β) (hv : a.eval v = encV u)
    (hK : ∀ w', MapOf w' encK encV b (upsert L y u) → Fr [b] w w' → w'.heap.size = w.heap.size → wpList P ops Q rest (a.put o.dst undef) w') : wpList P ops Q (o :: rest) a w := by
  refine wpList_plain hg fun K' hK' => ?_
  obtain ⟨ob, hrun, hm'⟩ := h.run_update K ht y u
  unfold Oper.wp
  simp only [execOp, hop, hm, hx, hv, Sem.run_bind, hrun, Result.andThen]
  exact hK' _ _ (hK _ hm' (Fr.setBlock w b ob) (by simp [ChangeMaps.setBlock]))

theorem wpList_del (hg : o.guard = none) (m x : Operand) (t k : TypeId) (hop : o.op = Op.call { callee := Callee.builtin Builtin.delete, args := #[m, x], argTypes := #[t, k] }) {e : TypeId} (K : KeyEnc P k encK) (ht : P.underlying t = some (.map k e))
    (hm : a.eval m = .map (some b)) (h : MapOf w encK encV b L) (y : α) (hx : a.eval x = encK y)
    (hK : ∀ w', MapOf w' encK encV b (erase L y) → Fr [b] w w' → w'.heap.size = w.heap.size → wpList P ops Q rest (a.put o.dst (.tuple #[])) w') : wpList P ops Q (o :: rest) a w := by
  refine wpList_plain hg fun K' hK' => ?_
  obtain ⟨ob, hrun, hm'⟩ := h.run_delete K ht y o.type
  unfold Oper.wp
  simp [execOp, hop, resolve, invoke, builtin, hm, hx, hrun, Result.andThen]
  exact hK' _ _ (hK _ hm' (Fr.setBlock w b ob) (by simp [ChangeMaps.setBlock]))

omit [DecidableEq α] in
theorem wpList_maplen (hg : o.guard = none) (m : Operand) (t : TypeId) (hop : o.op = Op.call { callee := Callee.builtin Builtin.len, args := #[m], argTypes := #[t] }) {k e : TypeId} (ht : P.underlying t = some (.map k e))
    (hm : a.eval m = .map (some b)) (h : MapOf w encK encV b L)
    (hK : wpList P ops Q rest (a.put o.dst (.int .i64 L.length)) w) : wpList P ops Q (o :: rest) a w := by
  refine wpList_plain hg fun K' hK' => ?_
  unfold Oper.wp
  simp [execOp, hop, resolve, invoke, builtin, hm, h.run_len ht, Result.andThen]
  exact hK' _ _ hK

omit [DecidableEq α] in
theorem wpList_range (hg : o.guard = none) (m : Operand) (t : TypeId) (hop : o.op = Op.range t m) {k e : TypeId} (ht : P.underlying t = some (.map k e))
    (hm : a.eval m = .map (some b)) (h : MapOf w encK encV b L)
    (hK : ∀ w', RangeOf w' encK encV b w.heap.size L (fun _ => true) → Fr [] w w' → w'.heap.size = w.heap.size + 1 → wpList P ops Q rest (a.put o.dst (.pointer (some ⟨w.heap.size, 0, none⟩))) w') : wpList P ops Q (o :: rest) a w := by
  refine wpList_plain hg fun K' hK' => ?_
  obtain ⟨ob, hrun, hr⟩ := h.run_range ht
  unfold Oper.wp
  simp only [execOp, hop, hm, Sem.run_bind, hrun, Result.andThen]
  exact hK' _ _ (hK _ hr ((Fr.refl [] w).alloc ob) (by simp))

theorem wpList_next (hg : o.guard = none) (it : Operand) (hop : o.op = Op.next it false) {r : Nat} {left : α → Bool}
    (hit : a.eval it = .pointer (some ⟨r, 0, none⟩)) (h : RangeOf w encK encV b r L left)
    (hDone : (∀ p ∈ L, left p.1 = false) → wpList P ops Q rest (a.put o.dst (.tuple #[.bool false])) w)
    (hMore : ∀ (y : α) (u : β) (w' : World), (y, u) ∈ L → left y = true → RangeOf w' encK encV b r L (fun z => left z && decide (z ≠ y)) → Fr [r] w w' → w'.heap.size = w.heap.size →
      (Instr.entry (.pointer (some ⟨r, 0, none⟩))).run P w' = .ok (.tuple #[encK y, encV u]) w' → wpList P ops Q rest (a.put o.dst (.tuple #[.bool true, encK y, encV u])) w') : wpList P ops Q (o :: rest) a w := by
  refine wpList_plain hg fun K' hK' => ?_
  unfold Oper.wp
  rcases h.run_next (P := P) o.type with ⟨h0, hrun⟩ | ⟨p, w1, ob, hp, hl, hw1, hrun, hr, hen⟩
  · simp only [execOp, hop, hit, Sem.run_bind, hrun, Result.andThen]
    exact hK' _ _ (hDone h0)
  · simp only [execOp, hop, hit, Sem.run_bind, hrun, Result.andThen]
    have hf : Fr [r] w w1 := by rcases hw1 with rfl | rfl <;> first | exact Fr.refl _ _ | exact (Fr.refl _ _).drew
    refine hK' _ _ (hMore p.1 p.2 _ hp hl hr (hf.trans (Fr.setBlock w1 r ob)) ?_ hen)
    have hsz : w1.heap.size = w.heap.size := by rcases hw1 with rfl | rfl <;> rfl
    simp [ChangeMaps.setBlock, hsz]

theorem wpList_del_ranged (hg : o.guard = none) (m x : Operand) (t k : TypeId) (hop : o.op = Op.call { callee := Callee.builtin Builtin.delete, args := #[m, x], argTypes := #[t, k] }) {e : TypeId} (K : KeyEnc P k encK) (ht : P.underlying t = some (.map k e))
    {r : Nat} {left : α → Bool} (hm : a.eval m = .map (some b)) (h : RangeOf w encK encV b r L left) (y : α) (hx : a.eval x = encK y)
    (hK : ∀ w', RangeOf w' encK encV b r (erase L y) left → Fr [b] w w' → w'.heap.size = w.heap.size → wpList P ops Q rest (a.put o.dst (.tuple #[])) w') : wpList P ops Q (o :: rest) a w := by
  refine wpList_plain hg fun K' hK' => ?_
  obtain ⟨ob, hrun, hm'⟩ := h.run_delete K ht y o.type
  unfold Oper.wp
  simp [execOp, hop, resolve, invoke, builtin, hm, hx, hrun, Result.andThen]
  exact hK' _ _ (hK _ hm' (Fr.setBlock w b ob) (by simp [ChangeMaps.setBlock]))
end
end Go.Proofs.Ytcbccogpogdbmaa
