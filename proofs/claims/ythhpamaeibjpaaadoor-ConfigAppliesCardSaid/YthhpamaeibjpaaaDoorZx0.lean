/- Contracts and words, several texts in one. -/
import Derived.Maps.RangeWalk
import Derived.Maps.OwnSet
import Derived.WalkKit
import Derived.Deep.Draws
section
namespace Go.Proofs.YthhpamaeibjpaaaDoor
open Go.RowKit Go.Maps
open Go.ChangeMaps (setBlock)
open Go.MapKept (run_findKey)
structure Fr (S : List Nat) (w w' : World) : Prop where
  os : w'.os = w.os
  tape : w'.tape = w.tape
  output : w'.output = w.output
  size : w.heap.size ≤ w'.heap.size
  block : ∀ k, k < w.heap.size → k ∉ S → w'.heap[k]? = w.heap[k]?
theorem Fr.refl (S : List Nat) (w : World) : Fr S w w := ⟨rfl, rfl, rfl, Nat.le_refl _, fun _ _ _ => rfl⟩
theorem Fr.trans {S : List Nat} {a b c : World} (h : Fr S a b) (k : Fr S b c) : Fr S a c :=
  ⟨k.os.trans h.os, k.tape.trans h.tape, k.output.trans h.output, Nat.le_trans h.size k.size, fun i hi hs => (k.block i (Nat.lt_of_lt_of_le hi h.size) hs).trans (h.block i hi hs)⟩
theorem Fr.andThen {S T : List Nat} {a b c : World} (h : Fr S a b) (k : Fr T b c) (hT : ∀ t ∈ T, t ∈ S ∨ a.heap.size ≤ t) : Fr S a c :=
  ⟨k.os.trans h.os, k.tape.trans h.tape, k.output.trans h.output, Nat.le_trans h.size k.size, fun i hi hs =>
    (k.block i (Nat.lt_of_lt_of_le hi h.size) (fun ht => (hT i ht).elim hs (fun h1 => by omega))).trans (h.block i hi hs)⟩
theorem Fr.mono {S T : List Nat} {a b : World} (h : Fr S a b) (hT : ∀ t ∈ S, t ∈ T) : Fr T a b :=
  ⟨h.os, h.tape, h.output, h.size, fun i hi hs => h.block i hi (fun ht => hs (hT i ht))⟩
theorem Fr.drew {S : List Nat} {a b : World} (h : Fr S a b) : Fr S a b.drew := ⟨h.os, h.tape, h.output, h.size, h.block⟩
theorem Fr.drewN {S : List Nat} {a b : World} (h : Fr S a b) (n : Nat) : Fr S a (b.drewN n) := ⟨h.os, h.tape, h.output, h.size, h.block⟩
theorem Fr.alloc {S : List Nat} {a b : World} (h : Fr S a b) (o : Obj) : Fr S a (b.alloc o) :=
  h.andThen (T := []) ⟨rfl, rfl, rfl, by simp, fun k hk _ => Below.heap_alloc _ _ _ hk⟩ (by simp)
theorem Fr.setCell {S : List Nat} {a b : World} (h : Fr S a b) (p : Addr) (u : Value) (hp : p.block ∈ S ∨ a.heap.size ≤ p.block) : Fr S a (b.setCell p u) :=
  h.andThen (T := [p.block]) ⟨rfl, rfl, rfl, by simp [World.setCell], fun k _ hs => Below.heap_setCell _ _ _ _ (by simpa using hs)⟩ (by simpa using hp)
theorem Fr.below {B : Nat} {S : List Nat} {a b : World} (h : Fr S a b) (hB : B ≤ a.heap.size) (hS : ∀ t ∈ S, B ≤ t) : Below B a b :=
  ⟨h.os, h.tape, h.output, h.size, fun k hk => h.block k (by omega) (fun hs => by have := hS k hs; omega)⟩
theorem Fr.of_below {a b : World} (h : Below a.heap.size a b) (S : List Nat) : Fr S a b := ⟨h.os, h.tape, h.output, h.size, fun k hk _ => h.block k hk⟩
theorem Fr.of_grown {a b : World} {row : Option Nat} (hg : a.grownBy b row) : Fr row.toList a b := ⟨hg.os, hg.tape, hg.output, hg.size, fun k hk hs => hg.block k hk (fun e => hs (by simp [← e]))⟩
theorem Fr.keep {S : List Nat} {a b : World} (h : Fr S a b) {k : Nat} {o : Obj} (hk : a.heap[k]? = some o) (hs : k ∉ S) : b.heap[k]? = some o := by
  rw [h.block k (Array.getElem?_eq_some_iff.1 hk).1 hs]; exact hk
theorem Fr.cell {S : List Nat} {a b : World} (h : Fr S a b) {p : Addr} (hp : p.block < a.heap.size) (hs : p.block ∉ S) : b.cell? p = a.cell? p := World.cell?_of_block (w := a) (h.block p.block hp hs)
theorem Fr.frozen {S : List Nat} {a b : World} (h : Fr S a b) {p : Addr} (hp : p.block < a.heap.size) (hs : p.block ∉ S) : b.frozen? p = a.frozen? p := World.frozen?_of_block (w := a) (h.block p.block hp hs)
theorem lt_of_block {w : World} {r : Nat} {o : Obj} (h : w.heap[r]? = some o) : r < w.heap.size := (Array.getElem?_eq_some_iff.1 h).1
section
variable {P : Program} {α β : Type} {encK : α → Value} {encV : β → Value} {w : World} {b : Nat} {L : List (α × β)} {k : TypeId}
variable [DecidableEq α]
omit [DecidableEq α] in
end
section
variable {P : Program} {α β : Type} [DecidableEq α] {encK : α → Value} {encV : β → Value} {b : Nat} {L : List (α × β)}
variable (w : World) {ops : Array Oper} {rest : List Oper} {o : Oper} {a : Act} {Q : Exit → Act → World → Prop}
end
end Go.Proofs.YthhpamaeibjpaaaDoor
end
