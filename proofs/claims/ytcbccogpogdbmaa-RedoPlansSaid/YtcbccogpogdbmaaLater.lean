/- A region that draws its order, whose calls may lay blocks but change nothing that was there: walked once, in the order of the text, in the class of worlds that are later ones. -/
import Derived.Test.YtcbccogpogdbmaaGen
import Derived.BigQuiet
namespace Go.Proofs.Ytcbccogpogdbmaa
open Go.RowKit
/-- A later world: all that was is as it was. -/
structure Later (w : World) where
  world : World
  fr : Fr [] w world
instance (w : World) : Inhabited (Later w) := ⟨⟨w, Fr.refl _ _⟩⟩
theorem wp_region_later {P : Program} {id : Nat} {Q : Exit → Act → World → Prop} {a : Act} {w : World} {l : List Oper} (hm : P.follows .mixedOrders = true) (hB : Region.lexB .any l.toArray = true)
    (h : wpQuiet P l.toArray (fun w' => ∃ p : Later w, w' = p.world) (fun a' => ∀ w', (∃ p : Later w, w' = p.world) → Q .normal a' w') l a) : (Code.region id l.toArray true).wp P Q a w :=
  wp_region_quiet (C := fun w' => ∃ p : Later w, w' = p.world) hm hB ⟨⟨_, (Fr.refl [] w).drew⟩, rfl⟩ (by simpa using h)
theorem Later.cell {w : World} {g o : Nat} {u : Value} (h : w.cell? ⟨g, o, none⟩ = some u) (p : Later w) : p.world.cell? ⟨g, o, none⟩ = some u := by
  rw [p.fr.cell (p := ⟨g, o, none⟩) (block_lt_of_cell h) (by simp)]; exact h
theorem Calls.later_of {P : Program} {f : FuncId} {args : Array Value} {w : World} {p : Later w} {v : Value} {R : World → Prop}
    (h : Calls P f args p.world fun e w' => e = .returned v ∧ Fr [] p.world w' ∧ R w') : Calls P f args p.world fun e w'' => e = .returned v ∧ ∃ q : Later w, w'' = q.world :=
  h.mono fun _ w' ⟨he, hb, _⟩ => ⟨he, ⟨w', p.fr.trans hb⟩, rfl⟩
theorem Calls.later_of0 {P : Program} {f : FuncId} {args : Array Value} {w : World} {p : Later w} {v : Value}
    (h : Calls P f args p.world fun e w' => e = .returned v ∧ Fr [] p.world w') : Calls P f args p.world fun e w'' => e = .returned v ∧ ∃ q : Later w, w'' = q.world :=
  h.mono fun _ w' ⟨he, hb⟩ => ⟨he, ⟨w', p.fr.trans hb⟩, rfl⟩
end Go.Proofs.Ytcbccogpogdbmaa
