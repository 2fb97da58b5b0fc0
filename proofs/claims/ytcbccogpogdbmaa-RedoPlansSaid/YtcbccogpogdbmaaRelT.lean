/- Steps of a region walked by predicates. -/
import Derived.Test.YtcbccogpogdbmaaRel
import Derived.Test.YtcbccogpogdbmaaRelIn
import Derived.Test.YtcbccogpogdbmaaHlp
namespace Go.Proofs.Ytcbccogpogdbmaa
open Go
section
variable {P : Program} {ops : Array Oper} {R : World → World → Prop} {w0 : World} {Q : Exit → Act → World → Prop} {tail : List Oper} {df : List Deferred} {o : Oper} {rest : List Oper} {k : Nat} {phis : List (Value → World → Prop)} {A : (Nat → Value) → Act}
/-- An operation with one value. -/
theorem RelW.still (u : Value) (A' : (Nat → Value) → Act) (h : ∀ s w, R w0 w → wpList P ops (relPost R (fun v _ => v = u) o df w) [o] (A s) w) (hA : ∀ s, (A s).put o.dst u = A' s)
    (hr : RelW P ops R w0 Q tail df rest (k + 1) (phis ++ [fun v _ => v = u]) A') : RelW P ops R w0 Q tail df (o :: rest) k phis A :=
  ⟨fun v _ => v = u, fun _ => u, fun _ _ _ _ h => h, fun _ _ h => h.symm, fun s w hR _ => h s w hR, by
    have e : (fun s => (A s).put o.dst ((fun _ => u) (s k))) = A' := funext hA
    rw [e]; exact hr⟩
/-- An operation with a value that hangs on the order: what it owes. -/
theorem RelW.owes (Φ : Value → World → Prop) (A' : (Nat → Value) → Act) (hm : ∀ v w w', R w w' → Φ v w → Φ v w') (h : ∀ s w, R w0 w → depPhi phis s w o.after.toList → wpList P ops (relPost R Φ o df w) [o] (A s) w) (hA : ∀ s, (A s).put o.dst (s k) = A' s)
    (hr : RelW P ops R w0 Q tail df rest (k + 1) (phis ++ [Φ]) A') : RelW P ops R w0 Q tail df (o :: rest) k phis A :=
  ⟨Φ, fun v => v, hm, fun _ _ _ => rfl, h, by
    have e : (fun s => (A s).put o.dst ((fun v => v) (s k))) = A' := funext hA
    rw [e]; exact hr⟩
end
end Go.Proofs.Ytcbccogpogdbmaa
