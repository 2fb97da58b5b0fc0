/- A walk in the open serves in a round. -/
import Derived.Test.YtcbccogpogdbmaaRelIn
import Derived.RangeFuncCalls
namespace Go.Proofs.Ytcbccogpogdbmaa
open Go
section
variable {P : Program} {ops : Array Oper} {Q : Exit → Act → World → Prop} {n l : Nat}
theorem rowsIn_of {row : String} {args : Array Value} {w : World} {R : Value → World → Prop} (h : Rows P row args w R) : RowsIn (Fence.wide.inRound l) n P row args w R :=
  fun c cs _ => let ⟨v, w', r, s⟩ := h c cs; ⟨v, w', r, stepsIn_wide.2 s⟩
theorem operIn_of {o : Oper} (hD : ∀ c, o.op ≠ .defer c) {a : Act} {w : World} {K : Act → World → Prop} (h : o.wp P a w K Q) : o.wpIn (Fence.wide.inRound l) n P a w K Q := by
  unfold Oper.wp at h
  unfold Oper.wpIn
  refine ⟨fun _ _ => trivial, ?_⟩
  rw [Oper.semAt_eq _ _ _ hD]
  generalize (execOp a.eval o).run P w = r at h
  cases r with
  | ok nx w' =>
    cases nx <;> simp only [Oper.upon] at h <;> simp only [Oper.uponIn]
    case value v => exact h
    case skip => exact h
    case defer d => exact h
    case enter fn args => exact ⟨(fun hd => by cases hd), CallsIn.inRound l (callsIn_wide.2 h)⟩
    case row rw args => exact ⟨(fun hd => by cases hd), rowsIn_of h⟩
    all_goals exact h.elim
  | halt x w' =>
    cases x <;> simp only [Oper.upon] at h <;> simp only [Oper.uponIn]
    case panic v => exact h
    all_goals exact h.elim
theorem wpListIn_of (hL : ¬ LetsOut Q) : ∀ (os : List Oper) (a : Act) (w : World), noDeferB os = true → wpList P ops Q os a w → wpListIn (Fence.wide.inRound l) n P ops Q os a w
  | [], _, _, _, h => h
  | o :: os, a, w, hD, h => by
    have hD1 : ∀ c, o.op ≠ .defer c := fun c hc => by
      have := List.all_eq_true.1 hD o (by simp)
      rw [hc] at this
      simp at this
    have hD2 : noDeferB os = true := List.all_eq_true.2 fun x hx => List.all_eq_true.1 hD x (List.mem_cons_of_mem _ hx)
    unfold wpList at h
    unfold wpListIn
    split
    · rename_i hw
      rw [if_pos hw] at h
      rcases h with h | h
      · exact operIn_of hD1 (Oper.wp_mono (fun a' w' h' => wpListIn_of hL os a' w' hD2 h') h)
      · exact absurd h.2 hL
    · rename_i hw
      rw [if_neg hw] at h
      exact ⟨fun _ _ => trivial, wpListIn_of hL os _ _ hD2 h⟩
/-- A drawn region of a round, walked in the open. -/
theorem regionIn_rel {id : Nat} {a : Act} {w : World} {os : List Oper} (m : Nat) (R : World → World → Prop) (hL : ¬ LetsOut Q) (hD : noDeferB os = true) (hm : P.follows .mixedOrders = true) (hB : relB os.toArray m = true) (hA : slotsIn a (os.take m) = true) (hRt : ∀ {x y z}, R x y → R y z → R x z) (hR0 : R w w.drew)
    (h : RelW P os.toArray R w Q (os.drop m) a.defers (os.take m) 0 [] (fun _ => a)) : (Code.region id os.toArray true).wpIn (Fence.wide.inRound l) n P Q a w := by
  obtain ⟨es, q1, q2, q3, q4⟩ := RelW.extract _ _ _ _ h
  have hB' := hB
  simp only [relB, Bool.and_eq_true, decide_eq_true_eq, Bool.or_eq_true] at hB'
  have hn : m ≤ os.length := by have := hB'.1.1.1.1.1.2; simpa using this
  have hDd : noDeferB (os.drop m) = true := List.all_eq_true.2 fun x hx => List.all_eq_true.1 hD x (List.mem_of_mem_drop hx)
  have hDt : noDeferB (os.take m) = true := List.all_eq_true.2 fun x hx => List.all_eq_true.1 hD x (List.mem_of_mem_take hx)
  refine wpIn_region_any hm ?_
  refine wpAnyIn_rel (R := R) (w0 := w) (a0 := a) (es := es) hRt hn hB hDt hA q1 q2 (fun i o E ho hE s X hX hd => wpListIn_of (fun hl => by obtain ⟨_, _, hp⟩ := hl; exact absurd hp.1 (by simp)) _ _ _ (List.all_eq_true.2 fun x hx => by
      have hxo : x = o := by simpa using hx
      subst hxo
      exact List.all_eq_true.1 hDt x (List.mem_of_getElem? ho)) (q3 i o E ho hE s X hX hd)) (fun s X hX ha => wpListIn_of hL _ _ _ hDd (q4 s X hX ha)) _ (fun j => undef) _ a _ ⟨⟨by simp, fun j oj _ hl => (by rw [getD_replicate_false] at hl; cases hl), fun t _ ht => getD_in (by simpa using ht) (getD_replicate_false _ _)⟩, hR0, rfl, rfl, fun j o E _ _ _ hl => (by rw [getD_replicate_false] at hl; cases hl), fun d _ => rfl⟩ ?_
  have : (List.range m).countP (fun i => !(Array.replicate os.toArray.size false).getD i false) = m := by
    rw [List.countP_eq_length.2 (fun i _ => by rw [getD_replicate_false]; rfl)]
    simp
  rw [this]
  simp only [List.size_toArray]
  omega
end
end Go.Proofs.Ytcbccogpogdbmaa
