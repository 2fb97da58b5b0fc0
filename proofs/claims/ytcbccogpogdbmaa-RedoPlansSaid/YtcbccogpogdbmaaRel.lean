/- A region that draws its order, whose operations lay blocks: each operation owes one predicate of its value and of the world; one goal an operation, not one an order. -/
import Derived.StillTail
import Derived.Tactics
import Derived.Test.YtcbccogpogdbmaaGen
namespace Go.Proofs.Ytcbccogpogdbmaa
open Go
/-- What an operation owes: of its value, in whatever later world; how its slot is shown behind it. -/
structure Ent where
  phi : Value → World → Prop
  fill : Value → Value
def slotOf (o : Oper) (a : Act) : Value := match o.dst with | some d => (a.tmps[d]?).getD undef | none => undef
def depPhi (phis : List (Value → World → Prop)) (s : Nat → Value) (w : World) : List Edge → Prop
  | [] => True
  | e :: l => (Region.binds .any e = true → match phis[e.on]? with | some F => F (s e.on) w | none => True) ∧ depPhi phis s w l
def allPhi (s : Nat → Value) (w : World) : List (Value → World → Prop) → Nat → Prop
  | [], _ => True
  | F :: l, k => F (s k) w ∧ allPhi s w l (k + 1)
def relPost (R : World → World → Prop) (F : Value → World → Prop) (o : Oper) (df : List Deferred) (w : World) (x : Exit) (a' : Act) (w' : World) : Prop :=
  x = .normal ∧ a'.defers = df ∧ R w w' ∧ F (slotOf o a') w'
def RelW (P : Program) (ops : Array Oper) (R : World → World → Prop) (w0 : World) (Q : Exit → Act → World → Prop) (tail : List Oper) (df : List Deferred) : List Oper → Nat → List (Value → World → Prop) → ((Nat → Value) → Act) → Prop
  | [], _, phis, A => ∀ s w, R w0 w → allPhi s w phis 0 → wpList P ops Q tail (A s) w
  | o :: rest, k, phis, A => ∃ (F : Value → World → Prop) (g : Value → Value), (∀ v w w', R w w' → F v w → F v w') ∧ (∀ v w, F v w → g v = v) ∧
      (∀ s w, R w0 w → depPhi phis s w o.after.toList → wpList P ops (relPost R F o df w) [o] (A s) w) ∧
      RelW P ops R w0 Q tail df rest (k + 1) (phis ++ [F]) (fun s => (A s).put o.dst (g (s k)))
def layF : List Oper → List Ent → Nat → (Nat → Value) → Act → Act
  | o :: os, E :: es, k, s, a => layF os es (k + 1) s (a.put o.dst (E.fill (s k)))
  | _, _, _, _, a => a
def dstApart : List Oper → Bool
  | [] => true
  | o :: l => (l.all fun o' => match o.dst with | some d => o'.dst != some d | none => true) && dstApart l

section
variable {P : Program} {ops : Array Oper} {R : World → World → Prop} {w0 : World} {Q : Exit → Act → World → Prop} {tail : List Oper} {df : List Deferred}
theorem put_defers' (a : Act) (d : Option Tmp) (v : Value) : (a.put d v).defers = a.defers := by cases d <;> rfl
theorem put_size (a : Act) (d : Option Tmp) (v : Value) : (a.put d v).tmps.size = a.tmps.size := by cases d <;> simp [Act.put]
theorem layF_defers : ∀ (os : List Oper) (es : List Ent) (k : Nat) (s : Nat → Value) (a : Act), (layF os es k s a).defers = a.defers
  | [], _, _, _, _ => by unfold layF; rfl
  | _ :: _, [], _, _, _ => rfl
  | o :: os, E :: es, k, s, a => by unfold layF; rw [layF_defers os es]; exact put_defers' _ _ _
theorem layF_size : ∀ (os : List Oper) (es : List Ent) (k : Nat) (s : Nat → Value) (a : Act), (layF os es k s a).tmps.size = a.tmps.size
  | [], _, _, _, _ => by unfold layF; rfl
  | _ :: _, [], _, _, _ => rfl
  | o :: os, E :: es, k, s, a => by unfold layF; rw [layF_size os es]; exact put_size _ _ _
theorem layF_other : ∀ (os : List Oper) (es : List Ent) (k : Nat) (s : Nat → Value) (a : Act) (d : Tmp), (∀ o ∈ os, o.dst ≠ some d) → (layF os es k s a).tmps[d]? = a.tmps[d]?
  | [], _, _, _, _, _, _ => by unfold layF; rfl
  | _ :: _, [], _, _, _, _, _ => rfl
  | o :: os, E :: es, k, s, a, d, h => by
    unfold layF
    rw [layF_other os es _ _ _ d (fun o' ho' => h o' (List.mem_cons_of_mem _ ho'))]
    have h1 := h o (by simp)
    cases hd : o.dst with
    | none => rfl
    | some d' =>
      have hne : d' ≠ d := fun e => h1 (by rw [hd, e])
      simp [Act.put, Array.getElem?_setIfInBounds_ne hne]
theorem layF_at : ∀ (os : List Oper) (es : List Ent) (k : Nat) (s : Nat → Value) (a : Act) (j : Nat) (o : Oper) (E : Ent) (d : Tmp), dstApart os = true → os[j]? = some o → es[j]? = some E → o.dst = some d → d < a.tmps.size → (layF os es k s a).tmps[d]? = some (E.fill (s (k + j)))
  | [], _, _, _, _, j, _, _, _, _, h, _, _, _ => by simp at h
  | _ :: _, [], _, _, _, j, _, _, _, _, _, h, _, _ => by simp at h
  | o :: os, E :: es, k, s, a, 0, o', E', d, hap, ho, hE, hd, hlt => by
    simp only [List.getElem?_cons_zero, Option.some.injEq] at ho hE
    subst ho; subst hE
    unfold layF
    simp only [dstApart, Bool.and_eq_true, List.all_eq_true] at hap
    rw [layF_other os es _ _ _ d (fun o' ho' => by
      have := hap.1 o' ho'
      rw [hd] at this
      simpa using this)]
    simp [Act.put, hd, hlt]
  | o :: os, E :: es, k, s, a, j + 1, o', E', d, hap, ho, hE, hd, hlt => by
    simp only [List.getElem?_cons_succ] at ho hE
    unfold layF
    simp only [dstApart, Bool.and_eq_true] at hap
    rw [layF_at os es (k + 1) s _ j o' E' d hap.2 ho hE hd (by rw [put_size]; exact hlt)]
    congr 3; omega

theorem RelW.extract : ∀ (rest : List Oper) (k : Nat) (phis : List (Value → World → Prop)) (A : (Nat → Value) → Act), RelW P ops R w0 Q tail df rest k phis A →
    ∃ es : List Ent, es.length = rest.length ∧ (∀ E ∈ es, (∀ v w w', R w w' → E.phi v w → E.phi v w') ∧ ∀ v w, E.phi v w → E.fill v = v) ∧
      (∀ i o E, rest[i]? = some o → es[i]? = some E → ∀ s w, R w0 w → depPhi (phis ++ (es.take i).map (·.phi)) s w o.after.toList → wpList P ops (relPost R E.phi o df w) [o] (layF (rest.take i) (es.take i) k s (A s)) w) ∧
      (∀ s w, R w0 w → allPhi s w (phis ++ es.map (·.phi)) 0 → wpList P ops Q tail (layF rest es k s (A s)) w)
  | [], k, phis, A, h => ⟨[], rfl, by simp, by simp, fun s w hR ha => by
      simp only [List.map_nil, List.append_nil] at ha
      exact h s w hR ha⟩
  | o :: rest, k, phis, A, h => by
    obtain ⟨F, g, h1, h2, h3, h4⟩ := h
    obtain ⟨es, q1, q2, q3, q4⟩ := RelW.extract rest (k + 1) _ _ h4
    refine ⟨⟨F, g⟩ :: es, by simp [q1], ?_, ?_, ?_⟩
    · intro E hE
      rcases List.mem_cons.1 hE with rfl | hE
      · exact ⟨h1, h2⟩
      · exact q2 E hE
    · intro i o' E ho hE s w hR hd
      cases i with
      | zero =>
        simp only [List.getElem?_cons_zero, Option.some.injEq] at ho hE
        subst ho; subst hE
        simp only [List.take_zero, List.map_nil, List.append_nil] at hd
        simp only [List.take_zero, layF]
        exact h3 s w hR hd
      | succ i =>
        simp only [List.getElem?_cons_succ] at ho hE
        have := q3 i o' E ho hE s w hR (by simpa [List.append_assoc] using hd)
        simpa [layF] using this
    · intro s w hR ha
      have := q4 s w hR (by simpa [List.append_assoc] using ha)
      simpa [layF] using this
end

/-- Of the first n operations: each looks at slots of theirs by its own edges only; their slots are apart. -/
def relLooks (ops : Array Oper) (n : Nat) : Bool :=
  (List.range n).all fun i => (List.range n).all fun j => match ops[i]?, ops[j]? with
    | some oi, some oj => match oj.dst with
      | some d => !(oi.looksAt ops).contains d || (decide (j < i) && oi.after.any fun e => e.on == j && Region.binds .any e)
      | none => true
    | _, _ => true
def fullTo (m n : Nat) : Array Bool := ((List.range m).map fun i => decide (i < n)).toArray
def relBack (ops : Array Oper) (n : Nat) : Bool := (List.range n).all fun i => match ops[i]? with
  | some o => o.after.all fun e => !Region.binds .any e || decide (e.on < i)
  | none => true
def relB (ops : Array Oper) (n : Nat) : Bool :=
  Region.noSelect ops && decide (n ≤ ops.size) && (decide (n = ops.size) || (Region.sinkB .any ops n && Region.chainB .any ops n)) && Region.seqB .any ops (ops.size - n) n (fullTo ops.size n) && relLooks ops n && relBack ops n && dstApart (ops.toList.take n)
def slotsIn (a : Act) (l : List Oper) : Bool := l.all fun o => match o.dst with | some d => decide (d < a.tmps.size) | none => true

section
variable {P : Program} {ops : Array Oper} {R : World → World → Prop} {w0 : World} {Q : Exit → Act → World → Prop} {tail : List Oper}
theorem execOp_agree {o : Oper} (hs : ∀ cs b, o.op ≠ .select cs b) {a b : Act} (h : ∀ d ∈ o.looksAt ops, a.tmps[d]? = b.tmps[d]?) : execOp a.eval o = execOp b.eval o := by
  refine execOp_congr o hs fun x hx => ?_
  cases x with
  | tmp t =>
    have := h t (List.mem_append_left _ (List.mem_filterMap.2 ⟨.tmp t, by simpa using hx, rfl⟩))
    simp [Act.eval, this]
  | _ => rfl
theorem wanted_agree {o : Oper} {a b : Act} (h : ∀ d ∈ o.looksAt ops, a.tmps[d]? = b.tmps[d]?) : Region.wanted o (yielded ops a.tmps) = Region.wanted o (yielded ops b.tmps) := by
  unfold Region.wanted
  cases hg : o.guard with
  | none => rfl
  | some gw =>
    obtain ⟨g, want⟩ := gw
    have hy : yielded ops a.tmps g = yielded ops b.tmps g := by
      unfold yielded
      cases ht : (ops[g]?).bind (·.dst) with
      | none => rfl
      | some t =>
        have := h t (by simp [Oper.looksAt, hg, ht])
        simp only [Option.bind_some, this]
    simp only [hy]

/-- What holds when some of the first n have come. -/
structure RelInv (ops : Array Oper) (R : World → World → Prop) (w0 : World) (a0 : Act) (n : Nat) (es : List Ent) (s : Nat → Value) (listed : Array Bool) (a : Act) (w : World) : Prop where
  head : HeadInv .any ops n listed
  rel : R w0 w
  defers : a.defers = a0.defers
  size : a.tmps.size = a0.tmps.size
  owed : ∀ j o E, j < n → ops[j]? = some o → es[j]? = some E → listed.getD j false = true → E.phi (s j) w ∧ ∀ d, o.dst = some d → a.tmps[d]? = some (s j)
  other : ∀ d, (∀ j o, j < n → ops[j]? = some o → listed.getD j false = true → o.dst ≠ some d) → a.tmps[d]? = a0.tmps[d]?

theorem dstApart_spec : ∀ {l : List Oper}, dstApart l = true → ∀ {i j : Nat} {x y : Oper} {d : Tmp}, l[i]? = some x → l[j]? = some y → x.dst = some d → y.dst = some d → i = j
  | [], _, i, _, _, _, _, h, _, _, _ => by simp at h
  | o :: l, h, i, j, x, y, d, hx, hy, hdx, hdy => by
    simp only [dstApart, Bool.and_eq_true, List.all_eq_true] at h
    cases i with
    | zero =>
      cases j with
      | zero => rfl
      | succ j =>
        simp only [List.getElem?_cons_zero, Option.some.injEq, List.getElem?_cons_succ] at hx hy
        subst hx
        have := h.1 y (List.mem_of_getElem? hy)
        rw [hdx] at this
        simp [hdy] at this
    | succ i =>
      cases j with
      | zero =>
        simp only [List.getElem?_cons_zero, Option.some.injEq, List.getElem?_cons_succ] at hx hy
        subst hy
        have := h.1 x (List.mem_of_getElem? hx)
        rw [hdy] at this
        simp [hdx] at this
      | succ j =>
        simp only [List.getElem?_cons_succ] at hx hy
        rw [dstApart_spec h.2 hx hy hdx hdy]

theorem depPhi_of {phis : List (Value → World → Prop)} {s : Nat → Value} {w : World} : ∀ {l : List Edge}, (∀ e ∈ l, Region.binds .any e = true → ∀ F, phis[e.on]? = some F → F (s e.on) w) → depPhi phis s w l
  | [], _ => trivial
  | e :: l, h => ⟨fun hb => by
      cases hF : phis[e.on]? with
      | none => trivial
      | some F => exact h e (by simp) hb F hF, depPhi_of fun e' he' => h e' (List.mem_cons_of_mem _ he')⟩
theorem allPhi_of {s : Nat → Value} {w : World} : ∀ {l : List (Value → World → Prop)} {k : Nat}, (∀ (j : Nat) (F : Value → World → Prop), l[j]? = some F → F (s (k + j)) w) → allPhi s w l k
  | [], _, _ => trivial
  | F :: l, k, h => ⟨h 0 F rfl, allPhi_of fun j F' hj => by
      have := h (j + 1) F' (by simpa using hj)
      rwa [show k + (j + 1) = k + 1 + j by omega] at this⟩

theorem countP_drop {p p' : Nat → Bool} {i : Nat} : ∀ {l : List Nat}, l.Nodup → i ∈ l → p i = true → p' i = false → (∀ j, j ≠ i → p' j = p j) → l.countP p = l.countP p' + 1
  | [], _, h, _, _, _ => by simp at h
  | x :: l, hn, h, h1, h2, h3 => by
    have hn' := List.nodup_cons.1 hn
    by_cases hx : x = i
    · subst hx
      have : l.countP p = l.countP p' := List.countP_congr fun j hj => by
        rw [h3 j (fun e => hn'.1 (e ▸ hj))]
      simp [h1, h2, this]
    · have hi : i ∈ l := by
        rcases List.mem_cons.1 h with e | e
        · exact absurd e.symm hx
        · exact e
      have := countP_drop hn'.2 hi h1 h2 h3
      simp [List.countP_cons, h3 x hx, this]
      omega

theorem RelInv.step {a0 : Act} {n : Nat} {es : List Ent} {s : Nat → Value} {listed : Array Bool} {a aL : Act} {w w' : World} {i : Nat} {o : Oper} {E : Ent} {v : Value} {df : List Deferred}
    (inv : RelInv ops R w0 a0 n es s listed a w) (hRt : ∀ {x y z}, R x y → R y z → R x z) (hE2 : ∀ E ∈ es, ∀ v w w', R w w' → E.phi v w → E.phi v w') (hap : dstApart (ops.toList.take n) = true) (hsl : ∀ j o d, j < n → ops[j]? = some o → o.dst = some d → d < a0.tmps.size)
    (hi : i ∈ Region.ready .any ops listed) (hin : i < n) (ho : ops[i]? = some o) (hE : es[i]? = some E) (hLs : aL.tmps.size = a0.tmps.size)
    (hp : relPost R E.phi o df w .normal (aL.put o.dst v) w') : ∃ s', RelInv ops R w0 a0 n es s' (listed.setIfInBounds i true) (a.put o.dst v) w' := by
  obtain ⟨_, _, hR, hF⟩ := hp
  have hun := (mem_ready.1 hi).1
  refine ⟨fun j => if j = i then slotOf o (aL.put o.dst v) else s j, inv.head.set hi hin, hRt inv.rel hR, (put_defers' _ _ _).trans inv.defers, (put_size _ _ _).trans inv.size, ?_, ?_⟩
  · intro j oj Ej hj hoj hEj hl
    by_cases hji : j = i
    · subst hji
      have e1 : oj = o := Option.some.inj (hoj.symm.trans ho)
      have e2 : Ej = E := Option.some.inj (hEj.symm.trans hE)
      subst e1; subst e2
      simp only [if_true]
      refine ⟨hF, fun d hd => ?_⟩
      have hlt := hsl j oj d hj hoj hd
      have h1 : d < a.tmps.size := by rw [inv.size]; exact hlt
      have h2 : d < aL.tmps.size := by rw [hLs]; exact hlt
      simp [Act.put, slotOf, hd, h1, h2]
    · simp only [if_neg hji]
      rw [getD_set_ne false (Ne.symm hji)] at hl
      obtain ⟨q1, q2⟩ := inv.owed j oj Ej hj hoj hEj hl
      refine ⟨hE2 Ej (List.mem_of_getElem? hEj) _ _ _ hR q1, fun d hd => ?_⟩
      cases hdo : o.dst with
      | none => exact q2 d hd
      | some d' =>
        have hne : d' ≠ d := by
          rintro rfl
          refine hji (dstApart_spec hap (i := j) (j := i) (x := oj) (y := o) ?_ ?_ hd hdo)
          · rw [List.getElem?_take_of_lt hj]; simpa using hoj
          · rw [List.getElem?_take_of_lt hin]; simpa using ho
        simp only [Act.put, Array.getElem?_setIfInBounds_ne hne]
        exact q2 d hd
  · intro d hd
    have hls : i < listed.size := by rw [inv.head.size]; exact (Array.getElem?_eq_some_iff.1 ho).1
    have h1 : o.dst ≠ some d := hd i o hin ho (by simp [hls])
    cases hdo : o.dst with
    | none =>
      refine inv.other d fun j oj hj hoj hl => hd j oj hj hoj (getD_set_true hl)
    | some d' =>
      have hne : d' ≠ d := fun e => h1 (by rw [hdo, e])
      simp only [Act.put, Array.getElem?_setIfInBounds_ne hne]
      exact inv.other d fun j oj hj hoj hl => hd j oj hj hoj (getD_set_true hl)

theorem wpAny_rel {a0 : Act} {n : Nat} {es : List Ent} {l : List Oper} (hRt : ∀ {x y z}, R x y → R y z → R x z) (hnl : n ≤ l.length) (hB : relB l.toArray n = true) (hA : slotsIn a0 (l.take n) = true)
    (q1 : es.length = (l.take n).length) (q2 : ∀ E ∈ es, (∀ v w w', R w w' → E.phi v w → E.phi v w') ∧ ∀ v w, E.phi v w → E.fill v = v)
    (q3 : ∀ i o E, (l.take n)[i]? = some o → es[i]? = some E → ∀ s w, R w0 w → depPhi (([] : List (Value → World → Prop)) ++ (es.take i).map (·.phi)) s w o.after.toList → wpList P l.toArray (relPost R E.phi o a0.defers w) [o] (layF ((l.take n).take i) (es.take i) 0 s a0) w)
    (q4 : ∀ s w, R w0 w → allPhi s w (([] : List (Value → World → Prop)) ++ es.map (·.phi)) 0 → wpList P l.toArray Q (l.drop n) (layF (l.take n) es 0 s a0) w) :
    ∀ (f : Nat) (s : Nat → Value) (listed : Array Bool) (a : Act) (w : World), RelInv l.toArray R w0 a0 n es s listed a w → f = (List.range n).countP (fun i => !listed.getD i false) + (l.length - n) → wpAny P .any l.toArray Q f listed a w := by
  simp only [relB, Bool.and_eq_true, decide_eq_true_eq, Bool.or_eq_true] at hB
  obtain ⟨⟨⟨⟨⟨⟨hsel, hn⟩, hsc⟩, hseq⟩, hlook⟩, hback⟩, hap⟩ := hB
  have hps : (l.take n).length = n := by simp; omega
  have hat : ∀ j, j < n → (l.take n)[j]? = l[j]? := fun j hj => List.getElem?_take_of_lt hj
  have hsl : ∀ j o d, j < n → l.toArray[j]? = some o → o.dst = some d → d < a0.tmps.size := by
    intro j o d hj ho hd
    have hm : o ∈ l.take n := List.mem_of_getElem? (i := j) (by rw [hat j hj]; simpa using ho)
    have := List.all_eq_true.1 hA o hm
    rw [hd] at this
    simpa using this
  have hEat : ∀ j, j < n → ∃ E, es[j]? = some E := fun j hj => ⟨_, List.getElem?_eq_getElem (by rw [q1, hps]; exact hj)⟩
  have done : ∀ (s : Nat → Value) (listed : Array Bool) (a : Act) (w : World), RelInv l.toArray R w0 a0 n es s listed a w → (List.range n).countP (fun i => !listed.getD i false) = 0 → wpAny P .any l.toArray Q (l.length - n) listed a w := by
    intro s listed a w inv hc
    have hall : ∀ j, j < n → listed.getD j false = true := fun j hj => by
      have := List.countP_eq_zero.1 hc j (List.mem_range.2 hj)
      simpa using this
    have hfull : listed = fullTo l.toArray.size n := by
      apply Array.ext_getElem?
      intro j
      by_cases hj : j < l.length
      · have hjs : j < listed.size := by rw [inv.head.size]; simpa using hj
        have e1 : (fullTo l.toArray.size n)[j]? = some (decide (j < n)) := by simp [fullTo, hj]
        rw [e1, Array.getElem?_eq_getElem hjs]
        by_cases hjn : j < n
        · have := hall j hjn
          simp [hjs] at this
          simp [this, hjn]
        · have := inv.head.tail j (by omega) (by simpa using hj)
          simp [hjs] at this
          simp [this, hjn]
      · rw [Array.getElem?_eq_none (by rw [inv.head.size]; simpa using Nat.le_of_not_lt hj), Array.getElem?_eq_none (by simp [fullTo]; omega)]
    have ha : a = layF (l.take n) es 0 s a0 := by
      have h1 : a.tmps = (layF (l.take n) es 0 s a0).tmps := by
        apply Array.ext_getElem?
        intro d
        by_cases hd : ∃ j o, j < n ∧ l.toArray[j]? = some o ∧ o.dst = some d
        · obtain ⟨j, o, hj, ho, hd⟩ := hd
          obtain ⟨E, hE⟩ := hEat j hj
          obtain ⟨p1, p2⟩ := inv.owed j o E hj ho hE (hall j hj)
          rw [p2 d hd, layF_at (l.take n) es 0 s a0 j o E d (by simpa using hap) (by rw [hat j hj]; simpa using ho) hE hd (hsl j o d hj ho hd)]
          rw [Nat.zero_add, (q2 E (List.mem_of_getElem? hE)).2 _ _ p1]
        · rw [inv.other d (fun j o hj ho _ hdo => hd ⟨j, o, hj, ho, hdo⟩)]
          rw [layF_other]
          intro o ho hdo
          obtain ⟨j, hj, hjo⟩ := List.mem_iff_getElem.1 ho
          have hjn : j < n := by rw [hps] at hj; exact hj
          exact hd ⟨j, o, hjn, by rw [List.getElem?_toArray, ← hat j hjn, List.getElem?_eq_getElem hj, hjo], hdo⟩
      have h2 : a.defers = (layF (l.take n) es 0 s a0).defers := by rw [layF_defers]; exact inv.defers
      cases a; simp_all
    have hfin := q4 s w inv.rel (allPhi_of fun j F hF => by
      rw [List.nil_append, List.getElem?_map] at hF
      obtain ⟨E, hE, rfl⟩ := Option.map_eq_some_iff.1 hF
      have hj : j < n := by have := (List.getElem?_eq_some_iff.1 hE).1; omega
      rw [Nat.zero_add]
      have hjl : j < l.length := by omega
      exact (inv.owed j l[j] E hj (by simp [hjl]) hE (hall j hj)).1)
    rw [← ha] at hfin
    have hdl : (l.drop n).length = l.length - n := by simp
    have := wpAny_of_seq (md := .any) (Q' := Q) (l.drop n) n listed a w (fun j => by simp [List.getElem?_drop]) (by rw [hdl, hfull]; simpa using hseq) hfin
    rwa [hdl] at this
  intro f
  induction f with
  | zero =>
    intro s listed a w inv hf
    have := done s listed a w inv (by omega)
    rwa [show l.length - n = 0 by omega] at this
  | succ f ih =>
    intro s listed a w inv hf
    by_cases hc : (List.range n).countP (fun i => !listed.getD i false) = 0
    · have := done s listed a w inv hc
      rwa [show l.length - n = f + 1 by omega] at this
    · obtain ⟨i0, hi0n, hi0⟩ : ∃ i, i < n ∧ listed.getD i false = false := by
        refine Classical.byContradiction fun hno => hc (List.countP_eq_zero.2 fun j hj => ?_)
        have hj' := List.mem_range.1 hj
        cases hl : listed.getD j false with
        | true => simp
        | false => exact absurd ⟨j, hj', hl⟩ hno
      have hsz : listed.size = l.length := by rw [inv.head.size]; simp
      have hlow : ∀ d i, i = d → i < n → listed.getD i false = false → ∃ j, j ∈ Region.ready .any l.toArray listed := by
        intro d
        induction d using Nat.strongRecOn with
        | _ d ihd =>
          intro i hid hi hl
          by_cases hb : ∃ j, j < i ∧ listed.getD j false = false
          · obtain ⟨j, hj, hjl⟩ := hb
            exact ihd j (by omega) j rfl (by omega) hjl
          · refine ⟨i, mem_ready.2 ⟨getD_in (by omega) hl, l[i]'(by omega), by simp, fun e he hbd => ?_⟩⟩
            have h1 := List.all_eq_true.1 hback i (List.mem_range.2 hi)
            rw [show l.toArray[i]? = some (l[i]'(by omega)) from by simp] at h1
            have h2 := Array.all_eq_true'.1 h1 e he
            rw [hbd] at h2
            have h3 : e.on < i := by simpa using h2
            cases hle : listed.getD e.on false with
            | true => rfl
            | false => exact absurd ⟨e.on, h3, hle⟩ hb
      refine ⟨fun h0 => ?_, fun i hi => ?_⟩
      · obtain ⟨j, hj⟩ := hlow i0 i0 rfl hi0n hi0
        rw [h0] at hj; cases hj
      have hin : i < n := by
        rcases hsc with hnn | ⟨hs, hcn⟩
        · obtain ⟨_, o, ho, _⟩ := mem_ready.1 hi
          have := (Array.getElem?_eq_some_iff.1 ho).1
          simp at this hnn; omega
        · by_cases hnl' : n < l.toArray.size
          · rcases Nat.lt_or_ge i n with h | h
            · exact h
            · exact absurd hi (tail_waits hs hcn hnl' inv.head _ i0 rfl hi0n (getD_in (by omega) hi0) i h)
          · obtain ⟨_, o, ho, _⟩ := mem_ready.1 hi
            have := (Array.getElem?_eq_some_iff.1 ho).1
            omega
      obtain ⟨hun, o, ho, hdep⟩ := mem_ready.1 hi
      obtain ⟨E, hE⟩ := hEat i hin
      have hpre : (l.take n)[i]? = some o := by rw [hat i hin]; simpa using ho
      have hstep := q3 i o E hpre hE s w inv.rel (depPhi_of fun e he hb F hF => by
        rw [List.nil_append, List.getElem?_map] at hF
        obtain ⟨E', hE', rfl⟩ := Option.map_eq_some_iff.1 hF
        have hlt : e.on < i := by
          have := (List.getElem?_eq_some_iff.1 hE').1
          simp at this; omega
        have hE'' : es[e.on]? = some E' := by rw [List.getElem?_take_of_lt hlt] at hE'; exact hE'
        have hlo : e.on < l.length := by omega
        exact (inv.owed e.on l[e.on] E' (by omega) (by simp [hlo]) hE'' (hdep e (by simpa using he) hb)).1)
      have hagree : ∀ d ∈ o.looksAt l.toArray, (layF ((l.take n).take i) (es.take i) 0 s a0).tmps[d]? = a.tmps[d]? := by
        intro d hd
        by_cases hdj : ∃ j oj, j < n ∧ l.toArray[j]? = some oj ∧ oj.dst = some d
        · obtain ⟨j, oj, hj, hoj, hdd⟩ := hdj
          have h1 := List.all_eq_true.1 (List.all_eq_true.1 hlook i (List.mem_range.2 hin)) j (List.mem_range.2 hj)
          rw [ho, hoj] at h1
          simp only [hdd] at h1
          have h2 : (o.looksAt l.toArray).contains d = true := by simpa using hd
          rw [h2] at h1
          simp only [Bool.not_true, Bool.false_or, Bool.and_eq_true, decide_eq_true_eq] at h1
          obtain ⟨hji, hany⟩ := h1
          obtain ⟨e, he, hb⟩ := Array.any_eq_true'.1 hany
          simp only [Bool.and_eq_true, beq_iff_eq] at hb
          have hlj := hdep e he hb.2
          rw [hb.1] at hlj
          obtain ⟨E', hE'⟩ := hEat j hj
          obtain ⟨p1, p2⟩ := inv.owed j oj E' hj hoj hE' hlj
          rw [p2 d hdd]
          have hap' : dstApart ((l.take n).take i) = true := by
            have : ∀ (k : Nat) (x : List Oper), dstApart x = true → dstApart (x.take k) = true := by
              intro k
              induction k with
              | zero => intro x _; simp [dstApart]
              | succ k ihk =>
                intro x hx
                cases x with
                | nil => simp [dstApart]
                | cons y x =>
                  simp only [dstApart, List.take_succ_cons, Bool.and_eq_true, List.all_eq_true] at hx ⊢
                  exact ⟨fun z hz => hx.1 z (List.mem_of_mem_take hz), ihk x hx.2⟩
            exact this i _ (by simpa using hap)
          rw [layF_at _ _ 0 s a0 j oj E' d hap' (by rw [List.getElem?_take_of_lt hji, hat j hj]; simpa using hoj) (by rw [List.getElem?_take_of_lt hji]; exact hE') hdd (hsl j oj d hj hoj hdd)]
          rw [Nat.zero_add, (q2 E' (List.mem_of_getElem? hE')).2 _ _ p1]
        · rw [inv.other d (fun j oj hj hoj _ hdo => hdj ⟨j, oj, hj, hoj, hdo⟩), layF_other]
          intro o' ho' hdo
          obtain ⟨j, hj, hjo⟩ := List.mem_iff_getElem.1 (List.mem_of_mem_take ho')
          have hjn : j < n := by rw [hps] at hj; exact hj
          exact hdj ⟨j, o', hjn, by rw [List.getElem?_toArray, ← hat j hjn, List.getElem?_eq_getElem hj, hjo], hdo⟩
      have hselo := Region.noSelect_spec hsel i o
      have hexec := execOp_agree (ops := l.toArray) (o := o) (fun cs b => hselo cs b ho) hagree
      have hwant := wanted_agree (ops := l.toArray) (o := o) hagree
      have hLs : (layF ((l.take n).take i) (es.take i) 0 s a0).tmps.size = a0.tmps.size := layF_size _ _ _ _ _
      have hLd : (layF ((l.take n).take i) (es.take i) 0 s a0).defers = a0.defers := layF_defers _ _ _ _ _
      have keep : ∀ v w', relPost R E.phi o a0.defers w .normal ((layF ((l.take n).take i) (es.take i) 0 s a0).put o.dst v) w' → wpAny P .any l.toArray Q f (listed.setIfInBounds i true) (a.put o.dst v) w' := by
        intro v w' hp
        obtain ⟨s', inv'⟩ := inv.step hRt (fun E hE => (q2 E hE).1) (by simpa using hap) hsl hi hin ho hE hLs hp
        refine ih s' _ _ _ inv' ?_
        have hcd := countP_drop (p := fun j => !listed.getD j false) (p' := fun j => !(listed.setIfInBounds i true).getD j false) (i := i) (l := List.range n) List.nodup_range (List.mem_range.2 hin) (by simp only [getD_both hun]; rfl) (by
          have hls : i < listed.size := by rw [inv.head.size]; exact (Array.getElem?_eq_some_iff.1 ho).1
          simp [hls]) (fun j hj => by simp only [getD_set_ne false (Ne.symm hj)])
        omega
      revert hstep keep hexec hwant hLd hLs
      generalize layF ((l.take n).take i) (es.take i) 0 s a0 = aL
      intro hstep hexec hwant hLs hLd keep
      unfold wpList at hstep
      unfold wpOp
      rw [ho]
      simp only
      rw [← hwant]
      by_cases hw : Region.wanted o (yielded l.toArray aL.tmps) = true
      · rw [if_pos hw] at hstep ⊢
        left
        rcases hstep with hstep | ⟨_, a'', w'', hp⟩
        · unfold Oper.wp at hstep ⊢
          rw [← hexec]
          generalize (execOp aL.eval o).run P w = r at hstep
          cases r with
          | ok nx w' =>
            cases nx <;> simp only [Oper.upon] at hstep ⊢
            case value v => exact keep v w' hstep
            case skip => exact keep undef w' hstep
            case defer d =>
              have h1 := hstep.2.1
              rw [put_defers'] at h1
              have h2 := congrArg List.length h1
              simp only [List.length_cons, hLd] at h2
              omega
            case enter fn args =>
              refine Calls.mono hstep ?_
              intro e w'' he
              cases e with
              | returned v => exact keep v w'' he
              | panicked c => exact absurd he.1 (by simp)
              | outgrown => obtain ⟨a'', w3, hp⟩ := he; exact absurd hp.1 (by simp)
            case row rw args =>
              refine Rows.mono hstep fun v w'' he => keep v w'' he
            all_goals exact hstep.elim
          | halt x w' =>
            cases x <;> simp only [Oper.upon] at hstep ⊢
            case panic v => exact absurd hstep.1 (by simp)
            all_goals exact hstep.elim
        · exact absurd hp.1 (by simp)
      · rw [if_neg hw] at hstep ⊢
        exact keep undef w hstep
theorem wp_region_rel {id : Nat} {a : Act} {w : World} {l : List Oper} (n : Nat) (R : World → World → Prop) (hm : P.follows .mixedOrders = true) (hB : relB l.toArray n = true) (hA : slotsIn a (l.take n) = true) (hRt : ∀ {x y z}, R x y → R y z → R x z) (hR0 : R w w.drew)
    (h : RelW P l.toArray R w Q (l.drop n) a.defers (l.take n) 0 [] (fun _ => a)) : (Code.region id l.toArray true).wp P Q a w := by
  obtain ⟨es, q1, q2, q3, q4⟩ := RelW.extract _ _ _ _ h
  have hB' := hB
  simp only [relB, Bool.and_eq_true, decide_eq_true_eq, Bool.or_eq_true] at hB'
  have hn : n ≤ l.length := by have := hB'.1.1.1.1.1.2; simpa using this
  refine wp_region_any hm ?_
  refine wpAny_rel (R := R) (w0 := w) (a0 := a) (es := es) hRt hn hB hA q1 q2 q3 q4 _ (fun j => undef) _ a _ ⟨⟨by simp, fun j oj _ hl => (by rw [getD_replicate_false] at hl; cases hl), fun t _ ht => getD_in (by simpa using ht) (getD_replicate_false _ _)⟩, hR0, rfl, rfl, fun j o E _ _ _ hl => (by rw [getD_replicate_false] at hl; cases hl), fun d _ => rfl⟩ ?_
  have : (List.range n).countP (fun i => !(Array.replicate l.toArray.size false).getD i false) = n := by
    rw [List.countP_eq_length.2 (fun i _ => by rw [getD_replicate_false]; rfl)]
    simp
  rw [this]
  simp only [List.size_toArray]
  omega
end
end Go.Proofs.Ytcbccogpogdbmaa
