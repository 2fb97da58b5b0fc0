/- A region that draws its order and ends in stores: loads and calls first, then the stores in their order; operations that need no world may come late. -/
import Derived.Test.YtcbccogpogdbmaaRelT
namespace Go.Proofs.Ytcbccogpogdbmaa
open Go
def kindX (σ late : List Nat) (k : Nat) : Nat := if σ.contains k then 2 else if late.contains k then 1 else 0
/-- The stores, one behind the other; T holds behind each. -/
def TailX (P : Program) (ops : Array Oper) (T : World → Prop) (Q : Exit → Act → World → Prop) : List Oper → Act → World → Prop
  | [], a, w => Q .normal a w
  | o :: rest, a, w => wpList P ops (fun x a' w' => x = .normal ∧ a' = a ∧ T w' ∧ TailX P ops T Q rest a w') [o] a w
def stillX (u : Value) (o : Oper) (df : List Deferred) (w : World) (x : Exit) (a' : Act) (w' : World) : Prop := x = .normal ∧ a'.defers = df ∧ w' = w ∧ slotOf o a' = u
def GoodX (P : Program) (ops : Array Oper) (T : World → Prop) (R : World → World → Prop) (w0 : World) (df : List Deferred) (E : Ent) (o : Oper) (phis : List (Value → World → Prop)) (A : (Nat → Value) → Act) : Nat → Prop
  | 0 => (∀ v w w', R w w' → E.phi v w → E.phi v w') ∧ (∀ v w, E.phi v w → E.fill v = v) ∧ ∀ s w, R w0 w → depPhi phis s w o.after.toList → wpList P ops (relPost R E.phi o df w) [o] (A s) w
  | 1 => ∃ u, E.phi = (fun v _ => v = u) ∧ E.fill = (fun _ => u) ∧ ∀ s w, T w → wpList P ops (stillX u o df w) [o] (A s) w
  | _ => ∀ v w, E.phi v w
def RelX (P : Program) (ops : Array Oper) (T : World → Prop) (R : World → World → Prop) (w0 : World) (Q : Exit → Act → World → Prop) (tail : List Oper) (df : List Deferred) (σ late : List Nat) : List Oper → Nat → List (Value → World → Prop) → ((Nat → Value) → Act) → Prop
  | [], _, phis, A => ∀ s w, R w0 w → allPhi s w phis 0 → TailX P ops T Q tail (A s) w
  | o :: rest, k, phis, A => ∃ E : Ent, GoodX P ops T R w0 df E o phis A (kindX σ late k) ∧ RelX P ops T R w0 Q tail df σ late rest (k + 1) (phis ++ [E.phi]) (fun s => (A s).put o.dst (E.fill (s k)))
def isStore (o : Oper) : Bool := o.dst.isNone && o.guard.isNone && match o.op with | .store .. => true | _ => false
def edgeOn (o : Oper) (j : Nat) : Bool := o.after.any fun e => e.on == j && Region.binds .any e
def chainX (ops : Array Oper) : List Nat → Bool
  | i :: j :: l => (match ops[j]? with | some o => edgeOn o i | none => false) && chainX ops (j :: l)
  | _ => true
def relX (ops : Array Oper) (σ late : List Nat) : Bool :=
  Region.noSelect ops && relLooks ops ops.size && relBack ops ops.size && dstApart ops.toList && σ.all (fun i => match ops[i]? with | some o => isStore o | none => false) && chainX ops σ &&
    (match σ with | i :: _ => (List.range ops.size).all fun j => kindX σ late j != 0 || (match ops[i]? with | some o => edgeOn o j | none => false) | [] => false) && decide σ.Nodup
section
variable {P : Program} {ops : Array Oper} {T : World → Prop} {R : World → World → Prop} {w0 : World} {Q : Exit → Act → World → Prop} {tail : List Oper} {df : List Deferred} {σ late : List Nat}
theorem RelX.extract : ∀ (rest : List Oper) (k : Nat) (phis : List (Value → World → Prop)) (A : (Nat → Value) → Act), RelX P ops T R w0 Q tail df σ late rest k phis A →
    ∃ es : List Ent, es.length = rest.length ∧
      (∀ i o E, rest[i]? = some o → es[i]? = some E → GoodX P ops T R w0 df E o (phis ++ (es.take i).map (·.phi)) (fun s => layF (rest.take i) (es.take i) k s (A s)) (kindX σ late (k + i))) ∧
      (∀ s w, R w0 w → allPhi s w (phis ++ es.map (·.phi)) 0 → TailX P ops T Q tail (layF rest es k s (A s)) w)
  | [], k, phis, A, h => ⟨[], rfl, by simp, fun s w hR ha => by
      simp only [List.map_nil, List.append_nil] at ha
      exact h s w hR ha⟩
  | o :: rest, k, phis, A, h => by
    obtain ⟨E, h3, h4⟩ := h
    obtain ⟨es, q1, q3, q4⟩ := RelX.extract rest (k + 1) _ _ h4
    refine ⟨E :: es, by simp [q1], ?_, ?_⟩
    · intro i o' E' ho hE
      cases i with
      | zero =>
        simp only [List.getElem?_cons_zero, Option.some.injEq] at ho hE
        subst ho; subst hE
        simpa [layF] using h3
      | succ i =>
        simp only [List.getElem?_cons_succ] at ho hE
        have := q3 i o' E' ho hE
        rw [show k + 1 + i = k + (i + 1) by omega] at this
        simpa [layF, List.append_assoc] using this
    · intro s w hR ha
      have := q4 s w hR (by simpa [List.append_assoc] using ha)
      simpa [layF] using this
theorem dstApart_take : ∀ (k : Nat) (x : List Oper), dstApart x = true → dstApart (x.take k) = true := by
  intro k
  induction k with
  | zero => intro x _; simp [dstApart]
  | succ k ihk =>
    intro x hx
    cases x with
    | nil => simp [dstApart]
    | cons y x =>
      simp only [dstApart, List.take_succ_cons, Bool.and_eq_true, List.all_eq_true] at hx ⊢
      exact ⟨fun z hz => hx.1 z (List.mem_of_mem_take hz), ihk x hx.2⟩
/-- What an operation looks at, in the act at hand and in the one that is laid. -/
theorem agree_lay {l : List Oper} {es : List Ent} {a0 a : Act} {s : Nat → Value} {listed : Array Bool} {i m : Nat} {o : Oper} (hlook : relLooks l.toArray l.length = true) (hap : dstApart l = true) (hsl : ∀ (j : Nat) (o : Oper) (d : Tmp), l[j]? = some o → o.dst = some d → d < a0.tmps.size) (hes : es.length = l.length)
    (ho : l[i]? = some o) (him : i ≤ m) (hdep : ∀ e ∈ o.after, Region.binds .any e = true → listed.getD e.on false = true)
    (howe : ∀ (j : Nat) (oj : Oper) (E : Ent), l[j]? = some oj → es[j]? = some E → listed.getD j false = true → ∀ d : Tmp, oj.dst = some d → E.fill (s j) = s j ∧ a.tmps[d]? = some (s j))
    (hoth : ∀ d : Tmp, (∀ (j : Nat) (oj : Oper), l[j]? = some oj → listed.getD j false = true → oj.dst ≠ some d) → a.tmps[d]? = a0.tmps[d]?) :
    ∀ d ∈ o.looksAt l.toArray, (layF (l.take m) (es.take m) 0 s a0).tmps[d]? = a.tmps[d]? := by
  have hin : i < l.length := (List.getElem?_eq_some_iff.1 ho).1
  intro d hd
  by_cases hdj : ∃ (j : Nat) (oj : Oper), l[j]? = some oj ∧ oj.dst = some d
  · obtain ⟨j, oj, hoj, hdd⟩ := hdj
    have hj : j < l.length := (List.getElem?_eq_some_iff.1 hoj).1
    have h1 := List.all_eq_true.1 (List.all_eq_true.1 hlook i (List.mem_range.2 hin)) j (List.mem_range.2 hj)
    simp only [List.getElem?_toArray, ho, hoj, hdd] at h1
    have h2 : (o.looksAt l.toArray).contains d = true := by simpa using hd
    rw [h2] at h1
    simp only [Bool.not_true, Bool.false_or, Bool.and_eq_true, decide_eq_true_eq] at h1
    obtain ⟨hji, hany⟩ := h1
    obtain ⟨e, he, hb⟩ := Array.any_eq_true'.1 hany
    simp only [Bool.and_eq_true, beq_iff_eq] at hb
    have hlj := hdep e he hb.2
    rw [hb.1] at hlj
    obtain ⟨E', hE'⟩ : ∃ E, es[j]? = some E := ⟨_, List.getElem?_eq_getElem (by omega)⟩
    obtain ⟨p1, p2⟩ := howe j oj E' hoj hE' hlj d hdd
    rw [p2, layF_at _ _ 0 s a0 j oj E' d (dstApart_take m l hap) (by rw [List.getElem?_take_of_lt (by omega)]; exact hoj) (by rw [List.getElem?_take_of_lt (by omega)]; exact hE') hdd (hsl j oj d hoj hdd)]
    rw [Nat.zero_add, p1]
  · rw [hoth d (fun j oj hoj _ hdo => hdj ⟨j, oj, hoj, hdo⟩), layF_other]
    intro o' ho' hdo
    obtain ⟨j, hj, hjo⟩ := List.mem_iff_getElem.1 (List.mem_of_mem_take ho')
    exact hdj ⟨j, o', by rw [List.getElem?_eq_getElem hj, hjo], hdo⟩
/-- An operation that ends well in the act laid ends so in the act at hand. -/
theorem op_moves {i : Nat} {o : Oper} {a aL : Act} {w : World} {K : Act → World → Prop} {post : Exit → Act → World → Prop} (hsel : Region.noSelect ops = true) (ho : ops[i]? = some o) (hag : ∀ d ∈ o.looksAt ops, aL.tmps[d]? = a.tmps[d]?)
    (hpost : ∀ x a' w', post x a' w' → x = .normal ∧ a'.defers = aL.defers) (hstep : wpList P ops post [o] aL w) (keep : ∀ v w', post .normal (aL.put o.dst v) w' → K (a.put o.dst v) w') : wpOp P ops Q i K a w := by
  have hselo := Region.noSelect_spec hsel i o
  have hexec := execOp_agree (ops := ops) (o := o) (fun cs b => hselo cs b ho) hag
  have hwant := wanted_agree (ops := ops) (o := o) hag
  unfold wpList at hstep
  unfold wpOp
  rw [ho]
  simp only
  rw [← hwant]
  by_cases hw : Region.wanted o (yielded ops aL.tmps) = true
  · rw [if_pos hw] at hstep ⊢
    left
    rcases hstep with hstep | ⟨_, a'', w'', hp⟩
    · unfold Oper.wp at hstep ⊢
      rw [← hexec]
      generalize (execOp aL.eval o).run P w = r at hstep
      cases r with
      | ok nx w' =>
        cases nx <;> simp only [Oper.upon] at hstep ⊢
        case value v => exact keep v w' hstep
        case skip => exact keep undef w' hstep
        case defer d =>
          have h1 := (hpost _ _ _ hstep).2
          rw [put_defers'] at h1
          have h2 := congrArg List.length h1
          simp only [List.length_cons] at h2
          omega
        case enter fn args =>
          refine Calls.mono hstep ?_
          intro e w'' he
          cases e with
          | returned v => exact keep v w'' he
          | panicked c => exact absurd (hpost _ _ _ he).1 (by simp)
          | outgrown => obtain ⟨a'', w3, hp⟩ := he; exact absurd (hpost _ _ _ hp).1 (by simp)
        case row rw args =>
          refine Rows.mono hstep fun v w'' he => keep v w'' he
        all_goals exact hstep.elim
      | halt x w' =>
        cases x <;> simp only [Oper.upon] at hstep ⊢
        case panic v => exact absurd (hpost _ _ _ hstep).1 (by simp)
        all_goals exact hstep.elim
    · exact absurd (hpost _ _ _ hp).1 (by simp)
  · rw [if_neg hw] at hstep ⊢
    exact keep undef w hstep
theorem layF_congr : ∀ (os : List Oper) (es : List Ent) (k : Nat) (s s' : Nat → Value) (a : Act), (∀ (j : Nat) (E : Ent), es[j]? = some E → E.fill (s (k + j)) = E.fill (s' (k + j))) → layF os es k s a = layF os es k s' a
  | [], _, _, _, _, _, _ => by simp [layF]
  | _ :: _, [], _, _, _, _, _ => rfl
  | o :: os, E :: es, k, s, s', a, h => by
    unfold layF
    have h0 := h 0 E rfl
    rw [Nat.add_zero] at h0
    rw [h0]
    exact layF_congr os es (k + 1) s s' _ (fun j E' hj => by
      have := h (j + 1) E' (by simpa using hj)
      rwa [show k + (j + 1) = k + 1 + j by omega] at this)
theorem chain_tail : ∀ (π ρ : List Nat), chainX ops (π ++ ρ) = true → chainX ops ρ = true
  | [], _, h => h
  | [i], [], _ => rfl
  | [i], j :: ρ, h => by
    simp only [List.cons_append, List.nil_append, chainX, Bool.and_eq_true] at h
    exact h.2
  | i :: j :: π, ρ, h => by
    simp only [List.cons_append, chainX, Bool.and_eq_true] at h
    exact chain_tail (j :: π) ρ h.2
theorem chain_pred : ∀ (h : Nat) (ρ : List Nat) (i : Nat), chainX ops (h :: ρ) = true → i ∈ ρ → ∃ j ∈ h :: ρ, ∃ o, ops[i]? = some o ∧ edgeOn o j = true
  | h, [], i, _, hi => by cases hi
  | h, j :: ρ, i, hc, hi => by
    simp only [chainX, Bool.and_eq_true] at hc
    rcases List.mem_cons.1 hi with rfl | hi
    · refine ⟨h, by simp, ?_⟩
      cases ho : ops[i]? with
      | none => rw [ho] at hc; exact absurd hc.1 (by simp)
      | some o => rw [ho] at hc; exact ⟨o, rfl, hc.1⟩
    · obtain ⟨j', hj', ho⟩ := chain_pred j ρ i hc.2 hi
      exact ⟨j', List.mem_cons_of_mem _ hj', ho⟩
theorem edge_listed {o : Oper} {j : Nat} {listed : Array Bool} (h : edgeOn o j = true) (hdep : ∀ e ∈ o.after, Region.binds .any e = true → listed.getD e.on false = true) : listed.getD j false = true := by
  unfold edgeOn at h
  obtain ⟨e, he, hb⟩ := Array.any_eq_true'.1 h
  simp only [Bool.and_eq_true, beq_iff_eq] at hb
  rw [← hb.1]
  exact hdep e he hb.2
theorem kindX_store {i : Nat} (h : i ∈ σ) : kindX σ late i = 2 := by unfold kindX; simp [h]
theorem kindX_two {i : Nat} (h : kindX σ late i = 2) : i ∈ σ := by
  unfold kindX at h
  by_cases hm : σ.contains i = true
  · simpa using hm
  · rw [if_neg hm] at h
    split at h <;> simp at h
theorem kindX_cases (i : Nat) : kindX σ late i = 0 ∨ kindX σ late i = 1 ∨ kindX σ late i = 2 := by
  unfold kindX
  split
  · simp
  · split <;> simp
/-- What holds when some operations have come, some stores among them. -/
structure InvX (P : Program) (T : World → Prop) (R : World → World → Prop) (w0 : World) (Q : Exit → Act → World → Prop) (a0 : Act) (l : List Oper) (es : List Ent) (σ late π ρ : List Nat) (s : Nat → Value) (listed : Array Bool) (a : Act) (w : World) : Prop where
  inT : T w
  head : HeadInv .any l.toArray l.length listed
  split : σ = π ++ ρ
  come : ∀ i ∈ π, listed.getD i false = true
  wait : ∀ i ∈ ρ, listed.getD i false = false
  defers : a.defers = a0.defers
  size : a.tmps.size = a0.tmps.size
  fill : ∀ (j : Nat) (E : Ent), es[j]? = some E → listed.getD j false = true → kindX σ late j ≠ 2 → E.fill (s j) = s j
  owed : ∀ (j : Nat) (oj : Oper) (d : Tmp), l[j]? = some oj → listed.getD j false = true → oj.dst = some d → a.tmps[d]? = some (s j)
  other : ∀ d : Tmp, (∀ (j : Nat) (oj : Oper), l[j]? = some oj → listed.getD j false = true → oj.dst ≠ some d) → a.tmps[d]? = a0.tmps[d]?
  phase : (π = [] ∧ R w0 w ∧ ∀ (j : Nat) (E : Ent), es[j]? = some E → listed.getD j false = true → kindX σ late j = 0 → E.phi (s j) w) ∨
    ((∀ j, j < l.length → kindX σ late j = 0 → listed.getD j false = true) ∧ TailX P l.toArray T Q (ρ.filterMap fun i => l[i]?) (layF l es 0 s a0) w)
/-- The slots behind one more operation. -/
theorem slots_put {l : List Oper} {a0 a aL : Act} {s : Nat → Value} {listed : Array Bool} {i : Nat} {o : Oper} (v : Value) (hap : dstApart l = true) (hsl : ∀ (j : Nat) (o : Oper) (d : Tmp), l[j]? = some o → o.dst = some d → d < a0.tmps.size)
    (ho : l[i]? = some o) (hsz : listed.size = l.length) (ha : a.tmps.size = a0.tmps.size) (hL : aL.tmps.size = a0.tmps.size)
    (owed : ∀ (j : Nat) (oj : Oper) (d : Tmp), l[j]? = some oj → listed.getD j false = true → oj.dst = some d → a.tmps[d]? = some (s j))
    (other : ∀ d : Tmp, (∀ (j : Nat) (oj : Oper), l[j]? = some oj → listed.getD j false = true → oj.dst ≠ some d) → a.tmps[d]? = a0.tmps[d]?) :
    (∀ (j : Nat) (oj : Oper) (d : Tmp), l[j]? = some oj → (listed.setIfInBounds i true).getD j false = true → oj.dst = some d → (a.put o.dst v).tmps[d]? = some ((fun j => if j = i then slotOf o (aL.put o.dst v) else s j) j)) ∧
    (∀ d : Tmp, (∀ (j : Nat) (oj : Oper), l[j]? = some oj → (listed.setIfInBounds i true).getD j false = true → oj.dst ≠ some d) → (a.put o.dst v).tmps[d]? = a0.tmps[d]?) := by
  have hi : i < l.length := (List.getElem?_eq_some_iff.1 ho).1
  refine ⟨?_, ?_⟩
  · intro j oj d hoj hl hd
    by_cases hji : j = i
    · subst hji
      have e1 : oj = o := Option.some.inj (hoj.symm.trans ho)
      subst e1
      simp only [if_true]
      have hlt := hsl j oj d hoj hd
      have h1 : d < a.tmps.size := by rw [ha]; exact hlt
      have h2 : d < aL.tmps.size := by rw [hL]; exact hlt
      simp [Act.put, slotOf, hd, h1, h2]
    · simp only [if_neg hji]
      rw [getD_set_ne false (Ne.symm hji)] at hl
      have q2 := owed j oj d hoj hl hd
      cases hdo : o.dst with
      | none => exact q2
      | some d' =>
        have hne : d' ≠ d := by
          rintro rfl
          exact hji (dstApart_spec hap (i := j) (j := i) (x := oj) (y := o) hoj ho hd hdo)
        simp only [Act.put, Array.getElem?_setIfInBounds_ne hne]
        exact q2
  · intro d hd
    have hls : i < listed.size := by omega
    have h1 : o.dst ≠ some d := hd i o ho (by simp [hls])
    have h2 := other d fun j oj hoj hl => hd j oj hoj (getD_set_true hl)
    cases hdo : o.dst with
    | none => exact h2
    | some d' =>
      have hne : d' ≠ d := fun e => h1 (by rw [hdo, e])
      simp only [Act.put, Array.getElem?_setIfInBounds_ne hne]
      exact h2
theorem wpAny_relX {a0 : Act} {l : List Oper} {es : List Ent} (hRt : ∀ {x y z}, R x y → R y z → R x z) (hRT : ∀ w, R w0 w → T w) (hB : relX l.toArray σ late = true) (hA : slotsIn a0 l = true) (q1 : es.length = l.length)
    (q3 : ∀ i o E, l[i]? = some o → es[i]? = some E → GoodX P l.toArray T R w0 a0.defers E o ((es.take i).map (·.phi)) (fun s => layF (l.take i) (es.take i) 0 s a0) (kindX σ late i))
    (q4 : ∀ s w, R w0 w → allPhi s w (es.map (·.phi)) 0 → TailX P l.toArray T Q (σ.filterMap fun i => l[i]?) (layF l es 0 s a0) w) :
    ∀ (f : Nat) (π ρ : List Nat) (s : Nat → Value) (listed : Array Bool) (a : Act) (w : World), InvX P T R w0 Q a0 l es σ late π ρ s listed a w → f = (List.range l.length).countP (fun i => !listed.getD i false) → wpAny P .any l.toArray Q f listed a w := by
  simp only [relX, Bool.and_eq_true, decide_eq_true_eq] at hB
  obtain ⟨⟨⟨⟨⟨⟨⟨hsel, hlook⟩, hback⟩, hap⟩, hst⟩, hch⟩, hfirst⟩, hnd⟩ := hB
  simp only [List.size_toArray] at hlook hback hfirst
  have hap : dstApart l = true := by simpa using hap
  have hsl : ∀ (j : Nat) (o : Oper) (d : Tmp), l[j]? = some o → o.dst = some d → d < a0.tmps.size := by
    intro j o d ho hd
    have := List.all_eq_true.1 hA o (List.mem_of_getElem? ho)
    rw [hd] at this
    simpa using this
  have hEat : ∀ j, j < l.length → ∃ E, es[j]? = some E := fun j hj => ⟨_, List.getElem?_eq_getElem (by omega)⟩
  have hstore : ∀ i ∈ σ, ∃ o, l[i]? = some o ∧ isStore o = true := by
    intro i hi
    have := List.all_eq_true.1 hst i hi
    cases ho : l.toArray[i]? with
    | none => rw [ho] at this; cases this
    | some o => rw [ho] at this; exact ⟨o, by simpa using ho, this⟩
  have hkd : ∀ i o d, l[i]? = some o → o.dst = some d → kindX σ late i ≠ 2 := by
    intro i o d ho hd hk
    obtain ⟨o', ho', hs⟩ := hstore i (kindX_two hk)
    rw [ho] at ho'
    cases ho'
    simp [isStore, hd] at hs
  have hearly : ∀ i, σ.head? = some i → ∀ o, l[i]? = some o → ∀ j, j < l.length → kindX σ late j = 0 → edgeOn o j = true := by
    intro i hi o ho j hj hk
    cases σ with
    | nil => cases hi
    | cons i' σ' =>
      simp only [List.head?_cons, Option.some.injEq] at hi
      subst hi
      have := List.all_eq_true.1 hfirst j (List.mem_range.2 hj)
      simp only [List.getElem?_toArray, ho, hk] at this
      simpa using this
  have fin : ∀ (π ρ : List Nat) (s : Nat → Value) (listed : Array Bool) (a : Act) (w : World), InvX P T R w0 Q a0 l es σ late π ρ s listed a w → (∀ j, j < l.length → listed.getD j false = true) → Q .normal a w := by
    intro π ρ s listed a w inv hall
    have hρ : ρ = [] := by
      cases ρ with
      | nil => rfl
      | cons i ρ =>
        have hm : i ∈ σ := by rw [inv.split]; simp
        obtain ⟨o, ho, _⟩ := hstore i hm
        have h1 := hall i (List.getElem?_eq_some_iff.1 ho).1
        rw [inv.wait i (by simp)] at h1
        cases h1
    rcases inv.phase with ⟨hp, _⟩ | ⟨_, hc⟩
    · have : σ = [] := by rw [inv.split, hp, hρ]; rfl
      subst this
      cases hfirst
    · rw [hρ] at hc
      have hq : Q .normal (layF l es 0 s a0) w := hc
      have ha : a = layF l es 0 s a0 := by
        have h1 : a.tmps = (layF l es 0 s a0).tmps := by
          apply Array.ext_getElem?
          intro d
          by_cases hd : ∃ (j : Nat) (o : Oper), l[j]? = some o ∧ o.dst = some d
          · obtain ⟨j, o, ho, hd⟩ := hd
            have hj := (List.getElem?_eq_some_iff.1 ho).1
            obtain ⟨E, hE⟩ := hEat j hj
            rw [inv.owed j o d ho (hall j hj) hd, layF_at l es 0 s a0 j o E d hap ho hE hd (hsl j o d ho hd)]
            rw [Nat.zero_add, inv.fill j E hE (hall j hj) (hkd j o d ho hd)]
          · rw [inv.other d (fun j o ho _ hdo => hd ⟨j, o, ho, hdo⟩), layF_other]
            intro o ho hdo
            obtain ⟨j, hj, hjo⟩ := List.mem_iff_getElem.1 ho
            exact hd ⟨j, o, by rw [List.getElem?_eq_getElem hj, hjo], hdo⟩
        have h2 : a.defers = (layF l es 0 s a0).defers := by rw [layF_defers]; exact inv.defers
        cases a; simp_all
      rw [ha]; exact hq
  intro f
  induction f with
  | zero =>
    intro π ρ s listed a w inv hf
    have hall : ∀ j, j < l.length → listed.getD j false = true := fun j hj => by
      have := List.countP_eq_zero.1 hf.symm j (List.mem_range.2 hj)
      simpa using this
    refine ⟨?_, fin _ _ _ _ _ _ inv hall⟩
    refine List.eq_nil_iff_forall_not_mem.2 fun i hi => ?_
    obtain ⟨hun, o, ho, _⟩ := mem_ready.1 hi
    have hlt := (Array.getElem?_eq_some_iff.1 ho).1
    have := hall i (by simpa using hlt)
    rw [getD_both hun] at this
    cases this
  | succ f ih =>
    intro π ρ s listed a w inv hf
    have hsz : listed.size = l.length := by rw [inv.head.size]; simp
    have hlow : ∀ d i, i = d → i < l.length → listed.getD i false = false → ∃ j, j ∈ Region.ready .any l.toArray listed := by
      intro d
      induction d using Nat.strongRecOn with
      | _ d ihd =>
        intro i hid hi hl
        by_cases hb : ∃ j, j < i ∧ listed.getD j false = false
        · obtain ⟨j, hj, hjl⟩ := hb
          exact ihd j (by omega) j rfl (by omega) hjl
        · refine ⟨i, mem_ready.2 ⟨getD_in (by omega) hl, l[i]'(by omega), by simp, fun e he hbd => ?_⟩⟩
          have h1 := List.all_eq_true.1 hback i (List.mem_range.2 hi)
          rw [show l.toArray[i]? = some (l[i]'(by omega)) from by simp] at h1
          have h2 := Array.all_eq_true'.1 h1 e he
          rw [hbd] at h2
          have h3 : e.on < i := by simpa using h2
          cases hle : listed.getD e.on false with
          | true => rfl
          | false => exact absurd ⟨e.on, h3, hle⟩ hb
    refine ⟨fun h0 => ?_, fun i hi => ?_⟩
    · refine fin _ _ _ _ _ _ inv fun j hj => ?_
      cases hl : listed.getD j false with
      | true => rfl
      | false =>
        obtain ⟨j', hj'⟩ := hlow j j rfl hj hl
        rw [h0] at hj'; cases hj'
    obtain ⟨hun, o, hoa, hdep⟩ := mem_ready.1 hi
    have hdep : ∀ e ∈ o.after, Region.binds .any e = true → listed.getD e.on false = true := hdep
    have ho : l[i]? = some o := by simpa using hoa
    have hin : i < l.length := (List.getElem?_eq_some_iff.1 ho).1
    have hil : listed.getD i false = false := getD_both hun
    have hls : i < listed.size := by omega
    have hseti : (listed.setIfInBounds i true).getD i false = true := by simp [hls]
    obtain ⟨E, hE⟩ := hEat i hin
    have hgood := q3 i o E ho hE
    have hcnt : f = (List.range l.length).countP (fun j => !(listed.setIfInBounds i true).getD j false) := by
      have hcd := countP_drop (p := fun j => !listed.getD j false) (p' := fun j => !(listed.setIfInBounds i true).getD j false) (i := i) (l := List.range l.length) List.nodup_range (List.mem_range.2 hin) (by simp only [hil]; rfl) (by simp [hls]) (fun j hj => by simp only [getD_set_ne false (Ne.symm hj)])
      omega
    have hhead := inv.head.set hi hin
    have hagm : ∀ m, i ≤ m → ∀ d ∈ o.looksAt l.toArray, (layF (l.take m) (es.take m) 0 s a0).tmps[d]? = a.tmps[d]? := fun m hm =>
      agree_lay hlook hap hsl q1 ho hm hdep (fun j oj E hoj hE hl d hd => ⟨inv.fill j E hE hl (hkd j oj d hoj hd), inv.owed j oj d hoj hl hd⟩) inv.other
    rcases kindX_cases (σ := σ) (late := late) i with hk | hk | hk
    · rw [hk] at hgood
      obtain ⟨hm, hf', hstep⟩ := hgood
      rcases inv.phase with ⟨hπ, hR, hphi⟩ | ⟨he, _⟩
      · have hdp : depPhi ((es.take i).map (·.phi)) s w o.after.toList := depPhi_of fun e he hb F hF => by
          rw [List.getElem?_map] at hF
          obtain ⟨E', hE', rfl⟩ := Option.map_eq_some_iff.1 hF
          have hlt : e.on < i := by
            have := (List.getElem?_eq_some_iff.1 hE').1
            simp at this; omega
          have hE'' : es[e.on]? = some E' := by rw [List.getElem?_take_of_lt hlt] at hE'; exact hE'
          have hle := hdep e (by simpa using he) hb
          have hg := q3 e.on (l[e.on]'(by omega)) E' (List.getElem?_eq_getElem (by omega)) hE''
          rcases kindX_cases (σ := σ) (late := late) e.on with hk' | hk' | hk'
          · exact hphi e.on E' hE'' hle hk'
          · have hfl := inv.fill e.on E' hE'' hle (by omega)
            rw [hk'] at hg
            obtain ⟨u, h1, h2, _⟩ := hg
            rw [h1]
            rw [h2] at hfl
            exact hfl.symm
          · rw [hk'] at hg
            exact hg _ _
        have hst' := hstep s w hR hdp
        refine op_moves hsel hoa (hagm i (Nat.le_refl _)) (fun x a' w' hp => ⟨hp.1, hp.2.1.trans (layF_defers _ _ _ _ _).symm⟩) hst' ?_
        intro v w' hp
        obtain ⟨_, _, hR', hF⟩ := hp
        obtain ⟨so, sh⟩ := slots_put (aL := layF (l.take i) (es.take i) 0 s a0) v hap hsl ho hsz inv.size (layF_size _ _ _ _ _) inv.owed inv.other
        refine ih π ρ (fun j => if j = i then slotOf o ((layF (l.take i) (es.take i) 0 s a0).put o.dst v) else s j) _ _ _ ⟨hRT _ (hRt hR hR'), hhead, inv.split, fun j hj => getD_set_true (inv.come j hj), fun j hj => ?_, (put_defers' _ _ _).trans inv.defers, (put_size _ _ _).trans inv.size, ?_, so, sh, .inl ⟨hπ, hRt hR hR', ?_⟩⟩ hcnt
        · have : i ≠ j := fun e => by
            have := kindX_store (late := late) (show j ∈ σ by rw [inv.split]; simp [hj])
            rw [← e, hk] at this
            cases this
          rw [getD_set_ne false this]
          exact inv.wait j hj
        · intro j Ej hEj hl hk'
          by_cases hji : j = i
          · subst hji
            have : Ej = E := Option.some.inj (hEj.symm.trans hE)
            subst this
            simp only [if_true]
            exact hf' _ _ hF
          · simp only [if_neg hji]
            rw [getD_set_ne false (Ne.symm hji)] at hl
            exact inv.fill j Ej hEj hl hk'
        · intro j Ej hEj hl hk'
          by_cases hji : j = i
          · subst hji
            have : Ej = E := Option.some.inj (hEj.symm.trans hE)
            subst this
            simp only [if_true]
            exact hF
          · simp only [if_neg hji]
            rw [getD_set_ne false (Ne.symm hji)] at hl
            have hj : j < l.length := by have := (List.getElem?_eq_some_iff.1 hEj).1; omega
            have hg := q3 j (l[j]'hj) Ej (List.getElem?_eq_getElem hj) hEj
            rw [hk'] at hg
            exact hg.1 _ _ _ hR' (hphi j Ej hEj hl hk')
      · have := he i hin hk
        rw [hil] at this
        cases this
    · rw [hk] at hgood
      obtain ⟨u, hphi, hfill, hstep⟩ := hgood
      refine op_moves hsel hoa (hagm i (Nat.le_refl _)) (fun x a' w' hp => ⟨hp.1, hp.2.1.trans (layF_defers _ _ _ _ _).symm⟩) (hstep s w inv.inT) ?_
      intro v w' hp
      obtain ⟨_, _, rfl, hu⟩ := hp
      obtain ⟨so, sh⟩ := slots_put (aL := layF (l.take i) (es.take i) 0 s a0) v hap hsl ho hsz inv.size (layF_size _ _ _ _ _) inv.owed inv.other
      refine ih π ρ (fun j => if j = i then slotOf o ((layF (l.take i) (es.take i) 0 s a0).put o.dst v) else s j) _ _ _ ⟨inv.inT, hhead, inv.split, fun j hj => getD_set_true (inv.come j hj), fun j hj => ?_, (put_defers' _ _ _).trans inv.defers, (put_size _ _ _).trans inv.size, ?_, so, sh, ?_⟩ hcnt
      · have : i ≠ j := fun e => by
          have := kindX_store (late := late) (show j ∈ σ by rw [inv.split]; simp [hj])
          rw [← e, hk] at this
          cases this
        rw [getD_set_ne false this]
        exact inv.wait j hj
      · intro j Ej hEj hl hk'
        by_cases hji : j = i
        · subst hji
          have : Ej = E := Option.some.inj (hEj.symm.trans hE)
          subst this
          simp only [if_true]
          rw [hfill]
          exact hu.symm
        · simp only [if_neg hji]
          rw [getD_set_ne false (Ne.symm hji)] at hl
          exact inv.fill j Ej hEj hl hk'
      · rcases inv.phase with ⟨hπ, hR, hph⟩ | ⟨he, hc⟩
        · refine .inl ⟨hπ, hR, fun j Ej hEj hl hk' => ?_⟩
          have hji : j ≠ i := fun e => by rw [e, hk] at hk'; cases hk'
          simp only [if_neg hji]
          rw [getD_set_ne false (Ne.symm hji)] at hl
          exact hph j Ej hEj hl hk'
        · refine .inr ⟨fun j hj hk' => getD_set_true (he j hj hk'), ?_⟩
          rw [layF_congr l es 0 _ s a0 (fun j Ej hEj => ?_)]
          · exact hc
          · rw [Nat.zero_add]
            by_cases hji : j = i
            · subst hji
              have : Ej = E := Option.some.inj (hEj.symm.trans hE)
              subst this
              rw [hfill]
            · simp only [if_neg hji]
    · have hiσ := kindX_two hk
      have hiρ : i ∈ ρ := by
        have h1 := hiσ
        rw [inv.split] at h1
        rcases List.mem_append.1 h1 with h1 | h1
        · have := inv.come i h1
          rw [hil] at this
          cases this
        · exact h1
      obtain ⟨ρ', hρ⟩ : ∃ ρ', ρ = i :: ρ' := by
        cases ρ with
        | nil => cases hiρ
        | cons h ρ' =>
          rcases List.mem_cons.1 hiρ with rfl | hm
          · exact ⟨ρ', rfl⟩
          · rw [inv.split] at hch
            obtain ⟨j, hj, o', ho', hed⟩ := chain_pred h ρ' i (chain_tail π _ hch) hm
            have : o' = o := Option.some.inj (ho'.symm.trans hoa)
            subst this
            have h1 := edge_listed hed hdep
            rw [inv.wait j hj] at h1
            cases h1
      subst hρ
      obtain ⟨o', ho', hso⟩ := hstore i hiσ
      have : o' = o := Option.some.inj (ho'.symm.trans ho)
      subst this
      have hdn : o'.dst = none := by
        simp only [isStore, Bool.and_eq_true, Option.isNone_iff_eq_none] at hso
        exact hso.1.1
      have hgo : ∃ s1 : Nat → Value, (∀ (j : Nat) (E : Ent), es[j]? = some E → listed.getD j false = true → kindX σ late j ≠ 2 → E.fill (s1 j) = s1 j) ∧
          (∀ (j : Nat) (oj : Oper) (d : Tmp), l[j]? = some oj → listed.getD j false = true → oj.dst = some d → a.tmps[d]? = some (s1 j)) ∧ (∀ j, j < l.length → kindX σ late j = 0 → listed.getD j false = true) ∧ TailX P l.toArray T Q ((i :: ρ').filterMap fun i => l[i]?) (layF l es 0 s1 a0) w := by
        rcases inv.phase with ⟨hπ, hR, hph⟩ | ⟨he, hc⟩
        · have hsp := inv.split
          rw [hπ, List.nil_append] at hsp
          have hel : ∀ j, j < l.length → kindX σ late j = 0 → listed.getD j false = true := fun j hj hk' => edge_listed (hearly i (by rw [hsp]; rfl) o' ho j hj hk') hdep
          obtain ⟨s1, hs1⟩ : ∃ s1 : Nat → Value, s1 = fun j => match es[j]? with | some E => if kindX σ late j = 1 then E.fill (s j) else s j | none => s j := ⟨_, rfl⟩
          have same : ∀ (j : Nat) (E : Ent), es[j]? = some E → listed.getD j false = true → kindX σ late j ≠ 2 → s1 j = s j := fun j E hE hl hk' => by
            rw [hs1]
            simp only [hE]
            split
            · exact inv.fill j E hE hl hk'
            · rfl
          refine ⟨s1, fun j E hE hl hk' => by rw [same j E hE hl hk']; exact inv.fill j E hE hl hk', fun j oj d hoj hl hd => ?_, hel, ?_⟩
          · obtain ⟨E, hE⟩ := hEat j (List.getElem?_eq_some_iff.1 hoj).1
            rw [same j E hE hl (hkd j oj d hoj hd)]
            exact inv.owed j oj d hoj hl hd
          · have hq := q4 s1 w hR (allPhi_of fun j F hF => by
              rw [List.getElem?_map] at hF
              obtain ⟨E, hE, rfl⟩ := Option.map_eq_some_iff.1 hF
              rw [Nat.zero_add]
              have hj : j < l.length := by have := (List.getElem?_eq_some_iff.1 hE).1; omega
              have hg := q3 j (l[j]'hj) E (List.getElem?_eq_getElem hj) hE
              rcases kindX_cases (σ := σ) (late := late) j with hk' | hk' | hk'
              · rw [same j E hE (hel j hj hk') (by omega)]
                exact hph j E hE (hel j hj hk') hk'
              · rw [hk'] at hg
                obtain ⟨u, h1, h2, _⟩ := hg
                rw [h1, hs1]
                simp only [hE, hk', if_true, h2]
              · rw [hk'] at hg
                exact hg _ _)
            rwa [hsp] at hq
        · exact ⟨s, inv.fill, inv.owed, he, hc⟩
      obtain ⟨s1, f1, f2, f3, f4⟩ := hgo
      rw [List.filterMap_cons, ho] at f4
      have hst' := f4
      unfold TailX at hst'
      have hag1 : ∀ d ∈ o'.looksAt l.toArray, (layF l es 0 s1 a0).tmps[d]? = a.tmps[d]? := fun d hd => by
        have := agree_lay (m := l.length) hlook hap hsl q1 ho (by omega) hdep (fun j oj E hoj hE hl d hd => ⟨f1 j E hE hl (hkd j oj d hoj hd), f2 j oj d hoj hl hd⟩) inv.other d hd
        rwa [List.take_length, ← q1, List.take_length] at this
      refine op_moves hsel hoa hag1 (fun x a' w' hp => ⟨hp.1, by rw [hp.2.1]⟩) hst' ?_
      intro v w' hp
      obtain ⟨_, _, hT', hrest⟩ := hp
      have hpa : a.put o'.dst v = a := by rw [hdn]; rfl
      rw [hpa]
      refine ih (π ++ [i]) ρ' s1 _ _ _ ⟨hT', hhead, by rw [inv.split]; simp, ?_, ?_, inv.defers, inv.size, ?_, ?_, ?_, .inr ⟨fun j hj hk' => getD_set_true (f3 j hj hk'), hrest⟩⟩ hcnt
      · intro j hj
        rcases List.mem_append.1 hj with hj | hj
        · exact getD_set_true (inv.come j hj)
        · have : j = i := by simpa using hj
          rw [this]; exact hseti
      · intro j hj
        have hne : i ≠ j := by
          rintro rfl
          rw [inv.split] at hnd
          exact (List.nodup_cons.1 (List.nodup_append.1 hnd).2.1).1 hj
        rw [getD_set_ne false hne]
        exact inv.wait j (List.mem_cons_of_mem _ hj)
      · intro j Ej hEj hl hk'
        have hji : i ≠ j := fun e => hk' (by rw [← e]; exact hk)
        rw [getD_set_ne false hji] at hl
        exact f1 j Ej hEj hl hk'
      · intro j oj d hoj hl hd
        have hji : i ≠ j := by
          rintro rfl
          have : oj = o' := Option.some.inj (hoj.symm.trans ho)
          rw [this, hdn] at hd
          cases hd
        rw [getD_set_ne false hji] at hl
        exact f2 j oj d hoj hl hd
      · intro d hd
        exact inv.other d fun j oj hoj hl => hd j oj hoj (getD_set_true hl)
theorem wp_region_relX {id : Nat} {a : Act} {w : World} {l : List Oper} (σ late : List Nat) (T : World → Prop) (R : World → World → Prop) (hm : P.follows .mixedOrders = true) (hB : relX l.toArray σ late = true) (hA : slotsIn a l = true) (hRt : ∀ {x y z}, R x y → R y z → R x z) (hR0 : R w w.drew) (hRT : ∀ x, R w x → T x)
    (h : RelX P l.toArray T R w Q (σ.filterMap fun i => l[i]?) a.defers σ late l 0 [] (fun _ => a)) : (Code.region id l.toArray true).wp P Q a w := by
  obtain ⟨es, q1, q3, q4⟩ := RelX.extract _ _ _ _ h
  refine wp_region_any hm ?_
  refine wpAny_relX (R := R) (w0 := w) (a0 := a) (es := es) (σ := σ) (late := late) hRt hRT hB hA q1 (fun i o E ho hE => by simpa using q3 i o E ho hE) (fun s w' hR ha => by simpa using q4 s w' hR (by simpa using ha)) _ [] σ (fun j => undef) _ a _ ⟨hRT _ hR0, ⟨by simp, fun j oj _ hl => (by rw [getD_replicate_false] at hl; cases hl), fun t h1 h2 => (by simp at h2; omega)⟩, rfl, fun _ h => (by cases h), fun _ _ => getD_replicate_false _ _, rfl, rfl, fun j E _ hl => (by rw [getD_replicate_false] at hl; cases hl), fun j o d _ hl => (by rw [getD_replicate_false] at hl; cases hl), fun _ _ => rfl, .inl ⟨rfl, hR0, fun j E _ hl => (by rw [getD_replicate_false] at hl; cases hl)⟩⟩ ?_
  rw [List.countP_eq_length.2 (fun i _ => by rw [getD_replicate_false]; rfl)]
  simp
section
variable {o : Oper} {rest : List Oper} {k : Nat} {phis : List (Value → World → Prop)} {A : (Nat → Value) → Act}
theorem RelX.still (u : Value) (A' : (Nat → Value) → Act) (hk : kindX σ late k = 0) (h : ∀ s w, R w0 w → wpList P ops (relPost R (fun v _ => v = u) o df w) [o] (A s) w) (hA : ∀ s, (A s).put o.dst u = A' s)
    (hr : RelX P ops T R w0 Q tail df σ late rest (k + 1) (phis ++ [fun v _ => v = u]) A') : RelX P ops T R w0 Q tail df σ late (o :: rest) k phis A :=
  ⟨⟨fun v _ => v = u, fun _ => u⟩, by rw [hk]; exact ⟨fun _ _ _ _ h => h, fun _ _ h => h.symm, fun s w hR _ => h s w hR⟩, by
    have e : (fun s => (A s).put o.dst ((fun _ => u) (s k))) = A' := funext hA
    rw [e]; exact hr⟩
theorem RelX.owes (Φ : Value → World → Prop) (A' : (Nat → Value) → Act) (hk : kindX σ late k = 0) (hm : ∀ v w w', R w w' → Φ v w → Φ v w') (h : ∀ s w, R w0 w → depPhi phis s w o.after.toList → wpList P ops (relPost R Φ o df w) [o] (A s) w) (hA : ∀ s, (A s).put o.dst (s k) = A' s)
    (hr : RelX P ops T R w0 Q tail df σ late rest (k + 1) (phis ++ [Φ]) A') : RelX P ops T R w0 Q tail df σ late (o :: rest) k phis A :=
  ⟨⟨Φ, fun v => v⟩, by rw [hk]; exact ⟨hm, fun _ _ _ => rfl, h⟩, by
    have e : (fun s => (A s).put o.dst ((fun v => v) (s k))) = A' := funext hA
    rw [e]; exact hr⟩
/-- An operation that needs no world. -/
theorem RelX.idle (u : Value) (A' : (Nat → Value) → Act) (hk : kindX σ late k = 1) (h : ∀ s w, T w → wpList P ops (stillX u o df w) [o] (A s) w) (hA : ∀ s, (A s).put o.dst u = A' s)
    (hr : RelX P ops T R w0 Q tail df σ late rest (k + 1) (phis ++ [fun v _ => v = u]) A') : RelX P ops T R w0 Q tail df σ late (o :: rest) k phis A :=
  ⟨⟨fun v _ => v = u, fun _ => u⟩, by rw [hk]; exact ⟨u, rfl, rfl, h⟩, by
    have e : (fun s => (A s).put o.dst ((fun _ => u) (s k))) = A' := funext hA
    rw [e]; exact hr⟩
theorem RelX.store (hk : kindX σ late k = 2) (hd : o.dst = none) (hr : RelX P ops T R w0 Q tail df σ late rest (k + 1) (phis ++ [fun _ _ => True]) A) : RelX P ops T R w0 Q tail df σ late (o :: rest) k phis A :=
  ⟨⟨fun _ _ => True, fun v => v⟩, by rw [hk]; exact fun _ _ => trivial, by
    have e : (fun s => (A s).put o.dst ((fun v => v) (s k))) = A := funext fun s => by rw [hd]; rfl
    rw [e]; exact hr⟩
end
end
end Go.Proofs.Ytcbccogpogdbmaa
