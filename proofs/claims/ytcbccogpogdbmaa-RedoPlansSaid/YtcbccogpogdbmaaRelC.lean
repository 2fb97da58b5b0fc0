/- A region that draws its order, with one operation in its middle that turns the world: all ahead of it only read, all behind it wait for it. -/
import Derived.Test.YtcbccogpogdbmaaRel
namespace Go.Proofs.Ytcbccogpogdbmaa
open Go
section
variable {ops : Array Oper} {md : Region.Mode}
def chainC (md : Region.Mode) (ops : Array Oper) (n : Nat) : Bool :=
  (List.range ops.size).all fun t => decide (t ≤ n) || (List.range t).any fun u => decide (n ≤ u) && Region.waitsFor md ops t u
theorem tail_waitsC {n : Nat} {listed : Array Bool} (hs : Region.sinkB md ops n = true) (hc : chainC md ops n = true) (inv : HeadInv md ops n listed) :
    ∀ (d i : Nat), n - i = d → i < n → listed.getD i true = false → ∀ t, n ≤ t → t ∉ Region.ready md ops listed := by
  intro d
  induction d using Nat.strongRecOn with
  | _ d ih =>
    intro i hd hi hun t ht hr
    obtain ⟨_, ot, hot, hall⟩ := mem_ready.1 hr
    have htlt : t < ops.size := (Array.getElem?_eq_some_iff.1 hot).1
    by_cases htn : t = n
    · subst htn
      have h1 := List.all_eq_true.1 hs i (List.mem_range.2 hi)
      obtain ⟨j, hj, hj2⟩ := List.any_eq_true.1 h1
      simp only [Bool.and_eq_true, decide_eq_true_eq] at hj2
      obtain ⟨oj, hoj, e, he, hb, hon⟩ := Region.waitsFor_spec hj2.2
      have hjle : j ≤ t := by have := List.mem_range.1 hj; omega
      by_cases hjt : j = t
      · subst hjt
        have : oj = ot := Option.some.inj (hoj.symm.trans hot)
        subst this
        have h2 := hall e he hb
        rw [hon, getD_both hun] at h2
        cases h2
      · cases hl : listed.getD j false with
        | true =>
          have h2 := inv.closed j oj hoj hl e he hb
          rw [hon, getD_both hun] at h2
          cases h2
        | false =>
          have hjs : j < listed.size := by rw [inv.size]; omega
          exact ih (t - j) (by omega) j rfl (by omega) (getD_in hjs hl) t (Nat.le_refl _) hr
    · have h1 := List.all_eq_true.1 hc t (List.mem_range.2 htlt)
      simp only [Bool.or_eq_true, decide_eq_true_eq] at h1
      rcases h1 with h1 | h1
      · omega
      · obtain ⟨u, hu, hu2⟩ := List.any_eq_true.1 h1
        simp only [Bool.and_eq_true, decide_eq_true_eq] at hu2
        obtain ⟨o', ho', e, he, hb, hon⟩ := Region.waitsFor_spec hu2.2
        have : o' = ot := Option.some.inj (ho'.symm.trans hot)
        subst this
        have h2 := hall e he hb
        have hut := List.mem_range.1 hu
        rw [hon, getD_both (inv.tail u hu2.1 (by omega))] at h2
        cases h2
end
section
variable {P : Program} {ops : Array Oper} {R : World → World → Prop} {w0 : World} {Q : Exit → Act → World → Prop} {tail : List Oper}
/-- Of the operations from m to n: each looks at slots of theirs by its own edges only. -/
def relLooksFrom (ops : Array Oper) (m n : Nat) : Bool :=
  (List.range n).all fun i => decide (i < m) || (List.range n).all fun j => match ops[i]?, ops[j]? with
    | some oi, some oj => match oj.dst with
      | some d => !(oi.looksAt ops).contains d || (decide (j < i) && oi.after.any fun e => e.on == j && Region.binds .any e)
      | none => true
    | _, _ => true
theorem wpAny_relK {a0 : Act} {n m : Nat} {es : List Ent} {l : List Oper} (g : Nat) (hRt : ∀ {x y z}, R x y → R y z → R x z) (hn : n ≤ l.length) (hsel : Region.noSelect l.toArray = true) (hlook : relLooksFrom l.toArray m n = true) (hback : relBack l.toArray n = true) (hap : dstApart (l.toArray.toList.take n) = true)
    (hready : ∀ listed, HeadInv .any l.toArray n listed → (∃ i, i < n ∧ listed.getD i true = false) → ∀ t, n ≤ t → t ∉ Region.ready .any l.toArray listed) (hA : slotsIn a0 (l.take n) = true)
    (q1 : es.length = (l.take n).length) (q2 : ∀ E ∈ es, (∀ v w w', R w w' → E.phi v w → E.phi v w') ∧ ∀ v w, E.phi v w → E.fill v = v)
    (q3 : ∀ i o E, m ≤ i → (l.take n)[i]? = some o → es[i]? = some E → ∀ s w, R w0 w → depPhi (([] : List (Value → World → Prop)) ++ (es.take i).map (·.phi)) s w o.after.toList → wpList P l.toArray (relPost R E.phi o a0.defers w) [o] (layF ((l.take n).take i) (es.take i) 0 s a0) w)
    (q4 : ∀ s w, R w0 w → allPhi s w (([] : List (Value → World → Prop)) ++ es.map (·.phi)) 0 → wpAny P .any l.toArray Q g (fullTo l.toArray.size n) (layF (l.take n) es 0 s a0) w) :
    ∀ (f : Nat) (s : Nat → Value) (listed : Array Bool) (a : Act) (w : World), RelInv l.toArray R w0 a0 n es s listed a w → (∀ j, j < m → listed.getD j false = true) → f = (List.range n).countP (fun i => !listed.getD i false) + g → wpAny P .any l.toArray Q f listed a w := by
  have hps : (l.take n).length = n := by simp; omega
  have hat : ∀ j, j < n → (l.take n)[j]? = l[j]? := fun j hj => List.getElem?_take_of_lt hj
  have hsl : ∀ j o d, j < n → l.toArray[j]? = some o → o.dst = some d → d < a0.tmps.size := by
    intro j o d hj ho hd
    have hm : o ∈ l.take n := List.mem_of_getElem? (i := j) (by rw [hat j hj]; simpa using ho)
    have := List.all_eq_true.1 hA o hm
    rw [hd] at this
    simpa using this
  have hEat : ∀ j, j < n → ∃ E, es[j]? = some E := fun j hj => ⟨_, List.getElem?_eq_getElem (by rw [q1, hps]; exact hj)⟩
  have done : ∀ (s : Nat → Value) (listed : Array Bool) (a : Act) (w : World), RelInv l.toArray R w0 a0 n es s listed a w → (List.range n).countP (fun i => !listed.getD i false) = 0 → wpAny P .any l.toArray Q g listed a w := by
    intro s listed a w inv hc
    have hall : ∀ j, j < n → listed.getD j false = true := fun j hj => by
      have := List.countP_eq_zero.1 hc j (List.mem_range.2 hj)
      simpa using this
    have hfull : listed = fullTo l.toArray.size n := by
      apply Array.ext_getElem?
      intro j
      by_cases hj : j < l.length
      · have hjs : j < listed.size := by rw [inv.head.size]; simpa using hj
        have e1 : (fullTo l.toArray.size n)[j]? = some (decide (j < n)) := by simp [fullTo, hj]
        rw [e1, Array.getElem?_eq_getElem hjs]
        by_cases hjn : j < n
        · have := hall j hjn
          simp [hjs] at this
          simp [this, hjn]
        · have := inv.head.tail j (by omega) (by simpa using hj)
          simp [hjs] at this
          simp [this, hjn]
      · rw [Array.getElem?_eq_none (by rw [inv.head.size]; simpa using Nat.le_of_not_lt hj), Array.getElem?_eq_none (by simp [fullTo]; omega)]
    have ha : a = layF (l.take n) es 0 s a0 := by
      have h1 : a.tmps = (layF (l.take n) es 0 s a0).tmps := by
        apply Array.ext_getElem?
        intro d
        by_cases hd : ∃ j o, j < n ∧ l.toArray[j]? = some o ∧ o.dst = some d
        · obtain ⟨j, o, hj, ho, hd⟩ := hd
          obtain ⟨E, hE⟩ := hEat j hj
          obtain ⟨p1, p2⟩ := inv.owed j o E hj ho hE (hall j hj)
          rw [p2 d hd, layF_at (l.take n) es 0 s a0 j o E d (by simpa using hap) (by rw [hat j hj]; simpa using ho) hE hd (hsl j o d hj ho hd)]
          rw [Nat.zero_add, (q2 E (List.mem_of_getElem? hE)).2 _ _ p1]
        · rw [inv.other d (fun j o hj ho _ hdo => hd ⟨j, o, hj, ho, hdo⟩)]
          rw [layF_other]
          intro o ho hdo
          obtain ⟨j, hj, hjo⟩ := List.mem_iff_getElem.1 ho
          have hjn : j < n := by rw [hps] at hj; exact hj
          exact hd ⟨j, o, hjn, by rw [List.getElem?_toArray, ← hat j hjn, List.getElem?_eq_getElem hj, hjo], hdo⟩
      have h2 : a.defers = (layF (l.take n) es 0 s a0).defers := by rw [layF_defers]; exact inv.defers
      cases a; simp_all
    have hfin := q4 s w inv.rel (allPhi_of fun j F hF => by
      rw [List.nil_append, List.getElem?_map] at hF
      obtain ⟨E, hE, rfl⟩ := Option.map_eq_some_iff.1 hF
      have hj : j < n := by have := (List.getElem?_eq_some_iff.1 hE).1; omega
      rw [Nat.zero_add]
      have hjl : j < l.length := by omega
      exact (inv.owed j l[j] E hj (by simp [hjl]) hE (hall j hj)).1)
    rw [← ha, ← hfull] at hfin
    exact hfin
  intro f
  induction f with
  | zero =>
    intro s listed a w inv hm hf
    have := done s listed a w inv (by omega)
    rwa [show g = 0 by omega] at this
  | succ f ih =>
    intro s listed a w inv hm hf
    by_cases hc : (List.range n).countP (fun i => !listed.getD i false) = 0
    · have := done s listed a w inv hc
      rwa [show g = f + 1 by omega] at this
    · obtain ⟨i0, hi0n, hi0⟩ : ∃ i, i < n ∧ listed.getD i false = false := by
        refine Classical.byContradiction fun hno => hc (List.countP_eq_zero.2 fun j hj => ?_)
        have hj' := List.mem_range.1 hj
        cases hl : listed.getD j false with
        | true => simp
        | false => exact absurd ⟨j, hj', hl⟩ hno
      have hsz : listed.size = l.length := by rw [inv.head.size]; simp
      have hlow : ∀ d i, i = d → i < n → listed.getD i false = false → ∃ j, j ∈ Region.ready .any l.toArray listed := by
        intro d
        induction d using Nat.strongRecOn with
        | _ d ihd =>
          intro i hid hi hl
          by_cases hb : ∃ j, j < i ∧ listed.getD j false = false
          · obtain ⟨j, hj, hjl⟩ := hb
            exact ihd j (by omega) j rfl (by omega) hjl
          · refine ⟨i, mem_ready.2 ⟨getD_in (by omega) hl, l[i]'(by omega), by simp, fun e he hbd => ?_⟩⟩
            have h1 := List.all_eq_true.1 hback i (List.mem_range.2 hi)
            rw [show l.toArray[i]? = some (l[i]'(by omega)) from by simp] at h1
            have h2 := Array.all_eq_true'.1 h1 e he
            rw [hbd] at h2
            have h3 : e.on < i := by simpa using h2
            cases hle : listed.getD e.on false with
            | true => rfl
            | false => exact absurd ⟨e.on, h3, hle⟩ hb
      refine ⟨fun h0 => ?_, fun i hi => ?_⟩
      · obtain ⟨j, hj⟩ := hlow i0 i0 rfl hi0n hi0
        rw [h0] at hj; cases hj
      have hin : i < n := by
        rcases Nat.lt_or_ge i n with h | h
        · exact h
        · exact absurd hi (hready listed inv.head ⟨i0, hi0n, getD_in (by omega) hi0⟩ i h)
      obtain ⟨hun, o, ho, hdep⟩ := mem_ready.1 hi
      obtain ⟨E, hE⟩ := hEat i hin
      have hpre : (l.take n)[i]? = some o := by rw [hat i hin]; simpa using ho
      have hmi : m ≤ i := by
        rcases Nat.lt_or_ge i m with h | h
        · have := hm i h
          rw [getD_both hun] at this
          cases this
        · exact h
      have hstep := q3 i o E hmi hpre hE s w inv.rel (depPhi_of fun e he hb F hF => by
        rw [List.nil_append, List.getElem?_map] at hF
        obtain ⟨E', hE', rfl⟩ := Option.map_eq_some_iff.1 hF
        have hlt : e.on < i := by
          have := (List.getElem?_eq_some_iff.1 hE').1
          simp at this; omega
        have hE'' : es[e.on]? = some E' := by rw [List.getElem?_take_of_lt hlt] at hE'; exact hE'
        have hlo : e.on < l.length := by omega
        exact (inv.owed e.on l[e.on] E' (by omega) (by simp [hlo]) hE'' (hdep e (by simpa using he) hb)).1)
      have hagree : ∀ d ∈ o.looksAt l.toArray, (layF ((l.take n).take i) (es.take i) 0 s a0).tmps[d]? = a.tmps[d]? := by
        intro d hd
        by_cases hdj : ∃ j oj, j < n ∧ l.toArray[j]? = some oj ∧ oj.dst = some d
        · obtain ⟨j, oj, hj, hoj, hdd⟩ := hdj
          have h01 := List.all_eq_true.1 hlook i (List.mem_range.2 hin)
          rw [Bool.or_eq_true, decide_eq_true_eq] at h01
          have h1 := List.all_eq_true.1 (h01.resolve_left (by omega)) j (List.mem_range.2 hj)
          rw [ho, hoj] at h1
          simp only [hdd] at h1
          have h2 : (o.looksAt l.toArray).contains d = true := by simpa using hd
          rw [h2] at h1
          simp only [Bool.not_true, Bool.false_or, Bool.and_eq_true, decide_eq_true_eq] at h1
          obtain ⟨hji, hany⟩ := h1
          obtain ⟨e, he, hb⟩ := Array.any_eq_true'.1 hany
          simp only [Bool.and_eq_true, beq_iff_eq] at hb
          have hlj := hdep e he hb.2
          rw [hb.1] at hlj
          obtain ⟨E', hE'⟩ := hEat j hj
          obtain ⟨p1, p2⟩ := inv.owed j oj E' hj hoj hE' hlj
          rw [p2 d hdd]
          have hap' : dstApart ((l.take n).take i) = true := by
            have : ∀ (k : Nat) (x : List Oper), dstApart x = true → dstApart (x.take k) = true := by
              intro k
              induction k with
              | zero => intro x _; simp [dstApart]
              | succ k ihk =>
                intro x hx
                cases x with
                | nil => simp [dstApart]
                | cons y x =>
                  simp only [dstApart, List.take_succ_cons, Bool.and_eq_true, List.all_eq_true] at hx ⊢
                  exact ⟨fun z hz => hx.1 z (List.mem_of_mem_take hz), ihk x hx.2⟩
            exact this i _ (by simpa using hap)
          rw [layF_at _ _ 0 s a0 j oj E' d hap' (by rw [List.getElem?_take_of_lt hji, hat j hj]; simpa using hoj) (by rw [List.getElem?_take_of_lt hji]; exact hE') hdd (hsl j oj d hj hoj hdd)]
          rw [Nat.zero_add, (q2 E' (List.mem_of_getElem? hE')).2 _ _ p1]
        · rw [inv.other d (fun j oj hj hoj _ hdo => hdj ⟨j, oj, hj, hoj, hdo⟩), layF_other]
          intro o' ho' hdo
          obtain ⟨j, hj, hjo⟩ := List.mem_iff_getElem.1 (List.mem_of_mem_take ho')
          have hjn : j < n := by rw [hps] at hj; exact hj
          exact hdj ⟨j, o', hjn, by rw [List.getElem?_toArray, ← hat j hjn, List.getElem?_eq_getElem hj, hjo], hdo⟩
      have hselo := Region.noSelect_spec hsel i o
      have hexec := execOp_agree (ops := l.toArray) (o := o) (fun cs b => hselo cs b ho) hagree
      have hwant := wanted_agree (ops := l.toArray) (o := o) hagree
      have hLs : (layF ((l.take n).take i) (es.take i) 0 s a0).tmps.size = a0.tmps.size := layF_size _ _ _ _ _
      have hLd : (layF ((l.take n).take i) (es.take i) 0 s a0).defers = a0.defers := layF_defers _ _ _ _ _
      have keep : ∀ v w', relPost R E.phi o a0.defers w .normal ((layF ((l.take n).take i) (es.take i) 0 s a0).put o.dst v) w' → wpAny P .any l.toArray Q f (listed.setIfInBounds i true) (a.put o.dst v) w' := by
        intro v w' hp
        obtain ⟨s', inv'⟩ := inv.step hRt (fun E hE => (q2 E hE).1) (by simpa using hap) hsl hi hin ho hE hLs hp
        refine ih s' _ _ _ inv' (fun j hj => by
          by_cases hji : i = j
          · subst hji
            omega
          · rw [getD_set_ne false hji]
            exact hm j hj) ?_
        have hcd := countP_drop (p := fun j => !listed.getD j false) (p' := fun j => !(listed.setIfInBounds i true).getD j false) (i := i) (l := List.range n) List.nodup_range (List.mem_range.2 hin) (by simp only [getD_both hun]; rfl) (by
          have hls : i < listed.size := by rw [inv.head.size]; exact (Array.getElem?_eq_some_iff.1 ho).1
          simp [hls]) (fun j hj => by simp only [getD_set_ne false (Ne.symm hj)])
        omega
      revert hstep keep hexec hwant hLd hLs
      generalize layF ((l.take n).take i) (es.take i) 0 s a0 = aL
      intro hstep hexec hwant hLs hLd keep
      unfold wpList at hstep
      unfold wpOp
      rw [ho]
      simp only
      rw [← hwant]
      by_cases hw : Region.wanted o (yielded l.toArray aL.tmps) = true
      · rw [if_pos hw] at hstep ⊢
        left
        rcases hstep with hstep | ⟨_, a'', w'', hp⟩
        · unfold Oper.wp at hstep ⊢
          rw [← hexec]
          generalize (execOp aL.eval o).run P w = r at hstep
          cases r with
          | ok nx w' =>
            cases nx <;> simp only [Oper.upon] at hstep ⊢
            case value v => exact keep v w' hstep
            case skip => exact keep undef w' hstep
            case defer d =>
              have h1 := hstep.2.1
              rw [put_defers'] at h1
              have h2 := congrArg List.length h1
              simp only [List.length_cons, hLd] at h2
              omega
            case enter fn args =>
              refine Calls.mono hstep ?_
              intro e w'' he
              cases e with
              | returned v => exact keep v w'' he
              | panicked c => exact absurd he.1 (by simp)
              | outgrown => obtain ⟨a'', w3, hp⟩ := he; exact absurd hp.1 (by simp)
            case row rw args =>
              refine Rows.mono hstep fun v w'' he => keep v w'' he
            all_goals exact hstep.elim
          | halt x w' =>
            cases x <;> simp only [Oper.upon] at hstep ⊢
            case panic v => exact absurd hstep.1 (by simp)
            all_goals exact hstep.elim
        · exact absurd hp.1 (by simp)
      · rw [if_neg hw] at hstep ⊢
        exact keep undef w hstep

/-- An operation that goes on in the text's way, among others. -/
theorem wpOp_of_list {o : Oper} {i : Nat} {post : Exit → Act → World → Prop} {a : Act} {w : World} (ho : ops[i]? = some o)
    (hpost : ∀ x a' w', post x a' w' → x = .normal ∧ a'.defers = a.defers) (hw : Region.wanted o (yielded ops a.tmps) = true) (h : wpList P ops post [o] a w) : wpOp P ops Q i (fun a' w' => (a'.tmps.size = a.tmps.size ∧ a'.defers = a.defers) ∧ post .normal a' w') a w := by
  have fin : ∀ v w', post .normal (a.put o.dst v) w' → ((a.put o.dst v).tmps.size = a.tmps.size ∧ (a.put o.dst v).defers = a.defers) ∧ post .normal (a.put o.dst v) w' := fun v w' hp => ⟨⟨put_size _ _ _, put_defers' _ _ _⟩, hp⟩
  unfold wpList at h
  unfold wpOp
  rw [ho]
  simp only
  rw [if_pos hw] at h ⊢
  left
  rcases h with h | ⟨_, a'', w'', hp⟩
  · unfold Oper.wp at h ⊢
    generalize (execOp a.eval o).run P w = r at h
    cases r with
    | ok nx w' =>
      cases nx <;> simp only [Oper.upon] at h ⊢
      case value v => exact fin v w' h
      case skip => exact fin undef w' h
      case defer d =>
        have h2 := congrArg List.length (hpost _ _ _ h).2
        rw [put_defers'] at h2
        simp at h2
      case enter fn args =>
        refine Calls.mono h ?_
        intro e w'' he
        cases e with
        | returned v => exact fin v w'' he
        | panicked c => exact absurd (hpost _ _ _ he).1 (by simp)
        | outgrown => obtain ⟨a'', w3, hp⟩ := he; exact absurd (hpost _ _ _ hp).1 (by simp)
      case row rw args =>
        refine Rows.mono h fun v w'' he => fin v w'' he
      all_goals exact h.elim
    | halt x w' =>
      cases x <;> simp only [Oper.upon] at h ⊢
      case panic v => exact absurd (hpost _ _ _ h).1 (by simp)
      all_goals exact h.elim
  · exact absurd (hpost _ _ _ hp).1 (by simp)
theorem layF_append : ∀ (os : List Oper) (es : List Ent) (os2 : List Oper) (es2 : List Ent) (k : Nat) (s : Nat → Value) (a : Act), os.length = es.length → layF (os ++ os2) (es ++ es2) k s a = layF os2 es2 (k + os.length) s (layF os es k s a)
  | [], [], _, _, k, s, a, _ => by simp [layF]
  | o :: os, [], _, _, _, _, _, h => by simp at h
  | [], E :: es, _, _, _, _, _, h => by simp at h
  | o :: os, E :: es, os2, es2, k, s, a, h => by
    simp only [List.cons_append, layF, List.length_cons]
    rw [layF_append os es os2 es2 (k + 1) s _ (by simpa using h)]
    congr 1
    omega
def stayE (a : Act) (o : Oper) : Ent := ⟨fun v _ => v = slotOf o a, fun _ => slotOf o a⟩
theorem put_stay (a : Act) (o : Oper) (h : ∀ d, o.dst = some d → d < a.tmps.size) : a.put o.dst (slotOf o a) = a := by
  cases ho : o.dst with
  | none => rfl
  | some d =>
    have hd := h d ho
    simp only [slotOf, ho, Act.put]
    have : a.tmps.setIfInBounds d (a.tmps[d]?.getD undef) = a.tmps := by
      apply Array.ext_getElem?
      intro j
      by_cases hj : d = j
      · subst hj
        rw [Array.getElem?_setIfInBounds_self_of_lt hd]
        simp [hd]
      · rw [Array.getElem?_setIfInBounds_ne hj]
    rw [this]
theorem layF_stay (a : Act) : ∀ (os : List Oper) (k : Nat) (s : Nat → Value), (∀ o ∈ os, ∀ d, o.dst = some d → d < a.tmps.size) → layF os (os.map (stayE a)) k s a = a
  | [], _, _, _ => rfl
  | o :: os, k, s, h => by
    simp only [List.map_cons, layF, stayE]
    rw [put_stay a o (h o (by simp))]
    exact layF_stay a os (k + 1) s (fun o' ho' => h o' (by simp [ho']))
/-- What is to be shown behind the one that turns the world. -/
def RelRest (P : Program) (ops : Array Oper) (R : World → World → Prop) (Q : Exit → Act → World → Prop) (df : List Deferred) (rest : List Oper) (k : Nat) (a : Act) (w : World) : Prop :=
  RelW P ops R w Q [] df rest k (List.replicate k (fun _ _ => True)) (fun _ => a)
def relCB (ops : Array Oper) (c : Nat) : Bool :=
  Region.noSelect ops && decide (c < ops.size) && Region.sinkB .any ops c && chainC .any ops c && relLooksFrom ops 0 c && relLooksFrom ops (c + 1) ops.size && relBack ops ops.size && dstApart ops.toList && dstApart (ops.toList.take c) && decide (Region.ready .any ops (fullTo ops.size c) = [c]) && decide (Region.ready .any ops (fullTo ops.size ops.size) = []) && (match ops[c]? with | some o => o.guard.isNone | none => false)
theorem fullTo_at (m n j : Nat) : (fullTo m n).getD j false = true ↔ j < m ∧ j < n := by
  unfold fullTo
  by_cases hj : j < m
  · simp [hj]
  · simp [hj]
theorem fullTo_set (m c : Nat) (hc : c < m) : (fullTo m c).setIfInBounds c true = fullTo m (c + 1) := by
  apply Array.ext_getElem?
  intro j
  by_cases hj : c = j
  · subst hj
    rw [Array.getElem?_setIfInBounds_self_of_lt (by simp [fullTo]; exact hc)]
    simp [fullTo, hc]
  · rw [Array.getElem?_setIfInBounds_ne hj]
    by_cases hm : j < m
    · simp [fullTo, hm]
      omega
    · rw [Array.getElem?_eq_none (by simp [fullTo]; omega), Array.getElem?_eq_none (by simp [fullTo]; omega)]
theorem depPhi_weaken {phis phis' : List (Value → World → Prop)} {s : Nat → Value} {w : World} (hp : ∀ (k : Nat) F', phis'[k]? = some F' → F' (s k) w ∨ ∃ F, phis[k]? = some F ∧ (F (s k) w → F' (s k) w)) : ∀ {l : List Edge}, depPhi phis s w l → depPhi phis' s w l
  | [], _ => trivial
  | e :: l, h => by
    refine ⟨fun hb => ?_, depPhi_weaken hp h.2⟩
    cases hF : phis'[e.on]? with
    | none => trivial
    | some F' =>
      rcases hp _ _ hF with h1 | ⟨F, h1, h2⟩
      · exact h1
      · have := h.1 hb
        rw [h1] at this
        exact h2 this
theorem allPhi_at {s : Nat → Value} {w : World} : ∀ {l : List (Value → World → Prop)} {k : Nat}, allPhi s w l k → ∀ (j : Nat) (F : Value → World → Prop), l[j]? = some F → F (s (k + j)) w
  | [], _, _, j, F, h => by simp at h
  | F :: l, k, h, 0, F', hj => by simp at hj; subst hj; exact h.1
  | F :: l, k, h, j + 1, F', hj => by
    have := allPhi_at h.2 j F' (by simpa using hj)
    rwa [show k + 1 + j = k + (j + 1) by omega] at this
/-- Behind the one that turns the world. -/
theorem wpAny_rest {l : List Oper} {c : Nat} {R2 : World → World → Prop} {a' : Act} {W1 : World} (hc : c < l.length) (hB : relCB l.toArray c = true) (hA : slotsIn a' l = true) (hRt : ∀ {x y z}, R2 x y → R2 y z → R2 x z) (hR2r : R2 W1 W1)
    (h : RelRest P l.toArray R2 Q a'.defers (l.drop (c + 1)) (c + 1) a' W1) : wpAny P .any l.toArray Q (l.length - (c + 1)) (fullTo l.length (c + 1)) a' W1 := by
  simp only [relCB, Bool.and_eq_true, decide_eq_true_eq] at hB
  obtain ⟨⟨⟨⟨⟨⟨⟨⟨⟨⟨⟨hsel, hcs⟩, hsink⟩, hchain⟩, hlookc⟩, hlook⟩, hback⟩, hap⟩, hapc⟩, hrc⟩, hre⟩, hg⟩ := hB
  unfold RelRest at h
  obtain ⟨es2, p1, p2, p3, p4⟩ := RelW.extract _ _ _ _ h
  have hd : ∀ o ∈ l, ∀ d, o.dst = some d → d < a'.tmps.size := by
    intro o ho d hd
    have := List.all_eq_true.1 hA o ho
    rw [hd] at this
    simpa using this
  have hlt : (l.take (c + 1)).length = c + 1 := by simp; omega
  have hstl : ((l.take (c + 1)).map (stayE a')).length = c + 1 := by rw [List.length_map, hlt]
  obtain ⟨st, hst⟩ : ∃ st, st = (l.take (c + 1)).map (stayE a') := ⟨_, rfl⟩
  rw [← hst] at hstl
  have hsplit : l.take l.length = l.take (c + 1) ++ l.drop (c + 1) := by rw [List.take_length, List.take_append_drop]
  have hsz : l.toArray.size = l.length := by simp
  rw [hsz] at hlook hback hre
  have hlay : ∀ s, layF (l.take (c + 1)) st 0 s a' = a' := fun s => by rw [hst]; exact layF_stay a' _ 0 s (fun o ho => hd o (List.mem_of_mem_take ho))
  have hstat : ∀ (j : Nat) o, j < c + 1 → l[j]? = some o → st[j]? = some (stayE a' o) := fun j o hj ho => by
    rw [hst, List.getElem?_map, List.getElem?_take_of_lt hj, ho]
    rfl
  refine wpAny_relK (P := P) (R := R2) (w0 := W1) (Q := Q) (a0 := a') (n := l.length) (m := c + 1) (es := st ++ es2) 0 hRt (Nat.le_refl _) hsel hlook hback (by simpa using hap) (fun listed inv _ t ht hr => ?_) (by rw [List.take_length]; exact hA) ?_ ?_ ?_ ?_ _ (fun j => match l[j]? with | some o => slotOf o a' | none => undef) _ a' W1 ⟨⟨by simp [fullTo], ?_, fun t ht ht' => by rw [hsz] at ht'; omega⟩, hR2r, rfl, rfl, ?_, fun _ _ => rfl⟩ (fun j hj => (fullTo_at _ _ _).2 ⟨by omega, hj⟩) ?_
  · obtain ⟨_, o, ho, _⟩ := mem_ready.1 hr
    have := (Array.getElem?_eq_some_iff.1 ho).1
    simp at this
    omega
  · rw [List.length_append, hstl, p1, List.take_length, List.length_drop]
    omega
  · intro E hE
    rcases List.mem_append.1 hE with hE | hE
    · rw [hst] at hE
      obtain ⟨o, _, rfl⟩ := List.mem_map.1 hE
      exact ⟨fun v w w' _ h => h, fun v w h => h.symm⟩
    · exact p2 E hE
  · intro i o E hmi ho hE s w hR hdep
    rw [List.take_length] at ho ⊢
    have hE' : es2[i - (c + 1)]? = some E := by rw [List.getElem?_append_right (by rw [hstl]; exact hmi), hstl] at hE; exact hE
    have ho' : (l.drop (c + 1))[i - (c + 1)]? = some o := by rw [List.getElem?_drop, show c + 1 + (i - (c + 1)) = i by omega]; exact ho
    have e1 : l.take i = l.take (c + 1) ++ (l.drop (c + 1)).take (i - (c + 1)) := by
      conv => lhs; rw [← List.take_append_drop (c + 1) l]
      rw [List.take_append, hlt, List.take_of_length_le (by rw [hlt]; exact hmi)]
    have e2 : (st ++ es2).take i = st ++ es2.take (i - (c + 1)) := by
      rw [List.take_append, hstl, List.take_of_length_le (by rw [hstl]; exact hmi)]
    rw [e1, e2, layF_append _ _ _ _ _ _ _ (by rw [hlt, hstl]), hlay, hlt, Nat.zero_add]
    refine p3 _ o E ho' hE' s w hR (depPhi_weaken (fun k F' hF' => ?_) hdep)
    rw [e2, List.map_append, List.nil_append]
    by_cases hk : k < c + 1
    · rw [List.getElem?_append_left (by simpa using hk), List.getElem?_replicate_of_lt hk] at hF'
      left
      rw [← Option.some.inj hF']
      trivial
    · right
      rw [List.getElem?_append_right (by simpa using Nat.le_of_not_lt hk), List.length_replicate] at hF'
      refine ⟨F', ?_, id⟩
      rw [List.getElem?_append_right (by rw [List.length_map, hstl]; omega), List.length_map, hstl]
      exact hF'
  · intro s w hR hall
    refine ⟨by rw [hsz]; exact hre, ?_⟩
    have hfin := p4 s w hR (allPhi_of fun j F hF => by
      rw [Nat.zero_add]
      by_cases hk : j < c + 1
      · rw [List.getElem?_append_left (by simpa using hk), List.getElem?_replicate_of_lt hk] at hF
        rw [← Option.some.inj hF]
        trivial
      · rw [List.getElem?_append_right (by simpa using Nat.le_of_not_lt hk), List.length_replicate] at hF
        have := allPhi_at hall j F (by
          rw [List.nil_append, List.map_append, List.getElem?_append_right (by rw [List.length_map, hstl]; omega), List.length_map, hstl]
          exact hF)
        rwa [Nat.zero_add] at this)
    rw [hsplit, layF_append _ _ _ _ _ _ _ (by rw [hlt, hstl]), hlay, hlt, Nat.zero_add]
    exact hfin
  · intro j oj hj hl e he hb
    have h1 := List.all_eq_true.1 hback j (List.mem_range.2 (by have := (Array.getElem?_eq_some_iff.1 hj).1; simpa using this))
    rw [hj] at h1
    have h2 := Array.all_eq_true'.1 h1 e he
    rw [hb] at h2
    have h3 : e.on < j := by simpa using h2
    obtain ⟨h4, h5⟩ := (fullTo_at _ _ _).1 hl
    exact (fullTo_at _ _ _).2 ⟨by omega, by omega⟩
  · intro j o E hj ho hE hl
    obtain ⟨h4, h5⟩ := (fullTo_at _ _ _).1 hl
    have ho' : l[j]? = some o := by simpa using ho
    rw [List.getElem?_append_left (by rw [hstl]; exact h5), hstat j o h5 ho'] at hE
    have hE := Option.some.inj hE
    subst hE
    simp only [ho']
    refine ⟨rfl, fun d hdd => ?_⟩
    have := hd o (List.mem_of_getElem? ho') d hdd
    simp [slotOf, hdd, this]
  · have : ∀ (m : Nat), m ≤ l.length → (List.range m).countP (fun i => !(fullTo l.length (c + 1)).getD i false) = m - (c + 1) := by
      intro m
      induction m with
      | zero => intro _; simp
      | succ m ih =>
        intro hm
        rw [List.range_succ, List.countP_append, ih (by omega)]
        simp only [List.countP_cons, List.countP_nil]
        by_cases hmc : m < c + 1
        · rw [(fullTo_at _ _ _).2 ⟨by omega, hmc⟩]
          simp
          omega
        · have : (fullTo l.length (c + 1)).getD m false = false := by
            cases hx : (fullTo l.length (c + 1)).getD m false with
            | false => rfl
            | true => exact absurd ((fullTo_at _ _ _).1 hx).2 hmc
          rw [this]
          simp
          omega
    rw [this l.length (Nat.le_refl _)]
    omega
/-- The law. -/
theorem wp_region_relC {id : Nat} {a : Act} {w : World} {l : List Oper} (c : Nat) (R R2 : World → World → Prop) (hm : P.follows .mixedOrders = true) (hB : relCB l.toArray c = true) (hA : slotsIn a l = true) (hRt : ∀ {x y z}, R x y → R y z → R x z) (hR0 : R w w.drew) (hR2t : ∀ {x y z}, R2 x y → R2 y z → R2 x z) (hR2r : ∀ x, R2 x x)
    (h : RelW P l.toArray R w (fun x a' w' => x = .normal ∧ a'.defers = a.defers ∧ RelRest P l.toArray R2 Q a.defers (l.drop (c + 1)) (c + 1) a' w') ((l.drop c).take 1) a.defers (l.take c) 0 [] (fun _ => a)) : (Code.region id l.toArray true).wp P Q a w := by
  obtain ⟨es, q1, q2, q3, q4⟩ := RelW.extract _ _ _ _ h
  have hB' := hB
  simp only [relCB, Bool.and_eq_true, decide_eq_true_eq] at hB'
  obtain ⟨⟨⟨⟨⟨⟨⟨⟨⟨⟨⟨hsel, hcs⟩, hsink⟩, hchain⟩, hlookc⟩, hlook⟩, hback⟩, hap⟩, hapc⟩, hrc⟩, hre⟩, hg⟩ := hB'
  have hc : c < l.length := by simpa using hcs
  have hsz : l.toArray.size = l.length := by simp
  obtain ⟨oc, hoc⟩ : ∃ oc, l[c]? = some oc := ⟨_, List.getElem?_eq_getElem hc⟩
  have hoc' : l.toArray[c]? = some oc := by simpa using hoc
  have htk : (l.drop c).take 1 = [oc] := by
    rw [List.drop_eq_getElem_cons hc]
    have := List.getElem?_eq_getElem hc
    rw [hoc] at this
    rw [← Option.some.inj this]
    rfl
  have hbackc : relBack l.toArray c = true := List.all_eq_true.2 fun i hi => by
    have := List.mem_range.1 hi
    exact List.all_eq_true.1 hback i (List.mem_range.2 (by omega))
  have hgn : oc.guard = none := by
    rw [hoc'] at hg
    simpa using hg
  refine wp_region_any hm ?_
  refine wpAny_relK (P := P) (R := R) (w0 := w) (Q := Q) (a0 := a) (n := c) (m := 0) (es := es) (l.length - c) hRt (by omega) hsel hlookc hbackc (by simpa using hapc) (fun listed inv hex t ht => ?_) (List.all_eq_true.2 fun o ho => List.all_eq_true.1 hA o (List.mem_of_mem_take ho)) q1 q2 (fun i o E _ => q3 i o E) (fun s w' hR hall => ?_) _ (fun _ => undef) _ a _ ⟨⟨by simp, fun j oj _ hl => (by rw [getD_replicate_false] at hl; cases hl), fun t _ ht => getD_in (by simpa using ht) (getD_replicate_false _ _)⟩, hR0, rfl, rfl, fun j o E _ _ _ hl => (by rw [getD_replicate_false] at hl; cases hl), fun d _ => rfl⟩ (fun j hj => by omega) ?_
  · obtain ⟨i, hi, hl⟩ := hex
    exact tail_waitsC hsink hchain inv _ i rfl hi hl t ht
  · have h1 := q4 s w' hR hall
    rw [htk] at h1
    rw [show l.length - c = (l.length - (c + 1)) + 1 by omega]
    refine ⟨fun h0 => ?_, fun i hi => ?_⟩
    · rw [hrc] at h0
      cases h0
    · rw [hrc] at hi
      obtain rfl : i = c := by simpa using hi
      have hLd : (layF (l.take i) es 0 s a).defers = a.defers := layF_defers _ _ _ _ _
      have hLs : (layF (l.take i) es 0 s a).tmps.size = a.tmps.size := layF_size _ _ _ _ _
      refine wpOp_mono ?_ (wpOp_of_list (Q := Q) hoc' (fun x a' w2 hp => ⟨hp.1, hp.2.1.trans hLd.symm⟩) (by unfold Region.wanted; rw [hgn]) h1)
      rintro a' w2 ⟨⟨hs', hd'⟩, _, hdf, hrest⟩
      rw [hsz, fullTo_set _ _ hc]
      refine wpAny_rest (R2 := R2) hc hB (List.all_eq_true.2 fun o ho => ?_) hR2t (hR2r _) (by rw [hdf]; exact hrest)
      have := List.all_eq_true.1 hA o ho
      rw [hs', hLs]
      exact this
  · have : (List.range c).countP (fun i => !(Array.replicate l.toArray.size false).getD i false) = c := by
      rw [List.countP_eq_length.2 (fun i _ => by rw [getD_replicate_false]; rfl)]
      simp
    rw [this]
    simp only [List.size_toArray]
    omega
end
end Go.Proofs.Ytcbccogpogdbmaa
