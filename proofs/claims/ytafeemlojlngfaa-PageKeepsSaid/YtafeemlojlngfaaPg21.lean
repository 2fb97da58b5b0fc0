/- Pages (chapter 19): the sorted list of dirty pages, plain. -/
import Derived.Test.YtafeemlojlngfaaPg20
namespace Go.Proofs.Ytafeemlojlngfaa
open Go.RowKit Go.Maps Go.Lib Go.Sort
def insP (p : Pg) : List Pg → List Pg
  | [] => [p]
  | q :: l => if ltP p q then p :: q :: l else q :: insP p l
def dirtyP (P : List Pg) (r1 r2 : Int) : List Pg := (P.filter fun p => inR r1 r2 p.1 && p.2.2.2 != 0).foldl (fun l p => insP p l) []
theorem insP_perm (p : Pg) : ∀ l, (insP p l).Perm (p :: l)
  | [] => List.Perm.refl _
  | q :: l => by
    unfold insP
    split
    · exact List.Perm.refl _
    · exact ((insP_perm p l).cons q).trans (List.Perm.swap p q l)
theorem insP_srt {p : Pg} : ∀ {l : List Pg}, SrtP l → (∀ q ∈ l, q.1 ≠ p.1) → SrtP (insP p l)
  | [], _, _ => by simp [insP, SrtP]
  | q :: l, h, hn => by
    unfold insP
    unfold SrtP at h ⊢
    rw [List.pairwise_cons] at h
    split
    · rename_i hlt
      rw [List.pairwise_cons, List.pairwise_cons]
      refine ⟨fun y hy => ?_, h⟩
      rcases List.mem_cons.1 hy with rfl | hy
      · exact hlt
      · have := h.1 y hy
        unfold ltP at *; omega
    · rename_i hlt
      rw [List.pairwise_cons]
      refine ⟨fun y hy => ?_, insP_srt h.2 (fun y hy => hn y (List.mem_cons_of_mem _ hy))⟩
      rcases List.mem_cons.1 ((insP_perm p l).mem_iff.1 hy) with rfl | hy
      · have := hn q (by simp)
        unfold ltP at *; omega
      · exact h.1 y hy
theorem foldIns_perm : ∀ (S l : List Pg), (S.foldl (fun l p => insP p l) l).Perm (S ++ l)
  | [], l => List.Perm.refl _
  | p :: S, l => by
    refine (foldIns_perm S (insP p l)).trans ?_
    refine ((insP_perm p l).append_left S).trans ?_
    exact List.perm_middle
theorem foldIns_srt : ∀ (S l : List Pg), SrtP l → ((S ++ l).map (·.1)).Nodup → SrtP (S.foldl (fun l p => insP p l) l)
  | [], l, h, _ => h
  | p :: S, l, h, hn => by
    refine foldIns_srt S (insP p l) (insP_srt h ?_) ?_
    · intro q hq e
      simp only [List.cons_append, List.map_cons, List.nodup_cons] at hn
      exact hn.1 (by rw [← e]; exact List.mem_map_of_mem (List.mem_append_right _ hq))
    · refine (List.Perm.nodup_iff (List.Perm.map _ ?_)).1 hn
      exact (List.perm_middle (a := p) (l₁ := S) (l₂ := l)).symm.trans ((insP_perm p l).symm.append_left S)
theorem dirtyP_perm (P : List Pg) (r1 r2 : Int) : (dirtyP P r1 r2).Perm (P.filter fun p => inR r1 r2 p.1 && p.2.2.2 != 0) := by
  have := foldIns_perm (P.filter fun p => inR r1 r2 p.1 && p.2.2.2 != 0) []
  simpa [dirtyP] using this
theorem dirtyP_srt {P : List Pg} (hn : (P.map (·.1)).Nodup) (r1 r2 : Int) : SrtP (dirtyP P r1 r2) := by
  refine foldIns_srt _ [] (by simp [SrtP]) ?_
  rw [List.append_nil]
  exact hn.sublist (List.filter_sublist.map _)
theorem dirtyP_nodup {P : List Pg} (hn : (P.map (·.1)).Nodup) (r1 r2 : Int) : ((dirtyP P r1 r2).map (·.1)).Nodup :=
  ((dirtyP_perm P r1 r2).map (·.1)).nodup_iff.2 (hn.sublist (List.filter_sublist.map _))
def pageB (Q : List (Nat × Pg)) (x : Nat) : Option Pg := (Q.find? (fun q => decide (q.1 = x))).map (·.2)
theorem pageB_at {Q : List (Nat × Pg)} (hn : (Q.map (·.1)).Nodup) {q : Nat × Pg} (hq : q ∈ Q) : pageB Q q.1 = some q.2 := by
  unfold pageB
  cases hf : Q.find? (fun a => decide (a.1 = q.1)) with
  | none => have := List.find?_eq_none.1 hf q hq; simp at this
  | some a =>
    have h1 := List.find?_some hf
    simp only [decide_eq_true_eq] at h1
    have := inj_once (f := (·.1)) hn (List.mem_of_find?_eq_some hf) hq h1
    rw [this]; rfl
def accP (Q : List (Nat × Pg)) (R : List Nat) : List Pg := (R.filterMap (pageB Q)).filter fun p => p.2.2.2 != 0
theorem accP_snoc {Q : List (Nat × Pg)} {R : List Nat} {i x : Nat} {p : Pg} (h : R[i]? = some x) (hp : pageB Q x = some p) : accP Q (R.take (i + 1)) = if p.2.2.2 = 0 then accP Q (R.take i) else accP Q (R.take i) ++ [p] := by
  unfold accP
  rw [List.take_add_one, h, List.filterMap_append, List.filter_append]
  simp only [Option.toList_some, List.filterMap_cons, hp, List.filterMap_nil, List.filter_cons, List.filter_nil]
  by_cases hz : p.2.2.2 = 0 <;> simp [hz]
theorem filterMap_own {Q : List (Nat × Pg)} (hn : (Q.map (·.1)).Nodup) : ∀ {S : List (Nat × Pg)}, (∀ q ∈ S, q ∈ Q) → (S.map (·.1)).filterMap (pageB Q) = S.map (·.2)
  | [], _ => rfl
  | q :: S, h => by
    rw [List.map_cons, List.filterMap_cons, pageB_at hn (h q (by simp)), filterMap_own hn (fun a ha => h a (List.mem_cons_of_mem _ ha))]
    rfl
theorem accP_all {Q : List (Nat × Pg)} {R : List Nat} {r1 r2 : Int} (hn : (Q.map (·.1)).Nodup) (hR : R.Perm ((Q.filter fun q => inR r1 r2 q.2.1).map (·.1))) : (accP Q R).Perm (dirtyP (Q.map (·.2)) r1 r2) := by
  refine List.Perm.trans ?_ (dirtyP_perm _ _ _).symm
  unfold accP
  refine ((hR.filterMap (pageB Q)).filter _).trans ?_
  rw [filterMap_own hn (fun q hq => (List.mem_filter.1 hq).1)]
  refine List.Perm.of_eq ?_
  rw [List.filter_map, List.filter_map, List.filter_filter]
  congr 1
  apply List.filter_congr
  intro q _
  exact Bool.and_comm _ _
end Go.Proofs.Ytafeemlojlngfaa
