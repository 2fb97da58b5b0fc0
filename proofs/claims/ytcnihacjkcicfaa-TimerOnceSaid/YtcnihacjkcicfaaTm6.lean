/- Timers (chapter 6): Set, as the document has it. -/
import Derived.Test.YtcnihacjkcicfaaTm5
namespace Go.Proofs.Ytcnihacjkcicfaa
open Go.RowKit Go.Lib Go.Sort Go.Shelf

/-- An alarm among those that are in order. -/
def insA (a : Al) : List Al → List Al
  | [] => [a]
  | b :: l => if ltA a b then a :: b :: l else b :: insA a l
def badA (a : Al) : Prop := a.1 < 0 ∨ 8 ≤ a.1 ∨ a.2.1 < 0 ∨ 1099511627776 < a.2.1 ∨ a.2.2 < 0 ∨ 255 < a.2.2
instance (a : Al) : Decidable (badA a) := by unfold badA; exact inferInstance
def without (T : List Al) (k : Int × Int) : List Al := T.filter fun a => decide (keyOf a ≠ k)
def setT (T : List Al) (a : Al) : Int × List Al := if badA a then (1, T) else if 64 ≤ (without T (keyOf a)).length then (2, T) else (0, insA a (without T (keyOf a)))

theorem insA_perm (a : Al) : ∀ l, (insA a l).Perm (a :: l)
  | [] => List.Perm.refl _
  | b :: l => by
    unfold insA
    split
    · exact List.Perm.refl _
    · exact ((insA_perm a l).cons b).trans (List.Perm.swap a b l)
theorem insA_srt (a : Al) : ∀ l, Srt l → (∀ b ∈ l, keyOf b ≠ keyOf a) → Srt (insA a l)
  | [], _, _ => List.pairwise_singleton _ _
  | b :: l, h, hk => by
    unfold insA
    obtain ⟨h1, h2⟩ := List.pairwise_cons.1 h
    split
    · rename_i hab
      refine List.pairwise_cons.2 ⟨fun c hc => ?_, h⟩
      rcases List.mem_cons.1 hc with rfl | hc
      · exact hab
      · have := h1 c hc; unfold ltA at *; omega
    · rename_i hab
      refine List.pairwise_cons.2 ⟨fun c hc => ?_, insA_srt a l h2 (fun c hc => hk c (List.mem_cons_of_mem _ hc))⟩
      rcases List.mem_cons.1 ((insA_perm a l).mem_iff.1 hc) with rfl | hc
      · have := hk b (List.mem_cons_self ..)
        unfold keyOf at this; unfold ltA at *
        simp only [ne_eq, Prod.mk.injEq, not_and] at this
        omega
      · exact h1 c hc
theorem map_put_perm {α β : Type} [DecidableEq α] {a : α} {v : β} : ∀ {L : List (α × β)}, (L.map (·.1)).Nodup → (L.any fun p => decide (a = p.1)) = true → (L.map fun p => if a = p.1 then (a, v) else p).Perm ((a, v) :: erase L a)
  | [], _, h => by simp at h
  | p :: L, hn, h => by
    simp only [List.map_cons, List.nodup_cons] at hn
    by_cases hp : a = p.1
    · have hne : ∀ q ∈ L, a ≠ q.1 := fun q hq e => hn.1 (List.mem_map.2 ⟨q, hq, by rw [← e, hp]⟩)
      have e1 : L.map (fun p => if a = p.1 then (a, v) else p) = L := by
        rw [List.map_congr_left (g := id) (fun q hq => by simp [hne q hq])]; simp
      have e2 : erase (p :: L) a = L := by
        unfold erase; rw [List.filter_cons_of_neg (by simp [hp])]
        exact List.filter_eq_self.2 (fun q hq => by simpa using hne q hq)
      rw [List.map_cons, e1, e2, if_pos hp]
    · have h' : (L.any fun p => decide (a = p.1)) = true := by simpa [hp] using h
      have e2 : erase (p :: L) a = p :: erase L a := by unfold erase; rw [List.filter_cons_of_pos (by simpa using hp)]
      rw [List.map_cons, e2, if_neg hp]
      exact ((map_put_perm hn.2 h').cons p).trans (List.Perm.swap _ _ _)
theorem upsert_perm {α β : Type} [DecidableEq α] {L : List (α × β)} {a : α} {v : β} (hn : (L.map (·.1)).Nodup) : (upsert L a v).Perm ((a, v) :: erase L a) := by
  unfold upsert
  split
  · rename_i hany
    exact map_put_perm hn hany
  · rename_i hany
    rw [erase_none L a (Bool.eq_false_iff.2 hany)]
    exact List.perm_append_singleton _ _
theorem erase_toAl {L : List ((Int × Int) × Int)} {T : List Al} {k : Int × Int} (hp : (L.map toAl).Perm T) : ((erase L k).map toAl).Perm (without T k) := by
  have : (erase L k).map toAl = (L.map toAl).filter (fun a => decide (keyOf a ≠ k)) := by
    unfold erase; rw [List.filter_map]
    congr 1
    apply List.filter_congr
    intro e _
    have : keyOf (toAl e) = e.1 := rfl
    simp only [Function.comp, this]
    by_cases h : k = e.1 <;> simp [h, eq_comm]
  rw [this]; exact hp.filter _
theorem look_len {α β : Type} [DecidableEq α] {L : List (α × β)} {a : α} (hn : (L.map (·.1)).Nodup) : ((look L a).isSome = true → (erase L a).length + 1 = L.length) ∧ ((look L a).isSome = false → erase L a = L) := by
  rcases find_of_idx L a with ⟨_, h2, h3⟩ | ⟨i, v, h1, h2, h3, h4⟩
  · rw [h2]; exact ⟨fun h => by simp at h, fun _ => erase_none L a h3⟩
  · rw [h3]
    refine ⟨fun _ => ?_, fun h => by simp at h⟩
    rw [← erase_at L a v i h2 hn, List.length_eraseIdx]
    have := (List.getElem?_eq_some_iff.1 h2).1
    rw [if_pos this]; omega

theorem set_any (tb bm : Nat) (T : List Al) (x : Al) (w : World) (h : TimersAt w tb bm T) :
    Calls Try.prog 9 #[.pointer (some ⟨tb, 0, none⟩), .agg #[.int .i64 x.1, .int .i64 x.2.1, .int .i64 x.2.2]] w fun e w' => e = .returned (.int .i64 (setT T x).1) ∧ Fr [bm] w w' ∧ TimersAt w' tb bm (setT T x).2 := by
  by_cases hb : badA x
  · have e1 : setT T x = (1, T) := by unfold setT; rw [if_pos hb]
    rw [e1]
    refine (set_bad _ x.1 x.2.1 x.2.2 w hb).mono ?_
    rintro e w' ⟨rfl, hf⟩
    exact ⟨rfl, hf.mono (by simp), h.fr hf (by simp) (by simp)⟩
  · obtain ⟨L, hm, hp⟩ := h.map
    have hn := hm.once
    have hlen : L.length = T.length := by simpa using hp.length_eq
    have hpe := erase_toAl (k := keyOf x) hp
    have hwl : (without T (keyOf x)).length = (erase L (keyOf x)).length := by have := hpe.length_eq; simpa using this.symm
    have hll := look_len (a := keyOf x) hn
    have hb' : ¬ badA x := hb
    unfold badA at hb
    refine (set_ok tb bm L x.1 x.2.1 x.2.2 w h.field hm (by omega) (by omega) (by omega) (by omega) (by omega) (by omega) (by have := h.few; omega)).mono ?_
    rintro e w' (⟨hl, h64, rfl, hf⟩ | ⟨hl, rfl, hf, hm'⟩)
    · have e1 : setT T x = (2, T) := by
        unfold setT; rw [if_neg hb', if_pos]
        rw [hwl, hll.2 hl]; omega
      rw [e1]
      exact ⟨rfl, hf.mono (by simp), h.fr hf (by simp) (by simp)⟩
    · have hlt : (without T (keyOf x)).length < 64 := by
        rw [hwl]
        rcases hl with hl | hl
        · have := hll.1 hl; have := h.few; omega
        · have h1 : (erase L (keyOf x)).length ≤ L.length := List.length_filter_le _ _
          have := h.few; omega
      have e1 : setT T x = (0, insA x (without T (keyOf x))) := by
        unfold setT; rw [if_neg hb', if_neg (by omega)]
      rw [e1]
      refine ⟨rfl, hf, ?_, h.ne, ⟨_, hm', ?_⟩, insA_srt x _ (h.srt.filter _) ?_, ?_⟩
      · rw [hf.cell (p := ⟨tb, 0, none⟩) h.lt.1 (by simpa using h.ne)]; exact h.field
      · refine ((upsert_perm hn).map toAl).trans ?_
        exact (List.Perm.cons x hpe).trans (insA_perm x _).symm
      · intro b hb2
        have := (List.mem_filter.1 hb2).2
        simpa using this
      · have := (insA_perm x (without T (keyOf x))).length_eq
        simp only [List.length_cons] at this
        show (insA x (without T (keyOf x))).length ≤ 64
        omega
end Go.Proofs.Ytcnihacjkcicfaa
