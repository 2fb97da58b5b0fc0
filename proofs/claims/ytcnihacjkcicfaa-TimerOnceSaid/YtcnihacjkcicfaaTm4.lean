/- Timers (chapter 6): Due, Stop, List. -/
import Derived.Test.YtcnihacjkcicfaaTm3
namespace Go.Proofs.Ytcnihacjkcicfaa
open Go.RowKit Go.Lib Go.Sort Go.Shelf

theorem cut_eq (S : List Al) : ∀ L, cut L S = L.filter fun e => decide (e.1 ∉ S.map keyOf) := by
  induction S with
  | nil => intro L; exact (List.filter_eq_self.2 (by simp)).symm
  | cons a S ih =>
    intro L
    have h := ih (erase L (keyOf a))
    unfold cut at h ⊢
    rw [List.foldl_cons, h]
    unfold erase
    rw [List.filter_filter]
    apply List.filter_congr
    intro e _
    simp only [List.map_cons, List.mem_cons, not_or]
    by_cases h1 : keyOf a = e.1
    · simp [h1]
    · simp [h1, Ne.symm h1]
theorem inj_once {α β : Type} {f : α → β} : ∀ {l : List α}, (l.map f).Nodup → ∀ {a b : α}, a ∈ l → b ∈ l → f a = f b → a = b
  | [], _, _, _, h, _, _ => by simp at h
  | x :: l, hn, a, b, ha, hb, he => by
    simp only [List.map_cons, List.nodup_cons] at hn
    rcases List.mem_cons.1 ha with rfl | ha' <;> rcases List.mem_cons.1 hb with rfl | hb'
    · rfl
    · exact absurd (List.mem_map.2 ⟨b, hb', he.symm⟩) hn.1
    · exact absurd (List.mem_map.2 ⟨a, ha', he⟩) hn.1
    · exact inj_once hn.2 ha' hb' he
theorem cut_perm {p : Al → Bool} {L : List ((Int × Int) × Int)} {T : List Al} (hn : (L.map (·.1)).Nodup) (hT : (L.map toAl).Perm T) : ((cut L (T.filter p)).map toAl).Perm (T.filter fun a => !p a) := by
  rw [cut_eq]
  have e1 : L.filter (fun e => decide (e.1 ∉ (T.filter p).map keyOf)) = L.filter (fun e => !p (toAl e)) := by
    apply List.filter_congr
    intro e he
    have hk : keyOf (toAl e) = e.1 := rfl
    rw [Bool.eq_iff_iff]
    simp only [decide_eq_true_eq, Bool.not_eq_true']
    constructor
    · intro h
      cases hp : p (toAl e) with
      | false => rfl
      | true => exact absurd (List.mem_map.2 ⟨toAl e, List.mem_filter.2 ⟨hT.mem_iff.1 (List.mem_map_of_mem he), hp⟩, hk⟩) h
    · intro hp h
      obtain ⟨s, hs, hks⟩ := List.mem_map.1 h
      obtain ⟨hsT, hps⟩ := List.mem_filter.1 hs
      obtain ⟨e', he', rfl⟩ := List.mem_map.1 (hT.mem_iff.2 hsT)
      have hee : e'.1 = e.1 := hks
      have : e' = e := by
        exact inj_once hn he' he hee
      rw [this, hp] at hps; cases hps
  rw [e1]
  have h2 : (L.filter fun e => !p (toAl e)).map toAl = (L.map toAl).filter (fun a => !p a) := by
    rw [List.filter_map]; rfl
  rw [h2]
  exact hT.filter _

/-- Timers in memory: the struct's block, the map's, the alarms, in order. -/
structure TimersAt (w : World) (tb bm : Nat) (T : List Al) : Prop where
  field : w.cell? ⟨tb, 0, none⟩ = some (.map (some bm))
  ne : tb ≠ bm
  map : ∃ L, MapOf w encKey encI bm L ∧ (L.map toAl).Perm T
  srt : Srt T
  few : T.length ≤ 64
theorem TimersAt.fr {w w' : World} {tb bm : Nat} {T : List Al} {S : List Nat} (h : TimersAt w tb bm T) (hf : Fr S w w') (h1 : tb ∉ S) (h2 : bm ∉ S) : TimersAt w' tb bm T := by
  obtain ⟨f, n, ⟨L, hm, hp⟩, s, l⟩ := h
  exact ⟨by rw [hf.cell (p := ⟨tb, 0, none⟩) (lt_of_cell f) h1]; exact f, n, ⟨L, hm.fr hf h2, hp⟩, s, l⟩
theorem TimersAt.lt {w : World} {tb bm : Nat} {T : List Al} (h : TimersAt w tb bm T) : tb < w.heap.size ∧ bm < w.heap.size := by
  obtain ⟨f, n, ⟨L, hm, hp⟩, s, l⟩ := h
  exact ⟨lt_of_cell f, hm.lt⟩
theorem TimersAt.take {w w1 w2 : World} {tb bm : Nat} {T : List Al} {p : Al → Bool} {L : List ((Int × Int) × Int)} (h : TimersAt w tb bm T) (hn : (L.map (·.1)).Nodup) (hp : (L.map toAl).Perm T) (hf : Fr [] w w1) (hf2 : Fr [bm] w1 w2) (hm : MapOf w2 encKey encI bm (cut L (T.filter p))) :
    TimersAt w2 tb bm (T.filter fun a => !p a) := by
  obtain ⟨f, n, _, s, l⟩ := h
  refine ⟨?_, n, ⟨_, hm, cut_perm hn hp⟩, s.filter _, Nat.le_trans (List.length_filter_le _ _) l⟩
  rw [hf2.cell (p := ⟨tb, 0, none⟩) (Nat.lt_of_lt_of_le (lt_of_cell f) hf.size) (by simpa using n), hf.cell (p := ⟨tb, 0, none⟩) (lt_of_cell f) (by simp)]; exact f

theorem new_any (w : World) : Calls Try.prog 8 #[] w fun e w' => ∃ tb bm, e = .returned (.pointer (some ⟨tb, 0, none⟩)) ∧ Fr [] w w' ∧ TimersAt w' tb bm [] ∧ w.heap.size ≤ tb ∧ w.heap.size ≤ bm := by
  refine (new_raw w).mono ?_
  rintro e w' ⟨rfl, rfl⟩
  refine ⟨_, _, rfl, ((Fr.refl [] w).alloc _).alloc _, ⟨by go_simp, by omega, ⟨[], ?_, by simp⟩, List.Pairwise.nil, by simp⟩, by omega, Nat.le_refl _⟩
  exact (MapOf.made w encKey encI).fr ((Fr.refl [] _).alloc _) (by simp)

set_option maxRecDepth 100000 in
set_option maxHeartbeats 1000000 in
theorem due_any (tb bm : Nat) (T : List Al) (n now : Int) (w : World) (h : TimersAt w tb bm T) :
    Calls Try.prog 12 #[.pointer (some ⟨tb, 0, none⟩), .int .i64 n, .int .i64 now] w fun e w' => ∃ v, e = .returned v ∧ Fr [bm] w w' ∧ SliceIs w' (w.heap.size ≤ ·) encAl v (T.filter fun a => decide (a.1 = n ∧ a.2.1 ≤ now)) ∧ TimersAt w' tb bm (T.filter fun a => !decide (a.1 = n ∧ a.2.1 ≤ now)) := by
  obtain ⟨L, hm, hp⟩ := h.map
  obtain ⟨l1, l2⟩ := h.lt
  have hf : Fr [] w ((w.alloc (Obj.cells #[.int .i64 n] 3)).alloc (Obj.cells #[.int .i64 now] 3)) := ((Fr.refl [] w).alloc _).alloc _
  have hw : WishOk 25 #[.pointer (some ⟨w.heap.size, 0, none⟩), .pointer (some ⟨w.heap.size + 1, 0, none⟩)] (fun a => decide (a.1 = n ∧ a.2.1 ≤ now)) ((w.alloc (Obj.cells #[.int .i64 n] 3)).alloc (Obj.cells #[.int .i64 now] 3)) := by
    intro x W hW
    refine (due1 x.1 x.2.1 x.2.2 w.heap.size (w.heap.size + 1) n now W ?_ ?_).mono ?_
    · rw [hW.cell (p := ⟨w.heap.size, 0, none⟩) (by simp; omega) (by simp)]; go_simp
    · rw [hW.cell (p := ⟨w.heap.size + 1, 0, none⟩) (by simp) (by simp)]; go_simp
    · rintro e w' ⟨rfl, o, rfl⟩
      exact ⟨rfl, (Fr.refl _ _).alloc _⟩
  have ht := take_any tb bm 25 _ _ L T _ (by rw [hf.cell (p := ⟨tb, 0, none⟩) l1 (by simp)]; exact h.field) h.ne (hm.fr hf (by simp)) (Try.call25) hw (by have := hp.length_eq; have := h.few; simp at *; omega) h.srt hp
  generalize hpp : (fun a : Al => decide (a.1 = n ∧ a.2.1 ≤ now)) = p at ht ⊢
  have e2 : (fun a : Al => !decide (a.1 = n ∧ a.2.1 ≤ now)) = fun a => !p a := by rw [← hpp]
  rw [e2]
  have hh := Lib.hid h; have hmm := Lib.hid hm; clear h hm hpp e2 hw
  go_enter Try.func12, Try.ntmps12
  go_wp2_with (first | (go_at_call 24; refine ht.mono ?_; rintro e w1 ⟨v, rfl, hf1, hs1, hm1⟩))
  go_ret
  exact ⟨v, rfl, (hf.mono (by simp)).trans hf1, hs1.imp (fun g _ h => by simp at h; omega), hh.out.take hmm.out.once hp hf hf1 hm1⟩

set_option maxRecDepth 100000 in
set_option maxHeartbeats 1000000 in
theorem stop_any (tb bm : Nat) (T : List Al) (n t : Int) (w : World) (h : TimersAt w tb bm T) :
    Calls Try.prog 21 #[.pointer (some ⟨tb, 0, none⟩), .int .i64 n, .int .i64 t] w fun e w' => e = .returned (.int .i64 (if (T.filter fun a => decide (a.1 = n ∧ a.2.2 = t)) = [] then 3 else 0)) ∧ Fr [bm] w w' ∧ TimersAt w' tb bm (T.filter fun a => !decide (a.1 = n ∧ a.2.2 = t)) := by
  obtain ⟨L, hm, hp⟩ := h.map
  obtain ⟨l1, l2⟩ := h.lt
  have hf : Fr [] w ((w.alloc (Obj.cells #[.int .i64 n] 3)).alloc (Obj.cells #[.int .i64 t] 3)) := ((Fr.refl [] w).alloc _).alloc _
  have hw : WishOk 31 #[.pointer (some ⟨w.heap.size, 0, none⟩), .pointer (some ⟨w.heap.size + 1, 0, none⟩)] (fun a => decide (a.1 = n ∧ a.2.2 = t)) ((w.alloc (Obj.cells #[.int .i64 n] 3)).alloc (Obj.cells #[.int .i64 t] 3)) := by
    intro x W hW
    refine (stop1 x.1 x.2.1 x.2.2 w.heap.size (w.heap.size + 1) n t W ?_ ?_).mono ?_
    · rw [hW.cell (p := ⟨w.heap.size, 0, none⟩) (by simp; omega) (by simp)]; go_simp
    · rw [hW.cell (p := ⟨w.heap.size + 1, 0, none⟩) (by simp) (by simp)]; go_simp
    · rintro e w' ⟨rfl, o, rfl⟩
      exact ⟨rfl, (Fr.refl _ _).alloc _⟩
  have ht := take_any tb bm 31 _ _ L T _ (by rw [hf.cell (p := ⟨tb, 0, none⟩) l1 (by simp)]; exact h.field) h.ne (hm.fr hf (by simp)) (Try.call31) hw (by have := hp.length_eq; have := h.few; simp at *; omega) h.srt hp
  generalize hpp : (fun a : Al => decide (a.1 = n ∧ a.2.2 = t)) = p at ht ⊢
  have e2 : (fun a : Al => !decide (a.1 = n ∧ a.2.2 = t)) = fun a => !p a := by rw [← hpp]
  rw [e2]
  have hh := Lib.hid h; have hmm := Lib.hid hm; clear h hm hpp e2 hw
  have hfin : ∀ w1, Fr [bm] ((w.alloc (Obj.cells #[.int .i64 n] 3)).alloc (Obj.cells #[.int .i64 t] 3)) w1 → MapOf w1 encKey encI bm (cut L (T.filter p)) → Fr [bm] w w1 ∧ TimersAt w1 tb bm (T.filter fun a => !p a) := fun w1 hf1 hm1 => ⟨(hf.mono (by simp)).trans hf1, hh.out.take hmm.out.once hp hf hf1 hm1⟩
  have hfin' := Lib.hid hfin; clear hfin
  obtain ⟨S, hS⟩ : ∃ S, S = T.filter p := ⟨_, rfl⟩
  rw [← hS] at ht hfin' ⊢
  clear hS
  by_cases h0 : S = []
  · have hl : (S.length == 0) = true := by simp [h0]
    rw [if_pos h0]
    rw [h0] at ht hfin'
    go_enter Try.func21, Try.ntmps21
    go_wp2_with (first | (go_at_call 24; refine ht.mono ?_; rintro e w1 ⟨v, rfl, hf1, hs1, hm1⟩; obtain ⟨a, cap, rfl, hlc, hcm, hat⟩ := hs1.at encAl_len; have hat' := Lib.hid hat; clear hat))
    go_ret
    exact ⟨rfl, hfin'.out _ hf1 hm1⟩
  · have hl : 0 < S.length := List.length_pos_iff.2 h0
    have hl' : ((S.length : Int) == 0) = false := by simpa using h0
    rw [if_neg h0]
    go_enter Try.func21, Try.ntmps21
    go_wp2_with (first | (go_at_call 24; refine ht.mono ?_; rintro e w1 ⟨v, rfl, hf1, hs1, hm1⟩; obtain ⟨a, cap, rfl, hlc, hcm, hat⟩ := hs1.at encAl_len; have hat' := Lib.hid hat; clear hat))
    go_ret
    exact ⟨rfl, hfin'.out _ hf1 hm1⟩

set_option maxRecDepth 100000 in
set_option maxHeartbeats 1000000 in
theorem list_any (tb bm : Nat) (T : List Al) (w : World) (h : TimersAt w tb bm T) :
    Calls Try.prog 15 #[.pointer (some ⟨tb, 0, none⟩)] w fun e w' => ∃ v, e = .returned v ∧ Fr [] w w' ∧ SliceIs w' (w.heap.size ≤ ·) encAl v T := by
  obtain ⟨L, hm, hp⟩ := h.map
  obtain ⟨l1, l2⟩ := h.lt
  have hw : WishOk 27 #[] (fun _ => true) w := by
    intro x W hW
    refine (list1 x.1 x.2.1 x.2.2 W).mono ?_
    rintro e w' ⟨rfl, o, rfl⟩
    exact ⟨rfl, (Fr.refl _ _).alloc _⟩
  have ht := some_any tb bm 27 _ _ L T _ h.field hm (Try.call27) hw (by have := hp.length_eq; have := h.few; simp at *; omega) h.srt hp
  have e1 : T.filter (fun _ => true) = T := List.filter_eq_self.2 (by simp)
  rw [e1] at ht
  clear h hm hp hw e1
  go_enter Try.func15, Try.ntmps15
  go_wp2_with (first | (go_at_call 26; refine ht.mono ?_; rintro e w1 ⟨v, rfl, hf1, hs1⟩))
  go_ret
  exact ⟨v, rfl, hf1, hs1⟩
end Go.Proofs.Ytcnihacjkcicfaa
