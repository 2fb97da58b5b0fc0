/- The reference's timers: Clear, Due. -/
import Derived.Test.YtcnihacjkcicfaaTr3
namespace Go.Proofs.Ytcnihacjkcicfaa
open Go.RowKit Go.Lib Go.Sort Go.Shelf
theorem filter_take_add {p : Al → Bool} {T : List Al} {i : Nat} {x : Al} (h : T[i]? = some x) : (T.take (i + 1)).filter p = (T.take i).filter p ++ (if p x = true then [x] else []) := by
  rw [take_add h, List.filter_append]; congr 1; by_cases hp : p x = true <;> simp [hp]
theorem filter_take_len (p : Al → Bool) (T : List Al) (i : Nat) (hT : T.length < 1000000) : ((T.take i).filter p).length < 1000000 := by
  have h1 := List.length_filter_le p (T.take i)
  have h2 : (T.take i).length ≤ T.length := by simp; omega
  omega

theorem filter_split {α : Type} (p : α → Bool) : ∀ T : List α, (T.filter p).length + (T.filter fun a => !p a).length = T.length
  | [] => rfl
  | x :: T => by
    have ih := filter_split p T
    simp only [List.filter_cons]
    cases p x <;> simp <;> omega
theorem filter_take_yes {p : Al → Bool} {T : List Al} {i : Nat} {x : Al} (h : T[i]? = some x) (hp : p x = true) : (T.take (i + 1)).filter p = (T.take i).filter p ++ [x] := by rw [filter_take_add h, if_pos hp]
theorem filter_take_no {p : Al → Bool} {T : List Al} {i : Nat} {x : Al} (h : T[i]? = some x) (hp : p x = false) : (T.take (i + 1)).filter p = (T.take i).filter p := by rw [filter_take_add h, hp]; simp

set_option maxRecDepth 100000 in
set_option maxHeartbeats 1000000 in
theorem rclear_any (rb : Nat) (T : List Al) (n : Int) (w : World) (h : RefAt w rb T) (hT : T.length < 1000000) :
    Calls Try.prog 30 #[.pointer (some ⟨rb, 0, none⟩), .int .i64 n] w fun e w' => e = .returned (.int .i64 (T.filter fun a => decide (a.1 = n)).length) ∧ Fr [rb] w w' ∧ RefAt w' rb (T.filter fun a => !decide (a.1 = n)) := by
  obtain ⟨a, cap, hfd, hfz, hat⟩ := h.open
  have lr := lt_of_cell hfd
  have hat' := Lib.hid hat; have hh := Lib.hid h; clear hat h
  go_enter Try.func30, Try.ntmps30
  go_wp2
  go_loopg [5, 6] T.length (fun gk lv iv wr => ∃ i, i ≤ T.length ∧ gk = T.length - i ∧ iv = .int .i64 i ∧ wr.ownsRow w.heap.size 34 3 lv ((T.take i).filter fun a => !decide (a.1 = n)).length (((T.take i).filter fun a => !decide (a.1 = n)).flatMap encAl) ∧ Fr [] w wr)
  case atStart => exact ⟨0, Nat.zero_le _, rfl, rfl, World.ownsRow_made w #[] 0 (Nat.le_refl _) (Nat.zero_le _) rfl, (Fr.refl _ _).alloc _⟩
  case round =>
    obtain ⟨i, hi, hgk, rfl, hown, hfr⟩ := hrel
    have hgk' := Lib.hid hgk; clear hgk
    have hfd1 : wr.cell? ⟨rb, 0, none⟩ = some (.slice a T.length cap) := by rw [hfr.cell (p := ⟨rb, 0, none⟩) lr (by simp)]; exact hfd
    have hb := hfr.size
    by_cases hlt : i < T.length
    · obtain ⟨g', off, rfl, hg1, hg2, hcells⟩ := hat'.out (by intro h; rw [h] at hlt; simp at hlt)
      obtain ⟨⟨x1, x2, x3⟩, hx⟩ : ∃ x, T[i]? = some x := ⟨_, List.getElem?_eq_getElem hlt⟩
      have k0 : wr.cell? ⟨g', off + i * 3, none⟩ = some (.int .i64 x1) := by rw [hfr.cell (p := ⟨g', _, none⟩) hg2 (by simp)]; exact hcells i _ 0 _ hx rfl
      have k1 : wr.cell? ⟨g', off + i * 3 + 1, none⟩ = some (.int .i64 x2) := by rw [hfr.cell (p := ⟨g', _, none⟩) hg2 (by simp)]; exact hcells i _ 1 _ hx rfl
      have k2 : wr.cell? ⟨g', off + i * 3 + 2, none⟩ = some (.int .i64 x3) := by rw [hfr.cell (p := ⟨g', _, none⟩) hg2 (by simp)]; exact hcells i _ 2 _ hx rfl
      have hty := filter_take_yes (p := fun a => !decide (a.1 = n)) hx
      have htn := filter_take_no (p := fun a => !decide (a.1 = n)) hx
      have hl := filter_take_len (fun a => !decide (a.1 = n)) T i hT
      clear hcells hx
      obtain ⟨S, hS⟩ : ∃ S, S = (T.take i).filter fun a => !decide (a.1 = n) := ⟨_, rfl⟩
      rw [← hS] at hown hl hty htn
      clear hS
      have hob := hown.lt
      by_cases h1 : x1 = n
      · subst h1
        have hta' := Lib.hid (htn (by simp)); clear hty htn
        go_wp2
        go_roundg (T.length - (i + 1))
        case rel => exact ⟨i + 1, by omega, rfl, by go_num, by rw [hta'.out]; exact hown, hfr⟩
        case measure => rw [hgk'.out]; omega
      · have h1' : (x1 != n) = true := by simpa using h1
        have hta' := Lib.hid (hty (by simpa using h1)); clear hty htn h1
        go_wp2_with (first | (at_builtin; refine wpList_push wr _ _ rfl _ _ 26 rfl w.heap.size 34 Try.underlying26 infoRef rfl (by omega) u5 S rfl hown (x1, x2, x3) rfl encAl_len (enc1 _) rfl (by omega) (by omega) hb ?_; intro v' w3 hown3 hf3))
        go_roundg (T.length - (i + 1))
        case rel => exact ⟨i + 1, by omega, rfl, by go_num, by rw [hta'.out]; exact hown3, hfr.andThen hf3 (fun t ht' => by have := hob t (by simpa using ht'); omega)⟩
        case measure => rw [hgk'.out]; omega
    · have hiT : i = T.length := by omega
      subst hiT
      rw [List.take_length] at hown
      have hs := SliceIs.of_owns hown rfl
      have hcount : (T.length : Int) - (T.filter fun a => !decide (a.1 = n)).length = (T.filter fun a => decide (a.1 = n)).length := by
        have := filter_split (fun a : Al => decide (a.1 = n)) T
        omega
      have hle : (T.filter fun a => !decide (a.1 = n)).length ≤ T.length := List.length_filter_le _ _
      have hcount' := Lib.hid hcount
      obtain ⟨S, hS⟩ : ∃ S, S = T.filter fun a => !decide (a.1 = n) := ⟨_, rfl⟩
      rw [← hS] at hs hle hcount'
      have hS' := Lib.hid hS
      clear hown hcount hS
      obtain ⟨a2, cap2, rfl, _, _, _⟩ := hs.at encAl_len
      have hst := (hh.out.fr hfr (by simp) (by simp)).store (hs.imp (B' := (· ≠ rb)) (fun g _ h => by omega))
      have hfz1 : wr.frozen? ⟨rb, 0, none⟩ = false := by rw [hfr.frozen (p := ⟨rb, 0, none⟩) lr (by simp)]; exact hfz
      go_wp2
      go_ret
      exact ⟨by rw [← hcount'.out]; rfl, (hfr.mono (by simp)).trans hst.2, by rw [← hS'.out]; exact hst.1⟩

set_option maxRecDepth 100000 in
set_option maxHeartbeats 1000000 in
theorem rdue_any (rb : Nat) (T : List Al) (n now : Int) (w : World) (h : RefAt w rb T) (hT : T.length < 1000000) :
    Calls Try.prog 14 #[.pointer (some ⟨rb, 0, none⟩), .int .i64 n, .int .i64 now] w fun e w' => ∃ v, e = .returned v ∧ Fr [rb] w w' ∧ SliceIs w' (fun g => w.heap.size ≤ g) encAl v (T.filter fun a => decide (a.1 = n ∧ a.2.1 ≤ now)) ∧ RefAt w' rb (T.filter fun a => !decide (a.1 = n ∧ a.2.1 ≤ now)) := by
  obtain ⟨a, cap, hfd, hfz, hat⟩ := h.open
  have lr := lt_of_cell hfd
  have hat' := Lib.hid hat; have hh := Lib.hid h; clear hat h
  obtain ⟨p, hp⟩ : ∃ p : Al → Bool, p = fun a => decide (a.1 = n ∧ a.2.1 ≤ now) := ⟨_, rfl⟩
  have hpp : ∀ x1 x2 x3, p (x1, x2, x3) = decide (x1 = n ∧ x2 ≤ now) := fun _ _ _ => by rw [hp]
  have e2 : (fun a : Al => !decide (a.1 = n ∧ a.2.1 ≤ now)) = fun a => !p a := by rw [hp]
  rw [e2, ← hp]
  clear e2
  have hpp' := Lib.hid hpp; clear hpp hp
  go_enter Try.func14, Try.ntmps14
  go_wp2
  go_loopg [7, 8, 9] T.length (fun gk ov lv iv wr => ∃ i, i ≤ T.length ∧ gk = T.length - i ∧ iv = .int .i64 i ∧ wr.ownsRow w.heap.size 34 3 ov ((T.take i).filter p).length (((T.take i).filter p).flatMap encAl) ∧
    wr.ownsRow w.heap.size 34 3 lv ((T.take i).filter fun a => !p a).length (((T.take i).filter fun a => !p a).flatMap encAl) ∧ (∃ g g', ov.ownBlock = some g ∧ lv.ownBlock = some g' ∧ g ≠ g') ∧ Fr [] w wr)
  case atStart =>
    refine ⟨0, Nat.zero_le _, rfl, rfl, (World.ownsRow_made w #[] 0 (Nat.le_refl _) (Nat.zero_le _) rfl).alloc _, ?_, ⟨_, _, rfl, rfl, by simp⟩, ((Fr.refl _ _).alloc _).alloc _⟩
    have := World.ownsRow_made (base := w.heap.size) (e := 34) (size := 3) (w.alloc (.cells #[] 34)) #[] 0 (by simp) (Nat.zero_le _) rfl
    simpa using this
  case round =>
    obtain ⟨i, hi, hgk, rfl, hown, hown2, ⟨g1, g2, hg1, hg2, hgg⟩, hfr⟩ := hrel
    have hgk' := Lib.hid hgk; clear hgk
    have hfd1 : wr.cell? ⟨rb, 0, none⟩ = some (.slice a T.length cap) := by rw [hfr.cell (p := ⟨rb, 0, none⟩) lr (by simp)]; exact hfd
    have hb := hfr.size
    by_cases hlt : i < T.length
    · obtain ⟨g', off, rfl, hq1, hq2, hcells⟩ := hat'.out (by intro h; rw [h] at hlt; simp at hlt)
      obtain ⟨⟨x1, x2, x3⟩, hx⟩ : ∃ x, T[i]? = some x := ⟨_, List.getElem?_eq_getElem hlt⟩
      have k0 : wr.cell? ⟨g', off + i * 3, none⟩ = some (.int .i64 x1) := by rw [hfr.cell (p := ⟨g', _, none⟩) hq2 (by simp)]; exact hcells i _ 0 _ hx rfl
      have k1 : wr.cell? ⟨g', off + i * 3 + 1, none⟩ = some (.int .i64 x2) := by rw [hfr.cell (p := ⟨g', _, none⟩) hq2 (by simp)]; exact hcells i _ 1 _ hx rfl
      have k2 : wr.cell? ⟨g', off + i * 3 + 2, none⟩ = some (.int .i64 x3) := by rw [hfr.cell (p := ⟨g', _, none⟩) hq2 (by simp)]; exact hcells i _ 2 _ hx rfl
      have hty := filter_take_yes (p := p) hx
      have htn := filter_take_no (p := p) hx
      have hty2 := filter_take_yes (p := fun a => !p a) hx
      have htn2 := filter_take_no (p := fun a => !p a) hx
      have hl := filter_take_len p T i hT
      have hl2 := filter_take_len (fun a => !p a) T i hT
      have hpx := hpp'.out x1 x2 x3
      clear hcells hx
      obtain ⟨S, hS⟩ : ∃ S, S = (T.take i).filter p := ⟨_, rfl⟩
      rw [← hS] at hown hl hty htn
      clear hS
      obtain ⟨S2, hS2⟩ : ∃ S, S = (T.take i).filter fun a => !p a := ⟨_, rfl⟩
      rw [← hS2] at hown2 hl2 hty2 htn2
      clear hS2
      have hob := hown.lt
      have hob2 := hown2.lt
      by_cases h1 : x1 = n
      · subst h1
        by_cases h2 : x2 ≤ now
        · have hpt : p (x1, x2, x3) = true := by rw [hpx]; simpa using h2
          have a1 := Lib.hid (hty hpt); have a2 := Lib.hid (htn2 (by simpa using hpt)); clear hty htn hty2 htn2 hpx hpt
          have hgg' := Lib.hid hgg; have hg1' := Lib.hid hg1; have hg2' := Lib.hid hg2; clear hg1 hg2 hgg
          go_wp2_with (first | (at_builtin; refine wpList_push2 wr _ _ rfl _ _ 26 rfl w.heap.size 34 Try.underlying26 infoRef rfl (by omega) u7 S rfl hown (x1, x2, x3) rfl encAl_len (enc1 _) rfl (by omega) (by omega) hb ?_; intro v' w3 hown3 hf3 hloc))
          go_roundg (T.length - (i + 1))
          case rel =>
            have hoo := owns_fr2 hown2 hf3 (fun g hg hm => by rw [hg1'.out] at hm; rw [hg2'.out] at hg; simp at hm; cases hg; exact hgg'.out hm.symm)
            refine ⟨i + 1, by omega, rfl, by go_num, by rw [a1.out]; exact hown3, by rw [a2.out]; exact hoo, ?_, hfr.andThen hf3 (fun t ht' => by have := hob t (by simpa using ht'); omega)⟩
            · rcases hloc with h | h
              · exact ⟨g1, g2, by rw [h]; exact hg1'.out, hg2'.out, hgg'.out⟩
              · exact ⟨_, g2, h, hg2'.out, by have := hob2 g2 hg2'.out; omega⟩
          case measure => rw [hgk'.out]; omega
        · have hpt : p (x1, x2, x3) = false := by rw [hpx]; simpa using h2
          have a1 := Lib.hid (htn hpt); have a2 := Lib.hid (hty2 (by simpa using hpt)); clear hty htn hty2 htn2 hpx hpt
          have hgg' := Lib.hid hgg; have hg1' := Lib.hid hg1; have hg2' := Lib.hid hg2; clear hg1 hg2 hgg
          go_wp2_with (first | (at_builtin; refine wpList_push2 wr _ _ rfl _ _ 26 rfl w.heap.size 34 Try.underlying26 infoRef rfl (by omega) u8 S2 rfl hown2 (x1, x2, x3) rfl encAl_len (enc1 _) rfl (by omega) (by omega) hb ?_; intro v' w3 hown3 hf3 hloc))
          go_roundg (T.length - (i + 1))
          case rel =>
            have hoo := owns_fr2 hown hf3 (fun g hg hm => by rw [hg2'.out] at hm; rw [hg1'.out] at hg; simp at hm; cases hg; exact hgg'.out hm)
            refine ⟨i + 1, by omega, rfl, by go_num, by rw [a1.out]; exact hoo, by rw [a2.out]; exact hown3, ?_, hfr.andThen hf3 (fun t ht' => by have := hob2 t (by simpa using ht'); omega)⟩
            · rcases hloc with h | h
              · exact ⟨g1, g2, hg1'.out, by rw [h]; exact hg2'.out, hgg'.out⟩
              · exact ⟨g1, _, hg1'.out, h, by have := hob g1 hg1'.out; omega⟩
          case measure => rw [hgk'.out]; omega
      · have hpt : p (x1, x2, x3) = false := by rw [hpx]; simp [h1]
        have h1' : (x1 == n) = false := by simpa using h1
        clear h1
        have a1 := Lib.hid (htn hpt); have a2 := Lib.hid (hty2 (by simpa using hpt)); clear hty htn hty2 htn2 hpx hpt
        have hgg' := Lib.hid hgg; have hg1' := Lib.hid hg1; have hg2' := Lib.hid hg2; clear hg1 hg2 hgg
        go_wp2_with (first | (at_builtin; refine wpList_push2 wr _ _ rfl _ _ 26 rfl w.heap.size 34 Try.underlying26 infoRef rfl (by omega) u8 S2 rfl hown2 (x1, x2, x3) rfl encAl_len (enc1 _) rfl (by omega) (by omega) hb ?_; intro v' w3 hown3 hf3 hloc))
        go_roundg (T.length - (i + 1))
        case rel =>
          have hoo := owns_fr2 hown hf3 (fun g hg hm => by rw [hg2'.out] at hm; rw [hg1'.out] at hg; simp at hm; cases hg; exact hgg'.out hm)
          refine ⟨i + 1, by omega, rfl, by go_num, by rw [a1.out]; exact hoo, by rw [a2.out]; exact hown3, ?_, hfr.andThen hf3 (fun t ht' => by have := hob2 t (by simpa using ht'); omega)⟩
          · rcases hloc with h | h
            · exact ⟨g1, g2, hg1'.out, by rw [h]; exact hg2'.out, hgg'.out⟩
            · exact ⟨g1, _, hg1'.out, h, by have := hob g1 hg1'.out; omega⟩
        case measure => rw [hgk'.out]; omega
    · have hiT : i = T.length := by omega
      subst hiT
      rw [List.take_length] at hown hown2
      have hs := SliceIs.of_owns hown rfl
      have hs2 := SliceIs.of_owns hown2 rfl
      clear hown hown2 hpp' hat' hg1 hg2 hgg
      have hfz1 : wr.frozen? ⟨rb, 0, none⟩ = false := by rw [hfr.frozen (p := ⟨rb, 0, none⟩) lr (by simp)]; exact hfz
      obtain ⟨S2, hS2⟩ : ∃ S, S = T.filter fun a => !p a := ⟨_, rfl⟩
      have hS2' := Lib.hid hS2
      rw [← hS2] at hs2
      clear hS2
      obtain ⟨a2, cap2, rfl, _, _, _⟩ := hs2.at encAl_len
      have hst := (hh.out.fr hfr (by simp) (by simp)).store (hs2.imp (B' := (· ≠ rb)) (fun g _ h => by omega))
      go_wp2
      go_ret
      exact ⟨_, rfl, (hfr.mono (by simp)).trans hst.2, hs.fr hst.2 (by intro g h1 h2; simp; omega), by rw [← hS2'.out]; exact hst.1⟩
end Go.Proofs.Ytcnihacjkcicfaa
