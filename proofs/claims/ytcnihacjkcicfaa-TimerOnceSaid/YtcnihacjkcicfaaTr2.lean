/- The reference's timers: ahead, theirs, Same. -/
import Derived.Test.YtcnihacjkcicfaaTr1
namespace Go.Proofs.Ytcnihacjkcicfaa
open Go.RowKit Go.Lib Go.Sort Go.Shelf
set_option maxHeartbeats 400000 in
theorem ahead_raw (n a t n' a' t' : Int) (w : World) :
    Calls Try.prog 23 #[.agg #[.int .i64 n, .int .i64 a, .int .i64 t], .agg #[.int .i64 n', .int .i64 a', .int .i64 t']] w fun e w' => e = .returned (.bool (decide (ltA (n, a, t) (n', a', t')))) ∧ Fr [] w w' := by
  by_cases h1 : n = n'
  · by_cases h2 : a = a'
    · subst h1 h2
      have e1 : decide (ltA (n, a, t) (n, a, t')) = decide (t < t') := by simp [ltA]
      rw [e1]; clear e1
      go_enter Try.func23, Try.ntmps23
      go_wp2
      go_ret
      exact ⟨rfl, ((Fr.refl _ _).alloc _).alloc _⟩
    · subst h1
      have e1 : decide (ltA (n, a, t) (n, a', t')) = decide (a < a') := by simp [ltA, h2]
      rw [e1]; clear e1
      have h2' : (a != a') = true := by simpa using h2
      clear h2
      go_enter Try.func23, Try.ntmps23
      go_wp2
      go_ret
      exact ⟨rfl, ((Fr.refl _ _).alloc _).alloc _⟩
  · have e1 : decide (ltA (n, a, t) (n', a', t')) = decide (n < n') := by simp [ltA, h1]
    rw [e1]; clear e1
    have h1' : (n != n') = true := by simpa using h1
    clear h1
    go_enter Try.func23, Try.ntmps23
    go_wp2
    go_ret
    exact ⟨rfl, ((Fr.refl _ _).alloc _).alloc _⟩
theorem ahead_any (x y : Al) (w : World) :
    Calls Try.prog 23 #[.agg #[.int .i64 x.1, .int .i64 x.2.1, .int .i64 x.2.2], .agg #[.int .i64 y.1, .int .i64 y.2.1, .int .i64 y.2.2]] w fun e w' => e = .returned (.bool (decide (ltA x y))) ∧ Fr [] w w' :=
  ahead_raw x.1 x.2.1 x.2.2 y.1 y.2.1 y.2.2 w

set_option maxRecDepth 100000 in
set_option maxHeartbeats 1000000 in
theorem theirs_any {B : Nat → Prop} (v : Value) (S : List Al) (w : World) (h : SliceIs w B encAl v S) (hT : S.length < 1000000) :
    Calls Try.prog 11 #[v] w fun e w' => ∃ v', e = .returned v' ∧ Fr [] w w' ∧ SliceIs w' (w.heap.size ≤ ·) encAl v' S := by
  obtain ⟨a, cap, rfl, hc1, hc2, hat⟩ := h.at encAl_len
  have hat' := Lib.hid hat; clear hat h
  go_enter Try.func11, Try.ntmps11
  go_wp2
  go_loopg [3, 4] S.length (fun gk lv iv wr => ∃ i, i ≤ S.length ∧ gk = S.length - i ∧ iv = .int .i64 i ∧ wr.ownsRow w.heap.size 34 3 lv (S.take i).length ((S.take i).flatMap encAl) ∧ Fr [] w wr)
  case atStart => exact ⟨0, Nat.zero_le _, rfl, rfl, World.ownsRow_made w #[] 0 (Nat.le_refl _) (Nat.zero_le _) rfl, (Fr.refl _ _).alloc _⟩
  case round =>
    obtain ⟨i, hi, hgk, rfl, hown, hfr⟩ := hrel
    have hgk' := Lib.hid hgk; clear hgk
    by_cases hlt : i < S.length
    · obtain ⟨g', off, rfl, hg1, hg2, hcells⟩ := hat'.out (by intro h; rw [h] at hlt; simp at hlt)
      obtain ⟨x, hx⟩ : ∃ x, S[i]? = some x := ⟨_, List.getElem?_eq_getElem hlt⟩
      have k0 : wr.cell? ⟨g', off + i * 3, none⟩ = some (.int .i64 x.1) := by rw [hfr.cell (p := ⟨g', _, none⟩) hg2 (by simp)]; exact hcells i x 0 _ hx rfl
      have k1 : wr.cell? ⟨g', off + i * 3 + 1, none⟩ = some (.int .i64 x.2.1) := by rw [hfr.cell (p := ⟨g', _, none⟩) hg2 (by simp)]; exact hcells i x 1 _ hx rfl
      have k2 : wr.cell? ⟨g', off + i * 3 + 2, none⟩ = some (.int .i64 x.2.2) := by rw [hfr.cell (p := ⟨g', _, none⟩) hg2 (by simp)]; exact hcells i x 2 _ hx rfl
      have htk := Lib.hid (take_add hx)
      have hl : (S.take i).length < 1000000 := by simp; omega
      clear hcells hx
      obtain ⟨R, hR⟩ : ∃ R, R = S.take i := ⟨_, rfl⟩
      rw [← hR] at hown hl htk
      clear hR
      have hb := hfr.size
      have hob := hown.lt
      go_wp2_with (first | (at_builtin; refine wpList_push wr _ _ rfl _ _ 26 rfl w.heap.size 34 Try.underlying26 infoRef rfl (by omega) u3 R rfl hown x rfl encAl_len (enc1 _) rfl (by omega) (by omega) hb ?_; intro v' w3 hown3 hf3))
      go_roundg (S.length - (i + 1))
      case rel => exact ⟨i + 1, by omega, rfl, by go_num, by rw [htk.out]; exact hown3, hfr.andThen hf3 (fun t ht' => by have := hob t (by simpa using ht'); omega)⟩
      case measure => rw [hgk'.out]; omega
    · have hiT : i = S.length := by omega
      subst hiT
      rw [List.take_length] at hown
      have hs := SliceIs.of_owns hown rfl
      go_wp2
      go_ret
      exact ⟨_, rfl, hfr, hs⟩

set_option maxRecDepth 100000 in
set_option maxHeartbeats 1000000 in
theorem same_any {B B' : Nat → Prop} (v v' : Value) (S S' : List Al) (w : World) (h : SliceIs w B encAl v S) (h' : SliceIs w B' encAl v' S') (hT : S.length < 1000000) :
    Calls Try.prog 13 #[v, v'] w fun e w' => e = .returned (.bool (decide (S = S'))) ∧ ∃ q, w' = w.drewN q := by
  obtain ⟨a, cap, rfl, hc1, hc2, hat⟩ := h.at encAl_len
  obtain ⟨a', cap', rfl, hc1', hc2', hat'⟩ := h'.at encAl_len
  have kat := Lib.hid hat; have kat' := Lib.hid hat'; clear hat hat' h h' hc1 hc2 hc1' hc2'
  by_cases hlen : S.length = S'.length
  · rw [hlen]
    have hT' : S'.length < 1000000 := by omega
    go_enter Try.func13, Try.ntmps13
    go_wp2
    go_loopg [5] S'.length (fun gk iv wr => ∃ i q, i ≤ S'.length ∧ gk = S'.length - i ∧ iv = .int .i64 i ∧ S.take i = S'.take i ∧ wr = w.drewN q)
    case atStart => exact ⟨0, 0, Nat.zero_le _, rfl, rfl, rfl, rfl⟩
    case round =>
      obtain ⟨i, q, hi, hgk, rfl, htk, rfl⟩ := hrel
      have hgk' := Lib.hid hgk; clear hgk
      have htk' := Lib.hid htk; clear htk
      by_cases hlt : i < S'.length
      · obtain ⟨g, off, rfl, hg1, hg2, hcells⟩ := kat.out (by intro h; rw [h] at hlen; simp at hlen; omega)
        obtain ⟨g', off', rfl, hg1', hg2', hcells'⟩ := kat'.out (by intro h; rw [h] at hlt; simp at hlt)
        obtain ⟨x, hx⟩ : ∃ x, S[i]? = some x := ⟨_, List.getElem?_eq_getElem (by omega)⟩
        obtain ⟨y, hy⟩ : ∃ y, S'[i]? = some y := ⟨_, List.getElem?_eq_getElem hlt⟩
        have k0 : w.cell? ⟨g, off + i * 3, none⟩ = some (.int .i64 x.1) := hcells i x 0 _ hx rfl
        have k1 : w.cell? ⟨g, off + i * 3 + 1, none⟩ = some (.int .i64 x.2.1) := hcells i x 1 _ hx rfl
        have k2 : w.cell? ⟨g, off + i * 3 + 2, none⟩ = some (.int .i64 x.2.2) := hcells i x 2 _ hx rfl
        have l0 : w.cell? ⟨g', off' + i * 3, none⟩ = some (.int .i64 y.1) := hcells' i y 0 _ hy rfl
        have l1 : w.cell? ⟨g', off' + i * 3 + 1, none⟩ = some (.int .i64 y.2.1) := hcells' i y 1 _ hy rfl
        have l2 : w.cell? ⟨g', off' + i * 3 + 2, none⟩ = some (.int .i64 y.2.2) := hcells' i y 2 _ hy rfl
        have hlt' : (i : Int) < S'.length := by omega
        have hlen' := Lib.hid hlen
        clear hcells hcells' hlen
        rw [hlen'.out] at *
        by_cases hxy : x = y
        · subst hxy
          have hx' := Lib.hid hx; have hy' := Lib.hid hy; clear hx hy
          go_wp2
          go_quiet (fail)
          go_wp2
          go_roundg (S'.length - (i + 1))
          case rel => exact ⟨i + 1, q + nq, by omega, rfl, by go_num, by rw [take_add hx'.out, take_add hy'.out, htk'.out], rfl⟩
          case measure => rw [hgk'.out]; omega
        · have hSS : S ≠ S' := by intro h; rw [h, hy] at hx; exact hxy (Option.some.inj hx).symm
          have hd := Lib.hid (decide_eq_false hSS)
          clear hSS hx hy
          obtain ⟨x1, x2, x3⟩ := x
          obtain ⟨y1, y2, y3⟩ := y
          dsimp only at k0 k1 k2 l0 l1 l2
          by_cases e1 : x1 = y1
          · subst e1
            by_cases e2 : x2 = y2
            · subst e2
              have e3 : (x3 == y3) = false := by rw [beq_eq_false_iff_ne]; intro h; exact hxy (by rw [h])
              clear hxy
              go_wp2
              go_quiet (fail)
              go_wp2
              go_ret
              exact ⟨by rw [hd.out]; rfl, q + nq, World.drewN_drewN _ _ _⟩
            · have e2' : (x2 == y2) = false := by simpa using e2
              clear hxy e2
              go_wp2
              go_quiet (fail)
              go_wp2
              go_ret
              exact ⟨by rw [hd.out]; rfl, q + nq, World.drewN_drewN _ _ _⟩
          · have e1' : (x1 == y1) = false := by simpa using e1
            clear hxy e1
            go_wp2
            go_quiet (fail)
            go_wp2
            go_ret
            exact ⟨by rw [hd.out]; rfl, q + nq, World.drewN_drewN _ _ _⟩
      · have hiS : i = S'.length := by omega
        subst hiS
        have hSS : S = S' := by have := htk'.out; rwa [List.take_length, ← hlen, List.take_length] at this
        have hd := Lib.hid (decide_eq_true hSS)
        clear hSS
        go_wp2
        go_ret
        exact ⟨by rw [hd.out]; rfl, q, rfl⟩
  · have hne : S ≠ S' := fun h => hlen (by rw [h])
    have hl' : (((S.length : Nat) : Int) != S'.length) = true := by simpa using fun h => hlen (by omega)
    rw [decide_eq_false hne]
    clear hne hlen
    go_enter Try.func13, Try.ntmps13
    go_wp2
    go_ret
    exact ⟨rfl, 0, rfl⟩
end Go.Proofs.Ytcnihacjkcicfaa
