/- TimerOnce. -/
import Derived.Test.YtcnihacjkcicfaaLnext
import Derived.Test.YtcnihacjkcicfaaRow
import Derived.Test.YtcnihacjkcicfaaLst2
import Derived.Deep.RegionHeld3
import Derived.BigQuiet
import Derived.Lib.Hide
namespace Go.Proofs.Ytcnihacjkcicfaa
open Go.RowKit Go.Lib Go.Sort Go.Shelf
theorem wpList_join {α : Type} {enc : α → List Value} {k : Nat} {P : Program} {ops : Array Oper} {rest : List Oper} {o : Oper} {a : Act} {Q : Exit → Act → World → Prop} (w0 : World) (hgd : o.guard = none) (s x : Operand) (t : TypeId)
    (ho : o.op = .call { callee := .builtin .append, args := #[s, x], argTypes := #[t, t] })
    (base : Nat) (e : TypeId) {z : Value} {bytes : Nat} (ht : P.underlying t = some (.slice e)) (hinfo : (P.info? e).map (fun i => (i.zero, i.size, i.bytes)) = some (some z, k, bytes)) (hzs : z.cells.size = k) (hk0 : 0 < k)
    (v : Value) (S R : List α) (hs : a.eval s = v) (hown : w0.ownsRow base e k v S.length (S.flatMap enc))
    (g cap : Nat) {base2 : Nat} {e2 : TypeId} (hx : a.eval x = .slice (some ⟨g, 0, none⟩) R.length cap) (hown2 : w0.ownsRow base2 e2 k (.slice (some ⟨g, 0, none⟩) R.length cap) R.length (R.flatMap enc)) (hk : ∀ x, (enc x).length = k) (hone : ∀ y, ∀ u ∈ enc y, u.oneCell' = true)
    (hn : S.length < 1000000) (hm : R.length < 1000000) (hb : bytes ≤ 100) (hbase : base ≤ w0.heap.size)
    (h : ∀ v' w', w'.ownsRow base e k v' (S ++ R).length ((S ++ R).flatMap enc) → Fr v.ownBlock.toList w0 w' → wpList P ops Q rest (a.put o.dst v') w') : wpList P ops Q (o :: rest) a w0 := by
  obtain ⟨i, hi, hz0, hz1, hz2⟩ := info_parts hinfo
  refine wpList_append_own _ hgd s x t ho base e i z k bytes ht hi hz0 hz1 hz2 hzs hk0 v S.length (S.flatMap enc) hs hown ⟨g, 0, none⟩ R.length cap (R.flatMap enc) hx (flat_len hk R) ?_ ?_ (by unfold maxLen; omega) ?_ hbase ?_
  · intro j u hj
    exact hown2.cells rfl j u hj
  · intro u hu
    obtain ⟨y, _, hy⟩ := List.mem_flatMap.1 hu
    exact hone y u hy
  · have : (S.length + R.length) * bytes ≤ 2000000 * 100 := Nat.mul_le_mul (by omega) hb
    omega
  · intro v' w' h1 h2 _
    refine h v' w' ?_ (Fr.of_grown h2)
    rw [List.flatMap_append, List.length_append]
    exact h1
set_option maxRecDepth 100000 in
set_option maxHeartbeats 1000000 in
theorem theirs_own {B : Nat → Prop} (v : Value) (S : List Al) (w : World) (h : SliceIs w B encAl v S) (hT : S.length < 1000000) :
    Calls Try.prog 11 #[v] w fun e w' => ∃ g cap, e = .returned (.slice (some ⟨g, 0, none⟩) S.length cap) ∧ Fr [] w w' ∧ w.heap.size ≤ g ∧ w'.ownsRow w.heap.size 34 3 (.slice (some ⟨g, 0, none⟩) S.length cap) S.length (S.flatMap encAl) := by
  obtain ⟨a, cap, rfl, hc1, hc2, hat⟩ := h.at encAl_len
  have hat' := Lib.hid hat; clear hat h
  go_enter Try.func11, Try.ntmps11
  go_wp2
  go_loopg [3, 4] S.length (fun gk lv iv wr => ∃ i, i ≤ S.length ∧ gk = S.length - i ∧ iv = .int .i64 i ∧ wr.ownsRow w.heap.size 34 3 lv (S.take i).length ((S.take i).flatMap encAl) ∧ Fr [] w wr ∧ ∃ g, lv.ownBlock = some g)
  case atStart => exact ⟨0, Nat.zero_le _, rfl, rfl, World.ownsRow_made w #[] 0 (Nat.le_refl _) (Nat.zero_le _) rfl, (Fr.refl _ _).alloc _, _, rfl⟩
  case round =>
    obtain ⟨i, hi, hgk, rfl, hown, hfr, gg, hgg⟩ := hrel
    have hgk' := Lib.hid hgk; clear hgk
    have hgg' := Lib.hid hgg; clear hgg
    by_cases hlt : i < S.length
    · obtain ⟨g', off, rfl, hg1, hg2, hcells⟩ := hat'.out (by intro h; rw [h] at hlt; simp at hlt)
      obtain ⟨x, hx⟩ : ∃ x, S[i]? = some x := ⟨_, List.getElem?_eq_getElem hlt⟩
      have k0 : wr.cell? ⟨g', off + i * 3, none⟩ = some (.int .i64 x.1) := by rw [hfr.cell (p := ⟨g', _, none⟩) hg2 (by simp)]; exact hcells i x 0 _ hx rfl
      have k1 : wr.cell? ⟨g', off + i * 3 + 1, none⟩ = some (.int .i64 x.2.1) := by rw [hfr.cell (p := ⟨g', _, none⟩) hg2 (by simp)]; exact hcells i x 1 _ hx rfl
      have k2 : wr.cell? ⟨g', off + i * 3 + 2, none⟩ = some (.int .i64 x.2.2) := by rw [hfr.cell (p := ⟨g', _, none⟩) hg2 (by simp)]; exact hcells i x 2 _ hx rfl
      have htk := Lib.hid (take_add hx)
      have hl : (S.take i).length < 1000000 := by simp; omega
      clear hcells hx
      obtain ⟨R, hR⟩ : ∃ R, R = S.take i := ⟨_, rfl⟩
      rw [← hR] at hown hl htk
      clear hR
      have hb := hfr.size
      have hob := hown.lt
      go_wp2_with (first | (at_builtin; refine wpList_push2 wr _ _ rfl _ _ 26 rfl w.heap.size 34 Try.underlying26 infoRef rfl (by omega) u3 R rfl hown x rfl encAl_len (enc1 _) rfl (by omega) (by omega) hb ?_; intro v' w3 hown3 hf3 hloc))
      have hl' : ∃ g, v'.ownBlock = some g := by
        rcases hloc with h | h
        · exact ⟨gg, by rw [h]; exact hgg'.out⟩
        · exact ⟨_, h⟩
      go_roundg (S.length - (i + 1))
      case rel => exact ⟨i + 1, by omega, rfl, by go_num, by rw [htk.out]; exact hown3, hfr.andThen hf3 (fun t ht' => by have := hob t (by simpa using ht'); omega), hl'⟩
      case measure => rw [hgk'.out]; omega
    · have hiT : i = S.length := by omega
      subst hiT
      rw [List.take_length] at hown
      have hgg2 := hgg'.out
      have hsh : ∃ g cap, u3 = .slice (some ⟨g, 0, none⟩) S.length cap ∧ w.heap.size ≤ g := by
        rcases hown.2 with ⟨h0, _⟩ | ⟨g, cap, cur, h0, hb, _⟩
        · rw [h0] at hgg2; simp [Value.ownBlock] at hgg2
        · exact ⟨g, cap, h0, hb⟩
      obtain ⟨g, cap', rfl, hgb⟩ := hsh
      go_wp2
      go_ret
      exact ⟨_, _, rfl, hfr, hgb, hown⟩
theorem filter_swapped {α : Type} (p q : α → Bool) (T : List α) : (T.filter p).filter q = (T.filter q).filter p := by
  rw [List.filter_filter, List.filter_filter]
  apply List.filter_congr
  intro a _
  exact Bool.and_comm _ _
def dueL (n m : Int) (T : List Al) : List Al := T.filter fun a => decide (a.1 = n ∧ a.2.1 ≤ m)
def restL (n m : Int) (T : List Al) : List Al := T.filter fun a => !decide (a.1 = n ∧ a.2.1 ≤ m)
theorem dueL_join {n lo hi : Int} {T : List Al} (hs : Srt T) (h : lo ≤ hi) : dueL n lo T ++ dueL n hi (restL n lo T) = dueL n hi T := by
  have hperm : (dueL n lo T ++ dueL n hi (restL n lo T)).Perm (dueL n hi T) := by
    have h1 : dueL n lo T = (dueL n hi T).filter (fun a => decide (a.1 = n ∧ a.2.1 ≤ lo)) := by
      unfold dueL
      rw [List.filter_filter]
      apply List.filter_congr
      intro a _
      rw [Bool.eq_iff_iff]; simp; omega
    have h2 : dueL n hi (restL n lo T) = (dueL n hi T).filter (fun a => !decide (a.1 = n ∧ a.2.1 ≤ lo)) := filter_swapped _ _ _
    rw [h1, h2]
    exact List.filter_append_perm _ _
  refine srt_eq ?_ (hs.filter _) hperm
  refine List.pairwise_append.2 ⟨hs.filter _, (hs.filter _).filter _, ?_⟩
  intro x hx y hy
  have hx2 := (List.mem_filter.1 hx).2
  have hy1 := (List.mem_filter.1 hy).2
  have hy2 := (List.mem_filter.1 (List.mem_filter.1 hy).1).2
  simp at hx2 hy1 hy2
  unfold ltA
  omega
theorem dueL_gone (n lo hi : Int) (T : List Al) : dueL n hi (restL n hi (restL n lo T)) = [] := by
  unfold dueL
  rw [List.filter_eq_nil_iff]
  intro a ha
  have := (List.mem_filter.1 ha).2
  cases hd : decide (a.1 = n ∧ a.2.1 ≤ hi) with
  | false => simp
  | true => rw [hd] at this; simp at this
theorem restL_twice {n lo hi : Int} (T : List Al) (h : lo ≤ hi) : restL n hi (restL n lo T) = restL n hi T := by
  unfold restL
  rw [List.filter_filter]
  apply List.filter_congr
  intro a _
  rw [Bool.eq_iff_iff]; simp; omega
theorem dueL_low {n m : Int} {T : List Al} {x : Al} (h : x ∈ dueL n m T) : x.2.1 ≤ m := by
  have := (List.mem_filter.1 h).2
  simp at this
  exact this.2
theorem RefAt.frTU {w w' : World} {tb bm ub um rb : Nat} {T U R : List Al} (hr : RefAt w rb R) (h : TimersAt w tb bm T) (hu : TimersAt w ub um U) (hf : Fr [bm, um] w w') : RefAt w' rb R := by
  obtain ⟨f, n, ⟨L, ⟨es, c, hm⟩, hp⟩, s, l⟩ := h
  obtain ⟨f', n', ⟨L', ⟨es', c', hm'⟩, hp'⟩, s', l'⟩ := hu
  have hb := hm.block
  have hb' := hm'.block
  refine hr.fr hf ?_ ?_
  · obtain ⟨v, hc, _⟩ := hr
    simp only [List.mem_cons, List.not_mem_nil, or_false, not_or]
    constructor
    · rintro rfl
      rw [World.cell?, hb] at hc
      cases hc
    · rintro rfl
      rw [World.cell?, hb'] at hc
      cases hc
  · intro s hs c e f
    simp only [List.mem_cons, List.not_mem_nil, or_false] at hs
    rcases hs with rfl | rfl
    · rw [hb]; simp
    · rw [hb']; simp
theorem due_L (tb bm : Nat) (T D U : List Al) (n m : Int) (w : World) (h : TimersAt w tb bm T) (hD : dueL n m T = D) (hU : restL n m T = U) :
    Calls Try.prog 12 #[.pointer (some ⟨tb, 0, none⟩), .int .i64 n, .int .i64 m] w fun e w' => ∃ v, e = .returned v ∧ Fr [bm] w w' ∧ SliceIs w' (w.heap.size ≤ ·) encAl v D ∧ TimersAt w' tb bm U := by
  rw [← hD, ← hU]; exact due_any tb bm T n m w h
theorem rdue_L (rb : Nat) (T D : List Al) (n m : Int) (w : World) (h : RefAt w rb T) (hT : T.length < 1000000) (hD : dueL n m T = D) :
    Calls Try.prog 14 #[.pointer (some ⟨rb, 0, none⟩), .int .i64 n, .int .i64 m] w fun e w' => ∃ v, e = .returned v ∧ Fr [rb] w w' ∧ SliceIs w' (w.heap.size ≤ ·) encAl v D := by
  rw [← hD]
  refine (rdue_any rb T n m w h hT).mono ?_
  rintro e w' ⟨v, h1, h2, h3, _⟩
  exact ⟨v, h1, h2, h3⟩
theorem same_yes {B B' : Nat → Prop} (v v' : Value) (S : List Al) (w : World) (h : SliceIs w B encAl v S) (h' : SliceIs w B' encAl v' S) (hT : S.length < 1000000) :
    Calls Try.prog 13 #[v, v'] w fun e w' => e = .returned (.bool true) ∧ Fr [] w w' := by
  refine (same_any v v' S S w h h' hT).mono ?_
  rintro e w' ⟨rfl, q, rfl⟩
  exact ⟨by rw [decide_eq_true rfl], (Fr.refl [] w).drewN q⟩
set_option maxRecDepth 100000 in
set_option maxHeartbeats 8000000 in
theorem once_law {B : Nat → Prop} (v : Value) (S : List Al) (node a b : Int) (w : World) (h : SliceIs w B encAl v S) :
    Calls Try.prog 3 #[v, .int .i64 node, .int .i64 a, .int .i64 b] w fun e w' => e = .returned (.bool true) ∧ Fr [] w w' := by
  obtain ⟨ad, cap, rfl, hc1, hc2, hat⟩ := h.at encAl_len
  have hat' := Lib.hid hat; clear hat h
  go_enter Try.func3, Try.ntmps3
  by_cases hS : 100 < S.length
  · go_wp2
    go_ret
    exact ⟨rfl, Fr.refl _ _⟩
  have hn1 := new_any w
  have hn2 : ∀ W, _ := fun W => new_any W
  have hn2' := Lib.hid hn2; clear hn2
  go_wp2_with (first | (go_at_call 8; refine hn1.mono ?_; rintro e w1 ⟨tb, bm, rfl, hf1, ht1, l1, l2⟩; have hnx := hn2'.out w1) | (go_at_call 8; refine hnx.mono ?_; rintro e w2 ⟨ub, um, rfl, hf2, hu1, l3, l4⟩))
  have hz1 := hf1.size
  have hlt1 := ht1.lt
  have hlu1 := hu1.lt
  have hz2 := hf2.size
  have hr1 := RefAt.new w2 28
  obtain ⟨w3, hw3⟩ : ∃ w3, w3 = (w2.alloc (.cells #[.slice none 0 0] 28)) := ⟨_, rfl⟩
  have hfa2 : Fr [] w2 w3 := by rw [hw3]; exact (Fr.refl [] w2).alloc _
  have ht3 := (ht1.fr hf2 (by simp) (by simp)).fr hfa2 (by simp) (by simp)
  have hu3 := hu1.fr hfa2 (by simp) (by simp)
  have hf13 := (hf1.trans hf2).trans hfa2
  obtain ⟨rb, hrb⟩ : ∃ rb, rb = w2.heap.size := ⟨_, rfl⟩
  rw [← hrb, ← hw3] at hr1
  have hne : tb ≠ rb := by omega
  have hne2 : ub ≠ rb := by omega
  have lrb : w.heap.size ≤ rb := by omega
  have hw3' := Lib.hid hw3; have hrb' := Lib.hid hrb
  have hrb3 := Lib.hid hrb
  clear hnx hn1 hn2' hw3 hrb
  go_loopg [12, 13] S.length (fun gk iv ev wr => ∃ (i : Nat) (T : List Al), i ≤ S.length ∧ gk = S.length - i ∧ iv = .int .i64 i ∧ TimersAt wr tb bm T ∧ TimersAt wr ub um T ∧ RefAt wr rb T ∧ Fr [bm, um, rb] w3 wr)
  case atStart => exact ⟨0, [], Nat.zero_le _, rfl, rfl, by rw [← hw3'.out]; exact ht3, by rw [← hw3'.out]; exact hu3, by rw [← hw3'.out]; exact hr1, by rw [← hw3'.out]; exact Fr.refl _ _⟩
  case round =>
    rw [← hrb'.out]
    obtain ⟨i, T, hi, hgk, rfl, ht, hu, hr, hfr⟩ := hrel
    have hgk' := Lib.hid hgk; clear hgk
    have htl := ht.lt
    have hul := hu.lt
    have hrl := hr.lt
    have htf := ht.few
    have hT' : T.length < 1000000 := by omega
    have hzr := hfr.size
    by_cases hlt : i < S.length
    · obtain ⟨g', off, rfl, hg1, hg2, hcells⟩ := hat'.out (by intro h; rw [h] at hlt; simp at hlt)
      obtain ⟨⟨x1, x2, x3⟩, hx⟩ : ∃ x, S[i]? = some x := ⟨_, List.getElem?_eq_getElem hlt⟩
      have q1 : g' < w3.heap.size := Nat.lt_of_lt_of_le hg2 hf13.size
      have q2 : g' ∉ [bm, um, rb] := by simp; omega
      have qb : g' ∉ [bm] := by simp; omega
      have qu : g' ∉ [um] := by simp; omega
      have k0 : wr.cell? ⟨g', off + i * 3, none⟩ = some (.int .i64 x1) := by rw [hfr.cell (p := ⟨g', _, none⟩) q1 q2, hf13.cell (p := ⟨g', _, none⟩) hg2 (by simp)]; exact hcells i _ 0 _ hx rfl
      have k1 : wr.cell? ⟨g', off + i * 3 + 1, none⟩ = some (.int .i64 x2) := by rw [hfr.cell (p := ⟨g', _, none⟩) q1 q2, hf13.cell (p := ⟨g', _, none⟩) hg2 (by simp)]; exact hcells i _ 1 _ hx rfl
      have k2 : wr.cell? ⟨g', off + i * 3 + 2, none⟩ = some (.int .i64 x3) := by rw [hfr.cell (p := ⟨g', _, none⟩) q1 q2, hf13.cell (p := ⟨g', _, none⟩) hg2 (by simp)]; exact hcells i _ 2 _ hx rfl
      clear hcells hx
      have hst := set_any tb bm T (x1, x2, x3) wr ht
      have hsu : ∀ W, TimersAt W ub um T → _ := fun W hW => set_any ub um T (x1, x2, x3) W hW
      have hsr : ∀ W, RefAt W rb T → _ := fun W hW => rset_any rb T (x1, x2, x3) W hW hT'
      obtain ⟨r, hrr⟩ : ∃ r, r = (setT T (x1, x2, x3)).1 := ⟨_, rfl⟩
      obtain ⟨T2, hTT⟩ : ∃ r, r = (setT T (x1, x2, x3)).2 := ⟨_, rfl⟩
      rw [← hrr, ← hTT] at hst
      simp only [← hrr, ← hTT] at hsu hsr
      have hsu' := Lib.hid hsu; have hsr' := Lib.hid hsr
      clear hsu hsr hrr hTT
      go_wp2_with (first | (go_at_call 9; refine hst.mono ?_; rintro e wa ⟨rfl, hfa, hta⟩; have k0a := (show wa.cell? ⟨g', off + i * 3, none⟩ = some (.int .i64 x1) from by rw [hfa.cell (p := ⟨g', _, none⟩) (lt_of_cell k0) qb]; exact k0); have k1a := (show wa.cell? ⟨g', off + i * 3 + 1, none⟩ = some (.int .i64 x2) from by rw [hfa.cell (p := ⟨g', _, none⟩) (lt_of_cell k0) qb]; exact k1); have k2a := (show wa.cell? ⟨g', off + i * 3 + 2, none⟩ = some (.int .i64 x3) from by rw [hfa.cell (p := ⟨g', _, none⟩) (lt_of_cell k0) qb]; exact k2); have lka := lt_of_cell k0a; have hua := hu.fr hfa (by simp; omega) (by simp; omega); have hra := hr.frT ht hfa; have hss := hsu'.out _ hua; clear hst) | (go_at_call 9; refine hss.mono ?_; rintro e wb ⟨rfl, hfb, hub⟩; have k0b := (show wb.cell? ⟨g', off + i * 3, none⟩ = some (.int .i64 x1) from by rw [hfb.cell (p := ⟨g', _, none⟩) (lt_of_cell k0a) qu]; exact k0a); have k1b := (show wb.cell? ⟨g', off + i * 3 + 1, none⟩ = some (.int .i64 x2) from by rw [hfb.cell (p := ⟨g', _, none⟩) (lt_of_cell k0a) qu]; exact k1a); have k2b := (show wb.cell? ⟨g', off + i * 3 + 2, none⟩ = some (.int .i64 x3) from by rw [hfb.cell (p := ⟨g', _, none⟩) (lt_of_cell k0a) qu]; exact k2a); have lkb := lt_of_cell k0b; have htb := hta.fr hfb (by simp; omega) (by simp; omega); have hrb := hra.frT hua hfb; have hrs := hsr'.out _ hrb; clear hss) | (go_at_call 10; refine hrs.mono ?_; rintro e wc ⟨rfl, hfc, hrc⟩))
      have htc := htb.frR hrb hfc hne
      have huc := hub.frR hrb hfc hne2
      have hrbe := hrb3.out
      subst hrbe
      go_roundg (S.length - (i + 1))
      case rel => exact ⟨i + 1, T2, by omega, rfl, by go_num, htc, huc, hrc, ((hfr.trans (hfa.mono (by simp))).trans (hfb.mono (by simp))).trans (hfc.mono (by simp))⟩
      case measure => rw [hgk'.out]; omega
    · clear hgk' hat'
      obtain ⟨lo, hlo⟩ : ∃ lo, lo = min a b := ⟨_, rfl⟩
      obtain ⟨hi, hhi⟩ : ∃ hi, hi = max a b := ⟨_, rfl⟩
      have hlh : lo ≤ hi := by omega
      have hsrt := ht.srt
      obtain ⟨X, hX⟩ : ∃ X, X = dueL node lo T := ⟨_, rfl⟩
      obtain ⟨T1, hT1⟩ : ∃ X, X = restL node lo T := ⟨_, rfl⟩
      obtain ⟨Y2, hY2⟩ : ∃ X, X = dueL node hi T1 := ⟨_, rfl⟩
      obtain ⟨V, hV⟩ : ∃ X, X = restL node hi T := ⟨_, rfl⟩
      obtain ⟨Y, hY⟩ : ∃ X, X = dueL node hi T := ⟨_, rfl⟩
      have hV1 : restL node hi T1 = V := by rw [hT1, hV]; exact restL_twice T hlh
      have hV2 : restL node hi V = V := by rw [← hV1]; exact restL_twice _ (Int.le_refl _)
      have hVg : dueL node hi V = [] := by rw [← hV1, hT1]; exact dueL_gone _ _ _ _
      have hXY : X ++ Y2 = Y := by rw [hX, hY2, hT1, hY]; exact dueL_join hsrt hlh
      have hlow : ∀ x ∈ X, x.2.1 ≤ lo := fun x hx => by rw [hX] at hx; exact dueL_low hx
      have nX : X.length < 1000000 := by rw [hX]; exact Nat.lt_of_le_of_lt (List.length_filter_le _ _) hT'
      have nT1 : T1.length < 1000000 := by rw [hT1]; exact Nat.lt_of_le_of_lt (List.length_filter_le _ _) hT'
      have nY2 : Y2.length < 1000000 := by rw [hY2]; exact Nat.lt_of_le_of_lt (List.length_filter_le _ _) nT1
      have nV : V.length < 1000000 := by rw [hV]; exact Nat.lt_of_le_of_lt (List.length_filter_le _ _) hT'
      have nY : Y.length < 1000000 := by rw [hY]; exact Nat.lt_of_le_of_lt (List.length_filter_le _ _) hT'
      have c1 := due_L tb bm T X T1 node lo wr ht hX.symm hT1.symm
      have c2 : ∀ W, TimersAt W tb bm T1 → _ := fun W hW => due_L tb bm T1 Y2 V node hi W hW hY2.symm hV1
      have c3 : ∀ W, TimersAt W ub um T → _ := fun W hW => due_L ub um T Y V node hi W hW hY.symm hV.symm
      have c4 : ∀ W, RefAt W rb T → _ := fun W hW => rdue_L rb T Y node hi W hW hT' hY.symm
      have c5 : ∀ W, TimersAt W tb bm V → _ := fun W hW => due_L tb bm V [] V node hi W hW hVg hV2
      have h2 := Lib.hid c2; have h3 := Lib.hid c3; have h4 := Lib.hid c4; have h5 := Lib.hid c5; have hXY' := Lib.hid hXY; have hlow' := Lib.hid hlow; have hF0 := Lib.hid hfr
      clear c2 c3 c4 c5 hXY hlow hX hT1 hY2 hV hY hV1 hV2 hVg hsrt hfr
      go_wp2_with fail
      rw [← hlo, ← hhi]
      have hlo' := Lib.hid hlo; have hhi' := Lib.hid hhi; have hlh' := Lib.hid hlh
      clear hlo hhi hlh
      refine c1.mono ?_
      rintro e wa ⟨va, rfl, hfa, hsa, hta⟩
      have za := hfa.size
      have hua := hu.fr hfa (by simp; omega) (by simp; omega)
      have cth := theirs_own va X wa hsa nX
      go_wp2_with (go_at_call 11; refine cth.mono ?_; rintro e wb ⟨g1, cap1, rfl, hfb, hg1, hob⟩)
      have zb := hfb.size
      have htb := hta.fr hfb (by simp) (by simp)
      have hub := hua.fr hfb (by simp) (by simp)
      have hob' := Lib.hid hob; clear hob hsa cth c1
      go_loopg [17] X.length (fun gk iv wl => ∃ (j : Nat), j ≤ X.length ∧ gk = X.length - j ∧ iv = .int .i64 j ∧ wl = wb)
      case atStart => exact ⟨0, Nat.zero_le _, rfl, rfl, rfl⟩
      case round =>
        obtain ⟨j, hj, hgk, rfl, hwe⟩ := hrel
        have hwe := hwe.symm
        subst hwe
        have hgk' := Lib.hid hgk; clear hgk
        by_cases hjt : j < X.length
        · obtain ⟨⟨x1, x2, x3⟩, hx⟩ : ∃ x, X[j]? = some x := ⟨_, List.getElem?_eq_getElem hjt⟩
          have k1 : wb.cell? ⟨g1, j * 3 + 1, none⟩ = some (.int .i64 x2) := by have := hob'.out.cells (g := g1) rfl (j * 3 + 1) (.int .i64 x2) (flat_get encAl_len X j _ 1 _ hx rfl); rw [addr_add] at this; exact this
          have hle := hlow'.out _ (List.mem_of_getElem? hx)
          dsimp only at hle
          have hgt : decide (lo < x2) = false := by simpa using hle
          clear hx hle
          go_wp2
          go_roundg (X.length - (j + 1))
          case rel => exact ⟨j + 1, by omega, rfl, by go_num, rfl⟩
          case measure => rw [hgk'.out]; omega
        · clear hgk'
          have d2 := h2.out wb htb
          go_wp2_with (go_at_call 12; refine d2.mono ?_; rintro e wc ⟨vc, rfl, hfc, hsc, htc⟩; have zc := hfc.size; have huc := hub.fr hfc (by simp; omega) (by simp; omega); have cth2 := theirs_own vc Y2 wc hsc nY2)
          go_wp2_with (first | (go_at_call 11; refine cth2.mono ?_; rintro e wd ⟨g2, cap2, rfl, hfd, hg2, hod⟩; have zd := hfd.size; have htd := htc.fr hfd (by simp) (by simp); have hud := huc.fr hfd (by simp) (by simp); have ho1 := owns_fr2 (owns_fr2 hob'.out hfc (by intro g hg; simp [Value.ownBlock] at hg; simp; omega)) hfd (by simp); clear d2 hsc cth2) | (at_builtin; refine wpList_join wd rfl _ _ 26 rfl wa.heap.size 34 Try.underlying26 infoRef rfl (by omega) (.slice (some ⟨g1, 0, none⟩) X.length cap1) X Y2 rfl ho1 g2 cap2 rfl hod encAl_len enc1 nX nY2 (by omega) (by omega) ?_; intro v' we hoe hfe; rw [hXY'.out] at hoe; have ze := hfe.size; have qg : ∀ s, s < wa.heap.size → s ∉ (Value.slice (some ⟨g1, 0, none⟩) X.length cap1).ownBlock.toList := (by intro s hs; simp [Value.ownBlock]; omega); have hte := htd.fr hfe (qg tb (by omega)) (qg bm (by omega)); have hue := hud.fr hfe (qg ub (by omega)) (qg um (by omega)); have d3 := h3.out we hue) | (go_at_call 12; refine d3.mono ?_; rintro e wf ⟨vf, rfl, hff, hsf, huf⟩; have zf := hff.size; have htf' := hte.fr hff (by simp; omega) (by simp; omega); have cth3 := theirs_own vf Y wf hsf nY; clear d3) | (go_at_call 11; refine cth3.mono ?_; rintro e wg ⟨g3, cap3, rfl, hfg, hg3, hog⟩))
          have zg := hfg.size
          have htg := htf'.fr hfg (by simp) (by simp)
          have hug := huf.fr hfg (by simp) (by simp)
          have s1 := (((SliceIs.of_owns hoe rfl).fr hff (by intro g hg _; simp; omega)).fr hfg (by simp))
          have s3 := SliceIs.of_owns hog rfl
          have d13 := same_yes _ _ Y wg s1 s3 nY
          have hFa : Fr [bm, um] wr wg := ((((((hfa.mono (T := [bm, um]) (by simp)).trans (hfb.mono (by simp))).trans (hfc.mono (by simp))).trans (hfd.mono (by simp))).andThen hfe (by intro s hs; simp [Value.ownBlock] at hs; omega)).trans (hff.mono (by simp))).trans (hfg.mono (by simp))
          have hrg := hr.frTU ht hu hFa
          clear ho1 hoe hog s1 hfa hfb hfc hfd hfe hff hfg hod
          go_wp2_with (first | (go_at_call 13; refine d13.mono ?_; rintro e wh ⟨rfl, hfh⟩; have zh := hfh.size; have hth := htg.fr hfh (by simp) (by simp); have huh := hug.fr hfh (by simp) (by simp); have hrh := hrg.fr hfh (by simp) (by simp); have s3h := s3.fr hfh (by simp); have lrh := hrh.lt; have d14 := h4.out wh hrh; clear d13) | (go_at_call 14; refine d14.mono ?_; rintro e wi ⟨vi, rfl, hfi, hsi⟩; have zi := hfi.size; have hti := hth.frR hrh hfi hne; have hui := huh.frR hrh hfi hne2; have s3i := s3h.fr hfi (by intro g hg _; simp; omega); have d15 := same_yes _ _ Y wi s3i hsi nY; clear d14) | (go_at_call 13; refine d15.mono ?_; rintro e wj ⟨rfl, hfj⟩; have zj := hfj.size; have htj := hti.fr hfj (by simp) (by simp); have huj := hui.fr hfj (by simp) (by simp); have d16 := h5.out wj htj; clear d15) | (go_at_call 12; refine d16.mono ?_; rintro e wk ⟨vk, rfl, hfk, hsk, htk⟩; obtain ⟨ak, capk, rfl, _, _, _⟩ := hsk.at encAl_len; have zk := hfk.size; have huk := huj.fr hfk (by simp; omega) (by simp; omega); have d17 := list_any tb bm V wk htk; clear d16) | (go_at_call 15; refine d17.mono ?_; rintro e wl ⟨vl, rfl, hfl, hsl⟩; have zl := hfl.size; have hul' := huk.fr hfl (by simp) (by simp); have d18 := theirs_own vl V wl hsl nV; clear d17) | (go_at_call 11; refine d18.mono ?_; rintro e wm ⟨g4, cap4, rfl, hfm, hg4, hom⟩; have zm := hfm.size; have hum := hul'.fr hfm (by simp) (by simp); have d19 := list_any ub um V wm hum; clear d18) | (go_at_call 15; refine d19.mono ?_; rintro e wn ⟨vn, rfl, hfn, hsn⟩; have zn := hfn.size; have s4 := (SliceIs.of_owns hom rfl).fr hfn (by simp); have d20 := theirs_own vn V wn hsn nV; clear d19) | (go_at_call 11; refine d20.mono ?_; rintro e wo ⟨g5, cap5, rfl, hfo, hg5, hoo⟩; have s4o := s4.fr hfo (by simp); have d21 := same_yes _ _ V wo s4o (SliceIs.of_owns hoo rfl) nV; clear d20) | (go_at_call 13; refine d21.mono ?_; rintro e wp ⟨rfl, hfp⟩; clear d21) | (go_at_call 16; refine (shown_any _).mono ?_; rintro e wq ⟨rfl, hfq⟩))
          go_ret
          have hFz := (((((((((hfh.mono (T := [bm, um, rb]) (by simp)).trans (hfi.mono (by simp))).trans (hfj.mono (by simp))).trans (hfk.mono (by simp))).trans (hfl.mono (by simp))).trans (hfm.mono (by simp))).trans (hfn.mono (by simp))).trans (hfo.mono (by simp))).trans (hfp.mono (by simp))).trans (hfq.mono (by simp))
          exact ⟨rfl, hf13.andThen ((hF0.out.trans (hFa.mono (by simp))).trans hFz) (fun s hs => by simp at hs; omega)⟩
end Go.Proofs.Ytcnihacjkcicfaa
