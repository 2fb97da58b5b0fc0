/- Pages (chapter 19): put, whatever the page (put_any), by the pages alone. -/
import Derived.Test.YtafeemlojlngfaaPg10
import Derived.Test.YtafeemlojlngfaaPg12
namespace Go.Proofs.Ytafeemlojlngfaa
open Go.RowKit Go.Maps
/-! ### What a put comes to, by the pages alone -/
def findP (P : List Pg) (b : Int) : Option Pg := P.find? fun p => decide (b = p.1)
def cutP (P : List Pg) (b : Int) : List Pg := P.filter fun p => decide (p.1 ≠ b)
def lastP (P : List Pg) : Option Pg := P.reverse.find? fun p => decide (p.2.2.2 = 0)
def evictP (P : List Pg) : List Pg := match lastP P with | none => P | some p => cutP P p.1
def putP (n : Nat) (P : List Pg) (p : Pg) (sq : Bool) (wish : Pg → Bool) : Int × List Pg :=
  if badPg p sq ≠ 0 then (badPg p sq, P)
  else match findP P p.1 with
    | some q => if wish q then (0, p :: cutP P p.1) else (5, P)
    | none => if P.length < n then (0, p :: P) else match lastP P with
      | none => (190, P)
      | some q => (0, p :: cutP P q.1)
theorem atQ_pages (Q : List (Nat × Pg)) (b : Int) : (atQ Q b).map (·.2) = findP (Q.map (·.2)) b := by
  unfold atQ findP
  rw [List.find?_map]; rfl
theorem lastClean_pages (Q : List (Nat × Pg)) : (lastClean Q).map (·.2) = lastP (Q.map (·.2)) := by
  unfold lastClean lastP
  rw [← List.map_reverse, List.find?_map]; rfl
theorem cutQ_pages {Q : List (Nat × Pg)} {x : Nat} {p : Pg} (h1 : (Q.map (·.1)).Nodup) (h2 : (Q.map (·.2.1)).Nodup) (hx : (x, p) ∈ Q) : (cutQ Q x).map (·.2) = cutP (Q.map (·.2)) p.1 := by
  unfold cutQ cutP
  rw [List.filter_map]
  congr 1
  apply List.filter_congr
  intro q hq
  rw [Bool.eq_iff_iff]
  simp only [decide_eq_true_eq, Function.comp]
  constructor
  · intro hne he
    exact hne (congrArg (·.1) (inj_once h2 hq hx he))
  · intro hne he
    exact hne (congrArg (·.2.1) (inj_once (f := (·.1)) h1 hq hx he))
theorem CacheAt.blocks {w : World} {cb bm rg n : Nat} {Q : List (Nat × Pg)} (h : CacheAt w cb bm rg n Q) : (Q.map (·.1)).Nodup := by
  have := h.apart
  simp only [List.nodup_cons] at this
  exact this.2.2.2
theorem put_any {cb bm rg n : Nat} {Q : List (Nat × Pg)} {w : World} {g : Nat} {cbv : Array Value} {wish : Pg → Bool} (h : CacheAt w cb bm rg n Q) (p : Pg) (sq : Bool)
    (eg : ∀ args w, (callFunc g args).run Try.prog w = .ok (.enter g args) w) (hwish : WishOk g cbv wish w) :
    Calls Try.prog 32 #[.pointer (some ⟨cb, 0, none⟩), aggPg p, .bool sq, .func (.func g) #[] cbv] w fun e w' => e = .returned (.int .i64 (putP n (Q.map (·.2)) p sq wish).1) ∧ Fr (bm :: rg :: Q.map (·.1)) w w' ∧
      ∃ Q', Q'.map (·.2) = (putP n (Q.map (·.2)) p sq wish).2 ∧ CacheAt w' cb bm rg n Q' ∧ ∀ q ∈ Q', q.1 ∈ Q.map (·.1) ∨ w.heap.size ≤ q.1 := by
  have hsame : ∀ q ∈ Q, q.1 ∈ Q.map (·.1) ∨ w.heap.size ≤ q.1 := fun q hq => .inl (List.mem_map_of_mem (f := (·.1)) hq)
  by_cases hb : badPg p sq = 0
  · have e0 : ¬ badPg p sq ≠ 0 := fun h => h hb
    cases hat : atQ Q p.1 with
    | some q =>
      obtain ⟨x, q0⟩ := q
      have hf : findP (Q.map (·.2)) p.1 = some q0 := by rw [← atQ_pages, hat]; rfl
      obtain ⟨hk, hm⟩ := atQ_split hat
      cases hw : wish q0 with
      | false =>
        have hv : putP n (Q.map (·.2)) p sq wish = (5, Q.map (·.2)) := by unfold putP; rw [if_neg e0, hf]; simp [hw]
        rw [hv]
        refine (put_old h p sq hb hat eg hwish hw).mono ?_
        rintro e w' ⟨rfl, hf2⟩
        exact ⟨rfl, hf2.mono (by simp), Q, rfl, h.fr0 hf2, hsame⟩
      | true =>
        have hv : putP n (Q.map (·.2)) p sq wish = (0, p :: cutP (Q.map (·.2)) p.1) := by unfold putP; rw [if_neg e0, hf]; simp [hw]
        rw [hv]
        refine (put_over h p sq hb hat eg hwish hw).mono ?_
        rintro e w' ⟨rfl, hf2, h2⟩
        refine ⟨rfl, hf2.mono (fun b hb => List.mem_cons_of_mem _ hb), _, ?_, h2, ?_⟩
        · rw [List.map_cons, cutQ_pages h.blocks h.nodup hm, hk]
        · intro q hq
          rcases List.mem_cons.1 hq with rfl | hq
          · exact .inl (List.mem_map_of_mem (f := (·.1)) hm)
          · exact hsame q (List.mem_filter.1 hq).1
    | none =>
      have hf : findP (Q.map (·.2)) p.1 = none := by rw [← atQ_pages, hat]; rfl
      by_cases hl : Q.length < n
      · have hv : putP n (Q.map (·.2)) p sq wish = (0, p :: Q.map (·.2)) := by unfold putP; rw [if_neg e0, hf]; simp [hl]
        rw [hv]
        refine (put_new h p sq hb hat hl).mono ?_
        rintro e w' ⟨x, rfl, hx, hf2, h2⟩
        refine ⟨rfl, hf2, _, rfl, h2, ?_⟩
        intro q hq
        rcases List.mem_cons.1 hq with rfl | hq
        · exact .inr hx
        · exact hsame q hq
      · cases hlc : lastClean Q with
        | none =>
          have hlp : lastP (Q.map (·.2)) = none := by rw [← lastClean_pages, hlc]; rfl
          have hv : putP n (Q.map (·.2)) p sq wish = (190, Q.map (·.2)) := by unfold putP; rw [if_neg e0, hf]; simp [hl, hlp]
          rw [hv]
          refine (put_full h p sq hb hat (by omega) hlc).mono ?_
          rintro e w' ⟨rfl, hf2, h2⟩
          exact ⟨rfl, hf2, Q, rfl, h2, hsame⟩
        | some y =>
          obtain ⟨x, q0⟩ := y
          have hlp : lastP (Q.map (·.2)) = some q0 := by rw [← lastClean_pages, hlc]; rfl
          have hm : (x, q0) ∈ Q := List.mem_reverse.1 (List.mem_of_find?_eq_some hlc)
          have hv : putP n (Q.map (·.2)) p sq wish = (0, p :: cutP (Q.map (·.2)) q0.1) := by unfold putP; rw [if_neg e0, hf]; simp [hl, hlp]
          rw [hv]
          refine (put_evict h p sq hb hat (by omega) hlc).mono ?_
          rintro e w' ⟨z, rfl, hz, hf2, h2⟩
          refine ⟨rfl, hf2, _, ?_, h2, ?_⟩
          · unfold evictQ
            rw [hlc, List.map_cons, cutQ_pages h.blocks h.nodup hm]
          · intro q hq
            rcases List.mem_cons.1 hq with rfl | hq
            · exact .inr hz
            · exact .inl (evictQ_sub Q _ (List.mem_map_of_mem (f := (·.1)) hq))
  · have hv : putP n (Q.map (·.2)) p sq wish = (badPg p sq, Q.map (·.2)) := by unfold putP; rw [if_pos hb]
    rw [hv]
    refine (put_bad p sq w hb).mono ?_
    rintro e w' ⟨rfl, hf2⟩
    exact ⟨rfl, hf2.mono (by simp), Q, rfl, h.fr0 hf2, hsame⟩
end Go.Proofs.Ytafeemlojlngfaa
