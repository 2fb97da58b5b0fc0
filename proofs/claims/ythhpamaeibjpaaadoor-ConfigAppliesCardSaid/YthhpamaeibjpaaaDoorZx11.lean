/- Contracts and words, several texts in one. -/
import Derived.Test.YthhpamaeibjpaaaDoorZx7
import Derived.Test.YthhpamaeibjpaaaDoorZx9
import Derived.Test.YthhpamaeibjpaaaDoorZx10
section
namespace Go.Proofs.YthhpamaeibjpaaaDoor
open Go.RowKit Go.Proofs.YthhpamaeibjpaaaDoorW.PrintWords K
def encI (x : Int) : List Value := [.int .i64 x]
def encPt (p : Pt) : List Value := [.int .i64 p.1, .int .i64 p.2.1, .int .i64 p.2.2.1, .int .i64 p.2.2.2]
theorem encI_len (x : Int) : (encI x).length = 1 := rfl
theorem encPt_len (p : Pt) : (encPt p).length = 4 := rfl
def aggC (c : Cfg) (vs vp : Value) : Value := .agg #[.int .i64 c.ep, vs, vp, .int .i64 c.tb]
def CfgIs (w : World) (B : Nat → Prop) (vs vp : Value) (c : Cfg) : Prop := SliceIs w B encI vs c.sv ∧ SliceIs w B encPt vp c.pt
theorem CfgIs.fr0 {w w' : World} {B : Nat → Prop} {vs vp : Value} {c : Cfg} (h : CfgIs w B vs vp c) (hf : Fr [] w w') : CfgIs w' B vs vp c := ⟨h.1.fr hf (by simp), h.2.fr hf (by simp)⟩
theorem CfgIs.imp {w : World} {B B' : Nat → Prop} {vs vp : Value} {c : Cfg} (h : CfgIs w B vs vp c) (hB : ∀ g, g < w.heap.size → B g → B' g) : CfgIs w B' vs vp c := ⟨h.1.imp hB, h.2.imp hB⟩
theorem addr_off (g o j : Nat) : (⟨g, o, none⟩ : Addr).add j = ⟨g, o + j, none⟩ := by unfold Addr.add; split <;> simp_all
theorem SliceIs.toC {α β : Type} {w : World} {B : Nat → Prop} {enc : α → List Value} {v : Value} {S : List α} (h : SliceIs w B enc v S) (d : Kd β) (f : α → β) (hK : ∀ x, d.K w (f x) (enc x)) (hk : ∀ x, (enc x).length = d.sz) :
    ∃ A c, v = .slice A (S.map f).length c ∧ (S.map f).length ≤ c ∧ d.C w A (S.map f).length (S.map f) := by
  obtain ⟨a, cap, rfl, h1, h2, hat⟩ := h.at hk
  refine ⟨a, cap, by rw [List.length_map], by rw [List.length_map]; exact h1, ?_⟩
  refine ⟨rfl, by rw [List.length_map]; unfold maxLen at h2; omega, fun hn => ?_⟩
  obtain ⟨g, off, h3, _, _, h4⟩ := hat (by rintro rfl; simp at hn)
  refine ⟨_, h3, fun j p hj => ?_⟩
  rw [List.getElem?_map] at hj
  obtain ⟨x, hx, rfl⟩ := Option.map_eq_some_iff.1 hj
  refine ⟨enc x, hk x, hK x, fun i u hu => ?_⟩
  rw [addr_off]
  exact h4 j x i u hx hu
theorem reps_flat {α : Type} {R : α → List Value → Prop} {sz : Nat} {enc : α → List Value} (hR : ∀ p c, R p c → c = enc p) : ∀ (ps : List α) (cs : List Value), Reps R sz ps cs → (∀ p ∈ ps, (enc p).length = sz) → cs = ps.flatMap enc
  | [], cs, h, _ => by
    have := h.1
    simp only [List.length_nil, Nat.zero_mul] at this
    rw [List.eq_nil_of_length_eq_zero this]; rfl
  | p :: ps, cs, h, hl => by
    have h0 := hR _ _ (h.2 0 p rfl)
    rw [Nat.zero_mul, List.drop_zero] at h0
    have hrest : Reps R sz ps (cs.drop sz) := by
      refine ⟨?_, fun j q hj => ?_⟩
      · rw [List.length_drop, h.1, List.length_cons, Nat.add_mul]; omega
      · have := h.2 (j + 1) q (by simpa using hj)
        rw [List.drop_drop]
        rw [show sz + j * sz = (j + 1) * sz from by rw [Nat.add_mul]; omega]
        exact this
    have ih := reps_flat hR ps (cs.drop sz) hrest (fun q hq => hl q (List.mem_cons_of_mem _ hq))
    rw [List.flatMap_cons, ← h0, ← ih, List.take_append_drop]
theorem owns_ofR {α β : Type} {d : Kd β} {e : Nat} {w : World} {base : Nat} {ok : Nat → Prop} {v : Value} {S : List α} {enc : α → List Value} (f : α → β) (h : d.R e w base ok v (S.map f)) (hM : ∀ (ok : Nat → Prop) x cs, d.M w base ok (f x) cs → cs = enc x) (hk : ∀ x, (enc x).length = d.sz) :
    w.ownsRow base e d.sz v S.length (S.flatMap enc) := by
  obtain ⟨_, inner, ho, hr⟩ := h
  have e1 : Reps (fun x c => d.M w base (fun k => ok k ∧ some k ≠ v.ownBlock) (f x) c) d.sz S inner := by
    refine ⟨by have := hr.1; rwa [List.length_map] at this, fun j p hj => hr.2 j (f p) (by rw [List.getElem?_map, hj]; rfl)⟩
  have := reps_flat (enc := enc) (fun p c hc => hM _ _ _ hc) S inner e1 (fun p _ => hk p)
  rw [List.length_map] at ho
  rw [← this]; exact ho
theorem SliceIs.ofR {α β : Type} {d : Kd β} {e : Nat} {w : World} {base : Nat} {ok : Nat → Prop} {v : Value} {S : List α} {enc : α → List Value} (f : α → β) (h : d.R e w base ok v (S.map f)) (hM : ∀ (ok : Nat → Prop) x cs, d.M w base ok (f x) cs → cs = enc x) (hk : ∀ x, (enc x).length = d.sz) :
    SliceIs w (base ≤ ·) enc v S := SliceIs.of_owns (owns_ofR f h hM hk) rfl
theorem kP_K (w : World) (x : Pt) : k71.K w (toP x) (encPt x) := k71_mk w (toP x)
theorem kR_K (w : World) (x : Pt) : k73.K w (toR x) (encPt x) := k73_mk w (toR x)
theorem kP_M {w : World} {base : Nat} (ok : Nat → Prop) (x : Pt) (cs : List Value) (h : k71.M w base ok (toP x) cs) : cs = encPt x := k71_openM h
theorem kI_K (w : World) (x : Int) : (Kd.int .i64).K w (id x) (encI x) := rfl
theorem kI_M {w : World} {base : Nat} (ok : Nat → Prop) (x : Int) (cs : List Value) (h : (Kd.int .i64).M w base ok (id x) cs) : cs = encI x := h
theorem first_of {w w' : World} (h : Drawn0 w w') : Fr [] w w' := Fr.of_below h.below []
section
variable {w : World} {B : Nat → Prop} {vs vp : Value} {c : Cfg}
theorem CfgIs.toP (h : CfgIs w B vs vp c) : ∃ A1 c1 A2 c2, vs = .slice A1 c.sv.length c1 ∧ vp = .slice A2 (c.pt.map toP).length c2 ∧ (Kd.int .i64).C w A1 c.sv.length c.sv ∧ c.sv.length ≤ c1 ∧ k71.C w A2 (c.pt.map YthhpamaeibjpaaaDoor.toP).length (c.pt.map YthhpamaeibjpaaaDoor.toP) ∧ (c.pt.map YthhpamaeibjpaaaDoor.toP).length ≤ c2 := by
  obtain ⟨A1, c1, e1, l1, h1⟩ := h.1.toC (Kd.int .i64) id (kI_K w) (fun _ => rfl)
  obtain ⟨A2, c2, e2, l2, h2⟩ := h.2.toC k71 YthhpamaeibjpaaaDoor.toP (kP_K w) (fun _ => rfl)
  rw [List.map_id] at e1 l1 h1
  exact ⟨A1, c1, A2, c2, e1, e2, h1, l1, h2, l2⟩
theorem CfgIs.toR (h : CfgIs w B vs vp c) : ∃ A1 c1 A2 c2, vs = .slice A1 c.sv.length c1 ∧ vp = .slice A2 (c.pt.map toR).length c2 ∧ (Kd.int .i64).C w A1 c.sv.length c.sv ∧ c.sv.length ≤ c1 ∧ k73.C w A2 (c.pt.map YthhpamaeibjpaaaDoor.toR).length (c.pt.map YthhpamaeibjpaaaDoor.toR) ∧ (c.pt.map YthhpamaeibjpaaaDoor.toR).length ≤ c2 := by
  obtain ⟨A1, c1, e1, l1, h1⟩ := h.1.toC (Kd.int .i64) id (kI_K w) (fun _ => rfl)
  obtain ⟨A2, c2, e2, l2, h2⟩ := h.2.toC k73 YthhpamaeibjpaaaDoor.toR (kR_K w) (fun _ => rfl)
  rw [List.map_id] at e1 l1 h1
  exact ⟨A1, c1, A2, c2, e1, e2, h1, l1, h2, l2⟩
theorem check_any (h : CfgIs w B vs vp c) (hs : c.sv.length < 4398046511104) (hp : c.pt.length < 4398046511104) :
    Calls Tryd.prog 10 #[aggC c vs vp] w fun e w' => e = .returned (.int .i64 (errC c)) ∧ Fr [] w w' := by
  obtain ⟨A1, c1, A2, c2, rfl, rfl, h1, l1, h2, l2⟩ := h.toP
  obtain ⟨k, hk⟩ := check_f c (by omega) (by omega)
  exact (config_Check.calls k _ A1 c1 c.sv A2 c2 _ _ _ w h1 l1 h2 l2 hk).mono fun e w' ⟨he, hb⟩ => ⟨he, Fr.of_below hb []⟩
theorem rcheck_any (h : CfgIs w B vs vp c) (hs : c.sv.length < 4398046511104) (hp : c.pt.length < 4398046511104) :
    Calls Tryd.prog 11 #[aggC c vs vp] w fun e w' => e = .returned (.int .i64 (errC c)) ∧ Fr [] w w' := by
  obtain ⟨A1, c1, A2, c2, rfl, rfl, h1, l1, h2, l2⟩ := h.toR
  obtain ⟨k, hk⟩ := rcheck_f c (by omega) (by omega)
  exact (weirkeepref12_Check.calls k _ A1 c1 c.sv A2 c2 _ _ _ w h1 l1 h2 l2 hk).mono fun e w' ⟨he, hb⟩ => ⟨he, Fr.of_below hb []⟩
theorem has_any (h : CfgIs w B vs vp c) (hs : c.sv.length < 4398046511104) (n : Int) :
    Calls Tryd.prog 30 #[aggC c vs vp, .int .i64 n] w fun e w' => e = .returned (.bool (c.sv.contains n)) ∧ Fr [] w w' := by
  obtain ⟨A1, c1, A2, c2, rfl, rfl, h1, l1, h2, l2⟩ := h.toP
  have hk := has_f c.ep c.sv (c.pt.map YthhpamaeibjpaaaDoor.toP) c.tb n (by omega) (c.sv.length + 1) (by omega)
  exact (config_Config_has.calls _ _ A1 c1 c.sv A2 c2 _ _ _ _ w h1 l1 h2 l2 hk).mono fun e w' ⟨he, hb⟩ => ⟨he, Fr.of_below hb []⟩
theorem rhas_any {v : Value} {S : List Int} (h : SliceIs w B encI v S) (hs : S.length < 4398046511104) (n : Int) :
    Calls Tryd.prog 21 #[v, .int .i64 n] w fun e w' => e = .returned (.bool (S.contains n)) ∧ Fr [] w w' := by
  obtain ⟨A1, c1, e1, l1, h1⟩ := h.toC (Kd.int .i64) id (kI_K w) (fun _ => rfl)
  rw [List.map_id] at e1 l1 h1
  subst e1
  have hk := rhas_f n S (by omega) (S.length + 1) (by omega)
  exact (weirkeepref12_Has.calls _ A1 c1 S _ _ w h1 l1 hk).mono fun e w' ⟨he, hb⟩ => ⟨he, first_of hb⟩
theorem within_any (n a b : Int) (w : World) :
    Calls Tryd.prog 29 #[.int .i64 n, .int .i64 a, .int .i64 b] w fun e w' => e = .returned (.bool (decide (a ≤ n ∧ n ≤ b))) ∧ Fr [] w w' := by
  have hk : config_within.f n a b = some (decide (a ≤ n ∧ n ≤ b)) := by
    unfold config_within.f
    by_cases h : a ≤ n <;> simp [h]
  exact (config_within.calls n a b _ w hk).mono fun e w' ⟨he, hb⟩ => ⟨he, first_of hb⟩
theorem other_any {v : Value} {S : List Int} (h : SliceIs w B encI v S) (hs : S.length < 4398046511104) (n x : Int) :
    Calls Tryd.prog 52 #[v, .int .i64 n, .int .i64 x] w fun e w' => e = .returned (.int .i64 (otherR S n x)) ∧ Fr [] w w' := by
  obtain ⟨A1, c1, e1, l1, h1⟩ := h.toC (Kd.int .i64) id (kI_K w) (fun _ => rfl)
  rw [List.map_id] at e1 l1 h1
  subst e1
  obtain ⟨k, hk⟩ := other_f S n x (by omega)
  exact (weirkeepref12_other.calls _ A1 c1 S _ _ _ w h1 l1 hk).mono fun e w' ⟨he, hb⟩ => ⟨he, first_of hb⟩
theorem same_any {vs' vp' : Value} {B' : Nat → Prop} (h : CfgIs w B vs vp c) (h' : CfgIs w B' vs' vp' c) (hs : c.sv.length < 4398046511104) (hp : c.pt.length < 4398046511104) :
    Calls Tryd.prog 16 #[aggC c vs vp, aggC c vs' vp'] w fun e w' => e = .returned (.bool true) ∧ Fr [] w w' := by
  obtain ⟨A1, c1, A2, c2, rfl, rfl, h1, l1, h2, l2⟩ := h.toR
  obtain ⟨A3, c3, A4, c4, rfl, rfl, h3, l3, h4, l4⟩ := h'.toR
  obtain ⟨k, hk⟩ := same_f c (by omega) (by omega)
  exact (weirkeepref12_Same.calls k _ A1 c1 c.sv A2 c2 _ _ _ A3 c3 c.sv A4 c4 _ _ _ w h1 l1 h2 l2 h3 l3 h4 l4 hk).mono fun e w' ⟨he, hb⟩ => ⟨he, Fr.of_below hb []⟩
theorem blocks_any (h : CfgIs w B vs vp c) (ho : okC c = true) :
    Calls Tryd.prog 51 #[aggC c vs vp] w fun e w' => ∃ v, e = .returned v ∧ Fr [] w w' ∧ w'.ownsRow w.heap.size 73 4 v (blk c.pt).length ((blk c.pt).flatMap fun x => encPt (0, 0, x.1, x.2)) := by
  obtain ⟨A1, c1, A2, c2, rfl, rfl, h1, l1, h2, l2⟩ := h.toR
  obtain ⟨k, hk⟩ := blocks_f c ho
  refine (weirkeepref12_Config_blocks.calls k _ A1 c1 c.sv A2 c2 _ _ _ w h1 l1 h2 l2 hk).mono fun e w' ⟨v, he, hR, hb⟩ => ⟨v, he, Fr.of_below hb [], ?_⟩
  exact owns_ofR toB hR (fun ok x cs hm => k73_openM hm) (fun _ => rfl)
end
end Go.Proofs.YthhpamaeibjpaaaDoor
end
