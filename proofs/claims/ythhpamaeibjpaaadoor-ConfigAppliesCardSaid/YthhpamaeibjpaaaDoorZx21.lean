/- Contracts and words, several texts in one. -/
import Derived.Test.YthhpamaeibjpaaaDoorRows
import Derived.WalkKit
import Derived.ProofKit
import Derived.OpenShut
import Derived.ShutString
import Derived.ChangeOld
import Derived.Below
import Derived.LaidMore
import Derived.Stop.Joined
import Derived.Test.YthhpamaeibjpaaaDoorZx2
import Derived.Test.YthhpamaeibjpaaaDoorZx20
section
namespace Go.Proofs.YthhpamaeibjpaaaDoor
open Go.ChangeShapes Go.WideShapes Go.ChangeAt Go.RowKit
theorem own : ownKnob Tryd.prog.godebug = none := by kernel_rfl
theorem laidOut : laidOutB Tryd.prog = true := by kernel_rfl
section
variable {H : Type} {ec : TypeId × Value → H} {W : World}
theorem field_made {P : Program} {t : TypeId} {fs : Array Field} {n : Nat} {cs : List Value} {y : DataW H × List MemPlace} {α : Type} {enc : α → List Value} (hs : P.underlying t = some (.struct fs)) (h : DataW.trod ec P W 0 (fun _ => true) true n t cs = some y)
    (i off m : Nat) (tf : TypeId) (hf : (fs[i]?.map fun f => (f.offset, f.type)) = some (off, tf)) (hc : P.cellsOf tf = m) (hm : Made ec P W tf enc) : ∃ x, (cs.drop off).take m = enc x := by
  obtain ⟨f, hf', he⟩ := Option.map_eq_some_iff.1 hf
  simp only [Prod.mk.injEq] at he
  obtain ⟨rfl, rfl⟩ := he
  subst hc
  obtain ⟨xs, m, _, _, _, hlen, hat⟩ := DataW.trod_struct hs h
  have hi : i < xs.length := by rw [hlen]; exact (Array.getElem?_eq_some_iff.1 hf').1
  have := hat i f hf'
  rw [List.getElem?_eq_getElem hi] at this
  exact hm _ _ _ this
def encRg (x : Int × Int) : List Value := [.int .i64 x.1, .int .i64 x.2]
set_option maxRecDepth 10000 in
theorem made_rg : Made ec Tryd.prog W 28 encRg := by
  intro n cs y h
  obtain ⟨_, _, _, _, hl, _, _⟩ := DataW.trod_struct Tryd.underlying28 h
  obtain ⟨x, hx⟩ := field_made Tryd.underlying28 h 0 0 1 3 rfl (by kernel_rfl) (made_int Tryd.underlying3)
  obtain ⟨y, hy⟩ := field_made Tryd.underlying28 h 1 1 1 3 rfl (by kernel_rfl) (made_int Tryd.underlying3)
  have h3 : Tryd.prog.cellsOf 28 = 2 := by kernel_rfl
  rw [h3] at hl
  match cs, hl with
  | [c0, c1], _ =>
    simp at hx hy
    exact ⟨(x, y), by rw [hx, hy]; rfl⟩
set_option maxRecDepth 10000 in
theorem made_ord : Made ec Tryd.prog W 30 encO := by
  intro n cs y h
  obtain ⟨_, _, _, _, hl, _, _⟩ := DataW.trod_struct Tryd.underlying30 h
  obtain ⟨x, hx⟩ := field_made Tryd.underlying30 h 0 0 1 3 rfl (by kernel_rfl) (made_int Tryd.underlying3)
  obtain ⟨y, hy⟩ := field_made Tryd.underlying30 h 1 1 1 3 rfl (by kernel_rfl) (made_int Tryd.underlying3)
  obtain ⟨z, hz⟩ := field_made Tryd.underlying30 h 2 2 1 3 rfl (by kernel_rfl) (made_int Tryd.underlying3)
  obtain ⟨r, hr⟩ := field_made Tryd.underlying30 h 3 3 2 28 rfl (by kernel_rfl) made_rg
  have h3 : Tryd.prog.cellsOf 30 = 5 := by kernel_rfl
  rw [h3] at hl
  match cs, hl with
  | [c0, c1, c2, c3, c4], _ =>
    simp at hx hy hz hr
    obtain ⟨r1, r2⟩ := r
    simp [encRg] at hr
    obtain ⟨rfl, rfl⟩ := hr
    exact ⟨(x, y, z, r1, r2), by rw [hx, hy, hz]; rfl⟩
theorem agg_rg {cs : Array Value} {x : Int × Int} (h : (Value.agg cs).cells.toList = encRg x) : Value.agg cs = .agg #[.int .i64 x.1, .int .i64 x.2] := by
  have : cs.toList = encRg x := h
  congr 1
  exact Array.toList_inj.1 (by rw [this]; rfl)
theorem agg_ord {cs : Array Value} {x : Ord} (h : (Value.agg cs).cells.toList = encO x) : Value.agg cs = .agg #[.int .i64 x.1, .int .i64 x.2.1, .int .i64 x.2.2.1, .int .i64 x.2.2.2.1, .int .i64 x.2.2.2.2] := by
  have : cs.toList = encO x := h
  congr 1
  exact Array.toList_inj.1 (by rw [this]; rfl)
end
abbrev lst : List (String × DataW Unit) := [("weirkeep/config.kinds", Rows.laid_weirkeep_config_kinds)]
theorem gKinds : Tryd.prog.globalNamed "weirkeep/config.kinds" = some 0 := by kernel_rfl
theorem tKinds : (Tryd.prog.globals[0]?).map (·.type) = some 78 := by kernel_rfl
theorem door_met (os : Os) (args : Array Value) : laidMetH Tryd.prog lst ((World.doorLaid Tryd.prog 600 os).forCall (fun _ _ => 0) ⟨#[], args, []⟩).memory :=
  laidMetH_of_parts3 (fuel := 8) (laidMet_of_run' 8 (by kernel_rfl) (by kernel_rfl)) (by kernel_rfl) (by kernel_rfl)
set_option maxRecDepth 10000 in
theorem kinds_of_laid {W : World} (h : laidMetH Tryd.prog lst W) : KindsAt W := by
  obtain ⟨g, t, cs, fuel, p, hg, ht, hv, hd⟩ := h.funcs (List.mem_singleton.2 rfl)
  obtain rfl := Option.some.inj (gKinds.symm.trans hg)
  obtain rfl := Option.some.inj (tKinds.symm.trans ht)
  have hd' : DataW.trod (funcToken Tryd.prog) Tryd.prog W 0 (fun _ => true) true fuel 78 cs.toList = some (.agg [.agg [.nil], .agg [.held [119, 101, 105, 114, 107, 101, 101, 112, 47, 99, 111, 110, 102, 105, 103, 46, 99, 111, 109, 101]], .agg [.held [119, 101, 105, 114, 107, 101, 101, 112, 47, 99, 111, 110, 102, 105, 103, 46, 108, 101, 97, 118, 101]], .agg [.held [119, 101, 105, 114, 107, 101, 101, 112, 47, 99, 111, 110, 102, 105, 103, 46, 112, 108, 97, 99, 101]], .agg [.held [119, 101, 105, 114, 107, 101, 101, 112, 47, 99, 111, 110, 102, 105, 103, 46, 116, 97, 98, 108, 101, 115]]], p) := hd
  clear hd
  obtain ⟨xs, m, _, hx, hlen, hxl, hat⟩ := DataW.trod_array Tryd.underlying78 hd'
  simp only [Prod.mk.injEq, DataW.agg.injEq] at hx
  obtain ⟨hx, -⟩ := hx
  have hc5 : Tryd.prog.cellsOf 78 = 5 := by kernel_rfl
  have hc1 : Tryd.prog.cellsOf 77 = 1 := by kernel_rfl
  have hcf : Tryd.prog.cellsOf 76 = 1 := by kernel_rfl
  have hsf : (match Tryd.prog.underlying 77 with | some (.struct fs) => (fs[0]?.map fun f => (f.offset, f.type)) | _ => none) = some (0, 76) := by kernel_rfl
  rw [Tryd.underlying77] at hsf
  obtain ⟨f, hf, he⟩ := Option.map_eq_some_iff.1 hsf
  simp only [Prod.mk.injEq] at he
  obtain ⟨he1, he2⟩ := he
  have cell : ∀ (k : Nat) (f0 : FuncId) (b : UInt8) (r : List UInt8), k < 5 → (xs.map (·.1))[k]? = some (.agg [.held (b :: r)]) → ((List.range Tryd.prog.funcs.size).filter fun f => (Tryd.prog.funcs[f]?).any (·.name.toUTF8.data.toList == b :: r)) = [f0] → W.cell? ⟨0, k, none⟩ = some (.func (.func f0) #[] #[]) := by
    intro k f0 b r hk hxk hone
    have h1 := hat k hk
    rw [List.getElem?_map] at hxk
    obtain ⟨⟨D, q⟩, hq, hD⟩ := Option.map_eq_some_iff.1 hxk
    dsimp only at hD
    subst hD
    rw [hq, hc1] at h1
    obtain ⟨ys, m2, _, hy, _, _, hat2⟩ := DataW.trod_struct Tryd.underlying77 h1
    have h2 := hat2 0 f hf
    simp only [Prod.mk.injEq, DataW.agg.injEq] at hy
    obtain ⟨hy, -⟩ := hy
    have hy0 : (ys.map (·.1))[0]? = some (.held (b :: r)) := by rw [← hy]; rfl
    rw [List.getElem?_map] at hy0
    obtain ⟨⟨D2, q2⟩, hq2, hD2⟩ := Option.map_eq_some_iff.1 hy0
    dsimp only at hD2
    subst hD2
    rw [hq2, he1, he2, hcf] at h2
    have hkl : k < cs.toList.length := by rw [hlen, hc5]; exact hk
    have h3 : ((((cs.toList.drop (k * 1)).take 1).drop 0).take 1) = [cs.toList[k]] := by
      rw [Nat.mul_one, List.drop_zero, List.take_take, List.drop_eq_getElem_cons hkl]; rfl
    rw [h3] at h2
    have h4 := func_of_trod (f0 := f0) Tryd.underlying76 hone h2
    have := World.var?_cell hg hv k
    rw [this, ← h4]
    simp
  intro k h1 h4
  rcases (by omega : k = 1 ∨ k = 2 ∨ k = 3 ∨ k = 4) with rfl | rfl | rfl | rfl
  · exact cell 1 _ _ _ (by omega) (by rw [← hx]; rfl) (by kernel_rfl)
  · exact cell 2 _ _ _ (by omega) (by rw [← hx]; rfl) (by kernel_rfl)
  · exact cell 3 _ _ _ (by omega) (by rw [← hx]; rfl) (by kernel_rfl)
  · exact cell 4 _ _ _ (by omega) (by rw [← hx]; rfl) (by kernel_rfl)
end Go.Proofs.YthhpamaeibjpaaaDoor
end
