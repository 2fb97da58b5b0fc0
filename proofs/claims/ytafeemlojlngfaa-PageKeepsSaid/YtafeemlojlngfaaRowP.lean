/- What all rows of chapter 19 share. -/
import Derived.Test.YtafeemlojlngfaaRows
import Derived.Test.YtafeemlojlngfaaOpn
import Derived.Test.YtafeemlojlngfaaLq5
import Derived.WalkKit
import Derived.ProofKit
import Derived.OpenShut
import Derived.ShutString
import Derived.ChangeOld
import Derived.Below
namespace Go.Proofs.Ytafeemlojlngfaa
open Go.ChangeShapes Go.WideShapes Go.ChangeAt Go.RowKit
theorem own : ownKnob Try.prog.godebug = none := by kernel_rfl
theorem laidOut : laidOutB Try.prog = true := by kernel_rfl
section
variable {H : Type} {ec : TypeId × Value → H} {W : World}
theorem field_made {P : Program} {t : TypeId} {fs : Array Field} {n : Nat} {cs : List Value} {y : DataW H × List MemPlace} {α : Type} {enc : α → List Value} (hs : P.underlying t = some (.struct fs)) (h : DataW.trod ec P W 0 (fun _ => true) true n t cs = some y)
    (i off m : Nat) (tf : TypeId) (hf : (fs[i]?.map fun f => (f.offset, f.type)) = some (off, tf)) (hc : P.cellsOf tf = m) (hm : Made ec P W tf enc) : ∃ x, (cs.drop off).take m = enc x := by
  obtain ⟨f, hf', he⟩ := Option.map_eq_some_iff.1 hf
  simp only [Prod.mk.injEq] at he
  obtain ⟨rfl, rfl⟩ := he
  subst hc
  obtain ⟨xs, m, _, _, _, hlen, hat⟩ := DataW.trod_struct hs h
  have hi : i < xs.length := by rw [hlen]; exact (Array.getElem?_eq_some_iff.1 hf').1
  have := hat i f hf'
  rw [List.getElem?_eq_getElem hi] at this
  exact hm _ _ _ this
theorem made_str {P : Program} {e : TypeId} (he : P.underlying e = some .string) : Made ec P W e (fun x : ByteArray => [.string x]) := by
  intro n cs y h
  obtain ⟨x, rfl, _, _⟩ := DataW.trod_string he h
  exact ⟨x, rfl⟩
set_option maxRecDepth 10000 in
theorem made_pg : Made ec Try.prog W 31 encPg := by
  intro n cs y h
  obtain ⟨_, _, _, _, hl, _, _⟩ := DataW.trod_struct Try.underlying31 h
  obtain ⟨x, hx⟩ := field_made Try.underlying31 h 0 0 1 3 rfl (by kernel_rfl) (made_int Try.underlying3)
  obtain ⟨y, hy⟩ := field_made Try.underlying31 h 1 1 1 3 rfl (by kernel_rfl) (made_int Try.underlying3)
  obtain ⟨z, hz⟩ := field_made Try.underlying31 h 2 2 1 9 rfl (by kernel_rfl) (made_str Try.underlying9)
  obtain ⟨u, hu⟩ := field_made Try.underlying31 h 3 3 1 3 rfl (by kernel_rfl) (made_int Try.underlying3)
  have h3 : Try.prog.cellsOf 31 = 4 := by kernel_rfl
  rw [h3] at hl
  match cs, hl with
  | [c0, c1, c2, c3], _ =>
    simp at hx hy hz hu
    exact ⟨(x, y, z, u), by rw [hx, hy, hz, hu]; rfl⟩
def encRg (x : Int × Int) : List Value := [.int .i64 x.1, .int .i64 x.2]
set_option maxRecDepth 10000 in
theorem made_rg : Made ec Try.prog W 33 encRg := by
  intro n cs y h
  obtain ⟨_, _, _, _, hl, _, _⟩ := DataW.trod_struct Try.underlying33 h
  obtain ⟨x, hx⟩ := field_made Try.underlying33 h 0 0 1 3 rfl (by kernel_rfl) (made_int Try.underlying3)
  obtain ⟨y, hy⟩ := field_made Try.underlying33 h 1 1 1 3 rfl (by kernel_rfl) (made_int Try.underlying3)
  have h3 : Try.prog.cellsOf 33 = 2 := by kernel_rfl
  rw [h3] at hl
  match cs, hl with
  | [c0, c1], _ =>
    simp at hx hy
    exact ⟨(x, y), by rw [hx, hy]; rfl⟩
set_option maxRecDepth 10000 in
theorem made_step : Made ec Try.prog W 35 encSt := by
  intro n cs y h
  obtain ⟨_, _, _, _, hl, _, _⟩ := DataW.trod_struct Try.underlying35 h
  obtain ⟨x, hx⟩ := field_made Try.underlying35 h 0 0 1 3 rfl (by kernel_rfl) (made_int Try.underlying3)
  obtain ⟨y, hy⟩ := field_made Try.underlying35 h 1 1 4 31 rfl (by kernel_rfl) made_pg
  obtain ⟨z, hz⟩ := field_made Try.underlying35 h 2 5 2 33 rfl (by kernel_rfl) made_rg
  have h3 : Try.prog.cellsOf 35 = 7 := by kernel_rfl
  rw [h3] at hl
  match cs, hl with
  | [c0, c1, c2, c3, c4, c5, c6], _ =>
    simp at hx hy hz
    obtain ⟨y1, y2, y3, y4⟩ := y
    obtain ⟨z1, z2⟩ := z
    simp [encPg] at hy
    simp [encRg] at hz
    obtain ⟨rfl, rfl, rfl, rfl⟩ := hy
    obtain ⟨rfl, rfl⟩ := hz
    exact ⟨(x, (y1, y2, y3, y4), z1, z2), by rw [hx]; rfl⟩
theorem agg_pg {cs : Array Value} {x : Pg} (h : (Value.agg cs).cells.toList = encPg x) : Value.agg cs = aggPg x := by
  have : cs.toList = encPg x := h
  unfold aggPg
  congr 1
  exact Array.toList_inj.1 (by rw [this]; rfl)
theorem agg_rg {cs : Array Value} {x : Int × Int} (h : (Value.agg cs).cells.toList = encRg x) : Value.agg cs = .agg #[.int .i64 x.1, .int .i64 x.2] := by
  have : cs.toList = encRg x := h
  congr 1
  exact Array.toList_inj.1 (by rw [this]; rfl)
end
end Go.Proofs.Ytafeemlojlngfaa
