/- What all rows of chapter 6 share. -/
import Derived.Test.YtcnihacjkcicfaaRows
import Derived.Test.YtcnihacjkcicfaaOpn
import Derived.Test.YtcnihacjkcicfaaTm1
import Derived.WalkKit
import Derived.ProofKit
import Derived.OpenShut
import Derived.ShutString
import Derived.ChangeOld
import Derived.Below
namespace Go.Proofs.Ytcnihacjkcicfaa
open Go.ChangeShapes Go.WideShapes Go.ChangeAt Go.RowKit
theorem own : ownKnob Try.prog.godebug = none := by kernel_rfl
theorem laidOut : laidOutB Try.prog = true := by kernel_rfl
section
variable {H : Type} {ec : TypeId × Value → H} {W : World}
theorem field_made {P : Program} {t : TypeId} {fs : Array Field} {n : Nat} {cs : List Value} {y : DataW H × List MemPlace} {α : Type} {enc : α → List Value} (hs : P.underlying t = some (.struct fs)) (h : DataW.trod ec P W 0 (fun _ => true) true n t cs = some y)
    (i off m : Nat) (tf : TypeId) (hf : (fs[i]?.map fun f => (f.offset, f.type)) = some (off, tf)) (hc : P.cellsOf tf = m) (hm : Made ec P W tf enc) : ∃ x, (cs.drop off).take m = enc x := by
  obtain ⟨f, hf', he⟩ := Option.map_eq_some_iff.1 hf
  simp only [Prod.mk.injEq] at he
  obtain ⟨rfl, rfl⟩ := he
  subst hc
  obtain ⟨xs, m, _, _, _, hlen, hat⟩ := DataW.trod_struct hs h
  have hi : i < xs.length := by rw [hlen]; exact (Array.getElem?_eq_some_iff.1 hf').1
  have := hat i f hf'
  rw [List.getElem?_eq_getElem hi] at this
  exact hm _ _ _ this
theorem made_al : Made ec Try.prog W 32 encAl := by
  intro n cs y h
  obtain ⟨_, _, _, _, hl, _, _⟩ := DataW.trod_struct Try.underlying32 h
  obtain ⟨x, hx⟩ := field_made Try.underlying32 h 0 0 1 3 rfl (by kernel_rfl) (made_int Try.underlying3)
  obtain ⟨y, hy⟩ := field_made Try.underlying32 h 1 1 1 3 rfl (by kernel_rfl) (made_int Try.underlying3)
  obtain ⟨z, hz⟩ := field_made Try.underlying32 h 2 2 1 3 rfl (by kernel_rfl) (made_int Try.underlying3)
  have h3 : Try.prog.cellsOf 32 = 3 := by kernel_rfl
  rw [h3] at hl
  match cs, hl with
  | [c0, c1, c2], _ =>
    simp at hx hy hz
    exact ⟨(x, y, z), by rw [hx, hy, hz]; rfl⟩
/-- A step: its kind, its alarm. -/
def encStep (x : Int × Al) : List Value := [.int .i64 x.1, .int .i64 x.2.1, .int .i64 x.2.2.1, .int .i64 x.2.2.2]
theorem encStep_len (x : Int × Al) : (encStep x).length = 4 := rfl
theorem made_step : Made ec Try.prog W 47 encStep := by
  intro n cs y h
  obtain ⟨_, _, _, _, hl, _, _⟩ := DataW.trod_struct Try.underlying47 h
  obtain ⟨x, hx⟩ := field_made Try.underlying47 h 0 0 1 3 rfl (by kernel_rfl) (made_int Try.underlying3)
  obtain ⟨y, hy⟩ := field_made Try.underlying47 h 1 1 3 32 rfl (by kernel_rfl) made_al
  have h3 : Try.prog.cellsOf 47 = 4 := by kernel_rfl
  rw [h3] at hl
  match cs, hl with
  | [c0, c1, c2, c3], _ =>
    simp at hx hy
    obtain ⟨y1, y2, y3⟩ := y
    simp [encAl] at hy
    obtain ⟨rfl, rfl, rfl⟩ := hy
    exact ⟨(x, y1, y2, y3), by rw [hx]; rfl⟩
end
end Go.Proofs.Ytcnihacjkcicfaa
