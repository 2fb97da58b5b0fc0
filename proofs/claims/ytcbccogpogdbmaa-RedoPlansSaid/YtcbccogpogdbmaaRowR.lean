/- What all rows of chapter 18 share. -/
import Derived.Test.YtcbccogpogdbmaaRows
import Derived.Test.YtcbccogpogdbmaaOpn
import Derived.Test.YtcbccogpogdbmaaTi5
import Derived.WalkKit
import Derived.ProofKit
import Derived.OpenShut
import Derived.ShutString
import Derived.ChangeOld
import Derived.Below
namespace Go.Proofs.Ytcbccogpogdbmaa
open Go.ChangeShapes Go.WideShapes Go.ChangeAt Go.RowKit
theorem own : ownKnob Try.prog.godebug = none := by kernel_rfl
theorem laidOut : laidOutB Try.prog = true := by kernel_rfl
section
variable {H : Type} {ec : TypeId × Value → H} {W : World}
theorem field_made {P : Program} {t : TypeId} {fs : Array Field} {n : Nat} {cs : List Value} {y : DataW H × List MemPlace} {α : Type} {enc : α → List Value} (hs : P.underlying t = some (.struct fs)) (h : DataW.trod ec P W 0 (fun _ => true) true n t cs = some y)
    (i off m : Nat) (tf : TypeId) (hf : (fs[i]?.map fun f => (f.offset, f.type)) = some (off, tf)) (hc : P.cellsOf tf = m) (hm : Made ec P W tf enc) : ∃ x, (cs.drop off).take m = enc x := by
  obtain ⟨f, hf', he⟩ := Option.map_eq_some_iff.1 hf
  simp only [Prod.mk.injEq] at he
  obtain ⟨rfl, rfl⟩ := he
  subst hc
  obtain ⟨xs, m, _, _, _, hlen, hat⟩ := DataW.trod_struct hs h
  have hi : i < xs.length := by rw [hlen]; exact (Array.getElem?_eq_some_iff.1 hf').1
  have := hat i f hf'
  rw [List.getElem?_eq_getElem hi] at this
  exact hm _ _ _ this
theorem made_s {P : Program} {e : TypeId} (he : P.underlying e = some .string) : Made ec P W e encS := by
  intro n cs y h
  obtain ⟨x, rfl, _, _⟩ := DataW.trod_string he h
  exact ⟨x, rfl⟩
theorem made_str : Made ec Try.prog W 9 encS := made_s Try.underlying9
theorem made_u8 : Made ec Try.prog W 5 encU := by
  intro n cs y h
  obtain ⟨x, rfl, _, hw⟩ := DataW.trod_int Try.underlying5 h
  have hb : 0 ≤ x ∧ x ≤ 255 := by unfold Lit.wf at hw; simpa [IntKind.min, IntKind.max, IntKind.signed, IntKind.bits] using hw
  refine ⟨UInt8.ofNat x.toNat, ?_⟩
  unfold encU
  have : ((UInt8.ofNat x.toNat).toNat : Int) = x := by simp; omega
  rw [this]
def encL (x : Bool) : List Value := [.bool x]
theorem encL_len (x : Bool) : (encL x).length = 1 := rfl
theorem made_bool : Made ec Try.prog W 4 encL := by
  intro n cs y h
  obtain ⟨x, rfl, _, _⟩ := DataW.trod_bool Try.underlying4 h
  exact ⟨x, rfl⟩
set_option maxRecDepth 10000 in
theorem made_four {t : TypeId} {fs : Array Field} (hu : Try.prog.underlying t = some (.struct fs)) (hc : Try.prog.cellsOf t = 4) (h0 : (fs[0]?.map fun f => (f.offset, f.type)) = some (0, 3)) (h1 : (fs[1]?.map fun f => (f.offset, f.type)) = some (1, 3)) (h2 : (fs[2]?.map fun f => (f.offset, f.type)) = some (2, 3)) (h3 : (fs[3]?.map fun f => (f.offset, f.type)) = some (3, 9)) : Made ec Try.prog W t encR := by
  intro n cs y h
  obtain ⟨_, _, _, _, hl, _, _⟩ := DataW.trod_struct hu h
  obtain ⟨x, hx⟩ := field_made hu h 0 0 1 3 h0 (by kernel_rfl) (made_int Try.underlying3)
  obtain ⟨y, hy⟩ := field_made hu h 1 1 1 3 h1 (by kernel_rfl) (made_int Try.underlying3)
  obtain ⟨z, hz⟩ := field_made hu h 2 2 1 3 h2 (by kernel_rfl) (made_int Try.underlying3)
  obtain ⟨u, hu⟩ := field_made hu h 3 3 1 9 h3 (by kernel_rfl) made_str
  rw [hc] at hl
  match cs, hl with
  | [c0, c1, c2, c3], _ =>
    simp [encS] at hx hy hz hu
    exact ⟨(x, y, z, u), by rw [hx, hy, hz, hu]; rfl⟩
set_option maxRecDepth 10000 in
theorem made_rec : Made ec Try.prog W 23 encR := made_four Try.underlying23 (by kernel_rfl) (by kernel_rfl) (by kernel_rfl) (by kernel_rfl) (by kernel_rfl)
set_option maxRecDepth 10000 in
theorem made_step : Made ec Try.prog W 47 encR := made_four Try.underlying47 (by kernel_rfl) (by kernel_rfl) (by kernel_rfl) (by kernel_rfl) (by kernel_rfl)
/-- Number, version, data. -/
def encB (b : Int × Int × ByteArray) : List Value := [.int .i64 b.1, .int .i64 b.2.1, .string b.2.2]
theorem encB_len (b : Int × Int × ByteArray) : (encB b).length = 3 := rfl
set_option maxRecDepth 10000 in
theorem made_blk : Made ec Try.prog W 72 encB := by
  intro n cs y h
  obtain ⟨_, _, _, _, hl, _, _⟩ := DataW.trod_struct Try.underlying72 h
  obtain ⟨x, hx⟩ := field_made Try.underlying72 h 0 0 1 3 (by kernel_rfl) (by kernel_rfl) (made_int Try.underlying3)
  obtain ⟨y, hy⟩ := field_made Try.underlying72 h 1 1 1 3 (by kernel_rfl) (by kernel_rfl) (made_int Try.underlying3)
  obtain ⟨z, hz⟩ := field_made Try.underlying72 h 2 2 1 9 (by kernel_rfl) (by kernel_rfl) made_str
  have h3 : Try.prog.cellsOf 72 = 3 := by kernel_rfl
  rw [h3] at hl
  match cs, hl with
  | [c0, c1, c2], _ =>
    simp [encS] at hx hy hz
    exact ⟨(x, y, z), by rw [hx, hy, hz]; rfl⟩
theorem agg_rec {cs : Array Value} {x : Rec} (h : (Value.agg cs).cells.toList = encR x) : Value.agg cs = aggR x := by
  have : cs.toList = encR x := h
  unfold aggR
  congr 1
  exact Array.toList_inj.1 (by rw [this]; rfl)
end
end Go.Proofs.Ytcbccogpogdbmaa
