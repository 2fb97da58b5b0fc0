/- append at a step of a region that draws its order. -/
import Derived.Test.YtcbccogpogdbmaaHlp
import Derived.Deep.AppendLies
import Derived.Deep.RegionHeld3
namespace Go.Proofs.Ytcbccogpogdbmaa
open Go.RowKit
theorem step_push {α : Type} {enc : α → List Value} {k : Nat} {P : Program} {ops : Array Oper} {o : Oper} {a : Act} {K : Act → World → Prop} {Q : Exit → Act → World → Prop} {E : Prop} (X : World) (b : Nat) (cs : Array Value) (e' : TypeId) (hgd : o.guard = none) (s x : Operand) (t : TypeId)
    (ho : o.op = .call { callee := .builtin .append, args := #[s, x], argTypes := #[t, t] })
    (base : Nat) (e : TypeId) {z : Value} {bytes : Nat} (ht : P.underlying t = some (.slice e)) (hinfo : (P.info? e).map (fun i => (i.zero, i.size, i.bytes)) = some (some z, k, bytes)) (hzs : z.cells.size = k) (hk0 : 0 < k)
    (v : Value) (S : List α) (hs : a.eval s = v) (hown : X.ownsRow base e k v S.length (S.flatMap enc))
    (y : α) (hnew : X.heap[b]? = some (.cells cs e' (0, 0))) (hcs : cs.toList = enc y) (hk : ∀ x, (enc x).length = k) (hone : ∀ u ∈ enc y, u.oneCell' = true) (hx : a.eval x = .slice (some ⟨b, 0, none⟩) 1 1)
    (hn : S.length < 1099511627776) (hb : bytes ≤ 100) (hbase : base ≤ X.heap.size)
    (h : ∀ g cap w', w'.ownsRow base e k (.slice (some ⟨g, 0, none⟩) (S.length + 1) cap) (S ++ [y]).length ((S ++ [y]).flatMap enc) → Fr v.ownBlock.toList X w' → (v.ownBlock = some g ∨ g = X.heap.size) → g < w'.heap.size → K (a.put o.dst (.slice (some ⟨g, 0, none⟩) (S.length + 1) cap)) w') :
    if Region.wanted o (yielded ops a.tmps) = true then Oper.wp P o a X K Q else E := by
  obtain ⟨i, hi, hz0, hz1, hz2⟩ := info_parts hinfo
  refine step_append_lies X hgd s x t ho base e i z k bytes ht hi hz0 hz1 hz2 hzs hk0 v S.length (S.flatMap enc) hs hown ⟨b, 0, none⟩ 1 1 (enc y) hx (by rw [hk]; omega) (by rw [← hcs]; exact World.news_of_block hnew) hone (by omega) (by unfold maxLen; omega) ?_ hbase _ rfl ?_
  · have : (S.length + 1) * bytes ≤ 1099511627776 * 100 := Nat.mul_le_mul (by omega) hb
    omega
  · intro g cap w' h1 h2 h3 h4
    refine h g cap w' ?_ (Fr.of_grown h2) h3 h4
    rw [List.flatMap_append, List.length_append]
    simpa using h1
end Go.Proofs.Ytcbccogpogdbmaa
