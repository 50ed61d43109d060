/- From cells as the row's frame hands them to a view of the elements. -/
import Derived.Test.YtpbbngdhljiedaaBase
namespace Go.Proofs.Ytpbbngdhljiedaa
open Go Go.RowKit

theorem spot_none {w : World} {x : Addr} {u : Value} (h : w.cell? (x.add 0) = some u) : x.spot = none := by
  rw [Addr.add_zero'] at h
  unfold World.cell? at h
  split at h
  · split at h
    · cases h
    · rename_i hs
      simpa using hs
  · cases h

theorem view_of_cells {w : World} {k : IntKind} {x : Addr} {len cap : Nat} {zs : List Int} (hl : len ≤ cap) (hz : zs.length = cap) (hc : ∀ i, i < zs.length → w.cell? (x.add i) = some (.int k (zs.getD i 0))) :
    View w (some x) ((zs.take len).map (Value.int k)) := fun hp => by
  have h0 : 0 < zs.length := by simp at hp; omega
  have hs := spot_none (hc 0 h0)
  rcases x with ⟨b, o, s⟩
  cases hs
  refine ⟨b, o, rfl, fun j u hj => ?_⟩
  have hlt := (List.getElem?_eq_some_iff.1 hj).1
  simp at hlt
  have := hc j (by omega)
  rw [Addr.add_lit] at this
  rw [this, ← hj]
  simp [List.getD, show j < len by omega, show j < zs.length by omega]

end Go.Proofs.Ytpbbngdhljiedaa
