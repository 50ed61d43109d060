/- From cells as the row's frame hands them to a view of the elements. -/
import Derived.Test.YtcdedeinbaecpaaBase
namespace Go.Proofs.Ytcdedeinbaecpaa
open Go Go.RowKit

theorem spot_none {w : World} {x : Addr} {u : Value} (h : w.cell? (x.add 0) = some u) : x.spot = none := by
  rw [Addr.add_zero'] at h
  unfold World.cell? at h
  split at h
  · split at h
    · cases h
    · rename_i hs
      simpa using hs
  · cases h

theorem view_of_cells {w : World} {k : IntKind} {x : Addr} {len cap : Nat} {zs : List Int} (hl : len ≤ cap) (hz : zs.length = cap) (hc : ∀ i, i < zs.length → w.cell? (x.add i) = some (.int k (zs.getD i 0))) :
    View w (some x) ((zs.take len).map (Value.int k)) := fun hp => by
  have h0 : 0 < zs.length := by simp at hp; omega
  have hs := spot_none (hc 0 h0)
  rcases x with ⟨b, o, s⟩
  cases hs
  refine ⟨b, o, rfl, fun j u hj => ?_⟩
  have hlt := (List.getElem?_eq_some_iff.1 hj).1
  simp at hlt
  have := hc j (by omega)
  rw [Addr.add_lit] at this
  rw [this, ← hj]
  simp [List.getD, show j < len by omega, show j < zs.length by omega]

theorem tmod_bd (a m : Int) (hm : 0 < m) : -m < a.tmod m ∧ a.tmod m < m := by
  have h := Int.tmod_lt_of_pos a hm
  have h2 := Int.tmod_lt_of_pos (-a) hm
  rw [Int.neg_tmod] at h2
  omega

theorem getD_set {ts : List Int} {k j : Nat} {x : Int} (hk : k < ts.length) : (ts.set k x).getD j 0 = if k = j then x else ts.getD j 0 := by
  by_cases h : k = j
  · subst h; simp [List.getD, hk]
  · simp [List.getD, h]

theorem zeros_getD (n j : Nat) : (List.replicate n (0 : Int)).getD j 0 = 0 := by
  by_cases h : j < n <;> simp [List.getD, h]

theorem View.at_cell {w : World} {b o : Nat} {zs : List Int} (h : View w (some ⟨b, o, none⟩) (zs.map (Value.int .i64))) {i : Nat} (hi : i < zs.length) : w.cell? ⟨b, o + i, none⟩ = some (.int .i64 (zs.getD i 0)) := by
  obtain ⟨b', o', e, hc⟩ := h.at_int (by omega)
  cases e
  exact hc i hi

end Go.Proofs.Ytcdedeinbaecpaa
