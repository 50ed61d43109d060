/- Contracts of slices.Index, Contains at []int. Conditions: the slice's cells hold the list's numbers. -/
import Derived.Test.YtcdedeinbaecpaaRows
import Derived.Test.YtcdedeinbaecpaaBase
namespace Go.Proofs.Ytcdedeinbaecpaa
open Go Go.RowKit

/-- Where x stands first; -1 if nowhere. -/
def at? (zs : List Int) (x : Int) : Int := if zs.idxOf x < zs.length then (zs.idxOf x : Int) else -1

theorem at?_hit {zs : List Int} {x : Int} {k : Nat} (hk : k < zs.length) (he : zs.getD k 0 = x) (hne : ∀ j, j < k → zs.getD j 0 ≠ x) : at? zs x = k := by
  have : zs.idxOf x = k := by
    unfold List.idxOf
    rw [List.findIdx_eq hk]
    refine ⟨by simpa [List.getD, hk] using he, fun j hj => ?_⟩
    have := hne j hj
    simpa [List.getD, show j < zs.length by omega] using this
  unfold at?
  rw [this, if_pos hk]

theorem at?_miss {zs : List Int} {x : Int} (hne : ∀ j, j < zs.length → zs.getD j 0 ≠ x) : at? zs x = -1 := by
  unfold at?
  rw [if_neg]
  intro h
  have := hne _ h
  simp [List.getD, h] at this

set_option maxHeartbeats 400000 in
theorem index_int (b off n c : Nat) (zs : List Int) (x : Int) (w : World) (hz : zs.length = n) (hbig : n ≤ 9223372036854775807) (hc : ∀ j, j < n → w.cell? ⟨b, off + j, none⟩ = some (.int .i64 (zs.getD j 0))) :
    Calls Try.prog 46 #[.slice (some ⟨b, off, none⟩) n c, .int .i64 x] w fun e w' => e = .returned (.int .i64 (at? zs x)) ∧ w = w' := by
  go_enter Try.func46, Try.ntmps46
  go_wp2
  go_loop [5, 8] (fun _ i => ∃ k : Nat, k ≤ n ∧ i = .int .i64 k ∧ ∀ j, j < k → zs.getD j 0 ≠ x) (fun _ i => n - (intOf i).toNat)
  case atStart => exact ⟨0, Nat.zero_le _, rfl, fun j hj => absurd hj (Nat.not_lt_zero _)⟩
  case round =>
    obtain ⟨k, hk, rfl, hne⟩ := hrel
    have hcell : k < n → w.cell? ⟨b, off + k, none⟩ = some (.int .i64 (zs.getD k 0)) := fun _ => hc k (by omega)
    clear hc
    generalize hy : zs.getD k 0 = y at hcell
    have HY := Lib.hid hy
    have HZ := Lib.hid hz
    have HN := Lib.hid hne
    clear hy hz hne
    go_wp2
    · have hlt : k < n := by assumption
      have heq : (x == y) = true := by assumption
      go_ret
      have h1 := at?_hit (x := x) (by rw [HZ.out]; exact hlt) (by rw [HY.out]; exact (by simpa using heq : x = y).symm) HN.out
      rw [h1]
      exact ⟨rfl, rfl⟩
    · have hlt : k < n := by assumption
      have heq : (x == y) = false := by assumption
      go_round
      case rel =>
        refine ⟨k + 1, by omega, by go_num, fun j hj => ?_⟩
        rcases Nat.lt_or_ge j k with h | h
        · exact HN.out j h
        · obtain rfl : j = k := by omega
          rw [HY.out]
          intro e
          simp [e] at heq
      case measure => simp [intOf]; omega
    · have hge : ¬ k < n := by assumption
      go_ret
      have h1 := at?_miss (x := x) (zs := zs) (by rw [HZ.out]; intro j hj; exact HN.out j (by omega))
      rw [h1]
      exact ⟨rfl, rfl⟩

/-- of none. -/
theorem index_int_none (a : Option Addr) (c : Nat) (x : Int) (w : World) :
    Calls Try.prog 46 #[.slice a 0 c, .int .i64 x] w fun e w' => e = .returned (.int .i64 (at? [] x)) ∧ w = w' := by
  go_enter Try.func46, Try.ntmps46
  go_wp2
  go_loop [5, 8] (fun _ i => i = .int .i64 0) (fun _ _ => 0)
  case atStart => rfl
  case round =>
    subst hrel
    go_wp2
    go_ret
    exact ⟨rfl, rfl⟩

theorem at?_nonneg (zs : List Int) (x : Int) : decide (0 ≤ at? zs x) = zs.contains x := by
  unfold at?
  rw [Bool.eq_iff_iff]
  simp only [decide_eq_true_eq, List.contains_iff_mem, ← List.idxOf_lt_length_iff]
  split <;> simp_all

theorem contains_int (b off n c : Nat) (zs : List Int) (x : Int) (w : World) (hz : zs.length = n) (hbig : n ≤ 9223372036854775807) (hc : ∀ j, j < n → w.cell? ⟨b, off + j, none⟩ = some (.int .i64 (zs.getD j 0))) :
    Calls Try.prog 38 #[.slice (some ⟨b, off, none⟩) n c, .int .i64 x] w fun e w' => e = .returned (.bool (zs.contains x)) ∧ w = w' := by
  have H := Lib.hid (index_int b off n c zs x w hz hbig hc)
  have HA := Lib.hid (at?_nonneg zs x)
  clear hz hc
  generalize at? zs x = i at H HA
  go_enter Try.func38, Try.ntmps38
  go_wp2_with (go_at_call 46; refine H.out.mono ?_; rintro e w' ⟨rfl, rfl⟩)
  go_ret
  exact ⟨by rw [← HA.out]; rfl, rfl⟩

theorem contains_int_none (a : Option Addr) (c : Nat) (x : Int) (w : World) :
    Calls Try.prog 38 #[.slice a 0 c, .int .i64 x] w fun e w' => e = .returned (.bool false) ∧ w = w' := by
  have H := Lib.hid (index_int_none a c x w)
  have HA := Lib.hid (at?_nonneg [] x)
  generalize at? [] x = i at H HA
  go_enter Try.func38, Try.ntmps38
  go_wp2_with (go_at_call 46; refine H.out.mono ?_; rintro e w' ⟨rfl, rfl⟩)
  go_ret
  exact ⟨by rw [HA.out]; rfl, rfl⟩

end Go.Proofs.Ytcdedeinbaecpaa
