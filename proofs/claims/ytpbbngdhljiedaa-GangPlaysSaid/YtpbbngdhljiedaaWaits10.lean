/- The walk of (*gang.Gang).Waits. Condition: GangIs. -/
import Derived.Test.YtpbbngdhljiedaaGangQ
import Derived.Test.YtpbbngdhljiedaaSort
namespace Go.Proofs.Ytpbbngdhljiedaa
open Go Go.RowKit

/-- A new slice of these numbers. -/
def NewInts (zs : List Int) (w : World) (e : Ending) (w' : World) : Prop :=
  ∃ g c, e = .returned (.slice (some ⟨g, 0, none⟩) zs.length c) ∧ w'.ownsRow w.heap.size 3 1 (.slice (some ⟨g, 0, none⟩) zs.length c) zs.length (zs.map (Value.int .i64)) ∧ Below w.heap.size w w' ∧ w.heap.size ≤ g

set_option maxHeartbeats 800000 in
theorem waits_is (w : World) (a sb n c : Nat) (ins : List Int) (ph : Nat) (h : GangIs w a sb n c ins ph) :
    Calls Try.prog 16 #[.pointer (some ⟨a, 0, none⟩)] w (NewInts (sorted ins) w) := by
  obtain ⟨ns, hg, hc, ht, hl⟩ := h
  have hs := hg.small
  have hcl := hc.len
  have H1 := Lib.hid (in_at w a sb n c ns _ ph hg)
  have H2 := Lib.hid (fun m => clone_int sb 0 ins.length ins.length (ins.map (Value.int .i64)) (w.drewN m) (by simp) (by omega) (View.ints rfl (fun j hj => by
    rw [Nat.zero_add]
    have h1 := hg.cells j (by omega)
    have h2 : ns.getD j 0 = ins.getD j 0 := by
      conv => rhs; rw [← ht]
      rw [getD_take hj]
    rw [h2] at h1
    exact h1)) (ints_oneCell _ _))
  have hm : ins.length ≤ 64 := by omega
  have HS := Lib.hid (fun (w1 : World) (base g c : Nat) (h : w1.ownsRow base 3 1 (.slice (some ⟨g, 0, none⟩) ins.length c) ins.length (ins.map (Value.int .i64))) => sort_owned w1 base g ins.length c ins h (by omega))
  have HL := Lib.hid (sorted_len ins)
  clear hg hc ht hl hs hcl
  go_enter Try.func16, Try.ntmps16
  go_wp2_with fail
  refine H1.out.mono ?_
  rintro e w' ⟨rfl, m, rfl⟩
  go_wp2_with fail
  refine (H2.out m).mono ?_
  rintro e w1 ⟨g, c1, rfl, hown, hb, hgl⟩
  have HO := Lib.hid hown
  have HB := Lib.hid hb
  clear hown hb
  go_wp2_with fail
  refine (HS.out w1 _ g c1 HO.out).mono ?_
  rintro e w2 ⟨rfl, hown, hk⟩
  go_wp2_with fail
  go_ret
  refine ⟨g, c1, by rw [HL.out]; rfl, by rw [HL.out]; simpa using hown, ?_, by simpa using hgl⟩
  have hb1 : Below w.heap.size w w1 := ⟨HB.out.os, HB.out.tape, HB.out.output, HB.out.size, HB.out.block⟩
  exact hb1.trans (hk.below hb1.size (by rintro k rfl; simpa using hgl))

end Go.Proofs.Ytpbbngdhljiedaa
