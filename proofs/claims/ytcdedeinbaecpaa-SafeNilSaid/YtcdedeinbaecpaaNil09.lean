/- The walk of SafeNil, at whatever number. -/
import Derived.Test.YtcdedeinbaecpaaAwake09
namespace Go.Proofs.Ytcdedeinbaecpaa
open Go Go.RowKit

/-- A safepoint without threads, in block z, not below base. -/
def Zero (w0 w : World) (z : Nat) : Prop := SafeAt w z none [] (fun _ => 0) false ∧ w0.heap.size ≤ z ∧ Below w0.heap.size w0 w

theorem Zero.below {w0 w w' : World} {z : Nat} (h : Zero w0 w z) (hb : Below w.heap.size w w') : Zero w0 w' z :=
  ⟨h.1.below hb h.1.blk.lt (fun _ h => by cases h), h.2.1, h.2.2.trans (hb.mono h.2.2.size)⟩

theorem Zero.alloc {w0 w : World} {z : Nat} (h : Zero w0 w z) (o : Obj) : Zero w0 (w.alloc o) z := h.below ((Below.refl _ w).alloc (Nat.le_refl _) o)

set_option maxHeartbeats 3200000 in
set_option maxRecDepth 100000 in
theorem nil_walk (t : Int) (ht : In64 t) (w : World) : Calls Try.prog 6 #[.int .i64 t] w (TrueBelow w) := by
  have Z1 := Lib.hid (show Zero w (w.alloc (.cells #[.map none, .bool false] 49)) w.heap.size from ⟨⟨Blk.new w _ _, StAt.nil _⟩, Nat.le_refl _, (Below.refl _ w).alloc (Nat.le_refl _) _⟩)
  go_enter Try.func6, Try.ntmps6
  go_wp2_with fail
  generalize w.heap.size = z at Z1 ⊢
  generalize w.alloc (.cells #[.map none, .bool false] 49) = w1 at Z1 ⊢
  refine (free_nil w1 t).mono ?_
  rintro e w' ⟨rfl, rfl⟩
  go_wp2_with fail
  refine (free_at w1 z none [] (fun _ => 0) false Z1.out.1 t ht (by simp)).mono ?_
  rintro e w2 ⟨he, hs, hk⟩
  have he : e = .returned (.tuple #[.bool false, .int .i64 17]) := he
  subst he
  have Z2 := Lib.hid (show Zero w w2 z from Z1.out.below (hk.below (Nat.le_refl _) (fun _ h => by cases h)))
  clear hs hk Z1
  go_wp2_with fail
  refine (awake_true w2).mono ?_
  rintro e w3 ⟨rfl, hb⟩
  have Z3 := Lib.hid (Z2.out.below hb)
  clear hb Z2
  go_wp2_with fail
  refine (add_nil _ _ ⟨_, _, _, rfl⟩).mono ?_
  rintro e w4 ⟨rfl, hb⟩
  have Z4 := Lib.hid ((Z3.out.alloc (.cells #[.int .i64 t] 3)).below hb)
  clear hb Z3
  go_wp2_with fail
  refine (end_nil (w4.alloc (.cells #[.int .i64 t] 3)) w4.heap.size 0 1 t (by simp)).mono ?_
  rintro e w5 ⟨rfl, hb⟩
  have Z5 := Lib.hid ((Z4.out.alloc (.cells #[.int .i64 t] 3)).below hb)
  clear hb Z4
  go_wp2_with fail
  refine (state_nil w5 t).mono ?_
  rintro e w' ⟨rfl, rfl⟩
  go_wp2_with fail
  refine (in_nil w5 none 0 0).mono ?_
  rintro e w6 ⟨rfl, hb⟩
  have Z6 := Lib.hid (Z5.out.below hb)
  clear hb Z5
  go_wp2_with fail
  refine (resume_nil w6).mono ?_
  rintro e w' ⟨rfl, rfl⟩
  go_wp2_with fail
  refine (poll_nil w6 t).mono ?_
  rintro e w' ⟨rfl, rfl⟩
  go_wp2_with fail
  refine (arm_nil w6).mono ?_
  rintro e w' ⟨rfl, rfl⟩
  go_wp2_with fail
  refine (armed_nil w6).mono ?_
  rintro e w' ⟨rfl, rfl⟩
  go_wp2_with fail
  refine (reached_nil w6).mono ?_
  rintro e w' ⟨rfl, rfl⟩
  go_wp2_with fail
  refine (hold_nil w6 t).mono ?_
  rintro e w' ⟨rfl, rfl⟩
  go_wp2_with fail
  refine (poll_at w6 z none [] (fun _ => 0) false Z6.out.1 t ht (by simp)).mono ?_
  rintro e w7 ⟨he, hs, hk⟩
  have he : e = .returned (.bool false) := he
  subst he
  have Z7 := Lib.hid (show Zero w w7 z from Z6.out.below (hk.below (Nat.le_refl _) (fun _ h => by cases h)))
  clear hs hk Z6
  go_wp2_with fail
  refine (add_at (w7.alloc (.cells #[.int .i64 t] 3)) z none [] (fun _ => 0) false (Z7.out.alloc _).1 (some ⟨w7.heap.size, 0, none⟩) 1 1 [t] rfl (View.new w7 [.int .i64 t] _) (by intro x hx; simp at hx; subst hx; exact ht) (by simp)).mono ?_
  rintro e w8 ⟨he, b, hbm, hs, hk⟩
  have he : e = .returned (.int .i64 1) := he
  subst he
  have B8 := Lib.hid (Below.kept (Z7.out.alloc (.cells #[.int .i64 t] 3)).2.2 hk (Z7.out.alloc _).2.2.size (by rintro k (rfl | h); exact Z7.out.2.1; cases h))
  clear hbm hs hk Z7
  go_wp2_with fail
  go_ret
  exact ⟨rfl, B8.out⟩
end Go.Proofs.Ytcdedeinbaecpaa
