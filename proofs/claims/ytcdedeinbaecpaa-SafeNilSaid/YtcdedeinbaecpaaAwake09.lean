/- The walk of ballastlaw09.awake: it answers true, and nothing that was there is turned. No condition. -/
import Derived.Test.YtcdedeinbaecpaaSafeC
import Derived.Test.YtcdedeinbaecpaaSafeR
namespace Go.Proofs.Ytcdedeinbaecpaa
open Go Go.RowKit

theorem Below.kept {B : Nat} {a w w' : World} {F : Nat → Prop} (h : Below B a w) (hk : Kept F w w') (hB : B ≤ w.heap.size) (hF : ∀ k, F k → B ≤ k) : Below B a w' :=
  h.trans (hk.below hB hF)

def TrueBelow (w : World) (e : Ending) (w' : World) : Prop := e = .returned (.bool true) ∧ Below w.heap.size w w'

set_option maxHeartbeats 3200000 in
set_option maxRecDepth 100000 in
theorem awake_true (w : World) : Calls Try.prog 8 #[] w (TrueBelow w) := by
  go_enter Try.func8, Try.ntmps8
  go_wp2_with fail
  refine (safe_new w).mono ?_
  rintro e w1 ⟨s, rfl, hs, hb, hsl⟩
  have B1 := Lib.hid hb
  have HA := Lib.hid (add_at (w1.alloc (.cells #[.int .i64 1, .int .i64 2, .int .i64 3] 3)) s none [] (fun _ => 0) false (hs.kept (F := fun _ => False) ((Kept.refl _ w1).alloc _) (fun h => h) (fun _ _ h => h)) (some ⟨w1.heap.size, 0, none⟩) 3 3 [1, 2, 3] rfl (View.new w1 [.int .i64 1, .int .i64 2, .int .i64 3] _) (by simp [In64]) (by simp))
  have hl1 := hb.size
  have B1' := Lib.hid (show Below w.heap.size w (w1.alloc (.cells #[.int .i64 1, .int .i64 2, .int .i64 3] 3)) from hb.alloc hl1 _)
  clear hs hb
  go_wp2_with fail
  refine HA.out.mono ?_
  rintro e w2 ⟨he, b, hbm, hs2, hk2⟩
  have he : e = .returned (.int .i64 3) := he
  subst he
  have hbb : w.heap.size ≤ b := by
    rcases hbm with h | ⟨_, h⟩
    · cases h
    · simp at h; omega
  have B2 := Lib.hid (Below.kept B1'.out hk2 B1'.out.size (by rintro k (rfl | h); exact hsl; cases h))
  have hs2 : SafeAt w2 s (some b) [1, 2, 3] (([1, 2, 3] : List Int).foldl (addStep false) ([], fun _ => 0, 0)).2.1 false := hs2
  have x1 : (([1, 2, 3] : List Int).foldl (addStep false) ([], fun _ => 0, 0)).2.1 1 = 1 := rfl
  have x2 : (([1, 2, 3] : List Int).foldl (addStep false) ([], fun _ => 0, 0)).2.1 2 = 1 := rfl
  have x3 : (([1, 2, 3] : List Int).foldl (addStep false) ([], fun _ => 0, 0)).2.1 3 = 1 := rfl
  generalize (([1, 2, 3] : List Int).foldl (addStep false) ([], fun _ => 0, 0)).2.1 = st at hs2 x1 x2 x3
  have X := Lib.hid (And.intro x1 (And.intro x2 x3))
  have S2 := Lib.hid hs2
  clear hs2 hk2 hbm HA x1 x2 x3
  go_wp2_with fail
  refine (hold_at w2 s (some b) [1, 2, 3] st false S2.out 3 (by unfold In64; omega) (by simp)).mono ?_
  rintro e w3 ⟨rfl, hs3, hk3⟩
  rw [X.out.2.2]
  have S3 := Lib.hid hs3
  have B3 := Lib.hid (Below.kept B2.out hk3 B2.out.size (by rintro k h; cases h; exact hbb))
  have X3 := Lib.hid (show holdS st 3 1 = 1 ∧ holdS st 3 2 = 1 ∧ holdS st 3 3 = 3 by obtain ⟨h1, h2, h3⟩ := X.out; unfold holdS; rw [if_pos h3]; simp [put?, h1, h2])
  clear hs3 hk3 X S2
  generalize holdS st 3 = st3 at S3 X3
  rw [show asksE 1 1 = 0 from rfl]
  go_wp2_with fail
  refine (arm_at w3 s (some b) [1, 2, 3] st3 false S3.out).mono ?_
  rintro e w4 ⟨rfl, hs4, hk4⟩
  have S4 := Lib.hid hs4
  have B4 := Lib.hid (Below.kept B3.out hk4 B3.out.size (by rintro k rfl; exact hsl))
  clear hs4 hk4 S3
  go_wp2_with fail
  refine (poll_at w4 s (some b) [1, 2, 3] st3 true S4.out 1 (by unfold In64; omega) (by simp)).mono ?_
  rintro e w5 ⟨rfl, hs5, hk5⟩
  rw [show decide (true = true ∧ st3 1 = 1) = true by simp [X3.out.1]]
  have S5 := Lib.hid hs5
  have B5 := Lib.hid (Below.kept B4.out hk5 B4.out.size (by rintro k h; cases h; exact hbb))
  have X5 := Lib.hid (show pollS st3 true 1 1 = 2 ∧ pollS st3 true 1 2 = 1 ∧ pollS st3 true 1 3 = 3 by obtain ⟨h1, h2, h3⟩ := X3.out; unfold pollS; rw [if_pos ⟨rfl, h1⟩]; simp [put?, h2, h3])
  clear hs5 hk5 S4 X3
  generalize pollS st3 true 1 = st5 at S5 X5
  go_wp2_with fail
  refine (reached_at w5 s (some b) [1, 2, 3] st5 true S5.out (by simp)).mono ?_
  rintro e w6 ⟨rfl, hb6⟩
  rw [show reached? [1, 2, 3] st5 true = false by obtain ⟨h1, h2, h3⟩ := X5.out; unfold reached?; rw [kept_one]; simp [h1, h2, h3]]
  have S6 := Lib.hid (S5.out.below hb6 S5.out.blk.lt S5.out.map.lt)
  have hz5 := B5.out.size
  have B6 := Lib.hid (B5.out.trans (hb6.mono hz5))
  clear hb6 S5
  go_wp2_with fail
  refine (poll_at w6 s (some b) [1, 2, 3] st5 true S6.out 2 (by unfold In64; omega) (by simp)).mono ?_
  rintro e w7 ⟨rfl, hs7, hk7⟩
  rw [show decide (true = true ∧ st5 2 = 1) = true by simp [X5.out.2.1]]
  have S7 := Lib.hid hs7
  have B7 := Lib.hid (Below.kept B6.out hk7 B6.out.size (by rintro k h; cases h; exact hbb))
  have X7 := Lib.hid (show pollS st5 true 2 1 = 2 ∧ pollS st5 true 2 2 = 2 ∧ pollS st5 true 2 3 = 3 by obtain ⟨h1, h2, h3⟩ := X5.out; unfold pollS; rw [if_pos ⟨rfl, h2⟩]; simp [put?, h1, h3])
  clear hs7 hk7 S6 X5
  generalize pollS st5 true 2 = st7 at S7 X7
  go_wp2_with fail
  refine (reached_at w7 s (some b) [1, 2, 3] st7 true S7.out (by simp)).mono ?_
  rintro e w8 ⟨rfl, hb8⟩
  rw [show reached? [1, 2, 3] st7 true = true by obtain ⟨h1, h2, h3⟩ := X7.out; unfold reached?; rw [kept_one]; simp [h1, h2, h3]]
  have S8 := Lib.hid (S7.out.below hb8 S7.out.blk.lt S7.out.map.lt)
  have hz7 := B7.out.size
  have B8 := Lib.hid (B7.out.trans (hb8.mono hz7))
  clear hb8 S7
  go_wp2_with fail
  refine (free_at w8 s (some b) [1, 2, 3] st7 true S8.out 3 (by unfold In64; omega) (by simp)).mono ?_
  rintro e w9 ⟨rfl, hs9, hk9⟩
  rw [X7.out.2.2]
  rw [show asksE 3 3 = 0 from rfl]
  have S9 := Lib.hid hs9
  have B9 := Lib.hid (Below.kept B8.out hk9 B8.out.size (by rintro k h; cases h; exact hbb))
  have X9 := Lib.hid (show freeS st7 true 3 1 = 2 ∧ freeS st7 true 3 2 = 2 ∧ freeS st7 true 3 3 = 2 by obtain ⟨h1, h2, h3⟩ := X7.out; unfold freeS; rw [if_pos h3]; simp [put?, h1, h2])
  clear hs9 hk9 S8 X7
  generalize freeS st7 true 3 = st9 at S9 X9
  go_wp2_with fail
  refine (resume_at w9 s (some b) [1, 2, 3] st9 true S9.out (by simp)).mono ?_
  have hre : reached? [1, 2, 3] st9 true = true := by obtain ⟨h1, h2, h3⟩ := X9.out; unfold reached?; rw [kept_one]; simp [h1, h2, h3]
  have hkp : kept? [2] [1, 2, 3] st9 = [1, 2, 3] := by obtain ⟨h1, h2, h3⟩ := X9.out; rw [kept_one]; simp [h1, h2, h3]
  rintro e w10 (⟨h, _⟩ | ⟨_, sp, c, rfl, hv, hs10, hk10⟩)
  · rw [hre] at h; cases h
  rw [hkp] at hv ⊢
  obtain ⟨vb, vo, rfl, hc⟩ := hv.at_int (by simp)
  have c2 := hc 2 (by simp)
  simp at c2
  have B10 := Lib.hid (Below.kept B9.out hk10 B9.out.size (by rintro k (rfl | h); exact hsl; cases h; exact hbb))
  have T := Lib.hid (show Calls Try.prog 27 #[.pointer (some ⟨s, 0, none⟩), .int .i64 3] w10 fun e w' => e = .returned (.int .i64 1) ∧ w10 = w' from by
    have := state_at w10 s (some b) [1, 2, 3] (resumeS st9) false hs10 3 (by unfold In64; omega)
    rw [show resumeS st9 3 = 1 by unfold resumeS; rw [if_pos X9.out.2.2]] at this
    exact this)
  have A := Lib.hid (armed_at w10 s (some b) [1, 2, 3] (resumeS st9) false hs10)
  clear hv hc hs10 hk10 hre hkp S9
  go_wp2_with (first | (go_at_call 27; refine T.out.mono ?_; rintro e w' ⟨rfl, rfl⟩) | (go_at_call 15; refine A.out.mono ?_; rintro e w' ⟨rfl, rfl⟩))
  go_ret
  exact ⟨rfl, B10.out⟩
end Go.Proofs.Ytcdedeinbaecpaa
