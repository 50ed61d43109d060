/- The walk of ballastlaw10.GangNil: it answers true, at any number; nothing that was there is turned. -/
import Derived.Test.YtpbbngdhljiedaaAwake10
import Derived.Test.YtpbbngdhljiedaaOpen
namespace Go.Proofs.Ytpbbngdhljiedaa
open Go Go.RowKit

theorem waits_nil (w : World) : Calls Try.prog 16 #[.pointer none] w fun e w' => e = .returned (.slice none 0 0) ∧ w = w' := by
  go_enter Try.func16, Try.ntmps16
  go_wp2
  go_ret
  exact ⟨rfl, rfl⟩

theorem at?_nil (x : Int) : at? [] x = -1 := by unfold at?; simp

/-- A gang that is all zero has nobody. -/
theorem arrive_zero (w : World) (a : Nat) (x y : Value) (k : Int) (h : Blk w a #[.slice none 0 0, x, y] 48) :
    Calls Try.prog 11 #[.pointer (some ⟨a, 0, none⟩), .int .i64 k] w fun e w' => e = .returned (.tuple #[.bool false, .int .i64 17]) ∧ w = w' := by
  have c0 := h.cell 0
  simp at c0
  clear h
  have H := Lib.hid (index_int_none none 0 k w)
  rw [at?_nil] at H
  go_enter Try.func11, Try.ntmps11
  go_wp2_with (go_at_call 21; refine H.out.mono ?_; rintro e w' ⟨rfl, rfl⟩)
  go_ret2
  exact ⟨rfl, rfl⟩

theorem goes_zero (w : World) (a : Nat) (x y : Value) (k : Int) (h : Blk w a #[.slice none 0 0, x, y] 48) :
    Calls Try.prog 18 #[.pointer (some ⟨a, 0, none⟩), .int .i64 k] w fun e w' => e = .returned (.bool false) ∧ w = w' := by
  have c0 := h.cell 0
  simp at c0
  clear h
  go_enter Try.func18, Try.ntmps18
  go_wp2_with (go_at_call 27; refine (contains_int_none none 0 k _).mono ?_; rintro e w' ⟨rfl, rfl⟩)
  go_ret
  exact ⟨rfl, rfl⟩

set_option maxHeartbeats 1600000 in
set_option maxRecDepth 100000 in
theorem nil_walk (k : Int) (w : World) : Calls Try.prog 6 #[.int .i64 k] w (TrueBelow w) := by
  go_enter Try.func6, Try.ntmps6
  go_wp2_with fail
  obtain ⟨w1, hw1⟩ : ∃ w1, w1 = (w.alloc (.cells #[.slice none 0 0, .int .i64 0, .int .i64 0] 48)).alloc (.cells #[.pointer none, .int .i64 0, .int .i64 0] 50) := ⟨_, rfl⟩
  have Z := Blk.alloc (Blk.new w #[.slice none 0 0, .int .i64 0, .int .i64 0] 48) (.cells #[.pointer none, .int .i64 0, .int .i64 0] 50)
  have Y := Blk.new (w.alloc (.cells #[.slice none 0 0, .int .i64 0, .int .i64 0] 48)) #[.pointer none, .int .i64 0, .int .i64 0] 50
  have B1 := Lib.hid (((Below.refl w.heap.size w).alloc (Nat.le_refl _) (.cells #[.slice none 0 0, .int .i64 0, .int .i64 0] 48)).alloc (by simp) (.cells #[.pointer none, .int .i64 0, .int .i64 0] 50))
  rw [← hw1] at Z Y B1
  rw [← hw1]
  have HW := Lib.hid hw1
  clear hw1
  have Y' : Blk w1 (w.heap.size + 1) #[.pointer none, .int .i64 0, .int .i64 0] 50 := by simpa using Y
  have HZ := Lib.hid Z
  have HY := Lib.hid Y'
  clear Z Y Y'
  refine (arrive_nil w1 k).mono ?_
  rintro e w' ⟨rfl, rfl⟩
  go_wp2_with fail
  refine (arrive_zero w1 _ _ _ k HZ.out).mono ?_
  rintro e w' ⟨rfl, rfl⟩
  go_wp2_with fail
  refine (next_nil w1).mono ?_
  rintro e w' ⟨rfl, rfl⟩
  go_wp2_with fail
  refine (next_zero w1 _ _ _ HY.out).mono ?_
  rintro e w' ⟨rfl, rfl⟩
  go_wp2_with fail
  refine (newShare_bad w1 (.pointer none) 0 1 0 (cells_len_nil w1) ⟨_, rfl⟩ (by omega) (by omega)).mono ?_
  rintro e w' ⟨rfl, rfl⟩
  go_wp2_with fail
  refine (reset_nil _ _).mono ?_
  rintro e w' ⟨rfl, rfl⟩
  have HZ2 := Lib.hid (Blk.alloc HZ.out (.cells #[.int .i64 1] 3))
  have HY2 := Lib.hid (Blk.alloc HY.out (.cells #[.int .i64 1] 3))
  have B2 := Lib.hid (B1.out.alloc B1.out.size (.cells #[.int .i64 1] 3))
  generalize w1.alloc (.cells #[.int .i64 1] 3) = w2 at HZ2 HY2 B2 ⊢
  go_wp2_with fail
  refine (reset_zero _ _ _ _ _ (Blk.alloc HY2.out _)).mono ?_
  rintro e w' ⟨rfl, rfl⟩
  have HZ3 := Lib.hid (Blk.alloc HZ2.out (.cells #[.int .i64 1] 3))
  have HY3 := Lib.hid (Blk.alloc HY2.out (.cells #[.int .i64 1] 3))
  have B3 := Lib.hid (B2.out.alloc B2.out.size (.cells #[.int .i64 1] 3))
  generalize w2.alloc (.cells #[.int .i64 1] 3) = w3 at HZ3 HY3 B3 ⊢
  go_wp2_with fail
  refine (awake_true w3).mono ?_
  rintro e w4 ⟨rfl, hb⟩
  have hl := B3.out.size
  have hk := Kept.ofBelow (F := fun b => w3.heap.size ≤ b) hb (fun _ _ h => h)
  have HZ4 := Lib.hid (hk.blk HZ3.out (by have := HZ3.out.lt; omega))
  have HY4 := Lib.hid (hk.blk HY3.out (by have := HY3.out.lt; omega))
  have B4 := Lib.hid (B3.out.trans (hb.mono hl))
  clear hk hb
  go_wp2_with fail
  refine (phase_nil w4).mono ?_
  rintro e w' ⟨rfl, rfl⟩
  go_wp2_with fail
  refine (waits_nil w4).mono ?_
  rintro e w' ⟨rfl, rfl⟩
  go_wp2_with fail
  refine (taken_nil w4).mono ?_
  rintro e w' ⟨rfl, rfl⟩
  go_wp2_with fail
  refine (taken_zero w4 _ _ _ HY4.out).mono ?_
  rintro e w' ⟨rfl, rfl⟩
  go_wp2_with fail
  refine (goes_nil w4 k).mono ?_
  rintro e w' ⟨rfl, rfl⟩
  go_wp2_with fail
  refine (goes_zero w4 _ _ _ k HZ4.out).mono ?_
  rintro e w' ⟨rfl, rfl⟩
  go_wp2_with fail
  go_ret
  exact ⟨rfl, B4.out⟩

end Go.Proofs.Ytpbbngdhljiedaa
