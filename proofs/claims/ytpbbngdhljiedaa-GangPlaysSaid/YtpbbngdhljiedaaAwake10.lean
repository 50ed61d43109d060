/- The walk of ballastlaw10.awake: it answers true, and nothing that was there is turned. No condition. -/
import Derived.Test.YtpbbngdhljiedaaGangA
import Derived.Test.YtpbbngdhljiedaaGangB
import Derived.Test.YtpbbngdhljiedaaShareB
namespace Go.Proofs.Ytpbbngdhljiedaa
open Go Go.RowKit

theorem Below.kept {B : Nat} {a w w' : World} {F : Nat → Prop} (h : Below B a w) (hk : Kept F w w') (hB : B ≤ w.heap.size) (hF : ∀ k, F k → B ≤ k) : Below B a w' :=
  h.trans (hk.below hB hF)

theorem Below.drewN {B : Nat} {a w : World} (h : Below B a w) (m : Nat) : Below B a (w.drewN m) := ⟨h.os, h.tape, h.output, h.size, h.block⟩

def TrueBelow (w : World) (e : Ending) (w' : World) : Prop := e = .returned (.bool true) ∧ Below w.heap.size w w'

set_option maxHeartbeats 3200000 in
set_option maxRecDepth 100000 in
theorem awake_true (w : World) : Calls Try.prog 8 #[] w (TrueBelow w) := by
  go_enter Try.func8, Try.ntmps8
  go_wp2_with fail
  refine (new_ok 2 w (by omega) (by omega)).mono ?_
  rintro e w1 ⟨a, sb, c, rfl, hg, hb, ha, hsb⟩
  have G1 := Lib.hid hg
  have B1 := Lib.hid hb
  clear hg hb
  go_wp2_with fail
  refine (arrive_more w1 a sb 2 c [0, 1] 0 0 1 G1.out 1 (by decide) (by omega) (by omega) (by omega) (by omega)).mono ?_
  rintro e w2 ⟨rfl, hg, hk⟩
  have G2 := Lib.hid (show GangAt w2 a sb 2 c [1, 0] 1 0 from hg)
  have B2 := Lib.hid (Below.kept B1.out hk B1.out.size (by rintro b (e | e) <;> omega))
  clear hg hk
  go_wp2_with fail
  refine (arrive_no w2 a sb 2 c [1, 0] 1 0 G2.out 1 (by decide)).mono ?_
  rintro e w' ⟨rfl, rfl⟩
  go_wp2_with fail
  refine (goes_at w2 a sb 2 c [1, 0] 1 0 G2.out 0).mono ?_
  rintro e w' ⟨rfl, m3, rfl⟩
  have G3 := Lib.hid (G2.out.drewN m3)
  have B3 := Lib.hid (show Below w.heap.size w (w2.drewN m3) from ⟨B2.out.os, B2.out.tape, B2.out.output, B2.out.size, B2.out.block⟩)
  generalize w2.drewN m3 = w3 at G3 B3 ⊢
  go_wp2_with fail
  refine (arrive_last w3 a sb 2 c [1, 0] 1 0 1 G3.out 0 (by decide) (by omega) (by omega) (by omega) (by omega)).mono ?_
  rintro e w4 ⟨rfl, hg, hk⟩
  have G4 := Lib.hid (show GangAt w4 a sb 2 c [1, 0] 0 1 from hg)
  have B4 := Lib.hid (Below.kept B3.out hk B3.out.size (by rintro b (e | e) <;> omega))
  clear hg hk
  go_wp2_with fail
  refine (cells_new 1 w4 (by omega)).mono ?_
  rintro e w5 ⟨ca, wb, rfl, hc, hb, hca, hwb⟩
  have hl5 := B4.out.size
  have G5 := Lib.hid (G4.out.kept (Kept.ofBelow (F := fun b => w4.heap.size ≤ b) hb (fun _ _ h => h)) (by have := G4.out.blk.lt; omega) (by have := (G4.out.row.lt sb rfl).2; omega))
  have B5 := Lib.hid (B4.out.trans (hb.mono hl5))
  have hne1 : a < ca := by have := G4.out.blk.lt; omega
  have hne2 : a < wb := by have := G4.out.blk.lt; omega
  have hne3 : sb < ca := by have := (G4.out.row.lt sb rfl).2; omega
  have hne4 : sb < wb := by have := (G4.out.row.lt sb rfl).2; omega
  have C5 := Lib.hid hc
  clear hc hb
  go_wp2_with fail
  refine (newShare_ok w5 ca wb 1 0 2 _ _ C5.out (by omega) (by omega)).mono ?_
  rintro e w6 ⟨s, rfl, hs, hc, hsl, hk⟩
  have C6 := Lib.hid (show CellsAt w6 ca wb 1 [0] 0 from hc)
  have S6 := Lib.hid hs
  have hl6 := B5.out.size
  have B6 := Lib.hid (Below.kept B5.out hk B5.out.size (by rintro b rfl; omega))
  have G6 := Lib.hid (G5.out.kept hk (by omega) (by omega))
  have hsa : ca < s := by have := C5.out.blk.lt; omega
  have hsw : wb < s := by have := C5.out.row.lt; omega
  clear hc hs hk
  go_wp2_with fail
  refine (next_at w6 s ca wb 1 0 2 [0] 0 S6.out C6.out (by omega) (by omega) (by omega) 0 rfl).mono ?_
  rintro e w7 ⟨rfl, hs, hc, hk⟩
  have C7 := Lib.hid (show CellsAt w7 ca wb 1 [1] 1 from by simpa [wrap64] using hc)
  have S7 := Lib.hid hs
  have B7 := Lib.hid (Below.kept B6.out hk B6.out.size (by rintro b (e | e) <;> omega))
  have G7 := Lib.hid (G6.out.kept hk (by omega) (by omega))
  clear hc hs hk
  go_wp2_with fail
  refine (next_at w7 s ca wb 1 0 2 [1] 1 S7.out C7.out (by omega) (by omega) (by omega) 1 rfl).mono ?_
  rintro e w8 ⟨rfl, hs, hc, hk⟩
  have C8 := Lib.hid (show CellsAt w8 ca wb 1 [2] 2 from by simpa [wrap64] using hc)
  have S8 := Lib.hid hs
  have B8 := Lib.hid (Below.kept B7.out hk B7.out.size (by rintro b (e | e) <;> omega))
  have G8 := Lib.hid (G7.out.kept hk (by omega) (by omega))
  clear hc hs hk
  go_wp2_with fail
  refine (next_at w8 s ca wb 1 0 2 [2] 2 S8.out C8.out (by omega) (by omega) (by omega) 2 rfl).mono ?_
  rintro e w9 ⟨rfl, hs, hc, hk⟩
  have C9 := Lib.hid (show CellsAt w9 ca wb 1 [3] 3 from by simpa [wrap64] using hc)
  have S9 := Lib.hid hs
  have B9 := Lib.hid (Below.kept B8.out hk B8.out.size (by rintro b (e | e) <;> omega))
  have G9 := Lib.hid (G8.out.kept hk (by omega) (by omega))
  clear hc hs hk
  go_wp2_with fail
  refine (reset_one _ s ca wb 1 0 2 [3] 3 (Blk.alloc S9.out _) (C9.out.alloc _) (by omega) (by omega) (by omega) w9.heap.size 0 1 1 (by omega) (by simp)).mono ?_
  rintro e wa ⟨rfl, hs, hc, hk⟩
  have Ca := Lib.hid (show CellsAt wa ca wb 1 [0] 3 from hc)
  have Sa := Lib.hid hs
  have hk2 := ((Kept.refl (fun b => b = s ∨ b = wb) w9).alloc _).trans hk
  have Ba := Lib.hid (Below.kept B9.out hk2 B9.out.size (by rintro b (e | e) <;> omega))
  have Ga := Lib.hid (G9.out.kept hk2 (by omega) (by omega))
  clear hc hs hk hk2
  go_wp2_with fail
  refine (next_at wa s ca wb 1 0 1 [0] 3 Sa.out Ca.out (by omega) (by omega) (by omega) 0 rfl).mono ?_
  rintro e wb' ⟨rfl, hs, hc, hk⟩
  have Cb := Lib.hid (show CellsAt wb' ca wb 1 [1] 4 from by simpa [wrap64] using hc)
  have Sb := Lib.hid hs
  have Bb := Lib.hid (Below.kept Ba.out hk Ba.out.size (by rintro b (e | e) <;> omega))
  have Gb := Lib.hid (Ga.out.kept hk (by omega) (by omega))
  clear hc hs hk
  go_wp2_with fail
  refine (phase_at wb' a sb 2 c [1, 0] 0 1 Gb.out).mono ?_
  rintro e w' ⟨rfl, rfl⟩
  go_wp2_with fail
  refine (goes_at wb' a sb 2 c [1, 0] 0 1 Gb.out 1).mono ?_
  rintro e w' ⟨rfl, m, rfl⟩
  go_wp2_with fail
  refine (taken_at (wb'.drewN m) s ca wb 1 0 1 [1] 4 Sb.out (Cb.out.drewN m) (by omega) 1 rfl).mono ?_
  rintro e wc ⟨rfl, hs, hc, hb⟩
  go_wp2_with fail
  go_ret
  have hl9 := Bb.out.size
  exact ⟨rfl, (Below.drewN Bb.out m).trans (hb.mono (by simpa using hl9))⟩

end Go.Proofs.Ytpbbngdhljiedaa
