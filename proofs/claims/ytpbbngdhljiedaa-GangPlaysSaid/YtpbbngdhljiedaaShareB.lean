/- The walks of gang.Share's Taken and of NewShare. Conditions: the share and its memory as ShareAt and CellsAt say; a place within the memory. -/
import Derived.Test.YtpbbngdhljiedaaShare
namespace Go.Proofs.Ytpbbngdhljiedaa
open Go Go.RowKit

/-- ClonePost at one word shows the word. -/
theorem clone_one {w w' : World} {en : Ending} {x : Int} (h : ClonePost 2 1 [.int .i64 x] w en w') :
    ∃ g c, en = .returned (.slice (some ⟨g, 0, none⟩) 1 c) ∧ w'.cell? ⟨g, 0, none⟩ = some (.int .i64 x) ∧ Below w.heap.size w w' := by
  obtain ⟨v', rfl, hown, hne, hb⟩ := h
  obtain ⟨g, cap, rfl, _⟩ := own_shape hown (by omega)
  refine ⟨g, cap, rfl, ?_, hb⟩
  rw [hown.cellAt 0 (by omega)]
  rfl

def TakenPost (w : World) (s a wb n k : Nat) (parts : Int) (ws : List Int) (st c : Int) (e : Ending) (w' : World) : Prop :=
  e = .returned (.int .i64 (min (max c 0) parts)) ∧ ShareAt w' s a k parts ∧ CellsAt w' a wb n ws st ∧ Below w.heap.size w w'

set_option maxHeartbeats 1600000 in
theorem taken_at (w : World) (s a wb n k : Nat) (parts : Int) (ws : List Int) (st : Int) (h : ShareAt w s a k parts) (hc : CellsAt w a wb n ws st) (hk : k < n) (c : Int) (hcv : ws.getD k 0 = c) :
    Calls Try.prog 20 #[.pointer (some ⟨s, 0, none⟩)] w (TakenPost w s a wb n k parts ws st c) := by
  have hsl : s < w.heap.size := Blk.lt h
  have c0 := h.cell 0
  have c1 := h.cell 1
  have c2 := h.cell 2
  simp at c0 c1 c2
  have hs := hc.small
  have hw := Lib.hid (fun m => cells_words (w.drewN m) a wb n ws st (hc.drewN m) k (k + 1) (by omega) (by omega))
  have e1 : (ws.drop k).take (k + 1 - k) = [c] := by
    have hl := hc.len
    rw [show k + 1 - k = 1 from by omega, ← hcv]
    rw [List.take_one]
    simp [List.getD, show k < ws.length by omega]
  rw [e1, show ((k + 1 : Nat) : Int) = (k : Int) + 1 from by omega, show k + 1 - k = 1 from by omega] at hw
  have hwr : IntKind.i64.wrap ((k : Int) + 1) = (k : Int) + 1 := IntWalk.i64_in _ (by omega)
  have HS := Lib.hid h
  have HC := Lib.hid hc
  clear h hc hcv e1
  go_enter Try.func20, Try.ntmps20
  go_wp2
  go_region_with (go_at_call 31; refine (hw.out 1).mono ?_; rintro e w' hcl; obtain ⟨g, cg, rfl, hg, hbel⟩ := clone_one hcl; clear hcl)
  all_goals
    have hb1 : Below w.heap.size w w' := (Below.refl _ w).drew.trans hbel
    have hc1 : CellsAt w' a wb n ws st := HC.out.kept (Kept.ofBelow (F := fun b => w.heap.size ≤ b) hb1 (fun _ _ h => h)) (by have := HC.out.blk.lt; omega) (by have := HC.out.row.lt; omega)
    have hs1 : ShareAt w' s a k parts := (Kept.ofBelow (F := fun b => w.heap.size ≤ b) hb1 (fun _ _ h => h)).blk HS.out (by omega)
    have d2 := hs1.cell 2
    simp at d2
    have HB := Lib.hid hb1
    have HC1 := Lib.hid hc1
    have HS1 := Lib.hid hs1
    clear hb1 hc1 hs1 hbel
    go_wp2
    go_ret
    exact ⟨rfl, HS1.out, HC1.out, HB.out⟩

theorem newShare_bad (w : World) (p : Value) (x y : Int) (n : Int) (hl : Calls Try.prog 22 #[p] w fun e w' => e = .returned (.int .i64 n) ∧ w = w') (hp : ∃ q, p = .pointer q) (h0 : 0 ≤ x) (h : n ≤ x) :
    Calls Try.prog 12 #[p, .int .i64 x, .int .i64 y] w fun e w' => e = .returned (.tuple #[.pointer none, .int .i64 1]) ∧ w = w' := by
  obtain ⟨q, rfl⟩ := hp
  have HL := Lib.hid hl
  clear hl
  have t1 : ¬ x < 0 := by omega
  have t2 : decide (n ≤ x) = true := by simpa using h
  go_enter Try.func12, Try.ntmps12
  go_wp2_with (go_at_call 22; refine HL.out.mono ?_; rintro e w' ⟨rfl, rfl⟩)
  go_ret2
  exact ⟨rfl, rfl⟩

def NewSharePost (w : World) (a wb n k : Nat) (parts : Int) (ws : List Int) (st : Int) (e : Ending) (w' : World) : Prop :=
  ∃ s, e = .returned (.tuple #[.pointer (some ⟨s, 0, none⟩), .int .i64 0]) ∧ ShareAt w' s a k parts ∧ CellsAt w' a wb n (ws.set k 0) st ∧ w.heap.size ≤ s ∧ Kept (fun b => b = wb) w w'

set_option maxHeartbeats 1600000 in
theorem newShare_ok (w : World) (a wb n k : Nat) (parts : Int) (ws : List Int) (st : Int) (hc : CellsAt w a wb n ws st) (hk : k < n) (hp : 0 ≤ parts) :
    Calls Try.prog 12 #[.pointer (some ⟨a, 0, none⟩), .int .i64 k, .int .i64 parts] w (NewSharePost w a wb n k parts ws st) := by
  have HL := Lib.hid (cells_len w a wb n ws st hc)
  have t1 : ¬ (n : Int) ≤ k := by omega
  have t2 : ¬ parts < 0 := by omega
  have ha := hc.blk.lt
  have hwb := hc.row.lt
  have HR := Lib.hid (reset_at (w.alloc (.cells #[.pointer (some ⟨a, 0, none⟩), .int .i64 k, .int .i64 parts] 50)) w.heap.size a wb n k parts ws st (Blk.new _ _ _) (hc.alloc _) hk (by omega) (by omega) none 0)
  clear hc
  go_enter Try.func12, Try.ntmps12
  go_wp2_with (go_at_call 22; refine HL.out.mono ?_; rintro e w' ⟨rfl, rfl⟩)
  refine HR.out.mono ?_
  rintro e w' ⟨rfl, hs, hc, hk⟩
  go_wp2
  go_ret2
  exact ⟨_, rfl, hs, hc, Nat.le_refl _, ((Kept.refl _ w).alloc _).call hk (by intro b e; rcases e with e | e; exact .inr (by omega); exact .inl e)⟩

end Go.Proofs.Ytpbbngdhljiedaa
