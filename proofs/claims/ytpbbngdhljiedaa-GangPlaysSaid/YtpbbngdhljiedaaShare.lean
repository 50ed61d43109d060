/- The walks of gang.Share's functions. Conditions: the share and its memory as ShareAt and CellsAt say. -/
import Derived.Test.YtpbbngdhljiedaaCells
import Derived.Deep.RegionWith
import Derived.StillTailTactics
namespace Go.Proofs.Ytpbbngdhljiedaa
open Go Go.RowKit

/-- A share as it lies at s: its memory at a, its word's place k, so many parts. -/
def ShareAt (w : World) (s a k : Nat) (parts : Int) : Prop := Blk w s #[.pointer (some ⟨a, 0, none⟩), .int .i64 k, .int .i64 parts] 50

theorem next_nil (w : World) : Calls Try.prog 14 #[.pointer none] w fun e w' => e = .returned (.tuple #[.int .i64 0, .bool false]) ∧ w = w' := by
  go_enter Try.func14, Try.ntmps14
  go_wp2
  go_ret2
  exact ⟨rfl, rfl⟩

theorem next_zero (w : World) (s : Nat) (x y : Value) (h : Blk w s #[.pointer none, x, y] 50) : Calls Try.prog 14 #[.pointer (some ⟨s, 0, none⟩)] w fun e w' => e = .returned (.tuple #[.int .i64 0, .bool false]) ∧ w = w' := by
  have c0 := h.cell 0
  simp at c0
  clear h
  go_enter Try.func14, Try.ntmps14
  go_wp2
  go_ret2
  exact ⟨rfl, rfl⟩

def NextPost (w : World) (s a wb n k : Nat) (parts : Int) (ws : List Int) (st c : Int) (e : Ending) (w' : World) : Prop :=
  e = .returned (.tuple (if 0 ≤ c ∧ c < parts then #[.int .i64 c, .bool true] else #[.int .i64 0, .bool false])) ∧
  ShareAt w' s a k parts ∧ CellsAt w' a wb n (ws.set k (wrap64 (c + 1))) (wrap64 (st + 1)) ∧ Kept (fun b => b = a ∨ b = wb) w w'

set_option maxHeartbeats 1600000 in
theorem next_at (w : World) (s a wb n k : Nat) (parts : Int) (ws : List Int) (st : Int) (h : ShareAt w s a k parts) (hc : CellsAt w a wb n ws st) (hk : k < n) (h1 : s ≠ a) (h2 : s ≠ wb) (c : Int) (hcv : ws.getD k 0 = c) :
    Calls Try.prog 14 #[.pointer (some ⟨s, 0, none⟩)] w (NextPost w s a wb n k parts ws st c) := by
  have c0 := h.cell 0
  have c1 := h.cell 1
  have c2 := h.cell 2
  simp at c0 c1 c2
  have HS := Lib.hid h
  have HC := Lib.hid hc
  clear h hc
  have hadd := Lib.hid (fun (w1 : World) (h : CellsAt w1 a wb n ws st) => cells_add w1 a wb n ws st h k hk 1)
  unfold AddPost at hadd
  rw [hcv] at hadd
  clear hcv
  go_enter Try.func14, Try.ntmps14
  go_wp2
  go_region_with (go_at_call 23; refine (hadd.out _ HC.out.drew).mono ?_; rintro e w' ⟨rfl, hca, hka⟩; have HCA := Lib.hid hca; have HKA := Lib.hid hka; clear hca hka)
  all_goals
    have hs1 : ShareAt w' s a k parts := HKA.out.blk HS.out.drew (by rintro (e | e) <;> omega)
    have hk1 : Kept (fun b => b = a ∨ b = wb) w w' := (Kept.refl _ w).drew.trans HKA.out
    have d2 := hs1.cell 2
    simp at d2
    have HS1 := Lib.hid hs1
    have HK1 := Lib.hid hk1
    clear hs1 hk1
    go_wp2
    all_goals
      go_ret2
      refine ⟨?_, HS1.out, HCA.out, HK1.out⟩
      first | (rw [if_pos ‹_›]) | (rw [if_neg (by omega)])
      rfl

theorem taken_nil (w : World) : Calls Try.prog 20 #[.pointer none] w fun e w' => e = .returned (.int .i64 0) ∧ w = w' := by
  go_enter Try.func20, Try.ntmps20
  go_wp2
  go_ret
  exact ⟨rfl, rfl⟩

theorem taken_zero (w : World) (s : Nat) (x y : Value) (h : Blk w s #[.pointer none, x, y] 50) : Calls Try.prog 20 #[.pointer (some ⟨s, 0, none⟩)] w fun e w' => e = .returned (.int .i64 0) ∧ w = w' := by
  have c0 := h.cell 0
  simp at c0
  clear h
  go_enter Try.func20, Try.ntmps20
  go_wp2
  go_ret
  exact ⟨rfl, rfl⟩

theorem reset_nil (w : World) (v : Value) : Calls Try.prog 19 #[.pointer none, v] w fun e w' => e = .returned (.tuple #[]) ∧ w = w' := by
  go_enter Try.func19, Try.ntmps19
  go_wp2
  refine bodyPost_ret (results_none rfl _ _ _) rfl ?_
  exact ⟨rfl, rfl⟩

theorem reset_zero (w : World) (s : Nat) (x y v : Value) (h : Blk w s #[.pointer none, x, y] 50) : Calls Try.prog 19 #[.pointer (some ⟨s, 0, none⟩), v] w fun e w' => e = .returned (.tuple #[]) ∧ w = w' := by
  have c0 := h.cell 0
  simp at c0
  clear h
  go_enter Try.func19, Try.ntmps19
  go_wp2
  refine bodyPost_ret (results_none rfl _ _ _) rfl ?_
  exact ⟨rfl, rfl⟩

/-- Reset without parts. -/
def ResetPost (w : World) (s a wb n k : Nat) (parts : Int) (ws : List Int) (st : Int) (e : Ending) (w' : World) : Prop :=
  e = .returned (.tuple #[]) ∧ ShareAt w' s a k parts ∧ CellsAt w' a wb n (ws.set k 0) st ∧ Kept (fun b => b = s ∨ b = wb) w w'

theorem neg_closure (x : Int) (w : World) : Calls Try.prog 29 #[.int .i64 x] w fun e w' => e = .returned (.bool (decide (x < 0))) ∧ w = w' := by
  go_enter Try.func29, Try.ntmps29
  go_wp2
  go_ret
  exact ⟨rfl, rfl⟩

theorem neg_none (a : Option Addr) (c : Nat) (w : World) : Calls Try.prog 28 #[.slice a 0 c, .func (.func 29) #[] #[]] w fun e w' => e = .returned (.bool false) ∧ w = w' := by
  go_enter Try.func28, Try.ntmps28
  go_wp2
  go_loop [5, 8] (fun _ i => i = .int .i64 0) (fun _ _ => 0)
  case atStart => rfl
  case round =>
    subst hrel
    go_wp2
    go_ret
    exact ⟨rfl, rfl⟩

/-- none of the numbers is below 0 -/
theorem neg_view (sp : Option Addr) (n c : Nat) (ps : List Int) (w : World) (hl : ps.length = n) (hn : n ≤ 9223372036854775807) (hv : View w sp (ps.map (Value.int .i64))) (hps : ∀ x ∈ ps, 0 ≤ x) :
    Calls Try.prog 28 #[.slice sp n c, .func (.func 29) #[] #[]] w fun e w' => e = .returned (.bool false) ∧ w = w' := by
  rcases Nat.eq_zero_or_pos n with h0 | h0
  · subst h0
    exact neg_none sp c w
  · obtain ⟨b, o, rfl, hc⟩ := hv.at_int (by omega)
    have HP := Lib.hid hps
    have HL := Lib.hid hl
    have HC := Lib.hid hc
    clear hps hl hc hv
    go_enter Try.func28, Try.ntmps28
    go_wp2
    go_loop [5, 8] (fun _ i => ∃ k : Nat, k ≤ n ∧ i = .int .i64 k) (fun _ i => n - (intOf i).toNat)
    case atStart => exact ⟨0, by omega, rfl⟩
    case round =>
      obtain ⟨k, hk, rfl⟩ := hrel
      by_cases hkn : k < n
      · have hcell := HC.out k (by rw [HL.out]; exact hkn)
        have hx : 0 ≤ ps.getD k 0 := by
          have h1 := HL.out
          have : ps.getD k 0 = ps[k]'(by omega) := by simp [List.getD, show k < ps.length by omega]
          rw [this]
          exact HP.out _ (List.getElem_mem _)
        generalize ps.getD k 0 = x at hcell hx
        have hx' : ¬ x < 0 := by omega
        go_wp2_with (go_at_call 29; refine (neg_closure x _).mono ?_; rintro e w' ⟨rfl, rfl⟩)
        go_round
        case rel => exact ⟨k + 1, by omega, by go_num⟩
        case measure => simp [intOf]; omega
      · go_wp2
        go_ret
        exact ⟨rfl, rfl⟩

set_option maxHeartbeats 1600000 in
theorem reset_at (w : World) (s a wb n k : Nat) (parts : Int) (ws : List Int) (st : Int) (h : ShareAt w s a k parts) (hc : CellsAt w a wb n ws st) (hk : k < n) (_h1 : s ≠ a) (h2 : s ≠ wb) (sp : Option Addr) (c : Nat) :
    Calls Try.prog 19 #[.pointer (some ⟨s, 0, none⟩), .slice sp 0 c] w (ResetPost w s a wb n k parts ws st) := by
  have hsl : s < w.heap.size := Blk.lt h
  have c0 := h.cell 0
  have c1 := h.cell 1
  have c2 := h.cell 2
  simp at c0 c1 c2
  have HS := Lib.hid h
  have HC := Lib.hid hc
  clear h hc
  have hput := Lib.hid (fun (w1 : World) (h : CellsAt w1 a wb n ws st) (sp : Option Addr) (hv : View w1 sp ([(0 : Int)].map (Value.int .i64))) => cells_put w1 a wb n ws st h k sp 1 1 [0] (by omega) rfl hv)
  go_enter Try.func19, Try.ntmps19
  go_wp2_with (go_at_call 28; refine (neg_none _ _ _).mono ?_; rintro e w' ⟨rfl, rfl⟩)
  go_region_with (go_at_call 30; refine (hput.out _ (HC.out.alloc _).drew _ (View.new w [.int .i64 0] 2).drew).mono ?_; rintro e w' ⟨rfl, hca, hka⟩; have HCA := Lib.hid hca; have HKA := Lib.hid hka; clear hca hka)
  all_goals
    have hs1 : ShareAt w' s a k parts := HKA.out.blk (HS.out.alloc _).drew (by omega)
    have hk1 : Kept (fun b => b = s ∨ b = wb) w w' := ((Kept.refl _ w).alloc _).drew.trans (HKA.out.mono (fun b _ e => .inr e))
    have HS1 := Lib.hid hs1
    have HK1 := Lib.hid hk1
    clear hs1 hk1
    go_wp2
    go_end0
    refine ⟨rfl, HS1.out, ?_, HK1.out⟩
    have := HCA.out
    rw [putAt_one _ _ _ (by rw [HC.out.len]; exact hk)] at this
    exact this

set_option maxHeartbeats 1600000 in
/-- Reset to a number of parts. -/
theorem reset_one (w : World) (s a wb n k : Nat) (parts : Int) (ws : List Int) (st : Int) (h : ShareAt w s a k parts) (hc : CellsAt w a wb n ws st) (hk : k < n) (h1 : s ≠ a) (h2 : s ≠ wb) (b o c : Nat) (x : Int) (hx : 0 ≤ x) (hb : w.cell? ⟨b, o, none⟩ = some (.int .i64 x)) :
    Calls Try.prog 19 #[.pointer (some ⟨s, 0, none⟩), .slice (some ⟨b, o, none⟩) 1 c] w (ResetPost w s a wb n k x ws st) := by
  have hsl : s < w.heap.size := Blk.lt h
  have c0 := h.cell 0
  have c1 := h.cell 1
  have c2 := h.cell 2
  have f2 := h.free 2
  simp at c0 c1 c2
  have HV := Lib.hid (neg_view (some ⟨b, o, none⟩) 1 c [x] w rfl (by omega) (fun _ => ⟨b, o, rfl, fun j u hj => by
    match j, hj with
    | 0, hj => simp at hj; subst hj; exact hb⟩) (by simp; exact hx))
  have hc1 : CellsAt (w.setCell ⟨s, 2, none⟩ (.int .i64 x)) a wb n ws st := ⟨hc.blk.other (fun e => h1 e.symm) _, hc.row.other (fun e => h2 e.symm) _, hc.ne, hc.len, hc.small⟩
  have hs0 : ShareAt (w.setCell ⟨s, 2, none⟩ (.int .i64 x)) s a k x := by
    have := Blk.set h 2 (.int .i64 x)
    unfold ShareAt
    simpa using this
  have hk0 : Kept (fun b => b = s ∨ b = wb) w (w.setCell ⟨s, 2, none⟩ (.int .i64 x)) := (Kept.refl _ w).set (.inl (.inl rfl)) _
  obtain ⟨w1, hw1⟩ : ∃ w1, w1 = w.setCell ⟨s, 2, none⟩ (.int .i64 x) := ⟨_, rfl⟩
  rw [← hw1] at hc1 hs0 hk0
  have HW := Lib.hid hw1
  have hsl1 := hs0.lt
  have d0 := hs0.cell 0
  have d1 := hs0.cell 1
  simp at d0 d1
  have HS := Lib.hid hs0
  have HC := Lib.hid hc1
  have HK := Lib.hid hk0
  clear h hc hs0 hc1 hk0 hw1
  have hput := Lib.hid (fun (w1 : World) (h : CellsAt w1 a wb n ws st) (sp : Option Addr) (hv : View w1 sp ([(0 : Int)].map (Value.int .i64))) => cells_put w1 a wb n ws st h k sp 1 1 [0] (by omega) rfl hv)
  go_enter Try.func19, Try.ntmps19
  go_wp2_with (go_at_call 28; refine HV.out.mono ?_; rintro e w' ⟨rfl, rfl⟩)
  rw [← HW.out]
  go_region_with (go_at_call 30; refine (hput.out _ (HC.out.alloc _).drew _ (View.new w1 [.int .i64 0] 2).drew).mono ?_; rintro e w' ⟨rfl, hca, hka⟩; have HCA := Lib.hid hca; have HKA := Lib.hid hka; clear hca hka)
  all_goals
    have hs1 : ShareAt w' s a k x := HKA.out.blk (HS.out.alloc _).drew (by omega)
    have hk1 : Kept (fun b => b = s ∨ b = wb) w w' := (HK.out.alloc _).drew.call HKA.out (fun b e => .inl (.inr e))
    have HS1 := Lib.hid hs1
    have HK1 := Lib.hid hk1
    clear hs1 hk1
    go_wp2
    go_end0
    refine ⟨rfl, HS1.out, ?_, HK1.out⟩
    have := HCA.out
    rw [putAt_one _ _ _ (by rw [HC.out.len]; exact hk)] at this
    exact this

end Go.Proofs.Ytpbbngdhljiedaa
