/- A safepoint as a block and a map; the walks of New, State, Armed, Arm, running, asks, Poll, Hold, Free. Condition: the safepoint is one so told (or nil). -/
import Derived.Test.YtcdedeinbaecpaaMapI
import Derived.Test.YtcdedeinbaecpaaOpen
namespace Go.Proofs.Ytcdedeinbaecpaa
open Go Go.RowKit

/-- The safepoint in block s: its map m has the threads ks, rising, each with st of it; a: is it armed? -/
structure SafeAt (w : World) (s : Nat) (m : Option Nat) (ks : List Int) (st : Int → Int) (a : Bool) : Prop where
  blk : Blk w s #[.map m, .bool a] 49
  map : StAt w m ks st

def SafeF (s : Nat) (m : Option Nat) : Nat → Prop := fun b => b = s ∨ m = some b

section
variable {w : World} {s : Nat} {m : Option Nat} {ks : List Int} {st : Int → Int} {a : Bool}

theorem SafeAt.kept {F : Nat → Prop} {w' : World} (h : SafeAt w s m ks st a) (hk : Kept F w w') (hs : ¬ F s) (hm : ∀ b, m = some b → ¬ F b) : SafeAt w' s m ks st a :=
  ⟨hk.blk h.blk hs, h.map.kept hk hm⟩

theorem SafeAt.below {w' : World} {B : Nat} (h : SafeAt w s m ks st a) (hb : Below B w w') (hs : s < B) (hm : ∀ b, m = some b → b < B) : SafeAt w' s m ks st a :=
  h.kept (Kept.ofBelow (F := fun b => B ≤ b) hb (fun _ _ h => h)) (by omega) (fun b h => by have := hm b h; omega)

theorem SafeAt.drew (h : SafeAt w s m ks st a) : SafeAt w.drew s m ks st a := h.kept (F := fun _ => False) (Kept.refl _ w).drew (fun h => h) (fun _ _ h => h)

theorem SafeAt.ne (h : SafeAt w s m ks st a) : ∀ b, m = some b → s ≠ b := fun _ hb => h.map.notCells hb h.blk

theorem SafeAt.there (h : SafeAt w s m ks st a) {t : Int} (ht : st t ≠ 0) : ∃ b, m = some b := by
  rcases h.map.own with ⟨_, h1⟩ | ⟨b, _, h1, _⟩
  · exact absurd ((h.map.mem t).2 ht) (by rw [h1]; simp)
  · exact ⟨b, h1⟩

theorem SafeAt.setA (h : SafeAt w s m ks st a) (a' : Bool) : SafeAt (w.setCell ⟨s, 1, none⟩ (.bool a')) s m ks st a' :=
  ⟨by simpa using h.blk.set 1 (.bool a'), h.map.set (a := ⟨s, 1, none⟩) h.blk _⟩

theorem SafeAt.store {b : Nat} (h : SafeAt w s (some b) ks st a) {x v : Int} (hx : In64 x) (hv : In64 v) (h0 : v ≠ 0) (hl : ks.length < 9223372036854775807) :
    ∃ w', (Instr.mapUpdate 47 (.map (some b)) (.int .i64 x) (.int .i64 v)).run Try.prog w = .ok () w' ∧ SafeAt w' s (some b) (insK x ks) (put? st x v) a ∧ Kept (fun k => k = b) w w' := by
  obtain ⟨w', h1, h2, h3⟩ := h.map.store hx hv h0 hl
  exact ⟨w', h1, ⟨h3.blk h.blk (h.ne b rfl), h2⟩, h3⟩

/-- .. of a thread that is there. -/
theorem SafeAt.turn {b : Nat} (h : SafeAt w s (some b) ks st a) {x v : Int} (hx : st x ≠ 0) (hv : In64 v) (h0 : v ≠ 0) (hl : ks.length < 9223372036854775807) :
    ∃ w', (Instr.mapUpdate 47 (.map (some b)) (.int .i64 x) (.int .i64 v)).run Try.prog w = .ok () w' ∧ SafeAt w' s (some b) ks (put? st x v) a ∧ Kept (fun k => k = b) w w' := by
  have hm := (h.map.mem x).2 hx
  obtain ⟨w', h1, h2, h3⟩ := h.store (h.map.small hm) hv h0 hl
  rw [insK_there h.map.up hm] at h2
  exact ⟨w', h1, h2, h3⟩
end

def NewPost (w : World) (e : Ending) (w' : World) : Prop :=
  ∃ s, e = .returned (.pointer (some ⟨s, 0, none⟩)) ∧ SafeAt w' s none [] (fun _ => 0) false ∧ Below w.heap.size w w' ∧ w.heap.size ≤ s

theorem safe_new (w : World) : Calls Try.prog 9 #[] w (NewPost w) := by
  go_enter Try.func9, Try.ntmps9
  go_wp2
  go_ret
  exact ⟨_, rfl, ⟨Blk.new w _ _, StAt.nil _⟩, (Below.refl _ w).alloc (Nat.le_refl _) _, Nat.le_refl _⟩

theorem state_nil (w : World) (t : Int) : Calls Try.prog 27 #[.pointer none, .int .i64 t] w fun e w' => e = .returned (.int .i64 0) ∧ w = w' := by
  go_enter Try.func27, Try.ntmps27
  go_wp2
  go_ret
  exact ⟨rfl, rfl⟩

theorem state_at (w : World) (s : Nat) (m : Option Nat) (ks : List Int) (st : Int → Int) (a : Bool) (h : SafeAt w s m ks st a) (t : Int) (ht : In64 t) :
    Calls Try.prog 27 #[.pointer (some ⟨s, 0, none⟩), .int .i64 t] w fun e w' => e = .returned (.int .i64 (st t)) ∧ w = w' := by
  have hl := h.map.look ht
  have c0 := h.blk.cell 0
  simp at c0
  clear h
  generalize st t = x at hl ⊢
  go_enter Try.func27, Try.ntmps27
  go_wp2
  go_ret
  exact ⟨rfl, rfl⟩

theorem armed_nil (w : World) : Calls Try.prog 15 #[.pointer none] w fun e w' => e = .returned (.bool false) ∧ w = w' := by
  go_enter Try.func15, Try.ntmps15
  go_wp2
  go_ret
  exact ⟨rfl, rfl⟩

theorem armed_at (w : World) (s : Nat) (m : Option Nat) (ks : List Int) (st : Int → Int) (a : Bool) (h : SafeAt w s m ks st a) :
    Calls Try.prog 15 #[.pointer (some ⟨s, 0, none⟩)] w fun e w' => e = .returned (.bool a) ∧ w = w' := by
  have c1 := h.blk.cell 1
  simp at c1
  clear h
  go_enter Try.func15, Try.ntmps15
  go_wp2
  go_ret
  exact ⟨rfl, rfl⟩

theorem running_at (w : World) (s : Nat) (m : Option Nat) (ks : List Int) (st : Int → Int) (a : Bool) (h : SafeAt w s m ks st a) :
    Calls Try.prog 33 #[.pointer (some ⟨s, 0, none⟩)] w fun e w' => e = .returned (.int .i64 (if a then 2 else 1)) ∧ w = w' := by
  have c1 := h.blk.cell 1
  simp at c1
  clear h
  cases a <;>
  · go_enter Try.func33, Try.ntmps33
    go_wp2
    go_ret
    exact ⟨rfl, rfl⟩

theorem arm_nil (w : World) : Calls Try.prog 11 #[.pointer none] w fun e w' => e = .returned (.bool false) ∧ w = w' := by
  go_enter Try.func11, Try.ntmps11
  go_wp2
  go_ret
  exact ⟨rfl, rfl⟩

def ArmPost (w : World) (s : Nat) (m : Option Nat) (ks : List Int) (st : Int → Int) (a : Bool) (e : Ending) (w' : World) : Prop :=
  e = .returned (.bool (!a)) ∧ SafeAt w' s m ks st true ∧ Kept (fun b => b = s) w w'

theorem arm_at (w : World) (s : Nat) (m : Option Nat) (ks : List Int) (st : Int → Int) (a : Bool) (h : SafeAt w s m ks st a) :
    Calls Try.prog 11 #[.pointer (some ⟨s, 0, none⟩)] w (ArmPost w s m ks st a) := by
  have c1 := h.blk.cell 1
  have f1 := h.blk.free 1
  simp at c1
  have H := Lib.hid h
  clear h
  cases a with
  | true =>
    go_enter Try.func11, Try.ntmps11
    go_wp2
    go_ret
    exact ⟨rfl, H.out, Kept.refl _ _⟩
  | false =>
    go_enter Try.func11, Try.ntmps11
    go_wp2
    go_ret
    exact ⟨rfl, H.out.setA true, (Kept.refl (fun b => b = s) w).set (p := ⟨s, 1, none⟩) (Or.inl rfl) _⟩

def asksE (x v : Int) : Int := if x = 0 then 17 else if x = v then 0 else 16

theorem asks_nil (w : World) (t v : Int) : Calls Try.prog 41 #[.pointer none, .int .i64 t, .int .i64 v] w fun e w' => e = .returned (.int .i64 17) ∧ w = w' := by
  go_enter Try.func41, Try.ntmps41
  go_wp2_with (go_at_call 27; refine (state_nil w t).mono ?_; rintro e w' ⟨rfl, rfl⟩)
  go_ret
  exact ⟨rfl, rfl⟩

theorem asks_at (w : World) (s : Nat) (m : Option Nat) (ks : List Int) (st : Int → Int) (a : Bool) (h : SafeAt w s m ks st a) (t v : Int) (ht : In64 t) :
    Calls Try.prog 41 #[.pointer (some ⟨s, 0, none⟩), .int .i64 t, .int .i64 v] w fun e w' => e = .returned (.int .i64 (asksE (st t) v)) ∧ w = w' := by
  have H := Lib.hid (state_at w s m ks st a h t ht)
  clear h
  generalize st t = x at H ⊢
  unfold asksE
  by_cases h0 : x = 0
  · subst h0
    go_enter Try.func41, Try.ntmps41
    go_wp2_with (go_at_call 27; refine H.out.mono ?_; rintro e w' ⟨rfl, rfl⟩)
    go_ret
    exact ⟨rfl, rfl⟩
  · rw [if_neg h0]
    by_cases h1 : x = v
    · subst h1
      go_enter Try.func41, Try.ntmps41
      go_wp2_with (go_at_call 27; refine H.out.mono ?_; rintro e w' ⟨rfl, rfl⟩)
      go_ret
      exact ⟨by simp, rfl⟩
    · go_enter Try.func41, Try.ntmps41
      go_wp2_with (go_at_call 27; refine H.out.mono ?_; rintro e w' ⟨rfl, rfl⟩)
      go_ret
      exact ⟨by simp, rfl⟩

/-! ### Hold -/
def holdS (st : Int → Int) (t : Int) : Int → Int := if st t = 1 then put? st t 3 else st
def HoldPost (w : World) (s : Nat) (m : Option Nat) (ks : List Int) (st : Int → Int) (a : Bool) (t : Int) (e : Ending) (w' : World) : Prop :=
  e = .returned (.int .i64 (asksE (st t) 1)) ∧ SafeAt w' s m ks (holdS st t) a ∧ Kept (fun b => m = some b) w w'

theorem hold_nil (w : World) (t : Int) : Calls Try.prog 19 #[.pointer none, .int .i64 t] w fun e w' => e = .returned (.int .i64 17) ∧ w = w' := by
  go_enter Try.func19, Try.ntmps19
  go_wp2_with (go_at_call 41; refine (asks_nil w t 1).mono ?_; rintro e w' ⟨rfl, rfl⟩)
  go_ret
  exact ⟨rfl, rfl⟩

theorem hold_at (w : World) (s : Nat) (m : Option Nat) (ks : List Int) (st : Int → Int) (a : Bool) (h : SafeAt w s m ks st a) (t : Int) (ht : In64 t) (hl : ks.length < 9223372036854775807) :
    Calls Try.prog 19 #[.pointer (some ⟨s, 0, none⟩), .int .i64 t] w (HoldPost w s m ks st a t) := by
  have HA := Lib.hid (asks_at w s m ks st a h t 1 ht)
  have c0 := h.blk.cell 0
  simp at c0
  by_cases h1 : st t = 1
  · obtain ⟨b, rfl⟩ := h.there (t := t) (by omega)
    obtain ⟨w1, hu, hs, hk⟩ := h.turn (x := t) (v := 3) (by omega) (by unfold In64; omega) (by omega) hl
    have HS := Lib.hid hs
    have HK := Lib.hid hk
    have H1 := Lib.hid h1
    have HA := Lib.hid (show Calls _ _ _ _ fun e w' => e = .returned (.int .i64 0) ∧ w = w' from by have := HA.out; rw [h1] at this; exact this)
    clear h h1 hs hk
    go_enter Try.func19, Try.ntmps19
    go_wp2_with (go_at_call 41; refine HA.out.mono ?_; rintro e w' ⟨rfl, rfl⟩)
    go_ret
    have h1 := H1.out
    exact ⟨by rw [h1]; rfl, by unfold holdS; rw [if_pos h1]; exact HS.out, HK.out.mono (by rintro k _ rfl; rfl)⟩
  · have H := Lib.hid h
    have h2 : asksE (st t) 1 ≠ 0 := by unfold asksE; split; omega; simp
    have H1 := Lib.hid h1
    clear h h1
    generalize hx : asksE (st t) 1 = x at HA h2
    have HX := Lib.hid hx
    clear hx
    go_enter Try.func19, Try.ntmps19
    go_wp2_with (go_at_call 41; refine HA.out.mono ?_; rintro e w' ⟨rfl, rfl⟩)
    go_ret
    exact ⟨by rw [HX.out]; rfl, by unfold holdS; rw [if_neg H1.out]; exact H.out, Kept.refl _ _⟩

/-! ### Free -/
def freeS (st : Int → Int) (a : Bool) (t : Int) : Int → Int := if st t = 3 then put? st t (if a then 2 else 1) else st
def FreePost (w : World) (s : Nat) (m : Option Nat) (ks : List Int) (st : Int → Int) (a : Bool) (t : Int) (e : Ending) (w' : World) : Prop :=
  e = .returned (.tuple #[.bool (decide (st t = 3) && !a), .int .i64 (asksE (st t) 3)]) ∧ SafeAt w' s m ks (freeS st a t) a ∧ Kept (fun b => m = some b) w w'

theorem free_nil (w : World) (t : Int) : Calls Try.prog 21 #[.pointer none, .int .i64 t] w fun e w' => e = .returned (.tuple #[.bool false, .int .i64 17]) ∧ w = w' := by
  go_enter Try.func21, Try.ntmps21
  go_wp2_with (go_at_call 41; refine (asks_nil w t 3).mono ?_; rintro e w' ⟨rfl, rfl⟩)
  go_ret2
  exact ⟨rfl, rfl⟩

set_option maxHeartbeats 1600000 in
theorem free_at (w : World) (s : Nat) (m : Option Nat) (ks : List Int) (st : Int → Int) (a : Bool) (h : SafeAt w s m ks st a) (t : Int) (ht : In64 t) (hl : ks.length < 9223372036854775807) :
    Calls Try.prog 21 #[.pointer (some ⟨s, 0, none⟩), .int .i64 t] w (FreePost w s m ks st a t) := by
  have HA := Lib.hid (asks_at w s m ks st a h t 3 ht)
  have c0 := h.blk.cell 0
  have c1 := h.blk.cell 1
  simp at c0 c1
  by_cases h1 : st t = 3
  · obtain ⟨b, rfl⟩ := h.there (t := t) (by omega)
    have HR := Lib.hid (running_at w.drew s _ ks st a h.drew)
    obtain ⟨w1, hu, hs, hk⟩ := h.drew.turn (x := t) (v := if a then 2 else 1) (by omega) (by unfold In64; split <;> omega) (by split <;> omega) hl
    have d1 := hs.blk.cell 1
    simp at d1
    have HS := Lib.hid hs
    have HK := Lib.hid hk
    have H1 := Lib.hid h1
    have HA := Lib.hid (show Calls _ _ _ _ fun e w' => e = .returned (.int .i64 0) ∧ w = w' from by have := HA.out; rw [h1] at this; exact this)
    clear h h1 hs hk
    generalize hv : (if a then (2 : Int) else 1) = v at HR hu
    have HV := Lib.hid hv
    clear hv
    go_enter Try.func21, Try.ntmps21
    go_wp2_with (go_at_call 41; refine HA.out.mono ?_; rintro e w' ⟨rfl, rfl⟩)
    go_region_with (go_at_call 33; refine HR.out.mono ?_; rintro e w' ⟨rfl, rfl⟩)
    all_goals
      go_wp2_with fail
      go_ret2
      have h1 := H1.out
      exact ⟨by rw [h1]; simp [asksE], by unfold freeS; rw [if_pos h1]; exact HS.out, ((Kept.refl (fun k => some b = some k) w).drew).call HK.out (fun k e => Or.inl (congrArg some e.symm))⟩
  · have H := Lib.hid h
    have h2 : asksE (st t) 3 ≠ 0 := by unfold asksE; split; omega; simp
    have H1 := Lib.hid h1
    clear h h1
    generalize hx : asksE (st t) 3 = x at HA h2
    have HX := Lib.hid hx
    clear hx
    go_enter Try.func21, Try.ntmps21
    go_wp2_with (go_at_call 41; refine HA.out.mono ?_; rintro e w' ⟨rfl, rfl⟩)
    go_ret2
    exact ⟨by rw [HX.out, decide_eq_false H1.out]; rfl, by unfold freeS; rw [if_neg H1.out]; exact H.out, Kept.refl _ _⟩

/-! ### Poll -/
def pollS (st : Int → Int) (a : Bool) (t : Int) : Int → Int := if a = true ∧ st t = 1 then put? st t 2 else st
def PollPost (w : World) (s : Nat) (m : Option Nat) (ks : List Int) (st : Int → Int) (a : Bool) (t : Int) (e : Ending) (w' : World) : Prop :=
  e = .returned (.bool (decide (a = true ∧ st t = 1))) ∧ SafeAt w' s m ks (pollS st a t) a ∧ Kept (fun b => m = some b) w w'

theorem poll_nil (w : World) (t : Int) : Calls Try.prog 12 #[.pointer none, .int .i64 t] w fun e w' => e = .returned (.bool false) ∧ w = w' := by
  go_enter Try.func12, Try.ntmps12
  go_wp2_with (go_at_call 15; refine (armed_nil w).mono ?_; rintro e w' ⟨rfl, rfl⟩)
  go_ret
  exact ⟨rfl, rfl⟩

set_option maxHeartbeats 1600000 in
theorem poll_at (w : World) (s : Nat) (m : Option Nat) (ks : List Int) (st : Int → Int) (a : Bool) (h : SafeAt w s m ks st a) (t : Int) (ht : In64 t) (hl : ks.length < 9223372036854775807) :
    Calls Try.prog 12 #[.pointer (some ⟨s, 0, none⟩), .int .i64 t] w (PollPost w s m ks st a t) := by
  have HA := Lib.hid (armed_at w s m ks st a h)
  have HT := Lib.hid (state_at w s m ks st a h t ht)
  have c0 := h.blk.cell 0
  simp at c0
  by_cases h1 : a = true ∧ st t = 1
  · obtain ⟨rfl, h2⟩ := h1
    obtain ⟨b, rfl⟩ := h.there (t := t) (by omega)
    obtain ⟨w1, hu, hs, hk⟩ := h.turn (x := t) (v := 2) (by omega) (by unfold In64; omega) (by omega) hl
    have HS := Lib.hid hs
    have HK := Lib.hid hk
    have H2 := Lib.hid h2
    rw [h2] at HT
    clear h h2 hs hk
    go_enter Try.func12, Try.ntmps12
    go_wp2_with (first | (go_at_call 15; refine HA.out.mono ?_; rintro e w' ⟨rfl, rfl⟩) | (go_at_call 27; refine HT.out.mono ?_; rintro e w' ⟨rfl, rfl⟩))
    go_ret
    have h1 := H2.out
    exact ⟨by simp [h1], by unfold pollS; rw [if_pos ⟨rfl, h1⟩]; exact HS.out, HK.out.mono (by rintro k _ rfl; rfl)⟩
  · have H := Lib.hid h
    have H1 := Lib.hid h1
    clear h
    cases a with
    | false =>
      clear h1
      go_enter Try.func12, Try.ntmps12
      go_wp2_with (first | (go_at_call 15; refine HA.out.mono ?_; rintro e w' ⟨rfl, rfl⟩) | (go_at_call 27; refine HT.out.mono ?_; rintro e w' ⟨rfl, rfl⟩))
      go_ret
      exact ⟨by simp, by unfold pollS; rw [if_neg H1.out]; exact H.out, Kept.refl _ _⟩
    | true =>
      have h2 : st t ≠ 1 := fun e => h1 ⟨rfl, e⟩
      clear h1
      generalize hx : st t = x at HT h2
      have HX := Lib.hid hx
      clear hx
      go_enter Try.func12, Try.ntmps12
      go_wp2_with (first | (go_at_call 15; refine HA.out.mono ?_; rintro e w' ⟨rfl, rfl⟩) | (go_at_call 27; refine HT.out.mono ?_; rintro e w' ⟨rfl, rfl⟩))
      go_ret
      have hx := HX.out
      exact ⟨by rw [hx]; show Ending.returned (.bool (x == 1)) = _; simp [h2], by unfold pollS; rw [if_neg (by rw [hx]; simp [h2])]; exact H.out, Kept.refl _ _⟩
end Go.Proofs.Ytcdedeinbaecpaa
