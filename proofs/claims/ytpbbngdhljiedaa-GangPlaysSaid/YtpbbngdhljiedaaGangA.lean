/- The walk of (*gang.Gang).Arrive, for a gang as GangAt says, at any worker. -/
import Derived.Test.YtpbbngdhljiedaaGangP
namespace Go.Proofs.Ytpbbngdhljiedaa
open Go Go.RowKit

theorem arrive_nil (w : World) (k : Int) : Calls Try.prog 11 #[.pointer none, .int .i64 k] w fun e w' => e = .returned (.tuple #[.bool false, .int .i64 1]) ∧ w = w' := by
  go_enter Try.func11, Try.ntmps11
  go_wp2
  go_ret2
  exact ⟨rfl, rfl⟩

theorem index_gang {w : World} {a sb n c : Nat} {ns : List Int} {ar ph : Nat} (h : GangAt w a sb n c ns ar ph) (x : Int) :
    Calls Try.prog 21 #[.slice (some ⟨sb, 0, none⟩) n c, .int .i64 x] w fun e w' => e = .returned (.int .i64 (at? ns x)) ∧ w = w' :=
  index_int sb 0 n c ns x w h.len (by have := h.small; omega) (by intro j hj; rw [Nat.zero_add]; exact h.cells j hj)

/-- No worker of this gang, or one that has arrived. -/
theorem arrive_no (w : World) (a sb n c : Nat) (ns : List Int) (ar ph : Nat) (h : GangAt w a sb n c ns ar ph) (k : Int) (hk : at? ns k < ar) :
    Calls Try.prog 11 #[.pointer (some ⟨a, 0, none⟩), .int .i64 k] w fun e w' => e = .returned (.tuple #[.bool false, .int .i64 (if at? ns k < 0 then 17 else 16)]) ∧ w = w' := by
  have H := Lib.hid (index_gang h k)
  have c0 := h.blk.cell 0
  have c1 := h.blk.cell 1
  simp at c0 c1
  have hs := h.small
  clear h
  generalize at? ns k = i at H hk ⊢
  by_cases hi : i < 0
  · rw [if_pos hi]
    go_enter Try.func11, Try.ntmps11
    go_wp2_with (go_at_call 21; refine H.out.mono ?_; rintro e w' ⟨rfl, rfl⟩)
    go_ret2
    exact ⟨rfl, rfl⟩
  · rw [if_neg hi]
    go_enter Try.func11, Try.ntmps11
    go_wp2_with (go_at_call 21; refine H.out.mono ?_; rintro e w' ⟨rfl, rfl⟩)
    go_ret2
    exact ⟨rfl, rfl⟩

/-- One that has not. -/
def ArrivePost (w : World) (a sb n c : Nat) (ns : List Int) (ar ph i : Nat) (k : Int) (e : Ending) (w' : World) : Prop :=
  Kept (fun b => b = a ∨ b = sb) w w' ∧
  ((ar + 1 < n ∧ e = .returned (.tuple #[.bool false, .int .i64 0]) ∧ GangAt w' a sb n c ((ns.set i (ns.getD ar 0)).set ar k) (ar + 1) ph) ∨
   (ar + 1 = n ∧ e = .returned (.tuple #[.bool true, .int .i64 0]) ∧ GangAt w' a sb n c ((ns.set i (ns.getD ar 0)).set ar k) 0 (ph + 1)))

set_option maxHeartbeats 1600000 in
theorem arrive_ok (w : World) (a sb n c : Nat) (ns : List Int) (ar ph i : Nat) (h : GangAt w a sb n c ns ar ph) (k : Int) (hk : at? ns k = i) (har : ar < n) (hi : ar ≤ i) (hin : i < n) (hph : ph < 9000000000000000000) :
    Calls Try.prog 11 #[.pointer (some ⟨a, 0, none⟩), .int .i64 k] w (ArrivePost w a sb n c ns ar ph i k) := by
  have H := index_gang h k
  rw [hk] at H
  replace H := Lib.hid H
  have c0 := h.blk.cell 0
  have c1 := h.blk.cell 1
  have c2 := h.blk.cell 2
  have f0 := fun j => h.blk.free j
  have g0 := fun j => h.row.frozenAt j
  simp at c0 c1 c2
  have hs := h.small
  have hcap := h.cap
  have hne := h.ne
  have hA := Lib.hid h
  have ci := h.cells i hin
  have ca := h.cells ar har
  have hKk := Lib.hid hk
  clear h hk
  generalize hx : ns.getD ar 0 = xa at ca
  have HX := Lib.hid hx
  clear hx
  have swap : ∃ w1, w1 = ((w.setCell ⟨sb, i, none⟩ (.int .i64 xa)).setCell ⟨sb, ar, none⟩ (.int .i64 k)).drew ∧ GangAt w1 a sb n c ((ns.set i xa).set ar k) ar ph ∧ Kept (fun b => b = a ∨ b = sb) w w1 :=
    ⟨_, rfl, ((hA.out.store i xa).store ar k).drew, (((Kept.refl _ w).set (.inl (.inr rfl)) _).set (.inl (.inr rfl)) _).drew⟩
  obtain ⟨w1, hw1, h1, hk1⟩ := swap
  have HW := Lib.hid hw1
  clear hw1
  have d0 := h1.blk.cell 0
  have d1 := h1.blk.cell 1
  have d2 := h1.blk.cell 2
  simp at d0 d1 d2
  have e0 := fun j => h1.blk.free j
  have H1 := Lib.hid h1
  clear h1
  obtain ⟨vi, hvi⟩ : ∃ v, (w.setCell ⟨sb, i, none⟩ (.int .i64 xa)).cell? ⟨sb, ar, none⟩ = some v := cell?_setCell_some ca
  generalize ns.getD i 0 = xi at ci
  go_enter Try.func11, Try.ntmps11
  go_wp2_with (go_at_call 21; refine H.out.mono ?_; rintro e w' ⟨rfl, rfl⟩)
  go_region
  rw [← HW.out]
  clear ci ca hvi
  go_wp2
  go_quiet (fail)
  go_wp2
  · have hl : (ar : Int) + 1 < n := by assumption
    go_ret2
    rw [show ((ar : Int) + 1) = ((ar + 1 : Nat) : Int) from by omega]
    refine ⟨(hk1.set (.inl (.inl rfl)) _).drewN _, Or.inl ⟨by omega, rfl, ?_⟩⟩
    rw [HX.out]
    exact (H1.out.setArr (ar + 1) (by omega)).drewN nq
  · have hl : (n : Int) ≤ ar + 1 := by assumption
    go_ret2
    rw [show ((ph : Int) + 1) = ((ph + 1 : Nat) : Int) from by omega]
    refine ⟨(((hk1.set (.inl (.inl rfl)) _).drewN _).set (.inl (.inl rfl)) _).set (.inl (.inl rfl)) _, Or.inr ⟨by omega, rfl, ?_⟩⟩
    rw [HX.out]
    exact (((H1.out.setArr (ar + 1) (by omega)).drewN nq).setArr 0 (by omega)).setPh (ph + 1)

theorem arrive_more (w : World) (a sb n c : Nat) (ns : List Int) (ar ph i : Nat) (h : GangAt w a sb n c ns ar ph) (k : Int) (hk : at? ns k = i) (har : ar + 1 < n) (hi : ar ≤ i) (hin : i < n) (hph : ph < 9000000000000000000) :
    Calls Try.prog 11 #[.pointer (some ⟨a, 0, none⟩), .int .i64 k] w fun e w' => e = .returned (.tuple #[.bool false, .int .i64 0]) ∧ GangAt w' a sb n c ((ns.set i (ns.getD ar 0)).set ar k) (ar + 1) ph ∧ Kept (fun b => b = a ∨ b = sb) w w' := by
  refine (arrive_ok w a sb n c ns ar ph i h k hk (by omega) hi hin hph).mono ?_
  rintro e w' ⟨hk, ⟨_, he, hg⟩ | ⟨h, _⟩⟩
  · exact ⟨he, hg, hk⟩
  · omega

theorem arrive_last (w : World) (a sb n c : Nat) (ns : List Int) (ar ph i : Nat) (h : GangAt w a sb n c ns ar ph) (k : Int) (hk : at? ns k = i) (har : ar + 1 = n) (hi : ar ≤ i) (hin : i < n) (hph : ph < 9000000000000000000) :
    Calls Try.prog 11 #[.pointer (some ⟨a, 0, none⟩), .int .i64 k] w fun e w' => e = .returned (.tuple #[.bool true, .int .i64 0]) ∧ GangAt w' a sb n c ((ns.set i (ns.getD ar 0)).set ar k) 0 (ph + 1) ∧ Kept (fun b => b = a ∨ b = sb) w w' := by
  refine (arrive_ok w a sb n c ns ar ph i h k hk (by omega) hi hin hph).mono ?_
  rintro e w' ⟨hk, ⟨h, _⟩ | ⟨_, he, hg⟩⟩
  · omega
  · exact ⟨he, hg, hk⟩

end Go.Proofs.Ytpbbngdhljiedaa
