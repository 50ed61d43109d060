/- The walks of gang.New, Phase and Goes. Conditions: 1 to 64 workers; else New refuses. -/
import Derived.Test.YtpbbngdhljiedaaGangP
import Derived.WalkSpells
namespace Go.Proofs.Ytpbbngdhljiedaa
open Go Go.RowKit

theorem new_bad (n : Int) (w : World) (h : n < 1 ∨ 64 < n) : Calls Try.prog 9 #[.int .i64 n] w fun e w' => e = .returned (.tuple #[.pointer none, .int .i64 1]) ∧ w = w' := by
  rcases h with h | h
  · go_enter Try.func9, Try.ntmps9
    go_wp2
    go_ret2
    exact ⟨rfl, rfl⟩
  · have h' : ¬ n < 1 := by omega
    go_enter Try.func9, Try.ntmps9
    go_wp2
    go_ret2
    exact ⟨rfl, rfl⟩

/-- 0, 1, .. -/
def upto (n : Nat) : List Int := (List.range n).map fun (i : Nat) => (i : Int)
theorem upto_succ (n : Nat) : upto (n + 1) = upto n ++ [(n : Int)] := by simp [upto, List.range_succ]
theorem upto_one (n : Nat) : (upto n).map (Value.int .i64) ++ [Value.int .i64 n] = (upto (n + 1)).map (Value.int .i64) := by simp [upto_succ]
theorem upto_len (n : Nat) : (upto n).length = n := by simp [upto]

theorem Try.infoInt : (Try.prog.info? 3).map (fun i => (i.zero, i.size, i.bytes)) = some (some (.int .i64 0), 1, 8) := by kernel_rfl

def NewPost (n : Nat) (w : World) (e : Ending) (w' : World) : Prop :=
  ∃ a sb c, e = .returned (.tuple #[.pointer (some ⟨a, 0, none⟩), .int .i64 0]) ∧ GangAt w' a sb n c (upto n) 0 0 ∧ Below w.heap.size w w' ∧ w.heap.size ≤ a ∧ w.heap.size ≤ sb

def NewRel (n : Nat) (w : World) (i : Value) (wr : World) : Prop :=
  ∃ (k : Nat) (v : Value), k ≤ n ∧ i = .int .i64 k ∧ Blk wr w.heap.size #[v, .int .i64 0, .int .i64 0] 48 ∧
    wr.ownsRow (w.heap.size + 1) 3 1 v k ((upto k).map (Value.int .i64)) ∧ Below w.heap.size w wr

set_option maxHeartbeats 800000 in
theorem new_ok (n : Nat) (w : World) (h1 : 1 ≤ n) (h2 : n ≤ 64) : Calls Try.prog 9 #[.int .i64 n] w (NewPost n w) := by
  obtain ⟨i0, hi, hz0, hz1, hz2⟩ := info_parts Try.infoInt
  have h1' : ¬ (n : Int) < 1 := by omega
  have h2' : ¬ (64 : Int) < n := by omega
  go_enter Try.func9, Try.ntmps9
  go_wp2
  go_loopw [5, 15] (fun _ i wr => NewRel n w i wr) (fun _ i _ => n - (intOf i).toNat)
  case atStart =>
    exact ⟨0, .slice none 0 0, Nat.zero_le _, rfl, Blk.new _ _ _, World.ownsRow_nil _ _ _ _, (Below.refl _ _).alloc (Nat.le_refl _) _⟩
  case round =>
    obtain ⟨k, v, hk, rfl, hb, hown, hbel⟩ := hrel
    have c0 := hb.cell 0
    simp at c0
    have f0 := fun j => hb.free j
    have hlt := hb.lt
    have HB := Lib.hid hb
    clear hb
    by_cases hkn : k < n
    · go_wp2_with (at_builtin; refine wpList_append_own_at _ rfl _ _ 22 rfl (w.heap.size + 1) 3 i0 (.int .i64 0) 1 8 Try.underlying22 hi hz0 hz1 hz2 rfl (by decide) _ _ _ rfl (hown.alloc _) ⟨wr.heap.size, 0, none⟩ 1 1 [.int .i64 k] rfl rfl (cell_one_new _ _ _) (ints_oneCell .i64 [(k : Int)]) (by unfold maxLen; omega) (by omega) (by simp; omega) ?_)
      intro v' w1 hown' hgrow _ _
      rw [upto_one] at hown'
      obtain ⟨g, cap, rfl, hg, _⟩ := own_shape hown' (by omega)
      have hk1 : Kept (fun b => b ≠ w.heap.size) wr w1 :=
        ((Kept.refl _ wr).alloc _).call (grown_kept (F := fun b => b ≠ w.heap.size) hgrow (by intro b hb _; have := (hown.lt b hb).1; omega)) (by intro b hb; exact .inl hb)
      have hb1 := hk1.blk HB.out (by simp)
      have hbel1 : Below w.heap.size w w1 := (hbel.alloc (by omega) _).grown hgrow (by simp; omega) (by intro b hb; have := (hown.lt b hb).1; omega)
      have c1 := hb1.cell 0
      simp at c1
      have f1 := fun j => hb1.free j
      have HB1 := Lib.hid hb1
      clear hb1 hown hgrow
      go_wp2
      go_roundw
      case rel =>
        exact ⟨k + 1, _, by omega, by go_num, by simpa using HB1.out.set 0 _, ownsRow_setCell_other hown' (by simp [Value.ownBlock]; omega) _, hbel1.setCell (Nat.le_refl _) _⟩
      case measure => simp [intOf]; omega
    · go_wp2
      obtain rfl : k = n := by omega
      obtain ⟨g, cap, rfl, hg, hcap⟩ := own_shape hown (by omega)
      have hown2 : wr.ownsRow 0 3 1 (.slice (some ⟨g, 0, none⟩) k cap) k ((upto k).map (Value.int .i64)) := by
        obtain ⟨q1, q2⟩ := hown
        refine ⟨q1, ?_⟩
        rcases q2 with q2 | ⟨g', cap', cur, q3, _, q5⟩
        · exact .inl q2
        · exact .inr ⟨g', cap', cur, q3, Nat.zero_le _, q5⟩
      go_ret2
      exact ⟨_, g, cap, rfl, ⟨HB.out, hown2, by omega, upto_len k, ⟨h1, h2⟩, Nat.zero_le _⟩, hbel, Nat.le_refl _, by omega⟩

theorem phase_nil (w : World) : Calls Try.prog 10 #[.pointer none] w fun e w' => e = .returned (.int .i64 0) ∧ w = w' := by
  go_enter Try.func10, Try.ntmps10
  go_wp2
  go_ret
  exact ⟨rfl, rfl⟩

theorem phase_at (w : World) (a sb n c : Nat) (ns : List Int) (ar ph : Nat) (h : GangAt w a sb n c ns ar ph) : Calls Try.prog 10 #[.pointer (some ⟨a, 0, none⟩)] w fun e w' => e = .returned (.int .i64 ph) ∧ w = w' := by
  have c2 := h.blk.cell 2
  simp at c2
  clear h
  go_enter Try.func10, Try.ntmps10
  go_wp2
  go_ret
  exact ⟨rfl, rfl⟩

/-- in: those that have arrived, as a slice of the order's row. -/
theorem in_at (w : World) (a sb n c : Nat) (ns : List Int) (ar ph : Nat) (h : GangAt w a sb n c ns ar ph) :
    Calls Try.prog 25 #[.pointer (some ⟨a, 0, none⟩)] w fun e w' => e = .returned (.slice (some ⟨sb, 0, none⟩) ar ar) ∧ ∃ m, w' = w.drewN m := by
  have c0 := h.blk.cell 0
  have c1 := h.blk.cell 1
  simp at c0 c1
  have har := h.arr
  have hcap := h.cap
  clear h
  go_enter Try.func25, Try.ntmps25
  go_wp2
  go_quiet (fail)
  go_wp2
  go_ret
  exact ⟨rfl, _, rfl⟩

theorem goes_nil (w : World) (x : Int) : Calls Try.prog 18 #[.pointer none, .int .i64 x] w fun e w' => e = .returned (.bool false) ∧ w = w' := by
  go_enter Try.func18, Try.ntmps18
  go_wp2
  go_ret
  exact ⟨rfl, rfl⟩

theorem getD_take {ns : List Int} {m j : Nat} (h : j < m) : (ns.take m).getD j 0 = ns.getD j 0 := by simp [List.getD, h]

set_option maxHeartbeats 800000 in
theorem goes_at (w : World) (a sb n c : Nat) (ns : List Int) (ar ph : Nat) (h : GangAt w a sb n c ns ar ph) (x : Int) :
    Calls Try.prog 18 #[.pointer (some ⟨a, 0, none⟩), .int .i64 x] w fun e w' => e = .returned (.bool (ns.contains x && !(ns.take ar).contains x)) ∧ ∃ m, w' = w.drewN m := by
  have c0 := h.blk.cell 0
  simp at c0
  have H1 := Lib.hid (contains_int sb 0 n c ns x w h.len (by have := h.small; omega) (by intro j hj; rw [Nat.zero_add]; exact h.cells j hj))
  have H2 := Lib.hid (in_at w a sb n c ns ar ph h)
  have H3 := Lib.hid (fun m => contains_int sb 0 ar ar (ns.take ar) x (w.drewN m) (by have := h.len; have := h.arr; simp; omega) (by have := h.small; have := h.arr; omega) (by intro j hj; have := h.arr; rw [Nat.zero_add, getD_take hj]; exact h.cells j (by omega)))
  clear h
  generalize ns.contains x = b1 at H1
  generalize (ns.take ar).contains x = b2 at H3
  cases b1 with
  | false =>
    go_enter Try.func18, Try.ntmps18
    go_wp2_with fail
    refine H1.out.mono ?_
    rintro e w' ⟨rfl, rfl⟩
    go_wp2_with fail
    go_ret
    exact ⟨rfl, 0, rfl⟩
  | true =>
    go_enter Try.func18, Try.ntmps18
    go_wp2_with fail
    refine H1.out.mono ?_
    rintro e w' ⟨rfl, rfl⟩
    go_wp2_with fail
    refine H2.out.mono ?_
    rintro e w' ⟨rfl, m, rfl⟩
    go_wp2_with fail
    refine (H3.out m).mono ?_
    rintro e w' ⟨rfl, rfl⟩
    go_wp2_with fail
    go_ret
    exact ⟨rfl, m, rfl⟩

end Go.Proofs.Ytpbbngdhljiedaa
