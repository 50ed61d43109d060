/- The walk of SafeAgain, at whatever numbers. -/
import Derived.Test.YtcdedeinbaecpaaAwake09
import Derived.Deep.DeepCutAuto
namespace Go.Proofs.Ytcdedeinbaecpaa
open Go Go.RowKit

def upto (n : Nat) : List Int := (List.range n).map fun i : Nat => (i : Int)
theorem upto_mem (n : Nat) (x : Int) : x ∈ upto n ↔ 0 ≤ x ∧ x < n := by
  unfold upto
  simp only [List.mem_map, List.mem_range]
  constructor
  · rintro ⟨i, h, rfl⟩; omega
  · intro h; exact ⟨x.toNat, by omega, by omega⟩
theorem upto_len (n : Nat) : (upto n).length = n := by simp [upto]
theorem upto_up (n : Nat) : (upto n).Pairwise (· < ·) := by
  unfold upto
  rw [List.pairwise_map]
  exact List.pairwise_lt_range.imp (fun h => by omega)
theorem upto_ins (j : Nat) : insK (j : Int) (upto j) = upto (j + 1) :=
  up_ext (insK_up _ _ (upto_up j)) (upto_up _) (fun x => by rw [insK_mem, upto_mem, upto_mem]; omega)

/-- n threads, of whom the first t are parked. -/
def stT (n t : Nat) : Int → Int := fun x => if 0 ≤ x ∧ x < n then (if x < t then 2 else 1) else 0

theorem stT_add (j : Nat) : addS false (stT j 0) (j : Int) = stT (j + 1) 0 := by
  have h : stT j 0 (j : Int) = 0 := by unfold stT; split <;> omega
  unfold addS
  rw [if_pos h]
  funext x
  unfold put? stT
  simp only [Bool.false_eq_true, if_false]
  repeat' split
  all_goals omega

theorem stT_at (n t : Nat) (h : t < n) : stT n t (t : Int) = 1 := by
  unfold stT; rw [if_pos (by omega), if_neg (by omega)]

theorem stT_poll (n t : Nat) (h : t < n) : pollS (stT n t) true (t : Int) = stT n (t + 1) := by
  unfold pollS
  rw [if_pos ⟨rfl, stT_at n t h⟩]
  funext x
  unfold put? stT
  repeat' split
  all_goals omega

theorem stT_resume (n : Nat) : resumeS (stT n n) = stT n 0 := by
  funext x
  unfold resumeS stT
  repeat' split
  all_goals omega

theorem kept_pick (q : Int) (n t : Nat) (h : ∀ x, 0 ≤ x → x < (n : Int) → stT n t x = q) : kept? [q] (upto n) (stT n t) = upto n := by
  rw [kept_one]
  exact List.filter_eq_self.2 (fun x hx => by have := (upto_mem n x).1 hx; simpa using h x this.1 this.2)

theorem kept_none (n : Nat) : kept? [1] (upto n) (stT n n) = [] := by
  rw [kept_one]
  refine List.filter_eq_nil_iff.2 (fun x hx => ?_)
  have := (upto_mem n x).1 hx
  unfold stT
  rw [if_pos this, if_pos this.2]
  simp

set_option maxHeartbeats 6400000 in
set_option maxRecDepth 100000 in
theorem again_walk (a0 a1 : Int) (w : World) : Calls Try.prog 3 #[.int .i64 a0, .int .i64 a1] w (TrueBelow w) := by
  have hb := tmod_bd a0 20 (by omega)
  obtain ⟨n, hn⟩ : ∃ n : Nat, n = (a0.tmod 20).natAbs := ⟨_, rfl⟩
  have hn1 : n ≤ 20 := by omega
  have hr1 : -20 ≤ a0.tmod 20 := by omega
  have hr2 : a0.tmod 20 ≤ 20 := by omega
  have hb2 := tmod_bd a1 20 (by omega)
  obtain ⟨k, hk⟩ : ∃ k : Nat, k = (a1.tmod 20).natAbs := ⟨_, rfl⟩
  have hk1 : k ≤ 20 := by omega
  have hq1 : -20 ≤ a1.tmod 20 := by omega
  have hq2 : a1.tmod 20 ≤ 20 := by omega
  have HN := Lib.hid hn
  have HK := Lib.hid hk
  clear hn hk hb hb2
  go_enter Try.func3, Try.ntmps3
  go_wp2_with fail
  refine (awake_true w).mono ?_
  rintro e w1 ⟨rfl, hb⟩
  have B1 := Lib.hid hb
  clear hb
  go_wp2_with (fail)
  refine (safe_new w1).mono ?_
  rintro e w2 ⟨s, rfl, hs, hb, hsl⟩
  have hl1 := B1.out.size
  have B2 := Lib.hid (B1.out.trans (hb.mono hl1))
  have S2 := Lib.hid hs
  have hsw : w.heap.size ≤ s := by omega
  clear hs hb B1 hsl hl1
  go_upto_if 21 with (fail)
  go_cut [7] (fun v wx => v = .int .i64 (n : Int) ∧ wx = w2)
  case first =>
    go_wp2_with fail
    all_goals
      go_meet
      refine ⟨?_, rfl⟩
      have h := HN.out
      congr 1
      omega
  case rest =>
    obtain ⟨rfl, rfl⟩ := hcut
    go_upto_if 27 with (fail)
    go_cut [8] (fun v wx => v = .int .i64 (k : Int) ∧ wx = wc)
    case first =>
      go_wp2_with fail
      all_goals
        go_meet
        refine ⟨?_, rfl⟩
        have h := HK.out
        congr 1
        omega
    case rest =>
      obtain ⟨rfl, rfl⟩ := hcut
      rename_i w0 _
      go_wp2_with fail
      go_loopw [9] (fun i wr => ∃ (j : Nat) (m : Option Nat), j ≤ n + 1 ∧ i = .int .i64 j ∧ (0 < j → ∃ b, m = some b) ∧ (∀ b, m = some b → w.heap.size ≤ b) ∧ SafeAt wr s m (upto j) (stT j 0) false ∧ Below w.heap.size w wr) (fun i _ => n + 1 - (RowKit.intOf i).toNat)
      case atStart =>
        refine ⟨0, none, by omega, rfl, fun h => absurd h (by omega), (fun _ h => by cases h), ?_, B2.out⟩
        have : stT 0 0 = fun _ => 0 := by funext x; unfold stT; rw [if_neg (by omega)]
        rw [this]; exact S2.out
      case round =>
        obtain ⟨j, m, hj, rfl, hm0, hm, hs, hb⟩ := hrel
        have S := Lib.hid hs
        have B := Lib.hid hb
        have HM := Lib.hid hm
        have HM0 := Lib.hid hm0
        clear hs hb hm hm0
        by_cases hlt : j ≤ n
        · have hlz : (j : Int) ≤ (n : Int) := by omega
          go_wp2_with fail
          refine (add_at (wr.alloc (.cells #[.int .i64 (j : Int)] 3)) s m (upto j) (stT j 0) false (S.out.kept (F := fun _ => False) ((Kept.refl _ wr).alloc _) (fun h => h) (fun _ _ h => h)) (some ⟨wr.heap.size, 0, none⟩) 1 1 [(j : Int)] rfl (View.new wr [.int .i64 (j : Int)] _) (by intro x hx; simp at hx; subst hx; unfold In64; omega) (by rw [upto_len]; omega)).mono ?_
          rintro e w3 ⟨rfl, b, hbm, hs3, hk3⟩
          have hs3' : SafeAt w3 s (some b) (upto (j + 1)) (stT (j + 1) 0) false := by
            have h := hs3
            simp only [List.foldl_cons, List.foldl_nil, addStep] at h
            rw [upto_ins, stT_add] at h
            exact h
          have S3 := Lib.hid hs3'
          have hbw : w.heap.size ≤ b := by
            rcases hbm with h | ⟨_, h⟩
            · exact HM.out b h
            · have := B.out.size; simp at h; omega
          have B3 := Lib.hid (Below.kept (B.out.alloc B.out.size (.cells #[.int .i64 (j : Int)] 3)) hk3 (by have := B.out.size; simp; omega) (by rintro k (rfl | h); exact hsw; exact HM.out k h))
          clear hs3 hs3' hk3 hbm
          go_wp2_with fail
          go_roundw
          case rel => exact ⟨j + 1, some b, by omega, by go_num, fun _ => ⟨b, rfl⟩, (fun _ h => by cases h; exact hbw), S3.out, B3.out⟩
          case measure => simp [RowKit.intOf]; omega
        · obtain rfl : j = n + 1 := by omega
          obtain ⟨b, rfl⟩ := HM0.out (by omega)
          have hbw := HM.out b rfl
          have hlz : ¬ ((n + 1 : Nat) : Int) ≤ (n : Int) := by omega
          clear HM HM0
          go_wp2_with fail
          go_loopw [10] (fun i wr => ∃ r : Nat, r ≤ k ∧ i = .int .i64 r ∧ SafeAt wr s (some b) (upto (n + 1)) (stT (n + 1) 0) false ∧ Below w.heap.size w wr) (fun i _ => k - (RowKit.intOf i).toNat)
          case atStart => exact ⟨0, Nat.zero_le _, rfl, S.out, B.out⟩
          case round =>
            obtain ⟨r, hr, rfl, hs, hb⟩ := hrel
            clear S B
            have S := Lib.hid hs
            have B := Lib.hid hb
            clear hs hb
            by_cases hrk : r < k
            · go_wp2_with fail
              rename_i wr5
              refine (arm_at _ s (some b) (upto (n + 1)) (stT (n + 1) 0) false S.out).mono ?_
              rintro e w4 ⟨rfl, hs4, hk4⟩
              have S4 := Lib.hid hs4
              have B4 := Lib.hid (Below.kept B.out hk4 B.out.size (by rintro k rfl; exact hsw))
              clear hs4 hk4 S B
              go_wp2_with fail
              go_loopw [12] (fun i wr => ∃ t : Nat, t ≤ n + 1 ∧ i = .int .i64 t ∧ SafeAt wr s (some b) (upto (n + 1)) (stT (n + 1) t) true ∧ Below w.heap.size w wr) (fun i _ => n + 1 - (RowKit.intOf i).toNat)
              case atStart => exact ⟨0, Nat.zero_le _, rfl, S4.out, B4.out⟩
              case round =>
                obtain ⟨t, ht, rfl, hs, hb⟩ := hrel
                clear S4 B4
                have S := Lib.hid hs
                have B := Lib.hid hb
                clear hs hb
                by_cases htl : t ≤ n
                · have htz : (t : Int) ≤ (n : Int) := by omega
                  go_wp2_with fail
                  refine (poll_at _ s (some b) (upto (n + 1)) (stT (n + 1) t) true S.out (t : Int) (by unfold In64; omega) (by rw [upto_len]; omega)).mono ?_
                  rintro e w5 ⟨rfl, hs5, hk5⟩
                  rw [stT_poll (n + 1) t (by omega)] at hs5
                  rw [show decide (true = true ∧ stT (n + 1) t (t : Int) = 1) = true by simp [stT_at (n + 1) t (by omega)]]
                  have S5 := Lib.hid hs5
                  have B5 := Lib.hid (Below.kept B.out hk5 B.out.size (by rintro k h; cases h; exact hbw))
                  clear hs5 hk5 S B
                  go_wp2_with fail
                  go_roundw
                  case rel => exact ⟨t + 1, by omega, by go_num, S5.out, B5.out⟩
                  case measure => simp [RowKit.intOf]; omega
                · obtain rfl : t = n + 1 := by omega
                  have htz : ¬ ((n + 1 : Nat) : Int) ≤ (n : Int) := by omega
                  go_wp2_with fail
                  refine (resume_at _ s (some b) (upto (n + 1)) (stT (n + 1) (n + 1)) true S.out (by rw [upto_len]; omega)).mono ?_
                  have hre : reached? (upto (n + 1)) (stT (n + 1) (n + 1)) true = true := by unfold reached?; rw [kept_none]; rfl
                  have hkp : kept? [2] (upto (n + 1)) (stT (n + 1) (n + 1)) = upto (n + 1) := kept_pick 2 _ _ (fun x h1 h2 => by unfold stT; rw [if_pos ⟨h1, h2⟩, if_pos h2])
                  rintro e w6 (⟨h, _⟩ | ⟨_, sp, c, rfl, hv, hs6, hk6⟩)
                  · rw [hre] at h; cases h
                  rw [hkp, upto_len]
                  rw [stT_resume] at hs6
                  have S6 := Lib.hid hs6
                  have B6 := Lib.hid (Below.kept B.out hk6 B.out.size (by rintro k (rfl | h); exact hsw; cases h; exact hbw))
                  clear hs6 hk6 hv hre hkp S B
                  go_wp2_with fail
                  refine (in_at (w6.alloc (.cells #[.int .i64 1] 3)) s (some b) (upto (n + 1)) (stT (n + 1) 0) false (S6.out.kept (F := fun _ => False) ((Kept.refl _ w6).alloc _) (fun h => h) (fun _ _ h => h)) (some ⟨w6.heap.size, 0, none⟩) 1 1 [1] (View.new w6 [.int .i64 1] _) rfl (by omega) (by rw [upto_len]; omega)).mono ?_
                  have hkp : kept? [1] (upto (n + 1)) (stT (n + 1) 0) = upto (n + 1) := kept_pick 1 _ _ (fun x h1 h2 => by unfold stT; rw [if_pos ⟨h1, h2⟩, if_neg (by omega)])
                  rintro e w7 ⟨sp7, c7, rfl, hv7, hb7⟩
                  rw [hkp, upto_len]
                  have hz6 := B6.out.size
                  have hb67 : Below w6.heap.size w6 w7 := ((Below.refl w6.heap.size w6).alloc (Nat.le_refl _) _).trans (hb7.mono (by simp))
                  have S7 := Lib.hid (S6.out.below hb67 S6.out.blk.lt S6.out.map.lt)
                  have B7 := Lib.hid (B6.out.trans (hb67.mono hz6))
                  have A7 := Lib.hid (armed_at w7 s (some b) (upto (n + 1)) (stT (n + 1) 0) false S7.out)
                  clear hv7 hb7 hb67 hkp S6 B6
                  go_wp2_with (go_at_call 15; refine A7.out.mono ?_; rintro e w' ⟨rfl, rfl⟩)
                  go_roundw
                  case rel => exact ⟨r + 1, by omega, by go_num, S7.out, B7.out⟩
                  case measure => simp [RowKit.intOf]; omega
            · obtain rfl : k = r := by omega
              go_wp2_with fail
              go_ret
              exact ⟨rfl, B.out⟩
end Go.Proofs.Ytcdedeinbaecpaa
