/- The walk of ballastlaw10.GangPlays: it answers true, at any number of workers and any script; nothing that was there is turned. -/
import Derived.Test.YtpbbngdhljiedaaPlays10
import Derived.Test.YtpbbngdhljiedaaRounds10
namespace Go.Proofs.Ytpbbngdhljiedaa
open Go Go.RowKit

theorem Try.infoBool : (Try.prog.info? 4).map (fun i => (i.zero, i.size, i.bytes)) = some (some (.bool false), 1, 1) := by kernel_rfl

theorem plays_bad (a0 : Int) (sp : Option Addr) (len cap : Nat) (w : World) (h : a0 < 1 ∨ 64 < a0) :
    Calls Try.prog 5 #[.int .i64 a0, .slice sp len cap] w (TrueBelow w) := by
  rcases h with h | h
  · go_enter Try.func5, Try.ntmps5
    go_wp2_with fail
    refine (awake_true w).mono ?_
    rintro e w1 ⟨rfl, hb⟩
    go_wp2_with fail
    refine (new_bad a0 w1 (.inl h)).mono ?_
    rintro e w' ⟨rfl, rfl⟩
    have HB := Lib.hid hb
    clear hb
    go_wp2_with fail
    go_ret
    exact ⟨rfl, HB.out⟩
  · have h' : ¬ a0 < 1 := by omega
    go_enter Try.func5, Try.ntmps5
    go_wp2_with fail
    refine (awake_true w).mono ?_
    rintro e w1 ⟨rfl, hb⟩
    go_wp2_with fail
    refine (new_bad a0 w1 (.inr h)).mono ?_
    rintro e w' ⟨rfl, rfl⟩
    have HB := Lib.hid hb
    clear hb
    go_wp2_with fail
    go_ret
    exact ⟨rfl, HB.out⟩

/-- Both gangs are alike, i calls behind the beginning. -/
def AlikeAt (W wr : World) (a sb n c r ib i : Nat) : Prop :=
  ∃ ins ph, GangIs wr a sb n c ins ph ∧ RefIs wr r ib n ins ph ∧ ph ≤ i ∧ Below W.heap.size W wr

set_option maxHeartbeats 6400000 in
set_option maxRecDepth 100000 in
theorem plays_walk (n : Nat) (hn0 : 1 ≤ n) (hn1 : n ≤ 64) (sp : Option Addr) (len cap : Nat) (zs : List Int) (w : World) (hz : zs.length = len) (hbig : len ≤ 9223372036854775807) (hv : View w sp (zs.map (Value.int .i64))) :
    Calls Try.prog 5 #[.int .i64 n, .slice sp len cap] w (TrueBelow w) := by
  obtain ⟨i0, hi, hz0, hz1, hz2⟩ := info_parts Try.infoBool
  have HV := Lib.hid hv
  have HZ := Lib.hid hz
  have h1' : ¬ (n : Int) < 1 := by omega
  have h2' : ¬ (64 : Int) < n := by omega
  clear hv hz
  go_enter Try.func5, Try.ntmps5
  go_wp2_with fail
  refine (awake_true w).mono ?_
  rintro e w1 ⟨rfl, hb⟩
  have B1 := Lib.hid hb
  have hl1 := hb.size
  clear hb
  go_wp2_with fail
  refine (new_is n w1 (by omega) (by omega)).mono ?_
  rintro e w2 ⟨a, sb, c, rfl, hg, hb, ha, hsb⟩
  have G2 := Lib.hid hg
  have B2 := Lib.hid (B1.out.trans (hb.mono hl1))
  obtain ⟨hga, hgs⟩ := hg.lt
  clear hg hb
  go_wp2_with (at_make; refine wpList_make_full _ rfl _ _ 42 rfl w2.heap.size 4 i0 (.bool false) 1 Try.underlying42 hi hz0 hz1 .i64 .i64 n n n rfl rfl rfl rfl (by rw [hz2]; omega) (by unfold maxLen; omega) (Nat.le_refl _) ?_)
  intro w3 hown hgr
  have hb3 : Blk w3 w2.heap.size ((flags n []).map Value.bool).toArray 4 := by
    rcases hown.2 with ⟨e, _⟩ | ⟨g, cap, cur, e, _, hb, _, _, hs, ht⟩
    · cases e
    · cases e
      unfold Blk
      rw [hb]
      have : cur = ((flags n []).map Value.bool).toArray := by
        apply Array.toList_inj.1
        rw [toList_madeCells_one] at ht
        rw [List.take_of_length_le (by rw [Array.length_toList, hs]; omega)] at ht
        rw [ht]
        apply List.ext_getElem?
        intro j
        by_cases hj : j < n <;> simp [flags, hj]
      rw [this]
  have hk3 : Kept (fun _ => False) w2 w3 := grown_kept hgr (by intro k hk; cases hk)
  have hlt3 := hb3.lt
  obtain ⟨ib, hib⟩ : ∃ ib, ib = w2.heap.size := ⟨_, rfl⟩
  rw [← hib] at hga hgs hb3 hlt3
  have A0 : AlikeAt w (w3.alloc (.cells #[.slice (some ⟨ib, 0, none⟩) n n, .int .i64 0] 44)) a sb n c w3.heap.size ib 0 :=
    ⟨[], 0, (G2.out.kept hk3 (by simp) (by simp)).kept ((Kept.refl (fun _ => False) w3).alloc _) (by simp) (by simp), ⟨Blk.new _ _ _, hb3.alloc _, by omega, by omega⟩, by omega, (Below.kept B2.out hk3 B2.out.size (by simp)).alloc (by have := B2.out.size; have := hk3.size; omega) _⟩
  have HA0 := Lib.hid A0
  have hwa : w.heap.size ≤ a := by omega
  have hws : w.heap.size ≤ sb := by omega
  have hwi : w.heap.size ≤ ib := by have := B2.out.size; omega
  rw [← hib]
  clear hown hgr hb3 hk3 A0 G2 B1 B2 hl1 hib ha hsb
  go_wp2_with fail
  generalize w3.alloc (.cells #[.slice (some ⟨ib, 0, none⟩) n n, .int .i64 0] 44) = w4 at HA0 ⊢
  generalize w3.heap.size = r at HA0 hlt3 ⊢
  go_loopw [9] (fun q wr => ∃ i : Nat, i ≤ len ∧ i ≤ 300 ∧ q = .int .i64 i ∧ AlikeAt w wr a sb n c r ib i) (fun q _ => len - (intOf q).toNat)
  case atStart => exact ⟨0, by omega, by omega, rfl, HA0.out⟩
  case round =>
    obtain ⟨i, hi1, hi2, rfl, hA⟩ := hrel
    obtain ⟨ins, ph, hG, hR, hph, hB⟩ := hA
    have HG := Lib.hid hG
    have HR := Lib.hid hR
    have HB := Lib.hid hB
    clear hG hR hB HA0
    by_cases t1 : i < len
    · by_cases t2 : i < 300
      · obtain ⟨b, o, rfl, hcells⟩ := (HV.out.later HB.out).at_int (by rw [HZ.out]; omega)
        have hx := hcells i (by rw [HZ.out]; exact t1)
        clear hcells
        generalize hxx : zs.getD i 0 = x at hx
        have HX := Lib.hid hxx
        clear hxx
        go_wp2_with fail
        refine (arrive_is wr a sb n c ins ph HG.out (by omega) x).mono ?_
        rintro e w5 h5
        obtain ⟨b1, f1, rfl, hk5⟩ := h5.shape
        have H5 := Lib.hid h5
        have HR5 := Lib.hid (HR.out.kept hk5 (by rintro (e | e) <;> omega) (by rintro (e | e) <;> omega))
        have HB5 := Lib.hid (Below.kept HB.out hk5 HB.out.size (by rintro b (e | e) <;> omega))
        have hx5 : w5.cell? ⟨b, o + i, none⟩ = some (.int .i64 x) := HX.out ▸ (View.at_cell (HV.out.later HB5.out) (by rw [HZ.out]; exact t1))
        clear h5 hk5 hx
        go_wp2_with fail
        refine (ref_arrive w5 r ib n ins ph HR5.out (by omega) x).mono ?_
        rintro e w6 h6
        obtain ⟨b2, f2, rfl, hk6⟩ := h6.shape
        obtain ⟨rfl, rfl, ins', ph', hG6, hR6, hph6⟩ := both_ways HG.out HR5.out H5.out h6
        have HG6 := Lib.hid (hG6.kept hk6 (by rintro (e | e) <;> omega) (by rintro (e | e) <;> omega))
        have HR6 := Lib.hid hR6
        have HB6 := Lib.hid (Below.kept HB5.out hk6 HB5.out.size (by rintro b (e | e) <;> omega))
        clear hG6 hR6 hk6 h6 hx5 HG HR HR5 HB5 H5
        go_wp2_with fail
        refine (waits_is w6 a sb n c ins' ph' HG6.out).mono ?_
        rintro e w7 ⟨g7, c7, rfl, hown7, hb7, _⟩
        have hins := HG6.out.ins
        have hso := sorted_inOrder hins.1 hins.2.1
        rw [hso] at hown7
        rw [hso]
        have hv7 : View w7 (some ⟨g7, 0, none⟩) ((inOrder n ins').map (Value.int .i64)) := by
          have := owned_view (x := (inOrder n ins').length) hown7
          simpa using this
        have hk7 := Kept.ofBelow (F := fun _ => False) hb7 (by intro k h1 h2; omega)
        have HG7 := Lib.hid (HG6.out.kept hk7 (by simp) (by simp))
        have HR7 := Lib.hid (HR6.out.kept hk7 (by simp) (by simp))
        have HB7 := Lib.hid (HB6.out.trans (hb7.mono HB6.out.size))
        have HV7 := Lib.hid hv7
        clear hins hso hown7 hv7 hk7 hb7 HG6 HR6 HB6
        generalize hL : inOrder n ins' = L at HV7
        have HL := Lib.hid hL
        go_wp2_with fail
        refine (ref_waits w7 r ib n ins' ph' HR7.out).mono ?_
        rintro e w8 hw8
        rw [hL] at hw8
        obtain ⟨s8, c8, rfl, hv8, hb8⟩ := hw8
        have hk8 := Kept.ofBelow (F := fun _ => False) hb8 (by intro k h1 h2; omega)
        have HG8 := Lib.hid (HG7.out.kept hk8 (by simp) (by simp))
        have hR8 := HR7.out.kept hk8 (by simp) (by simp)
        have HR8 := Lib.hid hR8
        have HB8 := Lib.hid (HB7.out.trans (hb8.mono HB7.out.size))
        have HV8 := Lib.hid hv8
        have HV7' := Lib.hid (HV7.out.later hb8)
        have d0 := hR8.blk.cell 0
        have d1 := hR8.blk.cell 1
        simp at d0 d1
        clear hv8 hk8 hb8 hR8 HG7 HR7 HB7 HV7 hL
        have q1 : (b2 != b2) = false := by simp
        have q2 : (f2 != f2) = false := by simp
        have q3 : ((ph' : Int) != (ph' : Int)) = false := by simp
        go_wp2_with fail
        go_quiet ((go_at_call 10; exact Calls.quiet_of_same ((phase_is _ a sb n c ins' ph' (HG8.out.drewN _)).mono (fun e w' h => ⟨h.1, h.2.symm⟩))))
        go_wp2_with fail
        have hLn : L.length ≤ n := by
          rw [← HL.out]
          exact Nat.le_trans (List.length_filter_le _ _) (by rw [upto_len]; exact Nat.le_refl _)
        go_loopw [16] (fun q wr => ∃ k : Nat, k ≤ L.length ∧ q = .int .i64 k ∧ ∃ m, wr = w8.drewN m) (fun q _ => L.length - (intOf q).toNat)
        case atStart => exact ⟨0, by omega, rfl, _, rfl⟩
        case round =>
          obtain ⟨k, hk, rfl, m, rfl⟩ := hrel
          by_cases hkl : k < L.length
          · obtain ⟨b8, o8, rfl, hc8⟩ := HV8.out.at_int (by omega)
            have e8 := hc8 k hkl
            have e7 := HV7'.out.at_cell hkl
            rw [Nat.zero_add] at e7
            clear hc8
            generalize L.getD k 0 = y at e7 e8
            have q4 : (y != y) = false := by simp
            go_wp2_with fail
            go_quiet (fail)
            go_wp2_with fail
            go_roundw
            case rel => exact ⟨k + 1, by omega, by go_num, _, rfl⟩
            case measure => simp [intOf]; omega
          · go_wp2_with fail
            go_loopw [17] (fun q wr => ∃ t : Nat, t ≤ n + 2 ∧ q = .int .i64 ((t : Int) - 1) ∧ ∃ m, wr = w8.drewN m) (fun q _ => n + 2 - (intOf q + 1).toNat)
            case atStart => exact ⟨0, by omega, rfl, _, rfl⟩
            case round =>
              obtain ⟨t, ht, rfl, m2, rfl⟩ := hrel
              by_cases htn : t ≤ n + 1
              · have hge := Lib.hid (goes_is (w8.drewN m2) a sb n c ins' ph' (HG8.out.drewN m2) ((t : Int) - 1))
                by_cases hin : 1 ≤ t ∧ t ≤ n
                · obtain ⟨j, rfl⟩ : ∃ j, t = j + 1 := ⟨t - 1, by omega⟩
                  rw [show ((j + 1 : Nat) : Int) - 1 = (j : Int) from by omega] at hge ⊢
                  rw [show decide (0 ≤ (j : Int) ∧ (j : Int) < n) = true from by simp; omega] at hge
                  have hj : j < n := by omega
                  have cj := HR8.out.cell hj
                  generalize ins'.contains (j : Int) = fl at hge cj
                  rw [Bool.true_and] at hge
                  have q5 : ((!fl) != (!fl)) = false := by simp
                  go_wp2_with fail
                  refine hge.out.mono ?_
                  rintro e w9 ⟨rfl, m3, rfl⟩
                  go_wp2_with fail
                  go_roundw
                  case rel => exact ⟨j + 2, by omega, by congr 1; omega, _, rfl⟩
                  case measure => simp [intOf]; omega
                · have hout : ¬ (0 ≤ (t : Int) - 1 ∧ (t : Int) - 1 < n) := by omega
                  rw [show decide (0 ≤ (t : Int) - 1 ∧ (t : Int) - 1 < n) = false from by simpa using hout, Bool.false_and] at hge
                  by_cases ht0 : t = 0
                  · subst ht0
                    go_wp2_with fail
                    refine hge.out.mono ?_
                    rintro e w9 ⟨rfl, m3, rfl⟩
                    go_wp2_with fail
                    go_roundw
                    case rel => exact ⟨1, by omega, by congr 1, _, rfl⟩
                    case measure => simp [intOf]
                  · have htn2 : t = n + 1 := by omega
                    subst htn2
                    rw [show ((n + 1 : Nat) : Int) - 1 = (n : Int) from by omega] at hge ⊢
                    go_wp2_with fail
                    refine hge.out.mono ?_
                    rintro e w9 ⟨rfl, m3, rfl⟩
                    go_wp2_with fail
                    go_roundw
                    case rel => exact ⟨n + 2, by omega, by congr 1; omega, _, rfl⟩
                    case measure => simp [intOf]; omega
              · have htn2 : t = n + 2 := by omega
                subst htn2
                go_wp2_with fail
                go_roundw
                case rel => exact ⟨i + 1, by omega, by omega, by go_num, ins', ph', HG8.out.drewN _, HR8.out.kept ((Kept.refl (fun _ => False) w8).drewN _) (by simp) (by simp), by omega, Below.drewN HB8.out _⟩
                case measure => simp [intOf]; omega
      · go_wp2_with fail
        go_ret
        exact ⟨rfl, HB.out⟩
    · go_wp2_with fail
      go_ret
      exact ⟨rfl, HB.out⟩

end Go.Proofs.Ytpbbngdhljiedaa
