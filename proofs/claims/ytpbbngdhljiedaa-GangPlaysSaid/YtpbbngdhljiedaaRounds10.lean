/- The walk of ballastlaw10.GangRounds: it answers true, at any numbers and any order; nothing that was there is turned. -/
import Derived.Test.YtpbbngdhljiedaaAwake10
import Derived.Test.YtpbbngdhljiedaaWaits10
import Derived.Test.YtpbbngdhljiedaaOpen
import Derived.Deep.DeepCutAuto
import Derived.Deep.CutBlock
namespace Go.Proofs.Ytpbbngdhljiedaa
open Go Go.RowKit

/-- Those that are left when ins have arrived. -/
def Left (n : Nat) (ins ls : List Int) : Prop := ls.Nodup ∧ ∀ x, x ∈ ls ↔ (0 ≤ x ∧ x < n) ∧ x ∉ ins

theorem left_start (n : Nat) : Left n [] (upto n) := ⟨(crew_upto n).nd, fun x => by rw [(crew_upto n).mem x]; simp⟩

theorem left_step {n : Nat} {ins ls : List Int} (h : Left n ins ls) {x : Nat} (hx : x < ls.length) : Left n (ins ++ [ls.getD x 0]) (ls.take x ++ ls.drop (x + 1)) := by
  have e : ls.getD x 0 = ls[x] := by simp [List.getD, hx]
  have hp : (ls[x] :: (ls.take x ++ ls.drop (x + 1))).Perm ls := by
    have := List.perm_middle (a := ls[x]) (l₁ := ls.take x) (l₂ := ls.drop (x + 1))
    rw [List.getElem_cons_drop, List.take_append_drop] at this
    exact this.symm
  have hnd := hp.nodup_iff.2 h.1
  rw [List.nodup_cons] at hnd
  refine ⟨hnd.2, fun y => ?_⟩
  have hm := hp.mem_iff (a := y)
  rw [h.2 y, List.mem_cons] at hm
  rw [e, List.mem_append (s := ins), List.mem_singleton]
  constructor
  · intro hy
    have h1 := hm.1 (.inr hy)
    refine ⟨h1.1, fun h2 => ?_⟩
    rcases h2 with h2 | h2
    · exact h1.2 h2
    · subst h2; exact hnd.1 hy
  · rintro ⟨h1, h2⟩
    have := hm.2 ⟨h1, fun h3 => h2 (.inl h3)⟩
    rcases this with h3 | h3
    · exact absurd (.inr h3) h2
    · exact h3

theorem left_in {n : Nat} {ins ls : List Int} (h : Left n ins ls) {x : Nat} (hx : x < ls.length) : (0 ≤ ls.getD x 0 ∧ ls.getD x 0 < n) ∧ ls.getD x 0 ∉ ins := by
  have e : ls.getD x 0 = ls[x] := by simp [List.getD, hx]
  rw [e]
  exact (h.2 _).1 (List.getElem_mem hx)

/-- What holds at the head of an arrival: i have arrived in phase p. -/
def RoundAt (W wr : World) (a sb n c bb p i : Nat) (v : Value) : Prop :=
  ∃ ls, wr.ownsRow bb 3 1 v (n - i) (ls.map (Value.int .i64)) ∧ Below W.heap.size W wr ∧ bb ≤ wr.heap.size ∧
    ((i < n ∧ ∃ ins, ins.length = i ∧ GangIs wr a sb n c ins p ∧ Left n ins ls) ∨ (i = n ∧ GangIs wr a sb n c [] (p + 1)))

theorem ls_len {wr : World} {bb : Nat} {v : Value} {m : Nat} {ls : List Int} (h : wr.ownsRow bb 3 1 v m (ls.map (Value.int .i64))) : ls.length = m := by
  have := h.1
  simpa using this

theorem owned_view {w : World} {base e g n cap x : Nat} {ls : List Int} (h : w.ownsRow base e 1 (.slice (some ⟨g, 0, none⟩) n cap) n (ls.map (Value.int .i64))) : View w (some ⟨g, 0, none⟩) ((ls.take x).map (Value.int .i64)) := fun _ => ⟨g, 0, rfl, fun j u hj => by
  have hl := h.1
  simp at hl
  have hlt := (List.getElem?_eq_some_iff.1 hj).1
  simp at hlt
  rw [Nat.zero_add, h.cellAt j (by omega), ← hj]
  simp [show j < x by omega]⟩

theorem owned_view_from {w : World} {base e g n cap x : Nat} {ls : List Int} (h : w.ownsRow base e 1 (.slice (some ⟨g, 0, none⟩) n cap) n (ls.map (Value.int .i64))) (hn : n ≤ cap) : View w (cutAddr (some ⟨g, 0, none⟩) x cap 1) ((ls.drop x).map (Value.int .i64)) := fun hp => by
  have hl := h.1
  simp at hl hp
  refine ⟨g, x, by rw [cutAddr_some (by omega)]; simp, fun j u hj => ?_⟩
  have hlt := (List.getElem?_eq_some_iff.1 hj).1
  simp at hlt
  rw [h.cellAt (x + j) (by omega), ← hj]
  simp

theorem sorted_nil : sorted [] = [] := by simp [sorted]

set_option maxHeartbeats 6400000 in
set_option maxRecDepth 100000 in
theorem rounds_walk (a0 a1 : Int) (sp : Option Addr) (len cap : Nat) (zs : List Int) (w : World) (hz : zs.length = len) (hbig : len ≤ 9223372036854775807) (hv : View w sp (zs.map (Value.int .i64)))
    (hwf : ∀ z ∈ zs, -9223372036854775808 ≤ z ∧ z ≤ 9223372036854775807) :
    Calls Try.prog 7 #[.int .i64 a0, .int .i64 a1, .slice sp len cap] w (TrueBelow w) := by
  obtain ⟨i0, hi, hz0, hz1, hz2⟩ := info_parts Try.infoInt'
  have hb := tmod_bd a0 20 (by omega)
  obtain ⟨n, hn⟩ : ∃ n : Nat, n = (a0.tmod 20).natAbs + 1 := ⟨_, rfl⟩
  have hn1 : n ≤ 20 := by omega
  have hn0 : 1 ≤ n := by omega
  have hr1 : -20 ≤ a0.tmod 20 := by omega
  have hr2 : a0.tmod 20 ≤ 20 := by omega
  have hb2 := tmod_bd a1 10 (by omega)
  obtain ⟨k, hk⟩ : ∃ k : Nat, k = (a1.tmod 10).natAbs := ⟨_, rfl⟩
  have hk1 : k ≤ 9 := by omega
  have hq1 : -10 ≤ a1.tmod 10 := by omega
  have hq2 : a1.tmod 10 ≤ 10 := by omega
  have HN := Lib.hid hn
  have HK := Lib.hid hk
  have HV := Lib.hid hv
  have HZ := Lib.hid hz
  have HWF := Lib.hid hwf
  clear hn hk hv hz hb hb2 hwf
  go_enter Try.func7, Try.ntmps7
  go_wp2_with fail
  refine (awake_true w).mono ?_
  rintro e w1 ⟨rfl, hb⟩
  have B1 := Lib.hid hb
  clear hb
  go_upto_if 24 with (fail)
  go_cut [8] (fun v wx => v = .int .i64 ((n : Int) - 1) ∧ wx = w1)
  case first =>
    go_wp2_with fail
    all_goals
      go_meet
      refine ⟨?_, rfl⟩
      have h := HN.out
      congr 1
      omega
  case rest =>
    obtain ⟨rfl, rfl⟩ := hcut
    go_upto_if 32 with (fail)
    go_cut [9] (fun v wx => v = .int .i64 (k : Int) ∧ wx = wc)
    case first =>
      go_wp2_with fail
      all_goals
        go_meet
        refine ⟨?_, rfl⟩
        have h := HK.out
        congr 1
        omega
    case rest =>
      obtain ⟨rfl, rfl⟩ := hcut
      go_wp2_with fail
      refine (new_is n _ (by omega) (by omega)).mono ?_
      rintro e w2 ⟨a, sb, c, rfl, hg, hb, ha, hsb⟩
      have G2 := Lib.hid hg
      have hl1 := B1.out.size
      have B2 := Lib.hid (B1.out.trans (hb.mono hl1))
      obtain ⟨hga, hgs⟩ := hg.lt
      clear hg hb
      obtain ⟨bb, hbb⟩ : ∃ bb, bb = w2.heap.size := ⟨_, rfl⟩
      rw [← hbb] at hga hgs
      have hbb' : bb ≤ w2.heap.size := by omega
      have hwa : w.heap.size ≤ a := by omega
      have hws : w.heap.size ≤ sb := by omega
      have hwbb : w.heap.size ≤ bb := by omega
      clear B1 hl1 ha hsb hbb
      go_wp2_with fail
      go_loopw [12] (fun q wr => ∃ p : Nat, p ≤ k ∧ q = .int .i64 p ∧ GangIs wr a sb n c [] p ∧ Below w.heap.size w wr ∧ bb ≤ wr.heap.size) (fun q _ => k - (intOf q).toNat)
      case atStart => exact ⟨0, by omega, rfl, G2.out, B2.out, hbb'⟩
      case round =>
        obtain ⟨p, hp, rfl, hG, hB, hbw⟩ := hrel
        have HG := Lib.hid hG
        have HB := Lib.hid hB
        clear hG hB G2 B2 hbb'
        by_cases hpk : p < k
        · go_wp2_with fail
          -- those that are left
          go_loopw [13, 14] (fun v q wr => ∃ i : Nat, i ≤ n ∧ q = .int .i64 i ∧ wr.ownsRow bb 3 1 v i ((upto i).map (Value.int .i64)) ∧ GangIs wr a sb n c [] p ∧ Below w.heap.size w wr ∧ bb ≤ wr.heap.size) (fun _ q _ => n - (intOf q).toNat)
          case atStart => exact ⟨0, by omega, rfl, World.ownsRow_nil _ _ _ _, HG.out, HB.out, hbw⟩
          case round =>
            obtain ⟨i, hin, rfl, hown, hG, hB, hbw2⟩ := hrel
            have HG2 := Lib.hid hG
            have HB2 := Lib.hid hB
            clear hG hB HG HB
            by_cases hi' : i < n
            · go_wp2_with (at_builtin; refine wpList_append_own_at _ rfl _ _ 22 rfl bb 3 i0 (.int .i64 0) 1 8 Try.underlying22 hi hz0 hz1 hz2 rfl (by decide) _ _ _ rfl (hown.alloc _) ⟨wr.heap.size, 0, none⟩ 1 1 [.int .i64 i] rfl rfl (cell_one_new _ _ _) (ints_oneCell .i64 [(i : Int)]) (by unfold maxLen; omega) (by omega) (by simp; omega) ?_)
              intro v' w3 hown' hgrow _ _
              rw [upto_one] at hown'
              have hk3 : Kept (fun b => bb ≤ b) wr w3 := ((Kept.refl _ wr).alloc _).call (grown_kept (F := fun b => bb ≤ b) hgrow (by intro b hb _; exact (hown.lt b hb).1)) (by intro b hb; exact .inl hb)
              have HK3 := Lib.hid hk3
              clear hk3 hgrow hown
              go_wp2_with fail
              go_roundw
              case rel => exact ⟨i + 1, by omega, by go_num, hown', HG2.out.kept HK3.out (by omega) (by omega), Below.kept HB2.out HK3.out HB2.out.size (by intro b hb; omega), Nat.le_trans hbw2 HK3.out.size⟩
              case measure => simp [intOf]; omega
            · obtain rfl : n = i := by omega
              have HR0 := Lib.hid (show RoundAt w wr a sb n c bb p 0 _ from ⟨upto n, hown, HB2.out, hbw2, .inl ⟨by omega, [], rfl, HG2.out, left_start n⟩⟩)
              clear hown HG2 HB2
              go_wp2_with fail
              go_loopw [13, 15] (fun v q wr => ∃ i : Nat, i ≤ n ∧ q = .int .i64 i ∧ RoundAt w wr a sb n c bb p i v) (fun _ q _ => n - (intOf q).toNat)
              case atStart => exact ⟨0, by omega, rfl, HR0.out⟩
              case round =>
                obtain ⟨i, hi1, rfl, hR⟩ := hrel
                clear HR0
                by_cases hin2 : i < n
                · obtain ⟨ls, hown, hB, hbw3, hcase⟩ := hR
                  rcases hcase with ⟨_, ins, hil, hG, hLft⟩ | ⟨h, _⟩
                  · have hlen := ls_len hown
                    obtain ⟨g, cp, rfl, hg, hcp1, hcp2⟩ := own_shape hown (by omega)
                    obtain ⟨m, hm⟩ : ∃ m, n - i = m := ⟨_, rfl⟩
                    rw [hm] at hown hlen hcp1
                    have HOWN := Lib.hid hown
                    have HB3 := Lib.hid hB
                    have HG3 := Lib.hid hG
                    have HL := Lib.hid hLft
                    have HIL := Lib.hid hil
                    have HLEN := Lib.hid hlen
                    rw [hm]
                    have HM := Lib.hid hm
                    have hm0 : 0 < m := by omega
                    have hmi : m ≤ n := by omega
                    clear hown hB hG hLft hil hlen hm
                    go_upto_if 68 with (fail)
                    go_cut [16] (fun v wx => (∃ z : Int, v = .int .i64 z ∧ -9223372036854775808 ≤ z ∧ z ≤ 9223372036854775807) ∧ wx = wr)
                    case first =>
                      by_cases hil2 : i < len
                      · obtain ⟨b, o, rfl, hcells⟩ := (HV.out.later HB3.out).at_int (by rw [HZ.out]; omega)
                        have hx := hcells i (by rw [HZ.out]; exact hil2)
                        have hzz := HWF.out (zs.getD i 0) (by
                          have := HZ.out
                          have e : zs.getD i 0 = zs[i]'(by omega) := by simp [List.getD, show i < zs.length by omega]
                          rw [e]; exact List.getElem_mem _)
                        clear hcells
                        generalize zs.getD i 0 = z at hx hzz
                        have HZZ := Lib.hid hzz
                        clear hzz
                        go_wp2_with fail
                        go_meet
                        exact ⟨⟨z, rfl, HZZ.out⟩, rfl⟩
                      · go_wp2_with fail
                        go_meet
                        exact ⟨⟨0, rfl, by omega, by omega⟩, rfl⟩
                    case rest =>
                      obtain ⟨⟨z, rfl, hz1', hz2'⟩, rfl⟩ := hcut
                      go_upto_if 74 with (fail)
                      go_cut [16] (fun v wx => (∃ y : Nat, v = .int .i64 y ∧ y ≤ 9223372036854775807) ∧ wx = wc)
                      case first =>
                        by_cases hzn : z < 0
                        · go_wp2_with fail
                          go_meet
                          exact ⟨⟨(-(z + 1)).toNat, by congr 1; omega, by omega⟩, rfl⟩
                        · go_wp2_with fail
                          go_meet
                          exact ⟨⟨z.toNat, by congr 1; omega, by omega⟩, rfl⟩
                      case rest =>
                        obtain ⟨⟨y, rfl, hy⟩, rfl⟩ := hcut
                        obtain ⟨x, hx⟩ : ∃ x : Nat, y % m = x := ⟨_, rfl⟩
                        have hxm : x < m := by rw [← hx]; exact Nat.mod_lt _ hm0
                        have hmod1 : (y : Int) % (m : Int) = (x : Int) := by omega
                        have hmod2 : (y : Int).tmod (m : Int) = (x : Int) := by rw [Int.tmod_eq_emod_of_nonneg (by omega)]; exact hmod1
                        have hm00 : ¬ (m : Int) = 0 := by omega
                        clear hx
                        have hcx := HOWN.out.cellAt x (by omega)
                        have hxl : ((ls.map (Value.int .i64))[x]? : Option Value) = some (.int .i64 (ls.getD x 0)) := by
                          have := HLEN.out
                          simp [List.getD, show x < ls.length by omega]
                        rw [hxl] at hcx
                        have hst := Lib.hid (left_step HL.out (x := x) (by rw [HLEN.out]; exact hxm))
                        have hinn := left_in HL.out (x := x) (by rw [HLEN.out]; exact hxm)
                        clear hxl
                        generalize ls.getD x 0 = q at hcx hst hinn
                        have HINN := Lib.hid hinn
                        clear hinn
                        go_upto_region 29 with (fail)
                        clear hmod1 hmod2
                        go_wp2_with fail
                        refine (arrive_is _ a sb n c ins p HG3.out (by omega) q).mono ?_
                        rintro e w5 h5
                        have hfin : ∃ bl : Bool, e = .returned (.tuple #[.bool bl, .int .i64 0]) ∧ bl = decide ((i : Int) = n - 1) ∧ Kept (fun b => b = a ∨ b = sb) wc w5 ∧
                            ((i + 1 < n ∧ ∃ ins', ins'.length = i + 1 ∧ GangIs w5 a sb n c ins' p ∧ Left n ins' (ls.take x ++ ls.drop (x + 1))) ∨ (i + 1 = n ∧ GangIs w5 a sb n c [] (p + 1))) := by
                          have hil := HIL.out
                          rcases h5 with ⟨ho⟩ | ⟨ho, hmm⟩ | ⟨_, ho, hmm, hl, hg', hk5⟩ | ⟨_, ho, hmm, hl, hall, hg', hk5⟩
                          · exact absurd HINN.out.1 ho
                          · exact absurd hmm HINN.out.2
                          · exact ⟨false, rfl, by simp; omega, hk5, .inl ⟨by omega, ins ++ [q], by simp [hil], hg', hst.out⟩⟩
                          · exact ⟨true, rfl, by simp; omega, hk5, .inr ⟨by omega, hg'⟩⟩
                        obtain ⟨bl, rfl, hbl, hk5, hG5⟩ := hfin
                        have HOWN5 := Lib.hid (hk5.owns HOWN.out (by intro b hb; cases hb; rintro (e | e) <;> simp at e <;> omega))
                        have HB5 := Lib.hid (Below.kept HB3.out hk5 HB3.out.size (by rintro b (e | e) <;> omega))
                        have hbw5 := Nat.le_trans hbw3 hk5.size
                        have HG5 := Lib.hid hG5
                        have hbeq : ((i : Int) == (n : Int) - 1) = bl := by rw [hbl, Bool.eq_iff_iff]; simp
                        clear h5 hk5 hG5 hcx HG3 HB3 HOWN hst HINN hbl
                        have x1 : (0 : Int) ≤ (x : Int) := by omega
                        have x2 : x ≤ cp := by omega
                        have x3 : x + 1 ≤ m := by omega
                        have x4 : (0 : Int) ≤ (x : Int) + 1 := by omega
                        have x5 : ((x : Int) + 1).toNat = x + 1 := by omega
                        have x6 : (x : Int) + 1 ≤ m := by omega
                        go_wp2_with (at_builtin; refine wpList_append_view _ rfl (.tmp 101) (.tmp 104) 22 rfl bb 3 i0 (.int .i64 0) 8 Try.underlying22 hi hz0 hz1 hz2 rfl _ _ _ rfl (World.ownsRow_nil _ _ _ _) (some ⟨g, 0, none⟩) x cp ((ls.take x).map (Value.int .i64)) rfl (by have := HLEN.out; simp; omega) (owned_view HOWN5.out) (by intro h; cases h) (ints_oneCell _ _) (by unfold maxLen; omega) (by omega) hbw5 ?_)
                        intro v1 w6 hown1 hg1 _ _
                        have hk6 : Kept (fun _ => False) w5 w6 := grown_kept hg1 (by intro b hb; cases hb)
                        have HOWN6 := Lib.hid (hk6.owns HOWN5.out (by intro b hb h; exact h))
                        have HOWN1 := Lib.hid hown1
                        have HK6 := Lib.hid hk6
                        have hbw6 := Nat.le_trans hbw5 hk6.size
                        clear hown1 hg1 hk6
                        go_wp2_with (at_builtin; refine wpList_append_view _ rfl (.tmp 106) (.tmp 110) 22 rfl bb 3 i0 (.int .i64 0) 8 Try.underlying22 hi hz0 hz1 hz2 rfl _ _ _ rfl HOWN1.out (cutAddr (some ⟨g, 0, none⟩) (x + 1) cp 1) (m - (x + 1)) (cp - (x + 1)) ((ls.drop (x + 1)).map (Value.int .i64)) rfl (by have := HLEN.out; simp; omega) (owned_view_from HOWN6.out (by omega)) ?hnil (ints_oneCell _ _) (by unfold maxLen; omega) (by omega) hbw6 ?_)
                        case hnil =>
                          intro h
                          unfold cutAddr at h
                          split at h <;> simp at h
                        intro v2 w7 hown2 hg2 _ _
                        have hk7 : Kept (fun b => bb ≤ b) w6 w7 := grown_kept hg2 (by intro b hb _; exact (HOWN1.out.lt b hb).1)
                        have hR7 : RoundAt w w7 a sb n c bb p (i + 1) v2 := by
                          refine ⟨ls.take x ++ ls.drop (x + 1), ?_, Below.kept (Below.kept HB5.out HK6.out HB5.out.size (by intro b hb; exact hb.elim)) hk7 (Nat.le_trans HB5.out.size HK6.out.size) (by intro b hb; omega), Nat.le_trans hbw6 hk7.size, ?_⟩
                          · have hm := HM.out
                            rw [show n - (i + 1) = x + (m - (x + 1)) from by omega, List.map_append, List.map_take, List.map_drop]
                            exact hown2
                          · rcases HG5.out with ⟨h1, ins', h2, h3, h4⟩ | ⟨h1, h3⟩
                            · exact .inl ⟨h1, ins', h2, (h3.kept HK6.out (by simp) (by simp)).kept hk7 (by omega) (by omega), h4⟩
                            · exact .inr ⟨h1, (h3.kept HK6.out (by simp) (by simp)).kept hk7 (by omega) (by omega)⟩
                        have HR7 := Lib.hid hR7
                        clear hown2 hg2 hk7 hR7
                        go_wp2_with fail
                        go_roundw
                        case rel => exact ⟨i + 1, by omega, by go_num, HR7.out⟩
                        case measure => simp [intOf]; omega
                  · omega
                · obtain ⟨ls, hown, hB, hbw3, hcase⟩ := hR
                  rcases hcase with ⟨h, _⟩ | ⟨_, hG⟩
                  · omega
                  · have HG3 := Lib.hid hG
                    have HB3 := Lib.hid hB
                    clear hown hG hB
                    go_wp2_with fail
                    refine (phase_is _ a sb n c [] (p + 1) HG3.out).mono ?_
                    rintro e w' ⟨rfl, rfl⟩
                    go_wp2_with fail
                    refine (waits_is _ a sb n c [] (p + 1) HG3.out).mono ?_
                    rintro e w5 hn5
                    rw [sorted_nil] at hn5
                    obtain ⟨g, cc, rfl, _, hb5, _⟩ := hn5
                    have HG5 := Lib.hid (HG3.out.kept (Kept.ofBelow (F := fun b => False) (hb5.mono (Nat.le_refl _)) (by intro k h1 h2; omega)) (by simp) (by simp))
                    have HB5 := Lib.hid (HB3.out.trans (hb5.mono HB3.out.size))
                    have hbw5 := Nat.le_trans hbw3 hb5.size
                    clear hb5
                    go_wp2_with fail
                    go_roundw
                    case rel => exact ⟨p + 1, by omega, by go_num, HG5.out, HB5.out, hbw5⟩
                    case measure => simp [intOf]; omega
        · obtain rfl : k = p := by omega
          go_wp2_with fail
          refine (phase_is _ a sb n c [] k HG.out).mono ?_
          rintro e w' ⟨rfl, rfl⟩
          go_wp2_with fail
          go_ret
          exact ⟨by simp, HB.out⟩

end Go.Proofs.Ytpbbngdhljiedaa
