/- The walk of ballastlaw10.GangTogether: it answers true, at any number and any script; nothing that was there is turned. -/
import Derived.Test.YtpbbngdhljiedaaAwake10
import Derived.Test.YtpbbngdhljiedaaGangQ
import Derived.Test.YtpbbngdhljiedaaOpen
import Derived.Deep.DeepCutAuto
import Derived.Deep.CutBlock
namespace Go.Proofs.Ytpbbngdhljiedaa
open Go Go.RowKit

/-- How often each has arrived: as often as the phase says, and once more who is in. -/
def Counts (n : Nat) (ins : List Int) (ph : Nat) (ts : List Int) : Prop := ts.length = 11 ∧ ∀ j : Nat, j < n → ts.getD j 0 = ph + (if (j : Int) ∈ ins then 1 else 0)

structure TimesAt (w : World) (tb n : Nat) (ins : List Int) (ph : Nat) (ts : List Int) : Prop where
  blk : Blk w tb (ts.map (Value.int .i64)).toArray 28
  cnt : Counts n ins ph ts

theorem counts_more {n k : Nat} {ins : List Int} {ph : Nat} {ts : List Int} (h : Counts n ins ph ts) (hk : k < n) (hn : n ≤ 10) (hm : (k : Int) ∉ ins) : Counts n (ins ++ [(k : Int)]) ph (ts.set k (ts.getD k 0 + 1)) := by
  refine ⟨by simpa using h.1, fun j hj => ?_⟩
  rw [getD_set (by rw [h.1]; omega)]
  have hj' := h.2 j hj
  have hk' := h.2 k hk
  rw [if_neg hm] at hk'
  by_cases e : k = j
  · subst e
    rw [if_pos rfl, if_pos (by simp), hk']
    omega
  · rw [if_neg e, hj']
    have : ((j : Int) ∈ ins ++ [(k : Int)]) ↔ (j : Int) ∈ ins := by simp; omega
    simp only [this]

theorem counts_last {n k : Nat} {ins : List Int} {ph : Nat} {ts : List Int} (h : Counts n ins ph ts) (hk : k < n) (hn : n ≤ 10) (hm : (k : Int) ∉ ins) (hall : ∀ x : Int, 0 ≤ x → x < n → x ∈ ins ∨ x = k) : Counts n [] (ph + 1) (ts.set k (ts.getD k 0 + 1)) := by
  refine ⟨by simpa using h.1, fun j hj => ?_⟩
  rw [getD_set (by rw [h.1]; omega)]
  have hj' := h.2 j hj
  have hk' := h.2 k hk
  rw [if_neg hm] at hk'
  have hnil : (if (j : Int) ∈ ([] : List Int) then (1 : Int) else 0) = 0 := if_neg (by simp)
  rw [hnil]
  by_cases e : k = j
  · subst e
    rw [if_pos rfl, hk']
    omega
  · rw [if_neg e, hj', if_pos (by rcases hall j (by omega) (by omega) with h | h; exact h; omega)]
    omega

theorem GangIs.free {w : World} {a sb n c : Nat} {ins : List Int} {ph : Nat} (h : GangIs w a sb n c ins ph) : ∃ j : Nat, j < n ∧ (j : Int) ∉ ins := by
  obtain ⟨ns, _, hc, ht, hl⟩ := h
  have hcl := hc.len
  have hm := (hc.mem (ns[ins.length]'(by omega))).1 (List.getElem_mem _)
  refine ⟨(ns[ins.length]'(by omega)).toNat, by omega, ?_⟩
  rw [Int.toNat_of_nonneg hm.1]
  intro hx
  have hx' : ns[ins.length]'(by omega) ∈ ns.take ins.length := ht.symm ▸ hx
  have h1 := (mem_take_idx (List.getElem_mem _)).1 hx'
  rw [hc.nd.idxOf_getElem] at h1
  omega

/-- The least of them is the phase. -/
theorem counts_least {n : Nat} {ins : List Int} {ph : Nat} {ts : List Int} (h : Counts n ins ph ts) (hf : ∃ j : Nat, j < n ∧ (j : Int) ∉ ins) {L : Int} (h1 : ∃ j, j < n ∧ L = ts.getD j 0) (h2 : ∀ j, j < n → L ≤ ts.getD j 0) : L = ph := by
  obtain ⟨j, hj, hm⟩ := hf
  have a := h.2 j hj
  rw [if_neg hm] at a
  have b := h2 j hj
  obtain ⟨i, hi, e⟩ := h1
  have c := h.2 i hi
  split at c <;> omega

theorem TimesAt.cell {w : World} {tb n : Nat} {ins : List Int} {ph : Nat} {ts : List Int} (h : TimesAt w tb n ins ph ts) {k : Nat} (hk : k < 11) : w.cell? ⟨tb, k, none⟩ = some (.int .i64 (ts.getD k 0)) := by
  rw [h.blk.cell k]
  have := h.cnt.1
  simp [List.getD, show k < ts.length by omega]

theorem TimesAt.start (w : World) (n : Nat) : TimesAt (w.alloc (.cells ((List.replicate 11 (0 : Int)).map (Value.int .i64)).toArray 28)) w.heap.size n [] 0 (List.replicate 11 0) :=
  ⟨Blk.new _ _ _, List.length_replicate, fun j _ => by
    rw [zeros_getD, if_neg (by simp)]; rfl⟩

def zeros11 : Array Value := ((List.replicate 11 (0 : Int)).map (Value.int .i64)).toArray
theorem zero_11 (w : World) : (zeroValue 28).run Try.prog w = .ok (.agg zeros11) w := by kernel_rfl

/-- L is one of them, and none of the first j is less. -/
def LeastTo (ts : List Int) (n j : Nat) (L : Int) : Prop := (∃ i, i < n ∧ L = ts.getD i 0) ∧ ∀ i, i < j → L ≤ ts.getD i 0

theorem LeastTo.less {ts : List Int} {n j : Nat} {L y : Int} (h : LeastTo ts n j L) (hj : j < n) (hy : ts.getD j 0 = y) (hl : y < L) : LeastTo ts n (j + 1) y :=
  ⟨⟨j, hj, hy.symm⟩, fun i hi => by
    rcases Nat.lt_or_ge i j with h1 | h1
    · have := h.2 i h1; omega
    · obtain rfl : i = j := by omega
      omega⟩

theorem LeastTo.more {ts : List Int} {n j : Nat} {L y : Int} (h : LeastTo ts n j L) (hy : ts.getD j 0 = y) (hl : L ≤ y) : LeastTo ts n (j + 1) L :=
  ⟨h.1, fun i hi => by
    rcases Nat.lt_or_ge i j with h1 | h1
    · exact h.2 i h1
    · obtain rfl : i = j := by omega
      omega⟩

theorem counts_le {n : Nat} {ins : List Int} {ph : Nat} {ts : List Int} (h : Counts n ins ph ts) {j : Nat} (hj : j < n) : ph ≤ ts.getD j 0 ∧ ts.getD j 0 ≤ ph + 1 := by
  have := h.2 j hj
  split at this <;> omega

theorem TimesAt.store {w : World} {tb n k : Nat} {ins ins' : List Int} {ph ph' : Nat} {ts : List Int} {x : Int} (h : TimesAt w tb n ins ph ts) (hc : Counts n ins' ph' (ts.set k x)) : TimesAt (w.setCell ⟨tb, k, none⟩ (.int .i64 x)) tb n ins' ph' (ts.set k x) :=
  ⟨by have := h.blk.set k (.int .i64 x); rw [List.map_set]; simpa using this, hc⟩

/-- What holds at the head of a round. -/
def TogAt (W wr : World) (a sb n c tb k : Nat) : Prop :=
  ∃ ins ph ts, GangIs wr a sb n c ins ph ∧ TimesAt wr tb n ins ph ts ∧ ph ≤ k ∧ Below W.heap.size W wr

set_option maxHeartbeats 3200000 in
set_option maxRecDepth 100000 in
theorem together_walk (a0 : Int) (sp : Option Addr) (len cap : Nat) (zs : List Int) (w : World) (hz : zs.length = len) (hbig : len ≤ 9223372036854775807) (hv : View w sp (zs.map (Value.int .i64))) :
    Calls Try.prog 3 #[.int .i64 a0, .slice sp len cap] w (TrueBelow w) := by
  have hb := tmod_bd a0 10 (by omega)
  obtain ⟨n, hn⟩ : ∃ n : Nat, n = (a0.tmod 10).natAbs + 1 := ⟨_, rfl⟩
  have hn1 : n ≤ 10 := by omega
  have hn0 : 1 ≤ n := by omega
  have hr1 : -10 ≤ a0.tmod 10 := by omega
  have hr2 : a0.tmod 10 ≤ 10 := by omega
  have HN := Lib.hid hn
  have HV := Lib.hid hv
  have HZ := Lib.hid hz
  clear hn hv hz hb
  have hz11 := zero_11
  go_enter Try.func3, Try.ntmps3
  go_wp2_with fail
  refine (awake_true w).mono ?_
  rintro e w1 ⟨rfl, hb⟩
  have B1 := Lib.hid hb
  clear hb
  go_upto_if 22 with (fail)
  go_cut [6] (fun v wx => v = .int .i64 ((n : Int) - 1) ∧ wx = w1)
  case first =>
    go_wp2_with fail
    all_goals
      go_meet
      refine ⟨?_, rfl⟩
      have h := HN.out
      congr 1
      omega
  case rest =>
    obtain ⟨rfl, rfl⟩ := hcut
    go_wp2_with fail
    refine (new_is n wc (by omega) (by omega)).mono ?_
    rintro e w2 ⟨a, sb, c, rfl, hg, hb, ha, hsb⟩
    have G2 := Lib.hid hg
    have hl1 := B1.out.size
    have B2 := Lib.hid (B1.out.trans (hb.mono hl1))
    have hga := hg.lt
    clear hg hb
    have A0 : TogAt w (w2.alloc (.cells zeros11 28)) a sb n c w2.heap.size 0 := by
      refine ⟨[], 0, _, G2.out.kept ((Kept.refl (fun _ => False) w2).alloc _) (by simp) (by simp), TimesAt.start w2 n, Nat.le_refl _, B2.out.alloc B2.out.size _⟩
    have A1 := Lib.hid A0
    clear A0
    go_upto_block 0 with (fail)
    generalize w2.alloc (.cells zeros11 28) = w4 at A1 ⊢
    have hwa : w.heap.size ≤ a := by omega
    have hwb' : w.heap.size ≤ sb := by omega
    generalize w2.heap.size = tb at A1 hga ⊢
    obtain ⟨hta, htb⟩ := hga
    clear B1 B2 G2 hl1 hz11
    go_wp2_with fail
    go_loopw [10] (fun i wr => ∃ k : Nat, k ≤ len ∧ k ≤ 200 ∧ i = .int .i64 k ∧ TogAt w wr a sb n c tb k) (fun i _ => len - (intOf i).toNat)
    case atStart => exact ⟨0, by omega, by omega, rfl, A1.out⟩
    case round =>
      obtain ⟨k, hk1, hk2, rfl, hA⟩ := hrel
      obtain ⟨ins, ph, ts, hG, hT, hph, hB⟩ := hA
      have HB := Lib.hid hB
      have HG := Lib.hid hG
      have HT := Lib.hid hT
      clear hG hT hB A1
      by_cases t1 : k < len
      · by_cases t2 : k < 200
        · obtain ⟨b, o, rfl, hcells⟩ := (HV.out.later HB.out).at_int (by rw [HZ.out]; omega)
          have hx := hcells k (by rw [HZ.out]; exact t1)
          clear hcells
          generalize zs.getD k 0 = x at hx
          go_wp2_with fail
          refine (phase_is wr a sb n c ins ph HG.out).mono ?_
          rintro e w' ⟨rfl, rfl⟩
          go_wp2_with fail
          refine (arrive_is wr a sb n c ins ph HG.out (by omega) x).mono ?_
          rintro e w5 h5
          rcases h5 with ⟨ho⟩ | ⟨ho, hm⟩ | ⟨_, ho, hm, hl, hg, hk5⟩ | ⟨_, ho, hm, hl, hall, hg, hk5⟩
          · go_wp2_with fail
            go_roundw
            case rel => exact ⟨k + 1, by omega, by omega, by go_num, ins, ph, ts, HG.out, HT.out, by omega, HB.out⟩
            case measure => simp [intOf]; omega
          · go_wp2_with fail
            go_roundw
            case rel => exact ⟨k + 1, by omega, by omega, by go_num, ins, ph, ts, HG.out, HT.out, by omega, HB.out⟩
            case measure => simp [intOf]; omega
          · obtain ⟨kn, rfl⟩ := Int.eq_ofNat_of_zero_le ho.1
            have hkn : kn < n := by omega
            have hval : ts.getD kn 0 = ph := by have := HT.out.cnt.2 kn hkn; rw [if_neg hm] at this; omega
            have hT5 : TimesAt w5 tb n ins ph ts := ⟨hk5.blk HT.out.blk (by rintro (e | e) <;> omega), HT.out.cnt⟩
            have hcell := hT5.cell (show kn < 11 by omega)
            have hfree := hT5.blk.free kn
            rw [hval] at hcell
            have hB5 := Below.kept HB.out hk5 HB.out.size (by rintro b (e | e) <;> omega)
            have HT6 := Lib.hid (hT5.store (x := (ph : Int) + 1) (by rw [← hval]; exact counts_more HT.out.cnt hkn hn1 hm))
            have HG6 := Lib.hid (hg.kept ((Kept.refl (fun b => b = tb) w5).set (.inl rfl) (.int .i64 ((ph : Int) + 1)) (p := ⟨tb, kn, none⟩)) (by omega) (by omega))
            have HB6 := Lib.hid (hB5.setCell (p := ⟨tb, kn, none⟩) (by simp; omega) (.int .i64 ((ph : Int) + 1)))
            have hkn11 : kn < 11 := by omega
            have hkn' : ¬ (n : Int) ≤ kn := by omega
            clear hg hk5 hT5 hB5 HT HG HB hval
            go_upto_region 20 with (fail)
            clear hcell hfree
            generalize w5.setCell ⟨tb, kn, none⟩ (.int .i64 ((ph : Int) + 1)) = w6 at HT6 HG6 HB6 ⊢
            generalize ts.set kn ((ph : Int) + 1) = ts' at HT6
            have h0 := HT6.out.cell (show 0 < 11 by omega)
            have hL0 : LeastTo ts' n 0 (ts'.getD 0 0) := ⟨⟨0, by omega, rfl⟩, fun i hi => absurd hi (Nat.not_lt_zero _)⟩
            have HL0 := Lib.hid hL0
            clear hL0
            generalize ts'.getD 0 0 = y0 at h0 HL0
            go_wp2_with fail
            go_loop [15, 16] (fun l q => ∃ (j : Nat) (L : Int), j ≤ n ∧ q = .int .i64 j ∧ l = .int .i64 L ∧ LeastTo ts' n j L) (fun _ q => n - (intOf q).toNat)
            case atStart => exact ⟨0, y0, by omega, rfl, rfl, HL0.out⟩
            case round =>
              obtain ⟨j, L, hj, rfl, rfl, hL⟩ := hrel
              have HL := Lib.hid hL
              clear hL h0 HL0
              by_cases hjn : j < n
              · have hcj := HT6.out.cell (show j < 11 by omega)
                have hcb := counts_le HT6.out.cnt hjn
                generalize hy : ts'.getD j 0 = y at hcj hcb
                have HY := Lib.hid hy
                clear hy
                have hj11 : j < 11 := by omega
                by_cases hyl : y < L
                · go_wp2_with fail
                  go_round
                  case rel => exact ⟨j + 1, y, by omega, by go_num, rfl, HL.out.less hjn HY.out hyl⟩
                  case measure => simp [intOf]; omega
                · go_wp2_with fail
                  go_round
                  case rel => exact ⟨j + 1, L, by omega, by go_num, rfl, HL.out.more HY.out (by omega)⟩
                  case measure => simp [intOf]; omega
              · obtain rfl : j = n := by omega
                have hLP := counts_least HT6.out.cnt HG6.out.free HL.out.1 HL.out.2
                subst hLP
                clear HL
                go_wp2_with fail
                go_loop [17] (fun q => ∃ i : Nat, i ≤ j ∧ q = .int .i64 i) (fun q => j - (intOf q).toNat)
                case atStart => exact ⟨0, by omega, rfl⟩
                case round =>
                  obtain ⟨i, hi, rfl⟩ := hrel
                  by_cases hin : i < j
                  · have hcj := HT6.out.cell (show i < 11 by omega)
                    have hcb := counts_le HT6.out.cnt hin
                    generalize ts'.getD i 0 = y at hcj hcb
                    have hj11 : i < 11 := by omega
                    go_wp2_with fail
                    go_round
                    case rel => exact ⟨i + 1, by omega, by go_num⟩
                    case measure => simp [intOf]; omega
                  · have hdc : decide ((ph : Int) < (ph : Int) + 1) = true := by simp; omega
                    go_wp2_with fail
                    refine (phase_is w6 a sb j c _ _ HG6.out).mono ?_
                    rintro e w' ⟨rfl, rfl⟩
                    go_wp2_with fail
                    refine (phase_is w6 a sb j c _ _ HG6.out).mono ?_
                    rintro e w' ⟨rfl, rfl⟩
                    go_wp2_with fail
                    go_roundw
                    case rel => exact ⟨k + 1, by omega, by omega, by go_num, _, _, ts', HG6.out, HT6.out, by omega, HB6.out⟩
                    case measure => simp [intOf]; omega
          · obtain ⟨kn, rfl⟩ := Int.eq_ofNat_of_zero_le ho.1
            have hkn : kn < n := by omega
            have hval : ts.getD kn 0 = ph := by have := HT.out.cnt.2 kn hkn; rw [if_neg hm] at this; omega
            have hT5 : TimesAt w5 tb n ins ph ts := ⟨hk5.blk HT.out.blk (by rintro (e | e) <;> omega), HT.out.cnt⟩
            have hcell := hT5.cell (show kn < 11 by omega)
            have hfree := hT5.blk.free kn
            rw [hval] at hcell
            have hB5 := Below.kept HB.out hk5 HB.out.size (by rintro b (e | e) <;> omega)
            have HT6 := Lib.hid (hT5.store (x := (ph : Int) + 1) (by rw [← hval]; exact counts_last HT.out.cnt hkn hn1 hm hall))
            have HG6 := Lib.hid (hg.kept ((Kept.refl (fun b => b = tb) w5).set (.inl rfl) (.int .i64 ((ph : Int) + 1)) (p := ⟨tb, kn, none⟩)) (by omega) (by omega))
            have HB6 := Lib.hid (hB5.setCell (p := ⟨tb, kn, none⟩) (by simp; omega) (.int .i64 ((ph : Int) + 1)))
            have hkn11 : kn < 11 := by omega
            have hkn' : ¬ (n : Int) ≤ kn := by omega
            clear hg hk5 hT5 hB5 HT HG HB hval hall
            go_upto_region 20 with (fail)
            clear hcell hfree
            generalize w5.setCell ⟨tb, kn, none⟩ (.int .i64 ((ph : Int) + 1)) = w6 at HT6 HG6 HB6 ⊢
            generalize ts.set kn ((ph : Int) + 1) = ts' at HT6
            have h0 := HT6.out.cell (show 0 < 11 by omega)
            have hL0 : LeastTo ts' n 0 (ts'.getD 0 0) := ⟨⟨0, by omega, rfl⟩, fun i hi => absurd hi (Nat.not_lt_zero _)⟩
            have HL0 := Lib.hid hL0
            clear hL0
            generalize ts'.getD 0 0 = y0 at h0 HL0
            go_wp2_with fail
            go_loop [15, 16] (fun l q => ∃ (j : Nat) (L : Int), j ≤ n ∧ q = .int .i64 j ∧ l = .int .i64 L ∧ LeastTo ts' n j L) (fun _ q => n - (intOf q).toNat)
            case atStart => exact ⟨0, y0, by omega, rfl, rfl, HL0.out⟩
            case round =>
              obtain ⟨j, L, hj, rfl, rfl, hL⟩ := hrel
              have HL := Lib.hid hL
              clear hL h0 HL0
              by_cases hjn : j < n
              · have hcj := HT6.out.cell (show j < 11 by omega)
                have hcb := counts_le HT6.out.cnt hjn
                generalize hy : ts'.getD j 0 = y at hcj hcb
                have HY := Lib.hid hy
                clear hy
                have hj11 : j < 11 := by omega
                by_cases hyl : y < L
                · go_wp2_with fail
                  go_round
                  case rel => exact ⟨j + 1, y, by omega, by go_num, rfl, HL.out.less hjn HY.out hyl⟩
                  case measure => simp [intOf]; omega
                · go_wp2_with fail
                  go_round
                  case rel => exact ⟨j + 1, L, by omega, by go_num, rfl, HL.out.more HY.out (by omega)⟩
                  case measure => simp [intOf]; omega
              · obtain rfl : j = n := by omega
                have hLP := counts_least HT6.out.cnt HG6.out.free HL.out.1 HL.out.2
                subst hLP
                clear HL
                go_wp2_with fail
                go_loop [17] (fun q => ∃ i : Nat, i ≤ j ∧ q = .int .i64 i) (fun q => j - (intOf q).toNat)
                case atStart => exact ⟨0, by omega, rfl⟩
                case round =>
                  obtain ⟨i, hi, rfl⟩ := hrel
                  by_cases hin : i < j
                  · have hcj := HT6.out.cell (show i < 11 by omega)
                    have hcb := counts_le HT6.out.cnt hin
                    generalize ts'.getD i 0 = y at hcj hcb
                    have hj11 : i < 11 := by omega
                    go_wp2_with fail
                    go_round
                    case rel => exact ⟨i + 1, by omega, by go_num⟩
                    case measure => simp [intOf]; omega
                  · have hdc : decide ((ph : Int) < (ph : Int) + 1) = true := by simp; omega
                    go_wp2_with fail
                    refine (phase_is w6 a sb j c _ _ HG6.out).mono ?_
                    rintro e w' ⟨rfl, rfl⟩
                    go_wp2_with fail
                    refine (phase_is w6 a sb j c _ _ HG6.out).mono ?_
                    rintro e w' ⟨rfl, rfl⟩
                    go_wp2_with fail
                    go_roundw
                    case rel => exact ⟨k + 1, by omega, by omega, by go_num, _, _, ts', HG6.out, HT6.out, by omega, HB6.out⟩
                    case measure => simp [intOf]; omega
        · go_wp2_with fail
          go_ret
          exact ⟨rfl, HB.out⟩
      · go_wp2_with fail
        go_ret
        exact ⟨rfl, HB.out⟩

end Go.Proofs.Ytpbbngdhljiedaa
