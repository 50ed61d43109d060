/- The walks of ballastref10.Gang's Arrive and Waits. Condition: RefIs. -/
import Derived.Test.YtpbbngdhljiedaaWaits10
import Derived.Test.YtpbbngdhljiedaaOpen
import Derived.Deep.DeepCutAuto
import Derived.Deep.CutBlock
namespace Go.Proofs.Ytpbbngdhljiedaa
open Go Go.RowKit

/-- Of each worker whether it is in. -/
def flags (n : Nat) (ins : List Int) : List Bool := (List.range n).map fun (j : Nat) => ins.contains (j : Int)

theorem flags_len (n : Nat) (ins : List Int) : (flags n ins).length = n := by simp [flags]
theorem flags_at {n j : Nat} (ins : List Int) (h : j < n) : ((flags n ins).map Value.bool)[j]? = some (.bool (ins.contains (j : Int))) := by simp [flags, h]

/-- The document's gang at r, its flags in block ib. -/
structure RefIs (w : World) (r ib n : Nat) (ins : List Int) (ph : Nat) : Prop where
  blk : Blk w r #[.slice (some ⟨ib, 0, none⟩) n n, .int .i64 ph] 44
  row : Blk w ib ((flags n ins).map Value.bool).toArray 4
  ne : ib ≠ r
  small : 1 ≤ n ∧ n ≤ 64

theorem RefIs.cell {w : World} {r ib n : Nat} {ins : List Int} {ph : Nat} (h : RefIs w r ib n ins ph) {j : Nat} (hj : j < n) : w.cell? ⟨ib, j, none⟩ = some (.bool (ins.contains (j : Int))) := by
  rw [h.row.cell j, List.getElem?_toArray, flags_at ins hj]

theorem RefIs.kept {F : Nat → Prop} {w w' : World} {r ib n : Nat} {ins : List Int} {ph : Nat} (h : RefIs w r ib n ins ph) (hk : Kept F w w') (ha : ¬ F r) (hs : ¬ F ib) : RefIs w' r ib n ins ph :=
  ⟨hk.blk h.blk ha, hk.blk h.row hs, h.ne, h.small⟩

theorem flags_set (n k : Nat) (ins : List Int) : (flags n ins).set k true = flags n (ins ++ [(k : Int)]) := by
  apply List.ext_getElem?
  intro j
  rw [List.getElem?_set]
  simp only [flags, List.getElem?_map, List.length_map, List.length_range]
  by_cases hj : j < n
  · by_cases e : k = j
    · subst e; simp [hj]
    · have : ¬ (j : Int) = (k : Int) := by omega
      simp [hj, e, this]
  · have : ¬ k < n ∨ k ≠ j := by omega
    by_cases e : k = j
    · subst e; simp [hj]
    · simp [hj, e]

theorem RefIs.put {w : World} {r ib n : Nat} {ins : List Int} {ph : Nat} (h : RefIs w r ib n ins ph) (k : Nat) : RefIs (w.setCell ⟨ib, k, none⟩ (.bool true)) r ib n (ins ++ [(k : Int)]) ph :=
  ⟨h.blk.other (fun e => h.ne e.symm) _, by have := h.row.set k (.bool true); rw [← flags_set, List.map_set]; simpa using this, h.ne, h.small⟩

/-- The ways of an arrival. -/
inductive RefArrived (w : World) (r ib n : Nat) (ins : List Int) (ph : Nat) (k : Int) : Ending → World → Prop
  | out (h : ¬ (0 ≤ k ∧ k < n)) : RefArrived w r ib n ins ph k (.returned (.tuple #[.bool false, .int .i64 17])) w
  | twice (h : 0 ≤ k ∧ k < n) (hm : k ∈ ins) : RefArrived w r ib n ins ph k (.returned (.tuple #[.bool false, .int .i64 16])) w
  | more (w' : World) (h : 0 ≤ k ∧ k < n) (hm : k ∉ ins) (hf : ∃ j : Nat, j < n ∧ (j : Int) ∉ ins ++ [k]) (hg : RefIs w' r ib n (ins ++ [k]) ph) (hk : Kept (fun b => b = r ∨ b = ib) w w') : RefArrived w r ib n ins ph k (.returned (.tuple #[.bool false, .int .i64 0])) w'
  | last (w' : World) (h : 0 ≤ k ∧ k < n) (hm : k ∉ ins) (hf : ∀ j : Nat, j < n → (j : Int) ∈ ins ++ [k]) (hg : RefIs w' r ib n [] (ph + 1)) (hk : Kept (fun b => b = r ∨ b = ib) w w') : RefArrived w r ib n ins ph k (.returned (.tuple #[.bool true, .int .i64 0])) w'

/-- flags of which the first j are put down. -/
def downTo (n j : Nat) : List Bool := (List.range n).map fun i => decide (j ≤ i)

theorem down_start {n : Nat} {ins : List Int} (h : ∀ j : Nat, j < n → (j : Int) ∈ ins) : flags n ins = downTo n 0 := by
  apply List.map_congr_left
  intro j hj
  have := h j (by simpa using hj)
  simp [this]
theorem down_step (n j : Nat) : (downTo n j).set j false = downTo n (j + 1) := by
  apply List.ext_getElem?
  intro i
  rw [List.getElem?_set]
  simp only [downTo, List.getElem?_map, List.length_map, List.length_range]
  by_cases hi : i < n
  · by_cases e : j = i
    · subst e; simp [hi]
    · have : (j ≤ i) ↔ (j + 1 ≤ i) := by omega
      simp [hi, e, this]
  · by_cases e : j = i
    · subst e; simp [hi]
    · simp [hi, e]
theorem down_end (n : Nat) : downTo n n = flags n [] := by
  apply List.map_congr_left
  intro j hj
  have : j < n := by simpa using hj
  simp; omega

set_option maxHeartbeats 1600000 in
theorem ref_arrive (w : World) (r ib n : Nat) (ins : List Int) (ph : Nat) (h : RefIs w r ib n ins ph) (hph : ph < 9000000000000000000) (k : Int) :
    Calls Try.prog 15 #[.pointer (some ⟨r, 0, none⟩), .int .i64 k] w (RefArrived w r ib n ins ph k) := by
  have c0 := h.blk.cell 0
  simp at c0
  have hs := h.small
  have HA := Lib.hid h
  by_cases h0 : k < 0
  · clear h
    go_enter Try.func15, Try.ntmps15
    go_wp2
    go_ret2
    exact .out (by omega)
  · obtain ⟨m, rfl⟩ := Int.eq_ofNat_of_zero_le (by omega : 0 ≤ k)
    by_cases hm : m < n
    · have cm := h.cell hm
      have fm := h.row.free m
      by_cases hin : (m : Int) ∈ ins
      · rw [show ins.contains (m : Int) = true from by simpa using hin] at cm
        clear h
        go_enter Try.func15, Try.ntmps15
        go_wp2
        go_ret2
        exact .twice (by omega) hin
      · rw [show ins.contains (m : Int) = false from by simpa using hin] at cm
        have hp := h.put m
        have hk1 : Kept (fun b => b = r ∨ b = ib) w (w.setCell ⟨ib, m, none⟩ (.bool true)) := (Kept.refl _ w).set (.inl (.inr rfl)) _
        have HIN := Lib.hid hin
        clear h hin
        go_enter Try.func15, Try.ntmps15
        go_upto_region 6 with (fail)
        clear cm fm c0
        generalize w.setCell ⟨ib, m, none⟩ (.bool true) = w1 at hp hk1 ⊢
        have c0 := hp.blk.cell 0
        have c1 := hp.blk.cell 1
        have g1 := hp.blk.free 1
        simp at c0 c1
        have HP := Lib.hid hp
        have HK1 := Lib.hid hk1
        clear hp hk1
        go_wp2_with fail
        go_loop [6] (fun q => ∃ j : Nat, j ≤ n ∧ q = .int .i64 j ∧ ∀ i : Nat, i < j → (i : Int) ∈ ins ++ [(m : Int)]) (fun q => n - (intOf q).toNat)
        case atStart => exact ⟨0, by omega, rfl, fun i hi => absurd hi (Nat.not_lt_zero _)⟩
        case round =>
          obtain ⟨j, hj, rfl, hall⟩ := hrel
          have HALL := Lib.hid hall
          clear hall
          by_cases hjn : j < n
          · have cj := HP.out.cell hjn
            by_cases hji : (j : Int) ∈ ins ++ [(m : Int)]
            · rw [show (ins ++ [(m : Int)]).contains (j : Int) = true from by simpa using hji] at cj
              have HJI := Lib.hid hji
              clear hji
              go_wp2_with fail
              go_round
              case rel => exact ⟨j + 1, by omega, by go_num, fun i hi => by
                rcases Nat.lt_or_ge i j with h1 | h1
                · exact HALL.out i h1
                · obtain rfl : i = j := by omega
                  exact HJI.out⟩
              case measure => simp [intOf]; omega
            · rw [show (ins ++ [(m : Int)]).contains (j : Int) = false from by simpa using hji] at cj
              have HJI := Lib.hid hji
              clear hji
              go_wp2_with fail
              go_ret2
              exact .more _ (by omega) HIN.out ⟨j, hjn, HJI.out⟩ HP.out HK1.out
          · obtain rfl : n = j := by omega
            go_wp2_with fail
            go_loopw [7] (fun q wr => ∃ j : Nat, j ≤ n ∧ q = .int .i64 j ∧ Blk wr ib ((downTo n j).map Value.bool).toArray 4 ∧ Kept (fun b => b = ib) w1 wr) (fun q _ => n - (intOf q).toNat)
            case atStart => exact ⟨0, by omega, rfl, by rw [← down_start HALL.out]; exact HP.out.row, Kept.refl _ _⟩
            case round =>
              obtain ⟨j, hj2, rfl, hb, hk⟩ := hrel
              have hb2 := hk.blk HP.out.blk (fun e => HP.out.ne e.symm)
              have d0 := hb2.cell 0
              have d1 := hb2.cell 1
              have e1 := hb2.free 1
              simp at d0 d1
              have HB2 := Lib.hid hb2
              have HB := Lib.hid hb
              have HK := Lib.hid hk
              clear hb2 hb hk
              by_cases hjn2 : j < n
              · have dj : wr.cell? ⟨ib, j, none⟩ = some (.bool true) := by rw [HB.out.cell j]; simp [downTo, hjn2]
                have ej := HB.out.free j
                go_wp2_with fail
                go_roundw
                case rel => exact ⟨j + 1, by omega, by go_num, by have := HB.out.set j (.bool false); rw [← down_step, List.map_set]; simpa using this, HK.out.set (.inl rfl) _⟩
                case measure => simp [intOf]; omega
              · obtain rfl : n = j := by omega
                go_wp2_with fail
                go_ret2
                rw [show ((ph : Int) + 1) = ((ph + 1 : Nat) : Int) from by omega]
                refine .last _ (by omega) HIN.out HALL.out ⟨by simpa using HB2.out.set 1 (.int .i64 ((ph + 1 : Nat) : Int)), ?_, HP.out.ne, hs⟩ ((HK1.out.trans (HK.out.mono (fun b _ e => .inr e))).set (.inl (.inl rfl)) _)
                rw [← down_end]
                exact HB.out.other HP.out.ne _
    · clear h
      go_enter Try.func15, Try.ntmps15
      go_wp2
      go_ret2
      exact .out (by omega)

end Go.Proofs.Ytpbbngdhljiedaa
