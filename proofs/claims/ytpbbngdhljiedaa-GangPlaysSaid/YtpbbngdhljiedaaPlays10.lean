/- The walk of ballastlaw10.GangPlays: it answers true, at any number of workers and any script; nothing that was there is turned. -/
import Derived.Test.YtpbbngdhljiedaaAwake10
import Derived.Test.YtpbbngdhljiedaaRef10
namespace Go.Proofs.Ytpbbngdhljiedaa
open Go Go.RowKit

def inOrder (n : Nat) (ins : List Int) : List Int := (upto n).filter fun x => ins.contains x

theorem upto_lt (n : Nat) : (upto n).Pairwise (· < ·) := by
  unfold upto
  rw [List.pairwise_map]
  exact List.pairwise_lt_range.imp (fun h => by omega)

theorem sorted_inOrder {n : Nat} {ins : List Int} (h1 : ins.Nodup) (h2 : ∀ x ∈ ins, 0 ≤ x ∧ x < n) : sorted ins = inOrder n ins := by
  refine List.Perm.eq_of_pairwise (le := (· ≤ ·)) (fun a b _ _ h k => by omega) (sorted_le ins) ?_ ?_
  · exact ((upto_lt n).sublist List.filter_sublist).imp (fun h => by omega)
  · refine (sorted_perm ins).trans ?_
    refine (List.perm_ext_iff_of_nodup h1 ?_).2 (fun x => ?_)
    · exact (crew_upto n).nd.sublist List.filter_sublist
    · unfold inOrder
      rw [List.mem_filter, (crew_upto n).mem x]
      simp only [List.contains_iff_mem]
      exact ⟨fun h => ⟨h2 x h, h⟩, fun h => h.2⟩

theorem inOrder_succ (n : Nat) (ins : List Int) : (upto (n + 1)).filter (fun x => ins.contains x) = (upto n).filter (fun x => ins.contains x) ++ (if ins.contains (n : Int) = true then [(n : Int)] else []) := by
  rw [upto_succ, List.filter_append]
  congr 1
  by_cases h : ins.contains (n : Int) = true <;> simp [List.filter_cons]

/-- An owned slice shows its length and its cells. -/
theorem own_any {w : World} {base e n : Nat} {v : Value} {xs : List Value} (h : w.ownsRow base e 1 v n xs) : ∃ sp c, v = .slice sp n c ∧ View w sp xs := by
  have hl := h.1
  rcases h.2 with ⟨rfl, rfl⟩ | ⟨g, cap, cur, rfl, _⟩
  · exact ⟨none, 0, rfl, by have : xs = [] := List.eq_nil_of_length_eq_zero (by simpa using hl); subst this; exact View.nil _ _⟩
  · exact ⟨some ⟨g, 0, none⟩, cap, rfl, fun _ => ⟨g, 0, rfl, fun j u hj => by
      have hlt := (List.getElem?_eq_some_iff.1 hj).1
      rw [Nat.zero_add, h.cellAt j (by omega), hj]⟩⟩

def OwnedInts (zs : List Int) (w : World) (e : Ending) (w' : World) : Prop :=
  ∃ sp c, e = .returned (.slice sp zs.length c) ∧ View w' sp (zs.map (Value.int .i64)) ∧ Below w.heap.size w w'

set_option maxHeartbeats 800000 in
theorem ref_waits (w : World) (r ib n : Nat) (ins : List Int) (ph : Nat) (h : RefIs w r ib n ins ph) :
    Calls Try.prog 17 #[.pointer (some ⟨r, 0, none⟩)] w (OwnedInts (inOrder n ins) w) := by
  obtain ⟨i0, hi, hz0, hz1, hz2⟩ := info_parts Try.infoInt'
  have c0 := h.blk.cell 0
  simp at c0
  have hs := h.small
  have HA := Lib.hid h
  clear h
  go_enter Try.func17, Try.ntmps17
  go_wp2_with fail
  go_loopw [3, 4] (fun v q wr => ∃ j : Nat, j ≤ n ∧ q = .int .i64 j ∧ wr.ownsRow w.heap.size 3 1 v ((upto j).filter fun x => ins.contains x).length (((upto j).filter fun x => ins.contains x).map (Value.int .i64)) ∧ Below w.heap.size w wr) (fun _ q _ => n - (intOf q).toNat)
  case atStart => exact ⟨0, by omega, rfl, World.ownsRow_nil _ _ _ _, Below.refl _ _⟩
  case round =>
    obtain ⟨j, hj, rfl, hown, hb⟩ := hrel
    have hk := Kept.ofBelow (F := fun b => w.heap.size ≤ b) hb (fun _ _ h => h)
    have hA := HA.out.kept hk (by have := HA.out.blk.lt; omega) (by have := HA.out.row.lt; omega)
    have d0 := hA.blk.cell 0
    simp at d0
    have HR := Lib.hid hA
    have HB := Lib.hid hb
    clear hk hA hb c0
    by_cases hjn : j < n
    · have cj := HR.out.cell hjn
      have hsucc := inOrder_succ j ins
      have hlen : ((upto j).filter fun x => ins.contains x).length ≤ j := Nat.le_trans (List.length_filter_le _ _) (by rw [upto_len]; exact Nat.le_refl _)
      cases hin : ins.contains (j : Int) with
      | true =>
        rw [hin] at cj hsucc
        rw [if_pos rfl] at hsucc
        have HSU := Lib.hid hsucc
        clear hsucc hin
        generalize (upto j).filter (fun x => ins.contains x) = pre at hown HSU hlen
        go_wp2_with (at_builtin; refine wpList_append_own_at _ rfl _ _ 22 rfl w.heap.size 3 i0 (.int .i64 0) 1 8 Try.underlying22 hi hz0 hz1 hz2 rfl (by decide) _ _ _ rfl (hown.alloc _) ⟨wr.heap.size, 0, none⟩ 1 1 [.int .i64 j] rfl rfl (cell_one_new _ _ _) (ints_oneCell .i64 [(j : Int)]) (by unfold maxLen; omega) (by omega) (by have := HB.out.size; simp; omega) ?_)
        intro v' w3 hown' hgrow _ _
        have hb3 := (HB.out.alloc HB.out.size (.cells #[.int .i64 j] 3)).grown hgrow (by have := HB.out.size; simp; omega) (by intro b hb; exact (hown.lt b hb).1)
        have HO := Lib.hid hown'
        have HB3 := Lib.hid hb3
        clear hown' hgrow hown hb3
        go_wp2_with fail
        go_roundw
        case rel => exact ⟨j + 1, by omega, by go_num, by rw [HSU.out]; simpa using HO.out, HB3.out⟩
        case measure => simp [intOf]; omega
      | false =>
        rw [hin] at cj hsucc
        rw [if_neg (by simp)] at hsucc
        have HSU := Lib.hid hsucc
        clear hsucc hin
        generalize (upto j).filter (fun x => ins.contains x) = pre at hown HSU hlen
        have HO := Lib.hid hown
        clear hown
        go_wp2_with fail
        go_roundw
        case rel => exact ⟨j + 1, by omega, by go_num, by rw [HSU.out]; simpa using HO.out, HB.out⟩
        case measure => simp [intOf]; omega
    · obtain rfl : n = j := by omega
      obtain ⟨sp, c, rfl, hv⟩ := own_any hown
      have HV := Lib.hid hv
      clear hown hv
      go_wp2_with fail
      go_ret
      exact ⟨sp, c, rfl, HV.out, HB.out⟩

theorem Arrived.shape {w w' : World} {a sb n c : Nat} {ins : List Int} {ph : Nat} {k : Int} {e : Ending} (h : Arrived w a sb n c ins ph k e w') : ∃ b f, e = .returned (.tuple #[.bool b, .int .i64 f]) ∧ Kept (fun b => b = a ∨ b = sb) w w' := by
  rcases h with ⟨_⟩ | ⟨_, _⟩ | ⟨_, _, _, _, _, hk⟩ | ⟨_, _, _, _, _, _, hk⟩
  · exact ⟨_, _, rfl, Kept.refl _ _⟩
  · exact ⟨_, _, rfl, Kept.refl _ _⟩
  · exact ⟨_, _, rfl, hk⟩
  · exact ⟨_, _, rfl, hk⟩

theorem RefArrived.shape {w w' : World} {r ib n : Nat} {ins : List Int} {ph : Nat} {k : Int} {e : Ending} (h : RefArrived w r ib n ins ph k e w') : ∃ b f, e = .returned (.tuple #[.bool b, .int .i64 f]) ∧ Kept (fun b => b = r ∨ b = ib) w w' := by
  rcases h with ⟨_⟩ | ⟨_, _⟩ | ⟨_, _, _, _, _, hk⟩ | ⟨_, _, _, _, _, hk⟩
  · exact ⟨_, _, rfl, Kept.refl _ _⟩
  · exact ⟨_, _, rfl, Kept.refl _ _⟩
  · exact ⟨_, _, rfl, hk⟩
  · exact ⟨_, _, rfl, hk⟩

/-- Both go the same way. -/
theorem both_ways {w w1 w2 : World} {a sb n c r ib : Nat} {ins : List Int} {ph : Nat} {k f f' : Int} {b b' : Bool} (hG : GangIs w a sb n c ins ph) (hR : RefIs w1 r ib n ins ph)
    (h : Arrived w a sb n c ins ph k (.returned (.tuple #[.bool b, .int .i64 f])) w1) (h' : RefArrived w1 r ib n ins ph k (.returned (.tuple #[.bool b', .int .i64 f'])) w2) :
    b' = b ∧ f' = f ∧ ∃ ins' ph', GangIs w1 a sb n c ins' ph' ∧ RefIs w2 r ib n ins' ph' ∧ ph' ≤ ph + 1 := by
  cases h with
  | out h0 => cases h' with
    | out _ => exact ⟨rfl, rfl, ins, ph, hG, hR, by omega⟩
    | twice h1 _ => exact absurd h1 h0
    | more _ h1 _ _ _ _ => exact absurd h1 h0
    | last _ h1 _ _ _ _ => exact absurd h1 h0
  | twice h0 hm => cases h' with
    | out h1 => exact absurd h0 h1
    | twice _ _ => exact ⟨rfl, rfl, ins, ph, hG, hR, by omega⟩
    | more _ _ h1 _ _ _ => exact absurd hm h1
    | last _ _ h1 _ _ _ => exact absurd hm h1
  | more _ h0 hm hl hg hk => cases h' with
    | out h1 => exact absurd h0 h1
    | twice _ h1 => exact absurd h1 hm
    | more _ _ _ _ hg' _ => exact ⟨rfl, rfl, _, ph, hg, hg', by omega⟩
    | last _ _ _ hf _ _ => obtain ⟨j, hj, hn⟩ := hg.free; exact absurd (hf j hj) hn
  | last _ h0 hm hl hall hg hk => cases h' with
    | out h1 => exact absurd h0 h1
    | twice _ h1 => exact absurd h1 hm
    | more _ _ _ hf _ _ => obtain ⟨j, hj, hn⟩ := hf; exact absurd (by rcases hall j (by omega) (by omega) with h | h <;> simp [h]) hn
    | last _ _ _ _ hg' _ => exact ⟨rfl, rfl, _, _, hg, hg', by omega⟩

end Go.Proofs.Ytpbbngdhljiedaa
