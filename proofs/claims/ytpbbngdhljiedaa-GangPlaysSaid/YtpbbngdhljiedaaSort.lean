/- slices.Sort at an owned []int, slices.Clone at []int. Condition: the slice is owned; the cells hold the list. -/
import Derived.Test.YtpbbngdhljiedaaSlices
import Derived.Test.YtpbbngdhljiedaaShelf
import Derived.Sort.OwnSortedInts
namespace Go.Proofs.Ytpbbngdhljiedaa
open Go Go.RowKit

def sorted (zs : List Int) : List Int := zs.mergeSort fun x y => decide (x ≤ y)

theorem sorted_len (zs : List Int) : (sorted zs).length = zs.length := List.length_mergeSort _
theorem sorted_perm (zs : List Int) : (sorted zs).Perm zs := List.mergeSort_perm _ _
theorem sorted_le (zs : List Int) : (sorted zs).Pairwise (· ≤ ·) := by
  have := List.pairwise_mergeSort (le := fun x y : Int => decide (x ≤ y)) (by simp; omega) (by simp; omega) zs
  simpa [sorted] using this

/-- What the sort leaves. -/
def SortPost (base : Nat) (v : Value) (g n : Nat) (zs : List Int) (w : World) (e : Ending) (w' : World) : Prop :=
  e = .returned (.tuple #[]) ∧ w'.ownsRow base 3 1 v n ((sorted zs).map (Value.int .i64)) ∧ Kept (fun b => b = g) w w'

theorem sort_owned (w : World) (base g n cap : Nat) (zs : List Int) (h : w.ownsRow base 3 1 (.slice (some ⟨g, 0, none⟩) n cap) n (zs.map (Value.int .i64))) (hn : n < 4611686018427387904) :
    Calls Try.prog 26 #[.slice (some ⟨g, 0, none⟩) n cap] w (SortPost base (.slice (some ⟨g, 0, none⟩) n cap) g n zs w) := by
  obtain ⟨h1, h2⟩ := h
  rcases h2 with ⟨h2, _⟩ | ⟨g', cap', cur, e, hb, hg, hn1, hcm, hcs, ht⟩
  · cases h2
  · cases e
    have hl : zs.length = n := by simpa using h1
    subst hl
    have hh := Go.holds_of_blockI hg (by simpa using ht)
    refine (Try.slices_Sort_int g 0 cap zs w hh (lt_of_block hg) hn).mono ?_
    rintro e w' ⟨rfl, m, os, rfl⟩
    have := Go.ownsRow_sortedI (os := os) (n := m) (ts := sorted zs) (ss := zs) (sorted_len zs) hb hg hn1 hcm (by simpa using hcs)
    exact ⟨rfl, this, grown_kept (Go.grownBy_sortedI _) (by intro k hk _; cases hk; rfl)⟩

theorem Try.infoInt' : (Try.prog.info? 3).map (fun i => (i.zero, i.size, i.bytes)) = some (some (.int .i64 0), 1, 8) := by kernel_rfl

/-- What Clone leaves of a slice that is not nil. -/
def CloneIntPost (n : Nat) (cs : List Value) (w : World) (en : Ending) (w' : World) : Prop :=
  ∃ g c, en = .returned (.slice (some ⟨g, 0, none⟩) n c) ∧ w'.ownsRow w.heap.size 3 1 (.slice (some ⟨g, 0, none⟩) n c) n cs ∧ Below w.heap.size w w' ∧ w.heap.size ≤ g

set_option maxHeartbeats 800000 in
theorem clone_int (b o n c : Nat) (cs : List Value) (w : World) (hl : cs.length = n) (hbig : n * 8 ≤ 140737488355328) (hv : View w (some ⟨b, o, none⟩) cs) (h1 : ∀ u ∈ cs, u.oneCell' = true) :
    Calls Try.prog 24 #[.slice (some ⟨b, o, none⟩) n c] w (CloneIntPost n cs w) := by
  obtain ⟨i0, hi, hz0, hz1, hz2⟩ := info_parts Try.infoInt'
  have q22 : ∀ (w : World) (a : Option Addr) (n c n' c' : Nat), (binOp .eql 22 (.slice a n c) (.slice none n' c')).run Try.prog w = .ok (.bool a.isNone) w := fun w a n c n' c' => Lib.run_eql_slice_nil w _ _ a n c n' c' Try.underlying22
  have HV := Lib.hid (show View (w.alloc (.cells #[] 3)) (some ⟨b, o, none⟩) cs from fun hp => by
    obtain ⟨b', o', e, hc⟩ := hv hp
    cases e
    exact ⟨b, o, rfl, fun j u hj => Lib.cell?_alloc_some _ (hc j u hj)⟩)
  have HL := Lib.hid hl
  have H1 := Lib.hid h1
  clear hv hl h1
  go_enter Try.func24, Try.ntmps24
  go_wp2_with (at_builtin; refine wpList_append_view _ rfl _ _ 22 rfl w.heap.size 3 i0 (.int .i64 0) 8 Try.underlying22 hi hz0 hz1 hz2 rfl _ _ _ rfl (World.ownsRow_made w #[] 0 (Nat.le_refl _) (Nat.zero_le _) rfl) (some ⟨b, o, none⟩) n c cs rfl HL.out HV.out (by intro h; cases h) H1.out ?q4 ?q5 ?q6 ?_)
  case q4 => unfold maxLen; omega
  case q5 => omega
  case q6 => simp
  intro v' w1 hown hgrow _ hnil
  have hsh : ∃ g cap, v' = .slice (some ⟨g, 0, none⟩) n cap ∧ w.heap.size ≤ g := by
    rcases hown.2 with ⟨h, _⟩ | ⟨g, cap, cur, e, hb, _⟩
    · exact (hnil h).elim
    · exact ⟨g, cap, by simpa using e, hb⟩
  obtain ⟨g, cap, rfl, hg⟩ := hsh
  go_wp2
  go_ret
  exact ⟨g, cap, rfl, by simpa using hown, ((Below.refl _ w).alloc (Nat.le_refl _) _).grown hgrow (by simp) (by intro k hk; simp [Value.ownBlock] at hk; omega), hg⟩

end Go.Proofs.Ytpbbngdhljiedaa
