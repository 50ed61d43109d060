/- slices.Sorted(maps.Keys(m)) at a map of ints: its keys, rising. Condition: the map is one told by StAt, of at most 2^40 keys. -/
import Derived.Test.YtcdedeinbaecpaaMapI
import Derived.Test.YtcdedeinbaecpaaShelf
namespace Go.Proofs.Ytcdedeinbaecpaa
open Go Go.RowKit Go.Maps Go.Sort Go.Shelf

theorem sortsIn (m : Nat) : AnyZI.SortsIn Try.prog Try.sortedI_ren Fence.wide m :=
  ⟨fun blk off cap ss W hH hblk hsz => callsIn_wide.2 (Try.slices_Sort_int blk off cap ss W hH hblk hsz),
   fun p cap W => callsIn_wide.2 (Try.slices_Sort_int_none p cap W)⟩

theorem maps_keys (m : Option Nat) (w : World) : Calls Try.prog 36 #[.map m] w fun e w' =>
    e = .returned (.func (.func 45) #[] #[.pointer (some ⟨w.heap.size, 0, none⟩)]) ∧ w' = w.alloc (.cells #[.map m] 47) :=
  (callsIn_wide (n := 6)).1 (AnyZI.keys_in Try.keysI Fence.wide 6 trivial rfl m w)

def SortedPost (ks : List Int) (w : World) (e : Ending) (w' : World) : Prop :=
  ∃ v, e = .returned v ∧ w'.ownsRow w.heap.size 3 1 v ks.length (ks.map (Value.int .i64)) ∧ (v = .slice none 0 0 ↔ ks = []) ∧ Below w.heap.size w w'

theorem sorted_keys (w : World) (m : Option Nat) (ks : List Int) (st : Int → Int) (h : StAt w m ks st) (hl : ks.length ≤ 1099511627776) :
    Calls Try.prog 35 #[.func (.func 45) #[] #[.pointer (some ⟨w.heap.size, 0, none⟩)]] (w.alloc (.cells #[.map m] 47)) (SortedPost ks (w.alloc (.cells #[.map m] 47))) := by
  refine (callsIn_wide (n := 5)).1 ?_
  cases m with
  | none =>
    have hk : ks = [] := by
      rcases h.own with ⟨_, h⟩ | ⟨b, D, h, _⟩
      · exact h
      · cases h
    subst hk
    have hseq : SeqGives Fence.wide 2 Try.prog 45 #[.pointer (some ⟨w.heap.size, 0, none⟩)] encZ (fun ss : List Int => ss = []) 0 (w.alloc (.cells #[.map none] 47)) :=
      AnyZI.keys_gives_nil (ρ := Try.keysI_ren) { Try.keysI with } Fence.wide _ trivial rfl w.heap.size _ (by simp) (by simp)
    have cS := AnyZI.sorted_in Try.sortedI Fence.wide 5 trivial trivial trivial trivial rfl (by omega) (sortsIn _) (enters_of Try.func44 (by kernel_rfl) rfl) 45 #[.pointer (some ⟨w.heap.size, 0, none⟩)] trivial (enters_of Try.func45 (by kernel_rfl) rfl) _ 0 (Nat.zero_le _) (by omega) _ hseq
    refine cS.mono ?_
    rintro e w' ⟨v, ss, rfl, rfl, hrow, hnil, hb⟩
    have hr : w'.ownsRow _ 3 1 v _ _ := hrow
    exact ⟨v, rfl, by simpa using hr, by simpa using hnil, hb⟩
  | some b =>
    obtain ⟨D, hD, hsz, hss⟩ := h.sorted
    have hbl := hD.lt
    have hseq : SeqGives Fence.wide 2 Try.prog 45 #[.pointer (some ⟨w.heap.size, 0, none⟩)] encZ (fun ss => ss.Perm (intKeys D)) (Maps.size D) (w.alloc (.cells #[.map (some b)] 47)) :=
      AnyZI.keys_gives (ρ := Try.keysI_ren) { Try.keysI with } Fence.wide _ trivial rfl (by omega) w.heap.size b ks.length D _ (by simp) (by simp) (by
        obtain ⟨es, clock, hb, Ft, hs, hD⟩ := hD
        exact ⟨es, clock, (Below.heap_alloc _ _ b hbl).trans hb, Ft, hs, hD⟩)
    have cS := AnyZI.sorted_in Try.sortedI Fence.wide 5 trivial trivial trivial trivial rfl (by omega) (sortsIn _) (enters_of Try.func44 (by kernel_rfl) rfl) 45 #[.pointer (some ⟨w.heap.size, 0, none⟩)] trivial (enters_of Try.func45 (by kernel_rfl) rfl) _ _ (by unfold maxLen; omega) (by omega) _ hseq
    refine cS.mono ?_
    rintro e w' ⟨v, ss, rfl, hS, hrow, hnil, hb⟩
    obtain ⟨h1, h2⟩ := hss ss hS
    rw [h1, h2] at hrow
    refine ⟨v, rfl, hrow, hnil.trans ?_, hb⟩
    constructor
    · rintro rfl; exact List.eq_nil_of_length_eq_zero h1.symm
    · rintro rfl; exact List.eq_nil_of_length_eq_zero h1
end Go.Proofs.Ytcdedeinbaecpaa
