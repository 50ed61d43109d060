/- A gang by those that have arrived, in their order; Arrive, Goes, Phase, New in these words. Condition: GangIs. -/
import Derived.Test.YtpbbngdhljiedaaGangA
import Derived.Test.YtpbbngdhljiedaaGangB
namespace Go.Proofs.Ytpbbngdhljiedaa
open Go Go.RowKit

/-- ns are the workers 0 .. n-1, in some order. -/
structure Crew (n : Nat) (ns : List Int) : Prop where
  nd : ns.Nodup
  mem : ∀ x, x ∈ ns ↔ 0 ≤ x ∧ x < n
  len : ns.length = n

theorem crew_upto (n : Nat) : Crew n (upto n) := by
  refine ⟨?_, fun x => ?_, upto_len n⟩
  · unfold upto
    rw [List.nodup_iff_pairwise_ne, List.pairwise_map]
    exact (List.nodup_iff_pairwise_ne.1 List.nodup_range).imp (fun h e => h (by omega))
  · unfold upto
    simp only [List.mem_map, List.mem_range]
    constructor
    · rintro ⟨i, hi, rfl⟩; omega
    · intro h; exact ⟨x.toNat, by omega, by omega⟩

theorem at?_cases (ns : List Int) (k : Int) : (k ∉ ns ∧ at? ns k = -1) ∨ (k ∈ ns ∧ ∃ i : Nat, at? ns k = i ∧ i < ns.length ∧ ns.getD i 0 = k ∧ ns.idxOf k = i) := by
  unfold at?
  by_cases h : k ∈ ns
  · right
    have hl := List.idxOf_lt_length_iff.2 h
    refine ⟨h, ns.idxOf k, by rw [if_pos hl], hl, ?_, rfl⟩
    simp [List.getD, hl]
  · left
    exact ⟨h, by rw [if_neg (fun hl => h (List.idxOf_lt_length_iff.1 hl))]⟩

theorem mem_take_idx {ns : List Int} {k : Int} {m : Nat} (h : k ∈ ns) : k ∈ ns.take m ↔ ns.idxOf k < m := by
  have hl := List.idxOf_lt_length_iff.2 h
  have hg := List.getElem_idxOf hl
  constructor
  · intro hm
    obtain ⟨j, hj, e⟩ := List.getElem_of_mem hm
    rw [List.getElem_take] at e
    simp at hj
    rcases Nat.lt_or_ge (ns.idxOf k) m with h1 | h1
    · exact h1
    · exfalso
      have hjl : j < ns.length := by omega
      have h2 : j < List.findIdx (fun x => x == k) ns := by unfold List.idxOf at h1; omega
      have : (ns[j] == k) = false := List.not_of_lt_findIdx h2
      simp [e] at this
  · intro h1
    rw [List.mem_iff_getElem]
    exact ⟨ns.idxOf k, by simp; omega, by rw [List.getElem_take]; exact hg⟩

/-- What a swap of an arrival does. -/
theorem crew_swap {n ar i : Nat} {ns : List Int} {k : Int} (h : Crew n ns) (har : ar ≤ i) (hi : i < n) (hk : ns.getD i 0 = k) :
    Crew n ((ns.set i (ns.getD ar 0)).set ar k) ∧ ((ns.set i (ns.getD ar 0)).set ar k).take (ar + 1) = ns.take ar ++ [k] := by
  have hl := h.len
  have e1 : ns.getD ar 0 = ns[ar]'(by omega) := by simp [List.getD, show ar < ns.length by omega]
  have e2 : k = ns[i]'(by omega) := by rw [← hk]; simp [List.getD, show i < ns.length by omega]
  have hp : ((ns.set i (ns.getD ar 0)).set ar k).Perm ns := by
    rw [e1, e2]
    exact List.set_set_perm (by omega) (by omega)
  refine ⟨⟨hp.nodup_iff.2 h.nd, fun x => by rw [hp.mem_iff]; exact h.mem x, by simpa using hl⟩, ?_⟩
  rw [List.take_succ_eq_append_getElem (by simp; omega)]
  rw [List.getElem_set_self, List.take_set_of_le (Nat.le_refl _), List.take_set_of_le har]

/-- A gang of n at a, its order in sb: these have arrived, in this order. -/
def GangIs (w : World) (a sb n c : Nat) (ins : List Int) (ph : Nat) : Prop :=
  ∃ ns, GangAt w a sb n c ns ins.length ph ∧ Crew n ns ∧ ns.take ins.length = ins ∧ ins.length < n

theorem GangIs.kept {F : Nat → Prop} {w w' : World} {a sb n c : Nat} {ins : List Int} {ph : Nat} (h : GangIs w a sb n c ins ph) (hk : Kept F w w') (ha : ¬ F a) (hs : ¬ F sb) : GangIs w' a sb n c ins ph := by
  obtain ⟨ns, h1, h2⟩ := h
  exact ⟨ns, h1.kept hk ha hs, h2⟩

theorem GangIs.drewN {w : World} {a sb n c : Nat} {ins : List Int} {ph : Nat} (h : GangIs w a sb n c ins ph) (m : Nat) : GangIs (w.drewN m) a sb n c ins ph := by
  obtain ⟨ns, h1, h2⟩ := h
  exact ⟨ns, h1.drewN m, h2⟩

theorem GangIs.lt {w : World} {a sb n c : Nat} {ins : List Int} {ph : Nat} (h : GangIs w a sb n c ins ph) : a < w.heap.size ∧ sb < w.heap.size := by
  obtain ⟨ns, h1, _⟩ := h
  exact ⟨h1.blk.lt, (h1.row.lt sb rfl).2⟩

/-- Nobody twice, workers alone, not all. -/
theorem GangIs.ins {w : World} {a sb n c : Nat} {ins : List Int} {ph : Nat} (h : GangIs w a sb n c ins ph) : ins.Nodup ∧ (∀ x ∈ ins, 0 ≤ x ∧ x < n) ∧ ins.length < n := by
  obtain ⟨ns, _, hc, ht, hl⟩ := h
  refine ⟨?_, fun x hx => ?_, hl⟩
  · rw [← ht]; exact hc.nd.sublist (List.take_sublist _ _)
  · rw [← ht] at hx; exact (hc.mem x).1 (List.mem_of_mem_take hx)

theorem GangIs.free {w : World} {a sb n c : Nat} {ins : List Int} {ph : Nat} (h : GangIs w a sb n c ins ph) : ∃ j : Nat, j < n ∧ (j : Int) ∉ ins := by
  obtain ⟨ns, _, hc, ht, hl⟩ := h
  have hcl := hc.len
  have hm := (hc.mem (ns[ins.length]'(by omega))).1 (List.getElem_mem _)
  refine ⟨(ns[ins.length]'(by omega)).toNat, by omega, ?_⟩
  rw [Int.toNat_of_nonneg hm.1]
  intro hx
  have hx' : ns[ins.length]'(by omega) ∈ ns.take ins.length := ht.symm ▸ hx
  have h1 := (mem_take_idx (List.getElem_mem _)).1 hx'
  rw [hc.nd.idxOf_getElem] at h1
  omega

/-- The four ways of an arrival. -/
inductive Arrived (w : World) (a sb n c : Nat) (ins : List Int) (ph : Nat) (k : Int) : Ending → World → Prop
  | out (h : ¬ (0 ≤ k ∧ k < n)) : Arrived w a sb n c ins ph k (.returned (.tuple #[.bool false, .int .i64 17])) w
  | twice (h : 0 ≤ k ∧ k < n) (hm : k ∈ ins) : Arrived w a sb n c ins ph k (.returned (.tuple #[.bool false, .int .i64 16])) w
  | more (w' : World) (h : 0 ≤ k ∧ k < n) (hm : k ∉ ins) (hl : ins.length + 1 < n) (hg : GangIs w' a sb n c (ins ++ [k]) ph) (hk : Kept (fun b => b = a ∨ b = sb) w w') : Arrived w a sb n c ins ph k (.returned (.tuple #[.bool false, .int .i64 0])) w'
  | last (w' : World) (h : 0 ≤ k ∧ k < n) (hm : k ∉ ins) (hl : ins.length + 1 = n) (hall : ∀ x : Int, 0 ≤ x → x < n → x ∈ ins ∨ x = k) (hg : GangIs w' a sb n c [] (ph + 1)) (hk : Kept (fun b => b = a ∨ b = sb) w w') : Arrived w a sb n c ins ph k (.returned (.tuple #[.bool true, .int .i64 0])) w'

theorem arrive_is (w : World) (a sb n c : Nat) (ins : List Int) (ph : Nat) (h : GangIs w a sb n c ins ph) (hph : ph < 9000000000000000000) (k : Int) :
    Calls Try.prog 11 #[.pointer (some ⟨a, 0, none⟩), .int .i64 k] w (Arrived w a sb n c ins ph k) := by
  obtain ⟨ns, hg, hc, ht, hl⟩ := h
  have hcl := hc.len
  rcases at?_cases ns k with ⟨hk, e⟩ | ⟨hk, i, e, hi, hik, hidx⟩
  · refine (arrive_no w a sb n c ns _ ph hg k (by omega)).mono ?_
    rintro e' w' ⟨rfl, rfl⟩
    rw [if_pos (by omega)]
    exact .out (fun h => hk ((hc.mem k).2 h))
  · have hmem : k ∈ ins ↔ i < ins.length := by rw [← ht, mem_take_idx hk, hidx, ht]
    have hkn := (hc.mem k).1 hk
    rcases Nat.lt_or_ge i ins.length with h1 | h1
    · refine (arrive_no w a sb n c ns _ ph hg k (by omega)).mono ?_
      rintro e' w' ⟨rfl, rfl⟩
      rw [if_neg (by omega)]
      exact .twice hkn (hmem.2 h1)
    · have hsw := crew_swap hc h1 (by omega : i < n) hik
      have hni : k ∉ ins := fun hm => by have := hmem.1 hm; omega
      rcases Nat.lt_or_ge (ins.length + 1) n with h2 | h2
      · refine (arrive_more w a sb n c ns _ ph i hg k e h2 h1 (by omega) hph).mono ?_
        rintro e' w' ⟨rfl, hg', hk'⟩
        exact .more w' hkn hni h2 ⟨_, by simpa using hg', hsw.1, by rw [List.length_append, List.length_singleton, hsw.2, ht], by simpa using h2⟩ hk'
      · refine (arrive_last w a sb n c ns _ ph i hg k e (by omega) h1 (by omega) hph).mono ?_
        rintro e' w' ⟨rfl, hg', hk'⟩
        refine .last w' hkn hni (by omega) ?_ ⟨_, hg', hsw.1, by simp, by simp; omega⟩ hk'
        intro x h0 hx
        have h3 := (hsw.1.mem x).2 ⟨h0, hx⟩
        have h4 : ((ns.set i (ns.getD ins.length 0)).set ins.length k).take (ins.length + 1) = (ns.set i (ns.getD ins.length 0)).set ins.length k := List.take_of_length_le (by simp; omega)
        rw [← h4, hsw.2, ht] at h3
        simpa using h3

theorem goes_is (w : World) (a sb n c : Nat) (ins : List Int) (ph : Nat) (h : GangIs w a sb n c ins ph) (x : Int) :
    Calls Try.prog 18 #[.pointer (some ⟨a, 0, none⟩), .int .i64 x] w fun e w' => e = .returned (.bool (decide (0 ≤ x ∧ x < n) && !ins.contains x)) ∧ ∃ m, w' = w.drewN m := by
  obtain ⟨ns, hg, hc, ht, hl⟩ := h
  refine (goes_at w a sb n c ns _ ph hg x).mono ?_
  rintro e w' ⟨rfl, hw⟩
  refine ⟨?_, hw⟩
  rw [ht]
  have : ns.contains x = decide (0 ≤ x ∧ x < n) := by
    rw [Bool.eq_iff_iff]
    simp only [List.contains_iff_mem, decide_eq_true_eq]
    exact hc.mem x
  rw [this]

theorem phase_is (w : World) (a sb n c : Nat) (ins : List Int) (ph : Nat) (h : GangIs w a sb n c ins ph) : Calls Try.prog 10 #[.pointer (some ⟨a, 0, none⟩)] w fun e w' => e = .returned (.int .i64 ph) ∧ w = w' := by
  obtain ⟨ns, hg, _⟩ := h
  exact phase_at w a sb n c ns _ ph hg

def NewIs (n : Nat) (w : World) (e : Ending) (w' : World) : Prop :=
  ∃ a sb c, e = .returned (.tuple #[.pointer (some ⟨a, 0, none⟩), .int .i64 0]) ∧ GangIs w' a sb n c [] 0 ∧ Below w.heap.size w w' ∧ w.heap.size ≤ a ∧ w.heap.size ≤ sb

theorem new_is (n : Nat) (w : World) (h1 : 1 ≤ n) (h2 : n ≤ 64) : Calls Try.prog 9 #[.int .i64 n] w (NewIs n w) :=
  (new_ok n w h1 h2).mono fun _ _ ⟨a, sb, c, he, hg, hr⟩ => ⟨a, sb, c, he, ⟨upto n, hg, crew_upto n, by simp, by simp; omega⟩, hr⟩

end Go.Proofs.Ytpbbngdhljiedaa
