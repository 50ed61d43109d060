/- The plain side of gang: what New, Arrive, Goes, Phase do to a list, a number and a phase. -/
import Derived.Test.YtpbbngdhljiedaaSlices
namespace Go.Proofs.Ytpbbngdhljiedaa
open Go Go.RowKit

/-- A gang as it lies at a: its order in block sb. -/
structure GangAt (w : World) (a sb n c : Nat) (ns : List Int) (ar ph : Nat) : Prop where
  blk : Blk w a #[.slice (some ⟨sb, 0, none⟩) n c, .int .i64 ar, .int .i64 ph] 48
  row : w.ownsRow 0 3 1 (.slice (some ⟨sb, 0, none⟩) n c) n (ns.map (Value.int .i64))
  ne : sb ≠ a
  len : ns.length = n
  small : 1 ≤ n ∧ n ≤ 64
  arr : ar ≤ n

theorem GangAt.cap {w : World} {a sb n c : Nat} {ns : List Int} {ar ph : Nat} (h : GangAt w a sb n c ns ar ph) : n ≤ c ∧ c ≤ 9223372036854775807 := by
  rcases h.row.2 with ⟨h', _⟩ | ⟨g, cap, cur, h', _, _, h2, h3, _⟩
  · simp at h'
  · simp only [Value.slice.injEq, Option.some.injEq, Addr.mk.injEq, and_true, true_and] at h'
    obtain ⟨rfl, rfl⟩ := h'
    exact ⟨h2, by simpa [maxLen] using h3⟩

theorem GangAt.cells {w : World} {a sb n c : Nat} {ns : List Int} {ar ph : Nat} (h : GangAt w a sb n c ns ar ph) (j : Nat) (hj : j < n) : w.cell? ⟨sb, j, none⟩ = some (.int .i64 (ns.getD j 0)) := by
  rw [h.row.cellAt j (by omega)]
  have := h.len
  simp [List.getD, show j < ns.length by omega]

theorem GangAt.kept {F : Nat → Prop} {w w' : World} {a sb n c : Nat} {ns : List Int} {ar ph : Nat} (h : GangAt w a sb n c ns ar ph) (hk : Kept F w w') (ha : ¬ F a) (hs : ¬ F sb) : GangAt w' a sb n c ns ar ph :=
  ⟨hk.blk h.blk ha, hk.owns h.row (fun k e => by cases e; exact hs), h.ne, h.len, h.small, h.arr⟩

theorem GangAt.drew {w : World} {a sb n c : Nat} {ns : List Int} {ar ph : Nat} (h : GangAt w a sb n c ns ar ph) : GangAt w.drew a sb n c ns ar ph := ⟨h.blk, h.row, h.ne, h.len, h.small, h.arr⟩

theorem GangAt.drewN {w : World} {a sb n c : Nat} {ns : List Int} {ar ph : Nat} (h : GangAt w a sb n c ns ar ph) (m : Nat) : GangAt (w.drewN m) a sb n c ns ar ph := ⟨h.blk, h.row, h.ne, h.len, h.small, h.arr⟩

theorem GangAt.store {w : World} {a sb n c : Nat} {ns : List Int} {ar ph : Nat} (h : GangAt w a sb n c ns ar ph) (j : Nat) (x : Int) : GangAt (w.setCell ⟨sb, j, none⟩ (.int .i64 x)) a sb n c (ns.set j x) ar ph :=
  ⟨h.blk.other (fun e => h.ne e.symm) _, by rw [List.map_set]; exact (h.row.stored j _).1, h.ne, by simpa using h.len, h.small, h.arr⟩

theorem GangAt.setArr {w : World} {a sb n c : Nat} {ns : List Int} {ar ph : Nat} (h : GangAt w a sb n c ns ar ph) (m : Nat) (hm : m ≤ n) : GangAt (w.setCell ⟨a, 1, none⟩ (.int .i64 m)) a sb n c ns m ph :=
  ⟨by simpa using h.blk.set 1 (.int .i64 m), ownsRow_setCell_other h.row (by simpa [Value.ownBlock] using h.ne) _, h.ne, h.len, h.small, hm⟩

theorem GangAt.setPh {w : World} {a sb n c : Nat} {ns : List Int} {ar ph : Nat} (h : GangAt w a sb n c ns ar ph) (m : Nat) : GangAt (w.setCell ⟨a, 2, none⟩ (.int .i64 m)) a sb n c ns ar m :=
  ⟨by simpa using h.blk.set 2 (.int .i64 m), ownsRow_setCell_other h.row (by simpa [Value.ownBlock] using h.ne) _, h.ne, h.len, h.small, h.arr⟩

end Go.Proofs.Ytpbbngdhljiedaa
