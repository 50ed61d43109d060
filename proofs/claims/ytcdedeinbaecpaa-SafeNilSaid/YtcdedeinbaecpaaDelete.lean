/- slices.DeleteFunc by what a safepoint's In asks. Condition: the row is the caller's own, in no block that the question reads. -/
import Derived.Test.YtcdedeinbaecpaaAsk
namespace Go.Proofs.Ytcdedeinbaecpaa
open Go Go.RowKit Go.Sort Go.Shelf Go.Lib

/-- The numbers that an int can hold. -/
abbrev N64 := {x : Int // In64 x}
instance : Inhabited N64 := ⟨⟨0, by unfold In64; omega⟩⟩
def encN (x : N64) : Value := .int .i64 x.1

theorem kept_row {α : Type} [Inhabited α] (enc : α → Value) (w : World) (g n : Nat) (d : Array α) (os : Array Obj) : Kept (fun k => k = g) w (grow (putRow enc (Sort.ahead w n) g 0 d) os) :=
  ⟨rfl, rfl, rfl, by simp, fun k hk hne => by
    rw [heap_grow_old _ _ (by simpa using hk)]
    have : g ≠ k := fun e => hne e.symm
    simp [putRow, mapBlock, Sort.ahead, Array.getElem?_modify, this]⟩

def DeletePost (g cap : Nat) (ys : List Int) (w : World) (e : Ending) (w' : World) : Prop :=
  e = .returned (.slice (some ⟨g, 0, none⟩) ys.length cap) ∧ View w' (some ⟨g, 0, none⟩) (ys.map (Value.int .i64)) ∧ Kept (fun k => k = g) w w'

theorem delete_ask (w : World) (base g cap : Nat) (xs : List Int) (b1 b2 s : Nat) (m : Option Nat) (ks : List Int) (st : Int → Int) (a : Bool) (sp : Option Addr) (n c : Nat) (qs : List Int) (h : AskAt w b1 b2 s m ks st a sp n c qs)
    (hrow : w.ownsRow base 3 1 (.slice (some ⟨g, 0, none⟩) xs.length cap) xs.length (xs.map (Value.int .i64))) (hin : ∀ x ∈ xs, In64 x) (hoff : Off (fun k => k = g) b1 b2 s m sp n) :
    Calls Try.prog 34 #[.slice (some ⟨g, 0, none⟩) xs.length cap, .func (.func 37) #[] #[.pointer (some ⟨b1, 0, none⟩), .pointer (some ⟨b2, 0, none⟩)]] w
      (DeletePost g cap (xs.filter fun x => !struck qs (st x)) w) := by
  obtain ⟨h1, h2⟩ := hrow
  rcases h2 with ⟨h2, _⟩ | ⟨g', cap', cur, e, hb, hg, hn1, hcm, hcs, htk⟩
  · cases h2
  · cases e
    have hh := holds_of_block_i hg (by simpa using htk)
    have hmx : xs.length ≤ 9223372036854775807 := by unfold maxLen at hcm; omega
    obtain ⟨d, hd⟩ : ∃ d : Array N64, d = (xs.pmap Subtype.mk hin).toArray := ⟨_, rfl⟩
    have hds : d.size = xs.length := by rw [hd]; simp
    have hdl : d.toList = xs.pmap Subtype.mk hin := by rw [hd]
    have hval : d.toList.map (fun x => x.1) = xs := by rw [hdl, List.map_pmap]; simp
    have hget : ∀ j, j < d.size → encN d[j]! = .int .i64 xs.toArray[j]! := by
      intro j hj
      have hj' : j < xs.length := by omega
      have e1 : d[j]! = d[j] := getElem!_pos d j hj
      have e2 : xs.toArray[j]! = xs[j] := by rw [getElem!_pos xs.toArray j (by simpa using hj')]; simp
      rw [e1, e2]
      subst hd
      simp [encN]
    have hH : Holds encN w g 0 d := fun j hj => by
      have := hh j (by simpa using (by omega : j < xs.length))
      rw [hget j hj]; exact this
    have hfil : (d.toList.filter fun x => !struck qs (st x.1)).map (fun x => x.1) = xs.filter fun x => !struck qs (st x) := by
      conv => rhs; rw [← hval]
      rw [List.filter_map]; rfl
    have hp : PredAt Try.prog 37 #[.pointer (some ⟨b1, 0, none⟩), .pointer (some ⟨b2, 0, none⟩)] encN (fun x => struck qs (st x.1)) w := fun W x hb =>
      ask_one W b1 b2 s m ks st a sp n c qs (h.kept (Kept.ofBelow (F := fun b => w.heap.size ≤ b) hb (fun _ _ h => h)) h.lts) x.1 x.2
    have hpo : PredOver Try.prog 37 #[.pointer (some ⟨b1, 0, none⟩), .pointer (some ⟨b2, 0, none⟩)] encN (fun x => struck qs (st x.1)) g 0 d.size w := fun k os dk x _ =>
      ask_one _ b1 b2 s m ks st a sp n c qs (h.kept (kept_row encN w g k dk os) hoff) x.1 x.2
    have hcon := AnyE.slices_DeleteFunc Try.deleteI encN (fun _ => rfl) (fun x => struck qs (st x.1)) 37 #[.pointer (some ⟨b1, 0, none⟩), .pointer (some ⟨b2, 0, none⟩)]
      (enters_of Try.func37 (by kernel_rfl) rfl) ⟨0, by unfold In64; omega⟩ Try.zeroValue3 g 0 cap d w hp hpo hH (by omega) (by omega)
    rw [hds] at hcon
    refine hcon.mono ?_
    rintro e w' ⟨rfl, q, rfl⟩
    generalize hys : (d.toList.filter fun x => !struck qs (st x.1)) = ys at hfil ⊢
    have hyl : ys.length ≤ xs.length := by rw [← hys]; exact Nat.le_trans (List.length_filter_le _ _) (by simp [hds])
    rw [← hfil]
    refine ⟨by simp, fun _ => ⟨g, 0, rfl, fun j u hj => ?_⟩, ?_⟩
    · have hjl : j < ys.length := by have := (List.getElem?_eq_some_iff.1 hj).1; simpa using this
      rw [cell?_putRow encN (Sort.ahead w q) g 0 d _ (holds_ahead encN w q g 0 d hH) (by simp [hds]; omega) j (by simp; omega)]
      rw [← hj]
      rw [getElem!_pos _ j (by simp; omega)]
      simp [hjl, encN]
    · have := kept_row encN w g q (ys ++ List.replicate (xs.length - ys.length) (⟨0, by unfold In64; omega⟩ : N64)).toArray #[]
      rw [grow_empty] at this
      exact this

theorem index_none (f : Value) (w : World) :
    Calls Try.prog 42 #[.slice none 0 0, f] w fun e w' => e = .returned (.int .i64 (-1)) ∧ w = w' := by
  go_enter Try.func42, Try.ntmps42
  go_wp2_with fail
  go_loop [5, 8] (fun _ i => i = .int .i64 0) (fun _ _ => 0)
  case atStart => rfl
  case round =>
    subst hrel
    go_wp2_with fail
    go_ret
    exact ⟨rfl, rfl⟩

theorem delete_none (f : Value) (w : World) :
    Calls Try.prog 34 #[.slice none 0 0, f] w fun e w' => e = .returned (.slice none 0 0) ∧ w = w' := by
  go_enter Try.func34, Try.ntmps34
  go_wp2_with (go_at_call 42; refine (index_none f w).mono ?_; rintro e w' ⟨rfl, rfl⟩)
  go_ret
  exact ⟨rfl, rfl⟩
end Go.Proofs.Ytcdedeinbaecpaa
