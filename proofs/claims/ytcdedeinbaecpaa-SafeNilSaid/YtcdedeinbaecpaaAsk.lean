/- What a safepoint's In asks of each thread, and slices.DeleteFunc by it. Condition: the safepoint is one told by SafeAt; the states asked for are a slice that is as told; the row is the caller's own. -/
import Derived.Test.YtcdedeinbaecpaaSafeA
import Derived.Test.YtcdedeinbaecpaaKeys
namespace Go.Proofs.Ytcdedeinbaecpaa
open Go Go.RowKit Go.Sort Go.Shelf

/-- Is a thread in state v struck, if the states qs are asked for? -/
def struck (qs : List Int) (v : Int) : Bool := decide (0 < qs.length) && !(qs.contains v)

structure AskAt (w : World) (b1 b2 s : Nat) (m : Option Nat) (ks : List Int) (st : Int → Int) (a : Bool) (sp : Option Addr) (n c : Nat) (qs : List Int) : Prop where
  c1 : w.cell? ⟨b1, 0, none⟩ = some (.slice sp n c)
  c2 : w.cell? ⟨b2, 0, none⟩ = some (.pointer (some ⟨s, 0, none⟩))
  safe : SafeAt w s m ks st a
  view : View w sp (qs.map (Value.int .i64))
  len : qs.length = n
  big : n ≤ 4611686018427387904

/-- What none of these blocks is. -/
def Off (F : Nat → Prop) (b1 b2 s : Nat) (m : Option Nat) (sp : Option Addr) (n : Nat) : Prop := ¬ F b1 ∧ ¬ F b2 ∧ ¬ F s ∧ (∀ b, m = some b → ¬ F b) ∧ (0 < n → ∀ p : Addr, sp = some p → ¬ F p.block)

section
variable {w w' : World} {b1 b2 s : Nat} {m : Option Nat} {ks : List Int} {st : Int → Int} {a : Bool} {sp : Option Addr} {n c : Nat} {qs : List Int}

theorem AskAt.kept {F : Nat → Prop} (h : AskAt w b1 b2 s m ks st a sp n c qs) (hk : Kept F w w') (ho : Off F b1 b2 s m sp n) : AskAt w' b1 b2 s m ks st a sp n c qs := by
  obtain ⟨o1, o2, o3, o4, o5⟩ := ho
  refine ⟨?_, ?_, h.safe.kept hk o3 o4, ?_, h.len, h.big⟩
  · rw [hk.cell (p := ⟨b1, 0, none⟩) (cell_lt h.c1) o1]; exact h.c1
  · rw [hk.cell (p := ⟨b2, 0, none⟩) (cell_lt h.c2) o2]; exact h.c2
  · intro hp
    obtain ⟨b, o, e, hc⟩ := h.view hp
    refine ⟨b, o, e, fun j u hj => ?_⟩
    have hcj := hc j u hj
    rw [hk.cell (p := ⟨b, o + j, none⟩) (cell_lt hcj) (o5 (by have := h.len; simp at hp; omega) ⟨b, o, none⟩ e)]
    exact hcj

theorem AskAt.lts (h : AskAt w b1 b2 s m ks st a sp n c qs) : Off (fun b => w.heap.size ≤ b) b1 b2 s m sp n := by
  have h1 := cell_lt h.c1
  have h2 := cell_lt h.c2
  have h3 := h.safe.blk.lt
  simp only at h1 h2
  refine ⟨by omega, by omega, by omega, fun b hb => by have := h.safe.map.lt b hb; omega, fun hn p hp => ?_⟩
  obtain ⟨b, o, e, hc⟩ := h.view.at_int (by rw [h.len]; exact hn)
  rw [e] at hp
  cases hp
  have := cell_lt (hc 0 (by rw [h.len]; exact hn))
  simp only at this ⊢
  omega

theorem AskAt.drewN (h : AskAt w b1 b2 s m ks st a sp n c qs) (k : Nat) : AskAt (w.drewN k) b1 b2 s m ks st a sp n c qs :=
  h.kept (F := fun _ => False) ((Kept.refl _ w).drewN k) ⟨fun h => h, fun h => h, fun h => h, fun _ _ h => h, fun _ _ _ h => h⟩
end

def AskPost (w : World) (b : Bool) (e : Ending) (w' : World) : Prop := e = .returned (.bool b) ∧ ∃ q, w' = w.drewN q

set_option maxHeartbeats 1600000 in
theorem ask_one (w : World) (b1 b2 s : Nat) (m : Option Nat) (ks : List Int) (st : Int → Int) (a : Bool) (sp : Option Addr) (n c : Nat) (qs : List Int) (h : AskAt w b1 b2 s m ks st a sp n c qs) (t : Int) (ht : In64 t) :
    Calls Try.prog 37 #[.int .i64 t, .pointer (some ⟨b1, 0, none⟩), .pointer (some ⟨b2, 0, none⟩)] w (AskPost w (struck qs (st t))) := by
  have hl : ∀ k, (Instr.lookup 47 (.map m) (.int .i64 t) false).run Try.prog (w.drewN k) = .ok (.int .i64 (st t)) (w.drewN k) := fun k => (h.drewN k).safe.map.look ht
  have hl1 : (Instr.lookup 47 (.map m) (.int .i64 t) false).run Try.prog w.drew = .ok (.int .i64 (st t)) w.drew := hl 1
  have c0 := h.safe.blk.cell 0
  simp at c0
  have c1 := h.c1
  have c2 := h.c2
  unfold struck
  by_cases hn : n = 0
  · subst hn
    have hq : qs = [] := List.eq_nil_of_length_eq_zero h.len
    subst hq
    clear h
    generalize st t = v at hl hl1 ⊢
    go_enter Try.func37, Try.ntmps37
    go_wp2_with fail
    go_quiet (fail)
    go_wp2_with fail
    go_ret
    exact ⟨rfl, _, rfl⟩
  · obtain ⟨vb, vo, rfl, hc⟩ := h.view.at_int (by have := h.len; omega)
    have HC := Lib.hid hc
    have hlen := h.len
    have hbig := h.big
    have HCON := Lib.hid (fun k => contains_int vb vo n c qs (st t) (w.drewN k) hlen (by omega) (fun j hj => HC.out j (by omega)))
    have hpos : 0 < n := by omega
    have hdn : decide (0 < n) = true := by simp; omega
    have hd : decide (0 < qs.length) = true := by rw [hlen]; simp; omega
    rw [hd]
    clear h hc hd hlen
    generalize qs.contains (st t) = r at HCON ⊢
    generalize st t = v at hl hl1 HCON
    go_enter Try.func37, Try.ntmps37
    go_wp2_with fail
    go_quiet ((go_at_call 38; exact Calls.quiet_of_same ((HCON.out _).mono (fun e w' h => ⟨h.1, h.2.symm⟩))))
    go_wp2_with fail
    go_ret
    exact ⟨by cases r <;> rfl, _, rfl⟩
end Go.Proofs.Ytcdedeinbaecpaa
