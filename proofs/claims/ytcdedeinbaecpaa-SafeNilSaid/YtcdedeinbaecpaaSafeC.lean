/- The walks of Add and End of a safepoint. Condition: the safepoint is one told by SafeAt (or nil); the threads are in range; there is room for them. -/
import Derived.Test.YtcdedeinbaecpaaSafeA
namespace Go.Proofs.Ytcdedeinbaecpaa
open Go Go.RowKit

theorem eqlSome (b : Nat) (w : World) : (binOp .eql 47 (.map (some b)) (.map none)).run Try.prog w = .ok (.bool false) w := by kernel_rfl
theorem eqlNil (w : World) : (binOp .eql 47 (.map none) (.map none)).run Try.prog w = .ok (.bool true) w := by kernel_rfl
theorem mkMap (w : World) : (Instr.makeMap 47 none).run Try.prog w = .ok (.map (some w.heap.size)) (w.alloc (.map #[] 0)) := rfl

def AddPost (w : World) (s : Nat) (m : Option Nat) (p : Run) (a : Bool) (e : Ending) (w' : World) : Prop :=
  e = .returned (.int .i64 p.2.2) ∧ ∃ b, (m = some b ∨ (m = none ∧ w.heap.size ≤ b)) ∧ SafeAt w' s (some b) p.1 p.2.1 a ∧ Kept (SafeF s m) w w'

theorem add_nil (w : World) (l : Value) (hl : ∃ sp n c, l = .slice sp n c) : Calls Try.prog 10 #[.pointer none, l] w fun e w' => e = .returned (.int .i64 0) ∧ Below w.heap.size w w' := by
  obtain ⟨sp, n, c, rfl⟩ := hl
  go_enter Try.func10, Try.ntmps10
  go_wp2_with fail
  go_ret
  exact ⟨rfl, (Below.refl _ w).alloc (Nat.le_refl _) _⟩

set_option maxHeartbeats 1600000 in
theorem add_at (w : World) (s : Nat) (m : Option Nat) (ks : List Int) (st : Int → Int) (a : Bool) (h : SafeAt w s m ks st a)
    (sp : Option Addr) (n c : Nat) (ls : List Int) (hn : ls.length = n) (hv : View w sp (ls.map (Value.int .i64))) (hin : ∀ x ∈ ls, In64 x) (hroom : ks.length + n < 4611686018427387904) :
    Calls Try.prog 10 #[.pointer (some ⟨s, 0, none⟩), .slice sp n c] w (AddPost w s m (ls.foldl (addStep a) (ks, st, 0)) a) := by
  have hsl := h.blk.lt
  have c0 := h.blk.cell 0
  have f0 := h.blk.free 0
  simp at c0
  cases m with
  | some b =>
    have hk1 : Kept (fun _ => False) w (w.alloc (.cells #[.pointer (some ⟨s, 0, none⟩)] 23)) := (Kept.refl _ w).alloc _
    have HC := Lib.hid (count_Add (w.alloc (.cells #[.pointer (some ⟨s, 0, none⟩)] 23)) s b (ks, st, 0) a (h.kept hk1 (fun h => h) (fun _ _ h => h)) w.heap.size (by simp) sp n c ls hn (hv.keptBy hk1 (fun _ _ _ h => h)) hin hroom)
    have HK := Lib.hid (show Kept (SafeF s (some b)) w (w.alloc (.cells #[.pointer (some ⟨s, 0, none⟩)] 23)) from (Kept.refl _ w).alloc _)
    have q := eqlSome b
    clear h hv hin hroom hk1
    go_enter Try.func10, Try.ntmps10
    go_wp2_with fail
    refine HC.out.mono ?_
    rintro e w2 ⟨rfl, hs2, hk2⟩
    have HS2 := Lib.hid hs2
    have HK2 := Lib.hid hk2
    clear hs2 hk2
    go_wp2_with fail
    go_ret
    exact ⟨rfl, b, Or.inl rfl, HS2.out, HK.out.call HK2.out (fun k e => Or.inl (Or.inr (congrArg some (Eq.symm e))))⟩
  | none =>
    have hks : ks = [] ∧ st = fun _ => 0 := by
      rcases h.map.own with ⟨_, h1⟩ | ⟨b, D, h1, _⟩
      · refine ⟨h1, ?_⟩
        funext x
        by_cases h0 : st x = 0
        · exact h0
        · exact absurd ((h.map.mem x).2 h0) (by rw [h1]; simp)
      · cases h1
    obtain ⟨rfl, rfl⟩ := hks
    have hb1 : Blk (w.alloc (.cells #[.pointer (some ⟨s, 0, none⟩)] 23)) s #[.map none, .bool a] 49 := h.blk.alloc _
    have hm1 : StAt ((w.alloc (.cells #[.pointer (some ⟨s, 0, none⟩)] 23)).alloc (.map #[] 0)) (some (w.alloc (.cells #[.pointer (some ⟨s, 0, none⟩)] 23)).heap.size) [] (fun _ => 0) := StAt.made _
    have hsz : (w.alloc (.cells #[.pointer (some ⟨s, 0, none⟩)] 23)).heap.size = w.heap.size + 1 := by simp
    rw [hsz] at hm1
    have hb2 := hb1.alloc (.map #[] 0)
    have hw3 : ∃ w3, w3 = ((w.alloc (.cells #[.pointer (some ⟨s, 0, none⟩)] 23)).alloc (.map #[] 0)).setCell ⟨s, 0, none⟩ (.map (some (w.heap.size + 1))) := ⟨_, rfl⟩
    obtain ⟨w3, hw⟩ := hw3
    have hs3 : SafeAt w3 s (some (w.heap.size + 1)) [] (fun _ => 0) a := by
      rw [hw]; exact ⟨by simpa using hb2.set 0 (.map (some (w.heap.size + 1))), hm1.set (a := ⟨s, 0, none⟩) hb2 _⟩
    have hk3 : Kept (fun k => k = s) w w3 := by
      rw [hw]; exact (((Kept.refl (fun k => k = s) w).alloc _).alloc _).set (p := ⟨s, 0, none⟩) (Or.inl rfl) _
    have hbx : w3.cell? ⟨w.heap.size, 0, none⟩ = some (.pointer (some ⟨s, 0, none⟩)) := by
      rw [hw]
      have : ((w.alloc (.cells #[.pointer (some ⟨s, 0, none⟩)] 23)).alloc (.map #[] 0)).cell? ⟨w.heap.size, 0, none⟩ = some (.pointer (some ⟨s, 0, none⟩)) := Lib.cell?_alloc_some _ (by simp)
      rw [← this]
      exact World.cell?_of_block (Below.heap_setCell _ _ _ _ (by simp; omega))
    have hv3 : View w3 sp (ls.map (Value.int .i64)) := by
      intro hp
      obtain ⟨b, o, e, hc⟩ := hv hp
      refine ⟨b, o, e, fun j u hj => ?_⟩
      have hcj := hc j u hj
      rw [hw]
      by_cases hbs : b = s
      · exfalso
        subst hbs
        have hlj : j < ls.length := by have := (List.getElem?_eq_some_iff.1 hj).1; simpa using this
        rw [h.blk.cell] at hcj
        have hu : ∃ x, u = .int .i64 x := by
          rw [List.getElem?_map] at hj
          obtain ⟨x, _, hx⟩ := Option.map_eq_some_iff.1 hj
          exact ⟨x, hx.symm⟩
        obtain ⟨x, rfl⟩ := hu
        rcases hi : o + j with _ | _ | i
        · rw [hi] at hcj; simp at hcj
        · rw [hi] at hcj; simp at hcj
        · rw [hi] at hcj; simp at hcj
      · rw [← hw, hk3.cell (p := ⟨b, o + j, none⟩) (cell_lt hcj) hbs]; exact hcj
    have HC := Lib.hid (count_Add w3 s (w.heap.size + 1) ([], (fun _ => 0), 0) a hs3 w.heap.size hbx sp n c ls hn hv3 hin hroom)
    have HK := Lib.hid (show Kept (SafeF s none) w w3 from hk3.mono (fun k _ e => Or.inl e))
    have hw' : w3 = ((w.setCell ⟨s, 0, none⟩ (.map (some (w.heap.size + 1)))).alloc (.cells #[.pointer (some ⟨s, 0, none⟩)] 23)).alloc (.map #[] 0) := by
      rw [hw, World.setCell_alloc_past _ _ _ _ (by simp; omega), World.setCell_alloc_past _ _ _ _ hsl]
    have HW := Lib.hid hw'
    clear hw'
    have q := eqlNil
    have q2 := mkMap
    clear h hv hin hroom hb1 hm1 hb2 hs3 hk3 hbx hv3 hw hsz
    go_enter Try.func10, Try.ntmps10
    go_wp2_with fail
    rw [← HW.out]
    refine HC.out.mono ?_
    rintro e w2 ⟨rfl, hs2, hk2⟩
    have HS2 := Lib.hid hs2
    have HK2 := Lib.hid hk2
    clear hs2 hk2
    go_wp2_with fail
    go_ret
    exact ⟨rfl, w.heap.size + 1, Or.inr ⟨rfl, by omega⟩, HS2.out, HK.out.call HK2.out (fun k e => Or.inr (by omega))⟩

def EndPost (w : World) (s : Nat) (m : Option Nat) (p : Run) (a : Bool) (e : Ending) (w' : World) : Prop :=
  e = .returned (.int .i64 p.2.2) ∧ SafeAt w' s m p.1 p.2.1 a ∧ Kept (SafeF s m) w w'

set_option maxHeartbeats 1600000 in
theorem end_at (w : World) (s : Nat) (m : Option Nat) (ks : List Int) (st : Int → Int) (a : Bool) (h : SafeAt w s m ks st a)
    (sp : Option Addr) (n c : Nat) (ls : List Int) (hn : ls.length = n) (hv : View w sp (ls.map (Value.int .i64))) (hin : ∀ x ∈ ls, In64 x) (hroom : ks.length + n < 4611686018427387904) :
    Calls Try.prog 18 #[.pointer (some ⟨s, 0, none⟩), .slice sp n c] w (EndPost w s m (ls.foldl endStep (ks, st, 0)) a) := by
  have hk1 : Kept (fun _ => False) w (w.alloc (.cells #[.pointer (some ⟨s, 0, none⟩)] 23)) := (Kept.refl _ w).alloc _
  have HC := Lib.hid (count_End (w.alloc (.cells #[.pointer (some ⟨s, 0, none⟩)] 23)) s m (ks, st, 0) a (h.kept hk1 (fun h => h) (fun _ _ h => h)) w.heap.size (by simp) sp n c ls hn (hv.keptBy hk1 (fun _ _ _ h => h)) hin hroom)
  have HK := Lib.hid (show Kept (SafeF s m) w (w.alloc (.cells #[.pointer (some ⟨s, 0, none⟩)] 23)) from (Kept.refl _ w).alloc _)
  clear h hv hin hroom hk1
  go_enter Try.func18, Try.ntmps18
  go_wp2_with fail
  refine HC.out.mono ?_
  rintro e w2 ⟨rfl, hs2, hk2⟩
  have HS2 := Lib.hid hs2
  have HK2 := Lib.hid hk2
  clear hs2 hk2
  go_wp2_with fail
  go_ret
  exact ⟨rfl, HS2.out, HK.out.call HK2.out (fun k e => Or.inl (Or.inr e))⟩

/-- count with End's closure at nil: of one. -/
theorem count_End_nil (w : World) (bx : Nat) (hb : w.cell? ⟨bx, 0, none⟩ = some (.pointer none)) (vb vo c : Nat) (t : Int) (hc : w.cell? ⟨vb, vo, none⟩ = some (.int .i64 t)) :
    Calls Try.prog 31 #[.slice (some ⟨vb, vo, none⟩) 1 c, .func (.func 40) #[] #[.pointer (some ⟨bx, 0, none⟩)]] w fun e w' => e = .returned (.int .i64 0) ∧ w = w' := by
  go_enter Try.func31, Try.ntmps31
  go_wp2_with fail
  go_loop [5, 10] (fun x i => x = .int .i64 0 ∧ (i = .int .i64 0 ∨ i = .int .i64 1)) (fun _ i => 1 - (RowKit.intOf i).toNat)
  case atStart => exact ⟨rfl, Or.inl rfl⟩
  case round =>
    obtain ⟨rfl, rfl | rfl⟩ := hrel
    · go_wp2_with (go_at_call 40; refine (end_one_nil w bx hb t).mono ?_; rintro e w' ⟨rfl, rfl⟩)
      go_round
      case rel => exact ⟨rfl, Or.inr rfl⟩
      case measure => simp [RowKit.intOf]
    · go_wp2_with fail
      go_ret
      exact ⟨rfl, rfl⟩

theorem end_nil (w : World) (vb vo c : Nat) (t : Int) (hc : w.cell? ⟨vb, vo, none⟩ = some (.int .i64 t)) :
    Calls Try.prog 18 #[.pointer none, .slice (some ⟨vb, vo, none⟩) 1 c] w fun e w' => e = .returned (.int .i64 0) ∧ Below w.heap.size w w' := by
  have HC := Lib.hid (count_End_nil (w.alloc (.cells #[.pointer none] 23)) w.heap.size (by simp) vb vo c t (Lib.cell?_alloc_some _ hc))
  clear hc
  go_enter Try.func18, Try.ntmps18
  go_wp2_with fail
  refine HC.out.mono ?_
  rintro e w2 ⟨rfl, rfl⟩
  go_wp2_with fail
  go_ret
  exact ⟨rfl, (Below.refl _ w).alloc (Nat.le_refl _) _⟩
end Go.Proofs.Ytcdedeinbaecpaa
