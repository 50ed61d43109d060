/- The walks of In, Reached and Resume of a safepoint. Condition: the safepoint is one told by SafeAt (or nil), of at most 2^40 threads. -/
import Derived.Test.YtcdedeinbaecpaaDelete
namespace Go.Proofs.Ytcdedeinbaecpaa
open Go Go.RowKit

def kept? (qs ks : List Int) (st : Int → Int) : List Int := ks.filter fun x => !struck qs (st x)

def InPost (ys : List Int) (w : World) (e : Ending) (w' : World) : Prop :=
  ∃ sp c, e = .returned (.slice sp ys.length c) ∧ View w' sp (ys.map (Value.int .i64)) ∧ Below w.heap.size w w'

theorem in_nil (w : World) (sp : Option Addr) (n c : Nat) : Calls Try.prog 14 #[.pointer none, .slice sp n c] w fun e w' => e = .returned (.slice none 0 0) ∧ Below w.heap.size w w' := by
  go_enter Try.func14, Try.ntmps14
  go_wp2_with fail
  go_ret
  exact ⟨rfl, ((Below.refl _ w).alloc (Nat.le_refl _) _).alloc (by simp) _⟩

set_option maxHeartbeats 1600000 in
theorem in_at (w : World) (s : Nat) (m : Option Nat) (ks : List Int) (st : Int → Int) (a : Bool) (h : SafeAt w s m ks st a) (sp : Option Addr) (n c : Nat) (qs : List Int) (hv : View w sp (qs.map (Value.int .i64))) (hn : qs.length = n) (hbig : n ≤ 4611686018427387904) (hl : ks.length ≤ 1099511627776) :
    Calls Try.prog 14 #[.pointer (some ⟨s, 0, none⟩), .slice sp n c] w (InPost (kept? qs ks st) w) := by
  have hsl := h.blk.lt
  have hk1 : Kept (fun _ => False) w ((w.alloc (.cells #[.pointer (some ⟨s, 0, none⟩)] 23)).alloc (.cells #[.slice sp n c] 27)) := ((Kept.refl _ w).alloc _).alloc _
  have HA := Lib.hid (show AskAt ((w.alloc (.cells #[.pointer (some ⟨s, 0, none⟩)] 23)).alloc (.cells #[.slice sp n c] 27)) (w.heap.size + 1) w.heap.size s m ks st a sp n c qs from
    ⟨by simp,
     Lib.cell?_alloc_some _ (by simp), h.kept hk1 (fun h => h) (fun _ _ h => h), hv.keptBy hk1 (fun _ _ _ h => h), hn, hbig⟩)
  have HB := Lib.hid (show Below w.heap.size w ((w.alloc (.cells #[.pointer (some ⟨s, 0, none⟩)] 23)).alloc (.cells #[.slice sp n c] 27)) from ((Below.refl _ w).alloc (Nat.le_refl _) _).alloc (by simp) _)
  have d0 := HA.out.safe.blk.cell 0
  have d2 := HA.out.c2
  have hs1 : ((w.alloc (.cells #[.pointer (some ⟨s, 0, none⟩)] 23)).alloc (.cells #[.slice sp n c] 27)).heap.size = w.heap.size + 2 := by simp
  replace hs1 := Lib.hid hs1
  simp at d0
  have HL := Lib.hid hl
  clear h hv hn hk1 hl
  go_enter Try.func14, Try.ntmps14
  go_wp2_with fail
  generalize (w.alloc (.cells #[.pointer (some ⟨s, 0, none⟩)] 23)).alloc (.cells #[.slice sp n c] 27) = w1 at HA HB d0 d2 hs1 ⊢
  refine (maps_keys m w1).mono ?_
  rintro e w' ⟨rfl, rfl⟩
  go_wp2_with fail
  replace hs1 := hs1.out
  refine (sorted_keys w1 m ks st HA.out.safe.map HL.out).mono ?_
  rintro e w3 ⟨v, rfl, hrow, hnil, hb⟩
  have HB3 := Lib.hid (HB.out.trans (((Below.refl _ w1).alloc (Nat.le_refl _) _ |>.mono (by omega)).trans (hb.mono (by simp; omega))))
  have HA3 := Lib.hid (HA.out.kept (Kept.ofBelow (F := fun b => w1.heap.size ≤ b) (((Below.refl _ w1).alloc (Nat.le_refl _) _).trans (hb.mono (by simp))) (fun _ _ h => h)) HA.out.lts)
  have hin : ∀ x ∈ ks, In64 x := fun x hx => HA.out.safe.map.small hx
  have hne : v ≠ .slice none 0 0 → ∃ g cap, v = .slice (some ⟨g, 0, none⟩) ks.length cap ∧ w1.heap.size + 1 ≤ g := by
    intro hvn
    rcases hrow.2 with ⟨h, _⟩ | ⟨g, cap, cur, e, hb, _⟩
    · exact absurd h hvn
    · exact ⟨g, cap, e, by simpa using hb⟩
  by_cases hv : v = .slice none 0 0
  · subst hv
    obtain rfl := hnil.1 rfl
    clear hrow hb hne hnil
    go_wp2_with fail
    refine (delete_none _ w3).mono ?_
    rintro e w4 ⟨rfl, rfl⟩
    go_wp2_with fail
    go_ret
    exact ⟨none, 0, rfl, View.nil _ _, HB3.out⟩
  · obtain ⟨g, cap, rfl, hg⟩ := hne hv
    have hoff : Off (fun k => k = g) (w.heap.size + 1) w.heap.size s m sp n := by
      obtain ⟨_, _, o3, o4, o5⟩ := HA.out.lts
      refine ⟨by omega, by omega, by omega, fun b hb e => o4 b hb (by omega), fun hn p hp e => o5 hn p hp (by omega)⟩
    have hcon := delete_ask w3 _ g cap ks (w.heap.size + 1) w.heap.size s m ks st a sp n c qs HA3.out hrow hin hoff
    have HC := Lib.hid hcon
    have HN := Lib.hid (show w3.heap.size ≥ w.heap.size from HB3.out.size)
    have hgw : w.heap.size ≤ g := by omega
    clear hrow hb hne hnil hin hoff hcon
    go_wp2_with fail
    refine HC.out.mono ?_
    rintro e w4 ⟨rfl, hv4, hk4⟩
    have HV4 := Lib.hid hv4
    have HB4 := Lib.hid (HB3.out.trans (hk4.below HN.out (by rintro k rfl; exact hgw)))
    clear hv4 hk4
    generalize hys : (ks.filter fun x => !struck qs (st x)) = ys at HV4
    have HY := Lib.hid hys
    clear hys
    go_wp2_with fail
    go_ret
    exact ⟨_, _, by unfold kept?; rw [HY.out]; rfl, by unfold kept?; rw [HY.out]; exact HV4.out, HB4.out⟩

theorem struck_one (q v : Int) : (!struck [q] v) = decide (v = q) := by
  unfold struck
  by_cases h : v = q
  · subst h; simp
  · simp [h]

theorem kept_one (q : Int) (ks : List Int) (st : Int → Int) : kept? [q] ks st = ks.filter fun x => decide (st x = q) := by
  unfold kept?
  congr 1
  funext x
  exact struck_one q (st x)

theorem kept_all (ks : List Int) (st : Int → Int) : kept? [] ks st = ks := by
  unfold kept?
  exact List.filter_eq_self.2 (fun _ _ => rfl)

/-! ### Reached -/
theorem reached_nil (w : World) : Calls Try.prog 29 #[.pointer none] w fun e w' => e = .returned (.bool false) ∧ w = w' := by
  go_enter Try.func29, Try.ntmps29
  go_wp2_with (go_at_call 15; refine (armed_nil w).mono ?_; rintro e w' ⟨rfl, rfl⟩)
  go_ret
  exact ⟨rfl, rfl⟩

def reached? (ks : List Int) (st : Int → Int) (a : Bool) : Bool := a && decide ((kept? [1] ks st).length = 0)
def ReachPost (w : World) (b : Bool) (e : Ending) (w' : World) : Prop := e = .returned (.bool b) ∧ Below w.heap.size w w'

set_option maxHeartbeats 1600000 in
theorem reached_at (w : World) (s : Nat) (m : Option Nat) (ks : List Int) (st : Int → Int) (a : Bool) (h : SafeAt w s m ks st a) (hl : ks.length ≤ 1099511627776) :
    Calls Try.prog 29 #[.pointer (some ⟨s, 0, none⟩)] w (ReachPost w (reached? ks st a)) := by
  have HA := Lib.hid (armed_at w s m ks st a h)
  have HI := Lib.hid (fun W hW hv => in_at W s m ks st a hW (some ⟨w.heap.size, 0, none⟩) 1 1 [1] hv rfl (by omega) hl)
  have H := Lib.hid h
  have hks : (kept? [1] ks st).length ≤ 1099511627776 := Nat.le_trans (List.length_filter_le _ _) hl
  clear h hl
  unfold reached?
  cases a with
  | false =>
    clear HI
    go_enter Try.func29, Try.ntmps29
    go_wp2_with (go_at_call 15; refine HA.out.mono ?_; rintro e w' ⟨rfl, rfl⟩)
    go_ret
    exact ⟨rfl, Below.refl _ _⟩
  | true =>
    go_enter Try.func29, Try.ntmps29
    go_wp2_with (go_at_call 15; refine HA.out.mono ?_; rintro e w' ⟨rfl, rfl⟩)
    refine (HI.out _ (H.out.kept (F := fun _ => False) ((Kept.refl _ w).alloc _) (fun h => h) (fun _ _ h => h)) (View.new w [.int .i64 1] _)).mono ?_
    rintro e w2 ⟨sp, c, rfl, hv, hb⟩
    have HB := Lib.hid ((Below.refl w.heap.size w).alloc (Nat.le_refl _) (.cells #[.int .i64 1] 3) |>.trans (hb.mono (by simp)))
    clear hv hb
    generalize hy : (kept? [1] ks st).length = y at hks ⊢
    have HY := Lib.hid hy
    clear hy
    go_wp2_with fail
    go_ret
    exact ⟨congrArg (fun b => Ending.returned (.bool b)) (show ((y : Int) == 0) = (true && decide ((kept? [1] ks st).length = 0)) by rw [HY.out, Bool.eq_iff_iff]; simp), HB.out⟩
end Go.Proofs.Ytcdedeinbaecpaa
