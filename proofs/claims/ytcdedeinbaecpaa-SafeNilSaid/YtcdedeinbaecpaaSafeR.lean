/- The walk of Resume of a safepoint. Condition: the safepoint is one told by SafeAt (or nil), of at most 2^40 threads. -/
import Derived.Test.YtcdedeinbaecpaaSafeB
namespace Go.Proofs.Ytcdedeinbaecpaa
open Go Go.RowKit

/-! ### Resume -/
def resumeS (st : Int → Int) : Int → Int := fun x => if st x = 2 then 1 else st x
def ResumePost (w : World) (s : Nat) (m : Option Nat) (ks : List Int) (st : Int → Int) (a : Bool) (e : Ending) (w' : World) : Prop :=
  (reached? ks st a = false ∧ e = .returned (.slice none 0 0) ∧ SafeAt w' s m ks st a ∧ Below w.heap.size w w') ∨
  (reached? ks st a = true ∧ ∃ sp c, e = .returned (.slice sp (kept? [2] ks st).length c) ∧ View w' sp ((kept? [2] ks st).map (Value.int .i64)) ∧ SafeAt w' s m ks (resumeS st) false ∧ Kept (SafeF s m) w w')

theorem resume_nil (w : World) : Calls Try.prog 13 #[.pointer none] w fun e w' => e = .returned (.slice none 0 0) ∧ w = w' := by
  go_enter Try.func13, Try.ntmps13
  go_wp2_with (go_at_call 29; refine (reached_nil w).mono ?_; rintro e w' ⟨rfl, rfl⟩)
  go_ret
  exact ⟨rfl, rfl⟩

theorem put_fold (l : List Int) : ∀ st : Int → Int, l.foldl (fun f t => put? f t 1) st = fun x => if x ∈ l then 1 else st x := by
  induction l with
  | nil => intro st; simp
  | cons t r ih =>
    intro st
    rw [List.foldl_cons, ih]
    funext x
    unfold put?
    by_cases h1 : x ∈ r
    · simp [h1]
    · by_cases h2 : x = t <;> simp [h1, h2]

theorem foldl_take1 {α : Type} (f : α → Int → α) (p : α) (l : List Int) (j : Nat) (h : j < l.length) : (l.take (j + 1)).foldl f p = f ((l.take j).foldl f p) (l.getD j 0) := by
  rw [List.take_add_one, List.foldl_append]
  simp [List.getD, h]

set_option maxHeartbeats 1600000 in
theorem resume_at (w : World) (s : Nat) (m : Option Nat) (ks : List Int) (st : Int → Int) (a : Bool) (h : SafeAt w s m ks st a) (hl : ks.length ≤ 1099511627776) :
    Calls Try.prog 13 #[.pointer (some ⟨s, 0, none⟩)] w (ResumePost w s m ks st a) := by
  have HR := Lib.hid (reached_at w s m ks st a h hl)
  have H := Lib.hid h
  have HL := Lib.hid hl
  have hsl := h.blk.lt
  have hml := h.map.lt
  have HML := Lib.hid hml
  clear h hl hml
  cases hr : reached? ks st a with
  | false =>
    rw [hr] at HR
    have HRF := Lib.hid hr
    clear hr
    go_enter Try.func13, Try.ntmps13
    go_wp2_with (go_at_call 29; refine HR.out.mono ?_; rintro e w1 ⟨rfl, hb⟩; have HB := Lib.hid hb; clear hb)
    go_ret
    exact Or.inl ⟨HRF.out, rfl, H.out.below HB.out hsl HML.out, HB.out⟩
  | true =>
    rw [hr] at HR
    have HRF := Lib.hid hr
    clear hr
    go_enter Try.func13, Try.ntmps13
    go_wp2_with fail
    refine HR.out.mono ?_
    rintro e w1 ⟨rfl, hb⟩
    have h1 := H.out.below hb hsl HML.out
    have f1 := h1.blk.free 1
    have cc1 := h1.blk.cell 1
    have cc0 := h1.blk.cell 0
    simp at cc1 cc0
    have h2 := h1.setA false
    have HB := Lib.hid hb
    have hs1 := hb.size
    have K2 := Lib.hid (show Kept (SafeF s m) w (w1.setCell ⟨s, 1, none⟩ (.bool false)) from (Kept.ofBelow (F := fun b => SafeF s m b) hb (fun k h1 h2 => by omega)).set (p := ⟨s, 1, none⟩) (Or.inl (Or.inl rfl)) _)
    have hz : (w1.setCell ⟨s, 1, none⟩ (.bool false)).heap.size = w1.heap.size := by simp
    have HZ := Lib.hid hz
    have H2 := Lib.hid h2
    clear h1 h2 hb hz
    go_wp2_with fail
    generalize w1.setCell ⟨s, 1, none⟩ (.bool false) = w2 at K2 HZ H2 ⊢
    have HI := Lib.hid (in_at (w2.alloc (.cells #[.int .i64 2] 3)) s m ks st false (H2.out.kept (F := fun _ => False) ((Kept.refl _ w2).alloc _) (fun h => h) (fun _ _ h => h)) (some ⟨w1.heap.size, 0, none⟩) 1 1 [2] (by rw [← HZ.out]; exact View.new w2 [.int .i64 2] _) rfl (by omega) HL.out)
    refine HI.out.mono ?_
    rintro e w3 ⟨sp, c, rfl, hv, hb3⟩
    have hsz : w.heap.size ≤ w2.heap.size := by rw [HZ.out]; exact hs1
    have hb23 : Below w2.heap.size w2 w3 := ((Below.refl w2.heap.size w2).alloc (Nat.le_refl _) _).trans (hb3.mono (by simp))
    have h3 := H2.out.below hb23 (by omega) (fun b hb => by have := HML.out b hb; omega)
    have K3 := Lib.hid (show Kept (SafeF s m) w w3 from K2.out.call (Kept.ofBelow (F := fun b => w2.heap.size ≤ b) hb23 (fun _ _ h => h)) (fun k hk => Or.inr (by omega)))
    have H3 := Lib.hid h3
    have HV := Lib.hid hv
    have hyn : (kept? [2] ks st).length ≤ 1099511627776 := Nat.le_trans (List.length_filter_le _ _) HL.out
    have hymem : ∀ x, x ∈ kept? [2] ks st ↔ st x = 2 := by
      intro x
      rw [kept_one, List.mem_filter]
      constructor
      · rintro ⟨_, h⟩; simpa using h
      · intro h; exact ⟨(H3.out.map.mem x).2 (by omega), by simpa using h⟩
    have HM := Lib.hid hymem
    have c3 := h3.blk.cell 0
    simp at c3
    clear h3 hv hb3 hb23 hymem HR HB HI H2 K2 HZ
    generalize hys : kept? [2] ks st = ys at HV hyn HM ⊢
    have HY := Lib.hid hys
    clear hys
    by_cases hy0 : ys.length = 0
    · obtain rfl : ys = [] := List.eq_nil_of_length_eq_zero hy0
      clear hyn hy0
      go_wp2_with fail
      go_loop [17] (fun i => i = .int .i64 0) (fun _ => 0)
      case atStart => rfl
      case round =>
        subst hrel
        go_wp2_with fail
        go_ret
        refine Or.inr ⟨HRF.out, sp, c, by rw [HY.out]; rfl, by rw [HY.out]; exact View.nil _ _, ?_, K3.out⟩
        have : resumeS st = st := by
          funext x
          unfold resumeS
          rw [if_neg (fun h => by have := (HM.out x).2 h; simp at this)]
        rw [this]; exact H3.out
    · obtain ⟨vb, vo, rfl, hc⟩ := HV.out.at_int (by omega)
      have hx0 : st (ys.getD 0 0) = 2 := (HM.out _).1 (by
        have hl0 : 0 < ys.length := by omega
        simp [List.getD, hl0])
      obtain ⟨b, rfl⟩ := H3.out.there (t := ys.getD 0 0) (by omega)
      have hne : some b ≠ some vb := H3.out.map.cellNe (hc 0 (by omega))
      have hvl : vb < w3.heap.size := cell_lt (hc 0 (by omega))
      have HC := Lib.hid hc
      have hsb : s ≠ b := H3.out.ne b rfl
      clear hc hx0
      go_wp2_with fail
      go_loopw [17] (fun i wr => ∃ j : Nat, j ≤ ys.length ∧ i = .int .i64 j ∧ SafeAt wr s (some b) ks ((ys.take j).foldl (fun f t => put? f t 1) st) false ∧ Kept (fun k => k = b) w3 wr) (fun i _ => ys.length - (RowKit.intOf i).toNat)
      case atStart => exact ⟨0, Nat.zero_le _, rfl, H3.out, Kept.refl _ _⟩
      case round =>
        obtain ⟨j, hj, rfl, hs, hk⟩ := hrel
        by_cases hlt : j < ys.length
        · have hcj := (hk.cell (p := ⟨vb, vo + j, none⟩) hvl (fun e => hne (congrArg some (Eq.symm e)))).trans (HC.out j hlt)
          have hq1 := foldl_take1 (fun f t => put? f t 1) st ys j hlt
          have hm1 : ys.getD j 0 ∈ ks := (H3.out.map.mem _).2 (by rw [(HM.out _).1 (by simp [List.getD, hlt])]; omega)
          generalize ys.getD j 0 = t at hcj hq1 hm1
          obtain ⟨w4, hu, hs4, hk4⟩ := hs.turn (x := t) (v := 1) ((hs.map.mem t).1 hm1) (by unfold In64; omega) (by omega) (by have := HL.out; omega)
          have d0 := hs.blk.cell 0
          simp at d0
          have H4 := Lib.hid (hq1 ▸ hs4)
          have K4 := Lib.hid (hk.call hk4 (fun k e => Or.inl e))
          clear hs hk hs4 hk4 hq1 hm1
          go_wp2_with fail
          go_roundw
          case rel => exact ⟨j + 1, by omega, by go_num, H4.out, K4.out⟩
          case measure => simp [RowKit.intOf]; omega
        · obtain rfl : ys.length = j := by omega
          have hfin : (ys.take ys.length).foldl (fun f t => put? f t 1) st = resumeS st := by
            rw [List.take_length, put_fold]
            funext x
            unfold resumeS
            by_cases hx : st x = 2
            · rw [if_pos ((HM.out x).2 hx), if_pos hx]
            · rw [if_neg (fun h => hx ((HM.out x).1 h)), if_neg hx]
          rw [hfin] at hs
          have H5 := Lib.hid hs
          have V5 := Lib.hid (HV.out.keptBy hk (fun p u hp e => H3.out.map.cellNe hp (congrArg some (Eq.symm e))))
          have K5 := Lib.hid (K3.out.call hk (fun k e => Or.inl (Or.inr (congrArg some (Eq.symm e)))))
          clear hs hk hfin
          go_wp2_with fail
          go_ret
          exact Or.inr ⟨HRF.out, _, c, by rw [HY.out]; rfl, by rw [HY.out]; exact V5.out, H5.out, K5.out⟩
end Go.Proofs.Ytcdedeinbaecpaa
