/- The walks of Add and End of a safepoint, with their closures and count. Condition: the safepoint is one told by SafeAt (or nil); the threads are in range; there is room for them. -/
import Derived.Test.YtcdedeinbaecpaaSafeP
import Derived.Test.YtcdedeinbaecpaaSlices
namespace Go.Proofs.Ytcdedeinbaecpaa
open Go Go.RowKit

theorem cell_lt {w : World} {p : Addr} {u : Value} (h : w.cell? p = some u) : p.block < w.heap.size := by
  unfold World.cell? at h
  cases hb : w.heap[p.block]? with
  | none => simp [hb] at h
  | some o => exact (Array.getElem?_eq_some_iff.1 hb).1

theorem StAt.cellNe {w : World} {m : Option Nat} {ks : List Int} {st : Int → Int} (h : StAt w m ks st) {p : Addr} {u : Value} (hp : w.cell? p = some u) : m ≠ some p.block := by
  rintro rfl
  rcases h.own with ⟨h1, _⟩ | ⟨b', D, h1, ⟨es, cl, h2, _⟩, _⟩
  · cases h1
  · cases h1
    simp [World.cell?, h2] at hp

/-- One thread added. -/
def addS (a : Bool) (st : Int → Int) (t : Int) : Int → Int := if st t = 0 then put? st t (if a then 2 else 1) else st

def AddOnePost (w : World) (s : Nat) (b : Nat) (ks : List Int) (st : Int → Int) (a : Bool) (t : Int) (e : Ending) (w' : World) : Prop :=
  e = .returned (.bool (decide (st t = 0))) ∧ SafeAt w' s (some b) (insK t ks) (addS a st t) a ∧ Kept (fun k => k = b) w w'

set_option maxHeartbeats 1600000 in
theorem add_one (w : World) (s b : Nat) (ks : List Int) (st : Int → Int) (a : Bool) (h : SafeAt w s (some b) ks st a) (bx : Nat) (hb : w.cell? ⟨bx, 0, none⟩ = some (.pointer (some ⟨s, 0, none⟩))) (t : Int) (ht : In64 t) (hl : ks.length < 9223372036854775807) :
    Calls Try.prog 32 #[.int .i64 t, .pointer (some ⟨bx, 0, none⟩)] w (AddOnePost w s b ks st a t) := by
  have hk2 := h.map.look2 ht
  have c0 := h.blk.cell 0
  simp at c0
  by_cases h0 : st t = 0
  · have HR := Lib.hid (running_at w.drew s _ ks st a h.drew)
    obtain ⟨w1, hu, hs, hk⟩ := h.drew.store (x := t) (v := if a then 2 else 1) ht (by unfold In64; split <;> omega) (by split <;> omega) hl
    rw [h0] at hk2
    have HS := Lib.hid hs
    have HK := Lib.hid hk
    have H1 := Lib.hid h0
    clear h h0 hs hk
    generalize hv : (if a then (2 : Int) else 1) = v at HR hu
    have HV := Lib.hid hv
    clear hv
    go_enter Try.func32, Try.ntmps32
    go_wp2_with fail
    go_region_with (go_at_call 33; refine HR.out.mono ?_; rintro e w' ⟨rfl, rfl⟩)
    all_goals
      go_wp2_with fail
      go_ret
      have h1 := H1.out
      exact ⟨by simp [h1], by unfold addS; rw [if_pos h1]; exact HS.out, ((Kept.refl (fun k => k = b) w).drew).call HK.out (fun k e => Or.inl e)⟩
  · have hm := insK_there h.map.up ((h.map.mem t).2 h0)
    have HM := Lib.hid hm
    have H := Lib.hid h
    have H0 := Lib.hid h0
    have hd : decide (st t ≠ 0) = true := by simp [h0]
    rw [hd] at hk2
    clear h h0 hm hd
    generalize hx : st t = x at hk2
    have HX := Lib.hid hx
    clear hx
    go_enter Try.func32, Try.ntmps32
    go_wp2_with fail
    go_ret
    have h0 := H0.out
    exact ⟨by simp [h0], by rw [HM.out]; unfold addS; rw [if_neg h0]; exact H.out, Kept.refl _ _⟩

def EndOnePost (w : World) (s : Nat) (m : Option Nat) (ks : List Int) (st : Int → Int) (a : Bool) (t : Int) (e : Ending) (w' : World) : Prop :=
  e = .returned (.bool (decide (st t ≠ 0))) ∧ SafeAt w' s m (ks.filter (· != t)) (put? st t 0) a ∧ Kept (fun k => m = some k) w w'

theorem put_same {st : Int → Int} {t : Int} (h : st t = 0) : put? st t 0 = st := by
  funext y
  unfold put?
  split
  · rename_i e; rw [e, h]
  · rfl

theorem filter_same {ks : List Int} {t : Int} (h : t ∉ ks) : ks.filter (· != t) = ks :=
  List.filter_eq_self.2 (fun x hx => by simp; rintro rfl; exact h hx)

theorem wpList_delete_st {P : Program} (w w1 : World) {ops : Array Oper} {rest : List Oper} {o : Oper} {a : Act} {Q : Exit → Act → World → Prop} (hg : o.guard = none) (m x : Operand) (t k : TypeId)
    (hop : o.op = Op.call { callee := Callee.builtin Builtin.delete, args := #[m, x], argTypes := #[t, k] }) (mv key : Value) (hm : a.eval m = mv) (hx : a.eval x = key)
    (hd : ∀ ty, (Builtin.delete_ #[t, k] ty #[mv, key]).run P w = .ok (.tuple #[]) w1) (hK : wpList P ops Q rest (a.put o.dst (.tuple #[])) w1) : wpList P ops Q (o :: rest) a w := by
  refine wpList_plain hg fun K' hK' => ?_
  unfold Oper.wp
  simp [execOp, hop, resolve, invoke, builtin, hm, hx, hd, Result.andThen]
  exact hK' _ _ hK

set_option maxHeartbeats 1600000 in
theorem end_one (w : World) (s : Nat) (m : Option Nat) (ks : List Int) (st : Int → Int) (a : Bool) (h : SafeAt w s m ks st a) (bx : Nat) (hb : w.cell? ⟨bx, 0, none⟩ = some (.pointer (some ⟨s, 0, none⟩))) (t : Int) (ht : In64 t) :
    Calls Try.prog 40 #[.int .i64 t, .pointer (some ⟨bx, 0, none⟩)] w (EndOnePost w s m ks st a t) := by
  have HT := Lib.hid (state_at w s m ks st a h t ht)
  have c0 := h.blk.cell 0
  simp at c0
  by_cases h0 : st t = 0
  · have hf := filter_same (fun hm => ((h.map.mem t).1 hm) h0)
    have HF := Lib.hid hf
    have H := Lib.hid h
    have H0 := Lib.hid h0
    rw [h0] at HT
    clear h h0 hf
    go_enter Try.func40, Try.ntmps40
    go_wp2_with (go_at_call 27; refine HT.out.mono ?_; rintro e w' ⟨rfl, rfl⟩)
    go_ret
    have h0 := H0.out
    exact ⟨by simp [h0], by rw [HF.out, put_same h0]; exact H.out, Kept.refl _ _⟩
  · have hr : ∃ w1, (∀ ty, (Builtin.delete_ #[47, 3] ty #[.map m, .int .i64 t]).run Try.prog w = .ok (.tuple #[]) w1) ∧ StAt w1 m (ks.filter (· != t)) (put? st t 0) ∧ Kept (fun k => m = some k) w w1 := by
      obtain ⟨w1, hu, hs, hk⟩ := h.map.drop (x := t) ht 0
      exact ⟨w1, fun ty => hu, hs, hk⟩
    obtain ⟨w1, hu, hs, hk⟩ := hr
    have HS := Lib.hid (show SafeAt w1 s m (ks.filter (· != t)) (put? st t 0) a from ⟨hk.blk h.blk (fun e => h.ne s e rfl), hs⟩)
    have HK := Lib.hid hk
    have H0 := Lib.hid h0
    have HU := Lib.hid hu
    clear h hs hk hu
    generalize hx : st t = x at HT h0
    have HX := Lib.hid hx
    clear hx
    go_enter Try.func40, Try.ntmps40
    go_wp2_with (first | (go_at_call 27; refine HT.out.mono ?_; rintro e w' ⟨rfl, rfl⟩) | (at_delete; refine wpList_delete_st _ w1 rfl _ _ 47 3 rfl _ _ rfl rfl HU.out ?_))
    go_ret
    have h0 := H0.out
    exact ⟨by rw [decide_eq_true h0]; rfl, HS.out, HK.out⟩

theorem end_one_nil (w : World) (bx : Nat) (hb : w.cell? ⟨bx, 0, none⟩ = some (.pointer none)) (t : Int) :
    Calls Try.prog 40 #[.int .i64 t, .pointer (some ⟨bx, 0, none⟩)] w fun e w' => e = .returned (.bool false) ∧ w = w' := by
  go_enter Try.func40, Try.ntmps40
  go_wp2_with (go_at_call 27; refine (state_nil w t).mono ?_; rintro e w' ⟨rfl, rfl⟩)
  go_ret
  exact ⟨rfl, rfl⟩

/-- Keys, states, how many were counted. -/
abbrev Run := List Int × (Int → Int) × Nat
def addStep (a : Bool) (p : Run) (t : Int) : Run := (insK t p.1, addS a p.2.1 t, p.2.2 + if p.2.1 t = 0 then 1 else 0)
def endStep (p : Run) (t : Int) : Run := (p.1.filter (· != t), put? p.2.1 t 0, p.2.2 + if p.2.1 t = 0 then 0 else 1)

theorem insK_le (t : Int) (ks : List Int) : (insK t ks).length ≤ ks.length + 1 := by
  unfold insK
  have h1 := List.length_filter_le (fun x => decide (x < t)) ks
  have : ((ks.filter (· < t)).length + (ks.filter (t < ·)).length) ≤ ks.length := by
    clear h1
    induction ks with
    | nil => simp
    | cons x r ih => simp only [List.filter_cons, List.length_cons]; split <;> split <;> simp_all <;> omega
  simp
  omega

theorem addAll_len (a : Bool) (l : List Int) : ∀ p : Run, (l.foldl (addStep a) p).1.length ≤ p.1.length + l.length ∧ (l.foldl (addStep a) p).2.2 ≤ p.2.2 + l.length := by
  induction l with
  | nil => intro p; simp
  | cons t r ih =>
    intro p
    have := ih (addStep a p t)
    have h1 := insK_le t p.1
    have h2 : (addStep a p t).2.2 ≤ p.2.2 + 1 := by unfold addStep; simp only; split <;> omega
    have h3 : (addStep a p t).1.length = (insK t p.1).length := rfl
    simp only [List.foldl_cons, List.length_cons]
    omega

theorem endAll_len (l : List Int) : ∀ p : Run, (l.foldl endStep p).2.2 ≤ p.2.2 + l.length := by
  induction l with
  | nil => intro p; simp
  | cons t r ih =>
    intro p
    have := ih (endStep p t)
    have h2 : (endStep p t).2.2 ≤ p.2.2 + 1 := by unfold endStep; simp only; split <;> omega
    simp only [List.foldl_cons, List.length_cons]
    omega

theorem fold_take {α : Type} (f : α → Int → α) (p : α) (l : List Int) (j : Nat) (h : j < l.length) : (l.take (j + 1)).foldl f p = f ((l.take j).foldl f p) (l.getD j 0) := by
  rw [List.take_add_one, List.foldl_append]
  simp [List.getD, h]

theorem View.keptBy {F : Nat → Prop} {w w' : World} {sp : Option Addr} {cs : List Value} (h : View w sp cs) (hk : Kept F w w') (hf : ∀ (p : Addr) u, w.cell? p = some u → ¬ F p.block) : View w' sp cs := fun hp => by
  obtain ⟨b, o, e, hc⟩ := h hp
  refine ⟨b, o, e, fun j u hj => ?_⟩
  have hcj := hc j u hj
  rw [hk.cell (p := ⟨b, o + j, none⟩) (cell_lt hcj) (hf _ _ hcj)]
  exact hcj

/-! ### count, with the closure of Add -/
def CountAddPost (w : World) (s : Nat) (b : Nat) (p : Run) (a : Bool) (ls : List Int) (e : Ending) (w' : World) : Prop :=
  e = .returned (.int .i64 (ls.foldl (addStep a) (p.1, p.2.1, 0)).2.2) ∧ SafeAt w' s (some b) (ls.foldl (addStep a) (p.1, p.2.1, 0)).1 (ls.foldl (addStep a) (p.1, p.2.1, 0)).2.1 a ∧ Kept (fun k => k = b) w w'

set_option maxHeartbeats 3200000 in
theorem count_Add (w : World) (s : Nat) (b : Nat) (p : Run) (a : Bool) (h : SafeAt w s (some b) p.1 p.2.1 a) (bx : Nat) (hb : w.cell? ⟨bx, 0, none⟩ = some (.pointer (some ⟨s, 0, none⟩)))
    (sp : Option Addr) (n c : Nat) (ls : List Int) (hn : ls.length = n) (hv : View w sp (ls.map (Value.int .i64))) (hin : ∀ x ∈ ls, In64 x) (hroom : p.1.length + n < 4611686018427387904) :
    Calls Try.prog 31 #[.slice sp n c, .func (.func 32) #[] #[.pointer (some ⟨bx, 0, none⟩)]] w (CountAddPost w s b p a ls) := by
  by_cases h0 : n = 0
  · subst h0
    obtain rfl : ls = [] := List.eq_nil_of_length_eq_zero hn
    have H := Lib.hid h
    clear h hv hin hroom
    go_enter Try.func31, Try.ntmps31
    go_wp2_with fail
    go_loop [5, 10] (fun x i => x = .int .i64 0 ∧ i = .int .i64 0) (fun _ _ => 0)
    case atStart => exact ⟨rfl, rfl⟩
    case round =>
      obtain ⟨rfl, rfl⟩ := hrel
      go_wp2_with fail
      go_ret
      exact ⟨rfl, H.out, Kept.refl _ _⟩
  · obtain ⟨vb, vo, rfl, hc⟩ := hv.at_int (by omega)
    have H := Lib.hid h
    have HN := Lib.hid hn
    have HI := Lib.hid hin
    have HC := Lib.hid hc
    have HR := Lib.hid hroom
    have hne : (some b) ≠ some vb := h.map.cellNe (hc 0 (by omega))
    have hvl : vb < w.heap.size := cell_lt (hc 0 (by omega))
    have hnb : (some b) ≠ some bx := h.map.cellNe hb
    have hbl : bx < w.heap.size := cell_lt hb
    have hsm : n < 4611686018427387904 := by omega
    have HB := Lib.hid hb
    clear h hn hin hc hv hb
    go_enter Try.func31, Try.ntmps31
    go_wp2_with fail
    go_loopw [5, 10] (fun x i wr => ∃ j : Nat, j ≤ n ∧ i = .int .i64 j ∧ ∃ q : Run, q = (ls.take j).foldl (addStep a) (p.1, p.2.1, 0) ∧ x = .int .i64 q.2.2 ∧ SafeAt wr s (some b) q.1 q.2.1 a ∧ Kept (fun k => k = b) w wr) (fun _ i _ => n - (RowKit.intOf i).toNat)
    case atStart => exact ⟨0, Nat.zero_le _, rfl, _, rfl, rfl, H.out, Kept.refl _ _⟩
    case round =>
      obtain ⟨j, hj, rfl, q, hq, rfl, hs, hk⟩ := hrel
      by_cases hlt : j < n
      · have hcj := (hk.cell (p := ⟨vb, vo + j, none⟩) hvl (fun e => hne (congrArg some (Eq.symm e)))).trans (HC.out j (by have := HN.out; omega))
        have hbj := (hk.cell (p := ⟨bx, 0, none⟩) hbl (fun e => hnb (congrArg some (Eq.symm e)))).trans HB.out
        have hq1 := fold_take (addStep a) (p.1, p.2.1, 0) ls j (by have := HN.out; omega)
        rw [← hq] at hq1
        have hti : In64 (ls.getD j 0) := by
          have hl : j < ls.length := by have := HN.out; omega
          have := HI.out (ls[j]) (List.getElem_mem hl)
          simpa [List.getD, hl] using this
        have hqn : q.2.2 ≤ j ∧ q.1.length ≤ p.1.length + j := by
          rw [hq]
          have h1 := addAll_len a (ls.take j) (p.1, p.2.1, 0)
          simp only [List.length_take] at h1
          omega
        generalize ls.getD j 0 = t at hcj hq1 hti
        have HK := Lib.hid hk
        have HQ := Lib.hid hq1
        have HONE := Lib.hid (add_one wr s b q.1 q.2.1 a hs bx hbj t hti (by omega))
        clear hk hq hq1 hs hti hroom
        obtain ⟨qk, qs, qn⟩ := q
        simp only at hqn HONE HQ
        go_wp2_with (go_at_call 32; refine HONE.out.mono ?_; rintro e w1 ⟨rfl, hs1, hk1⟩; have HS1 := Lib.hid hs1; have HK1 := Lib.hid hk1; clear hs1 hk1)
        all_goals
          have hs1 := HS1.out
          have hk1 := HK1.out
          go_roundw
          case rel => exact ⟨j + 1, by omega, by go_num, _, HQ.out.symm, by (first | (simp only [addStep, if_pos ‹qs t = 0›]; go_num) | (simp only [addStep, if_neg ‹¬ qs t = 0›]; go_num)), hs1, HK.out.call hk1 (fun k e => Or.inl e)⟩
          case measure => simp [RowKit.intOf]; omega
      · obtain rfl : n = j := by omega
        have HK := Lib.hid hk
        have HS := Lib.hid hs
        have HQ := Lib.hid hq
        clear hk hs hq
        go_wp2_with fail
        go_ret
        have hq := HQ.out
        rw [List.take_of_length_le (by rw [HN.out]; exact Nat.le_refl _)] at hq
        exact ⟨by rw [← hq]; rfl, by rw [← hq]; exact HS.out, HK.out⟩

theorem endAll_le (l : List Int) : ∀ p : Run, (l.foldl endStep p).1.length ≤ p.1.length := by
  induction l with
  | nil => intro p; simp
  | cons t r ih =>
    intro p
    have h1 := ih (endStep p t)
    have h2 : (endStep p t).1.length ≤ p.1.length := List.length_filter_le _ _
    simp only [List.foldl_cons]
    omega

/-! ### count, with the closure of End -/
def CountEndPost (w : World) (s : Nat) (m : Option Nat) (p : Run) (a : Bool) (ls : List Int) (e : Ending) (w' : World) : Prop :=
  e = .returned (.int .i64 (ls.foldl endStep (p.1, p.2.1, 0)).2.2) ∧ SafeAt w' s m (ls.foldl endStep (p.1, p.2.1, 0)).1 (ls.foldl endStep (p.1, p.2.1, 0)).2.1 a ∧ Kept (fun k => m = some k) w w'

set_option maxHeartbeats 3200000 in
theorem count_End (w : World) (s : Nat) (m : Option Nat) (p : Run) (a : Bool) (h : SafeAt w s m p.1 p.2.1 a) (bx : Nat) (hb : w.cell? ⟨bx, 0, none⟩ = some (.pointer (some ⟨s, 0, none⟩)))
    (sp : Option Addr) (n c : Nat) (ls : List Int) (hn : ls.length = n) (hv : View w sp (ls.map (Value.int .i64))) (hin : ∀ x ∈ ls, In64 x) (hroom : p.1.length + n < 4611686018427387904) :
    Calls Try.prog 31 #[.slice sp n c, .func (.func 40) #[] #[.pointer (some ⟨bx, 0, none⟩)]] w (CountEndPost w s m p a ls) := by
  by_cases h0 : n = 0
  · subst h0
    obtain rfl : ls = [] := List.eq_nil_of_length_eq_zero hn
    have H := Lib.hid h
    clear h hv hin hroom
    go_enter Try.func31, Try.ntmps31
    go_wp2_with fail
    go_loop [5, 10] (fun x i => x = .int .i64 0 ∧ i = .int .i64 0) (fun _ _ => 0)
    case atStart => exact ⟨rfl, rfl⟩
    case round =>
      obtain ⟨rfl, rfl⟩ := hrel
      go_wp2_with fail
      go_ret
      exact ⟨rfl, H.out, Kept.refl _ _⟩
  · obtain ⟨vb, vo, rfl, hc⟩ := hv.at_int (by omega)
    have H := Lib.hid h
    have HN := Lib.hid hn
    have HI := Lib.hid hin
    have HC := Lib.hid hc
    have HR := Lib.hid hroom
    have hne : m ≠ some vb := h.map.cellNe (hc 0 (by omega))
    have hvl : vb < w.heap.size := cell_lt (hc 0 (by omega))
    have hnb : m ≠ some bx := h.map.cellNe hb
    have hbl : bx < w.heap.size := cell_lt hb
    have hsm : n < 4611686018427387904 := by omega
    have HB := Lib.hid hb
    clear h hn hin hc hv hb
    go_enter Try.func31, Try.ntmps31
    go_wp2_with fail
    go_loopw [5, 10] (fun x i wr => ∃ j : Nat, j ≤ n ∧ i = .int .i64 j ∧ ∃ q : Run, q = (ls.take j).foldl endStep (p.1, p.2.1, 0) ∧ x = .int .i64 q.2.2 ∧ SafeAt wr s m q.1 q.2.1 a ∧ Kept (fun k => m = some k) w wr) (fun _ i _ => n - (RowKit.intOf i).toNat)
    case atStart => exact ⟨0, Nat.zero_le _, rfl, _, rfl, rfl, H.out, Kept.refl _ _⟩
    case round =>
      obtain ⟨j, hj, rfl, q, hq, rfl, hs, hk⟩ := hrel
      by_cases hlt : j < n
      · have hcj := (hk.cell (p := ⟨vb, vo + j, none⟩) hvl (fun e => hne e)).trans (HC.out j (by have := HN.out; omega))
        have hbj := (hk.cell (p := ⟨bx, 0, none⟩) hbl (fun e => hnb e)).trans HB.out
        have hq1 := fold_take endStep (p.1, p.2.1, 0) ls j (by have := HN.out; omega)
        rw [← hq] at hq1
        have hti : In64 (ls.getD j 0) := by
          have hl : j < ls.length := by have := HN.out; omega
          have := HI.out (ls[j]) (List.getElem_mem hl)
          simpa [List.getD, hl] using this
        have hqn : q.2.2 ≤ j ∧ q.1.length ≤ p.1.length + j := by
          rw [hq]
          have h1 := endAll_len (ls.take j) (p.1, p.2.1, 0)
          have h2 := endAll_le (ls.take j) (p.1, p.2.1, 0)
          simp only [List.length_take] at h1 h2
          omega
        generalize ls.getD j 0 = t at hcj hq1 hti
        have HK := Lib.hid hk
        have HQ := Lib.hid hq1
        have HONE := Lib.hid (end_one wr s m q.1 q.2.1 a hs bx hbj t hti)
        clear hk hq hq1 hs hti hroom
        obtain ⟨qk, qs, qn⟩ := q
        simp only at hqn HONE HQ
        go_wp2_with (go_at_call 40; refine HONE.out.mono ?_; rintro e w1 ⟨rfl, hs1, hk1⟩; have HS1 := Lib.hid hs1; have HK1 := Lib.hid hk1; clear hs1 hk1)
        all_goals
          have hs1 := HS1.out
          have hk1 := HK1.out
          go_roundw
          case rel => exact ⟨j + 1, by omega, by go_num, _, HQ.out.symm, by (first | (simp only [endStep, if_neg (show ¬ qs t = 0 by simpa using ‹(!decide (qs t = 0)) = true›)]; go_num) | (simp only [endStep, if_pos (show qs t = 0 by simpa using ‹(!decide (qs t = 0)) = false›)]; go_num)), hs1, HK.out.call hk1 (fun k e => Or.inl e)⟩
          case measure => simp [RowKit.intOf]; omega
      · obtain rfl : n = j := by omega
        have HK := Lib.hid hk
        have HS := Lib.hid hs
        have HQ := Lib.hid hq
        clear hk hs hq
        go_wp2_with fail
        go_ret
        have hq := HQ.out
        rw [List.take_of_length_le (by rw [HN.out]; exact Nat.le_refl _)] at hq
        exact ⟨by rw [← hq]; rfl, by rw [← hq]; exact HS.out, HK.out⟩
end Go.Proofs.Ytcdedeinbaecpaa
