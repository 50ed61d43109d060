/- The walks of cells.New, Len, Add, Put (one word), Words (one word). Conditions: the memory as CellsAt says. -/
import Derived.Test.YtpbbngdhljiedaaSlices
import Derived.WalkSpells
import Derived.Lib.MinMax
namespace Go.Proofs.Ytpbbngdhljiedaa
open Go Go.RowKit

/-- Memory as it lies at a: its words in block wb, n of them; st accesses so far. -/
structure CellsAt (w : World) (a wb n : Nat) (ws : List Int) (st : Int) : Prop where
  blk : Blk w a #[.slice (some ⟨wb, 0, none⟩) n n, .int .i64 st] 61
  row : Blk w wb (ws.map (Value.int .i64)).toArray 2
  ne : wb ≠ a
  len : ws.length = n
  small : n ≤ 65536

theorem CellsAt.cells {w : World} {a wb n : Nat} {ws : List Int} {st : Int} (h : CellsAt w a wb n ws st) (j : Nat) (hj : j < n) : w.cell? ⟨wb, j, none⟩ = some (.int .i64 (ws.getD j 0)) := by
  rw [h.row.cell j]
  have := h.len
  simp [List.getD, show j < ws.length by omega]

theorem CellsAt.kept {F : Nat → Prop} {w w' : World} {a wb n : Nat} {ws : List Int} {st : Int} (h : CellsAt w a wb n ws st) (hk : Kept F w w') (ha : ¬ F a) (hs : ¬ F wb) : CellsAt w' a wb n ws st :=
  ⟨hk.blk h.blk ha, hk.blk h.row hs, h.ne, h.len, h.small⟩

theorem CellsAt.drew {w : World} {a wb n : Nat} {ws : List Int} {st : Int} (h : CellsAt w a wb n ws st) : CellsAt w.drew a wb n ws st := ⟨h.blk, h.row, h.ne, h.len, h.small⟩
theorem CellsAt.drewN {w : World} {a wb n : Nat} {ws : List Int} {st : Int} (h : CellsAt w a wb n ws st) (m : Nat) : CellsAt (w.drewN m) a wb n ws st := ⟨h.blk, h.row, h.ne, h.len, h.small⟩
theorem CellsAt.alloc {w : World} {a wb n : Nat} {ws : List Int} {st : Int} (h : CellsAt w a wb n ws st) (o : Obj) : CellsAt (w.alloc o) a wb n ws st := ⟨h.blk.alloc o, h.row.alloc o, h.ne, h.len, h.small⟩
theorem CellsAt.set {w : World} {a wb n : Nat} {ws : List Int} {st : Int} (h : CellsAt w a wb n ws st) (j : Nat) (x : Int) : CellsAt (w.setCell ⟨wb, j, none⟩ (.int .i64 x)) a wb n (ws.set j x) st :=
  ⟨h.blk.other (fun e => h.ne e.symm) _, by have := h.row.set j (.int .i64 x); rw [List.map_set]; simpa using this, h.ne, by simpa using h.len, h.small⟩
theorem CellsAt.tick {w : World} {a wb n : Nat} {ws : List Int} {st : Int} (h : CellsAt w a wb n ws st) (x : Int) : CellsAt (w.setCell ⟨a, 1, none⟩ (.int .i64 x)) a wb n ws x :=
  ⟨by simpa using h.blk.set 1 (.int .i64 x), h.row.other h.ne _, h.ne, h.len, h.small⟩

theorem Try.infoI64 : (Try.prog.info? 2).map (fun i => (i.zero, i.size, i.bytes)) = some (some (.int .i64 0), 1, 8) := by kernel_rfl

def CellsNewPost (n : Nat) (w : World) (e : Ending) (w' : World) : Prop :=
  ∃ a wb, e = .returned (.pointer (some ⟨a, 0, none⟩)) ∧ CellsAt w' a wb n (List.replicate n 0) 0 ∧ Below w.heap.size w w' ∧ w.heap.size ≤ a ∧ w.heap.size ≤ wb

-- New of a number of words within the limit. -/
set_option maxRecDepth 100000 in
theorem cells_new (n : Nat) (w : World) (h2 : n ≤ 65536) : Calls Try.prog 13 #[.int .i64 n] w (CellsNewPost n w) := by
  obtain ⟨i0, hi, hz0, hz1, hz2⟩ := info_parts Try.infoI64
  go_enter Try.func13, Try.ntmps13
  have m1 : max (n : Int) 0 = n := by omega
  have m2 : min (n : Int) 65536 = n := by omega
  go_wp2_with (at_make; refine wpList_make_full _ rfl _ _ 54 rfl w.heap.size 2 i0 (.int .i64 0) 1 Try.underlying54 hi hz0 hz1 .i64 .i64 n n n rfl rfl rfl rfl (by rw [hz2]; omega) (by unfold maxLen; omega) (Nat.le_refl _) ?_)
  intro w1 hown hg
  have hb1 : Blk w1 w.heap.size ((List.replicate n (0 : Int)).map (Value.int .i64)).toArray 2 := by
    rcases hown.2 with ⟨e, _⟩ | ⟨g, cap, cur, e, _, hb, _, _, hs, ht⟩
    · cases e
    · cases e
      unfold Blk
      rw [hb]
      have : cur = ((List.replicate n (0 : Int)).map (Value.int .i64)).toArray := by
        apply Array.toList_inj.1
        rw [toList_madeCells_one] at ht
        rw [List.take_of_length_le (by rw [Array.length_toList, hs]; omega)] at ht
        simp [ht]
      rw [this]
  have hbel : Below w.heap.size w w1 := (Below.refl _ _).grown hg (Nat.le_refl _) (by simp)
  have hl := hb1.lt
  have HB := Lib.hid hb1
  clear hb1 hown hg
  go_wp2
  go_ret
  exact ⟨_, _, rfl, ⟨Blk.new _ _ _, HB.out.alloc _, by omega, by simp, h2⟩, hbel.alloc hbel.size _, by omega, Nat.le_refl _⟩

theorem cells_len_nil (w : World) : Calls Try.prog 22 #[.pointer none] w fun e w' => e = .returned (.int .i64 0) ∧ w = w' := by
  go_enter Try.func22, Try.ntmps22
  go_wp2
  go_ret
  exact ⟨rfl, rfl⟩

theorem cells_len (w : World) (a wb n : Nat) (ws : List Int) (st : Int) (h : CellsAt w a wb n ws st) : Calls Try.prog 22 #[.pointer (some ⟨a, 0, none⟩)] w fun e w' => e = .returned (.int .i64 n) ∧ w = w' := by
  have c0 := h.blk.cell 0
  simp at c0
  clear h
  go_enter Try.func22, Try.ntmps22
  go_wp2
  go_ret
  exact ⟨rfl, rfl⟩

def AddPost (a wb n : Nat) (ws : List Int) (st : Int) (at_ : Nat) (by_ : Int) (w : World) (e : Ending) (w' : World) : Prop :=
  e = .returned (.tuple #[.int .i64 (ws.getD at_ 0), .int .i64 0]) ∧ CellsAt w' a wb n (ws.set at_ (wrap64 (ws.getD at_ 0 + by_))) (wrap64 (st + 1)) ∧ Kept (fun b => b = a ∨ b = wb) w w'

theorem atomic_add (w : World) (a : Addr) (x y : Int) (hc : w.cell? a = some (.int .i64 x)) (hz : w.frozen? a = false) :
    Calls Try.prog 38 #[.pointer (some a), .int .i64 y] w fun e w' => e = .returned (.int .i64 (wrap64 (x + y))) ∧ w' = w.setCell a (.int .i64 (wrap64 (x + y))) := by
  have hadd := run_call_add (P := Try.prog) Try.func50 (by kernel_rfl) (by kernel_rfl) (by kernel_rfl) .i64 (by kernel_rfl) (y := y) (s := wrap64 (x + y)) hc hz (by simp [go_sem, wrap64, IntKind.wrap_i64])
  go_enter Try.func38, Try.ntmps38
  go_wp2
  go_ret
  exact ⟨rfl, rfl⟩

theorem change_add (w : World) (xb : Nat) (p : Addr) (o y x : Int) (hx : Blk w xb #[.int .i64 o, .int .i64 x] 71) (hc : w.cell? p = some (.int .i64 y)) (hz : w.frozen? p = false) (hne : p.block ≠ xb) :
    Calls Try.prog 33 #[.pointer (some ⟨xb, 0, none⟩), .pointer (some p)] w fun e w' => e = .returned (.tuple #[]) ∧ w' = ((w.setCell ⟨xb, 0, none⟩ (.int .i64 y)).setCell p (.int .i64 (wrap64 (y + x)))).drew := by
  have c0 := hx.cell 0
  have c1 := hx.cell 1
  have f0 := fun j => hx.free j
  simp at c0 c1
  have d1 : (w.setCell ⟨xb, 0, none⟩ (.int .i64 y)).cell? p = some (.int .i64 y) := by rw [World.cell?_setCell_other _ _ _ _ (fun e => hne (by rw [← e]))]; exact hc
  have d2 : (w.setCell ⟨xb, 0, none⟩ (.int .i64 y)).cell? ⟨xb, 1, none⟩ = some (.int .i64 x) := by rw [World.cell?_setCell_other _ _ _ _ (by simp)]; exact c1
  clear hx
  go_enter Try.func33, Try.ntmps33
  go_wp2
  go_region
  go_wp2
  go_end0
  exact ⟨rfl, rfl⟩

set_option maxHeartbeats 1600000 in
theorem cells_add (w : World) (a wb n : Nat) (ws : List Int) (st : Int) (h : CellsAt w a wb n ws st) (k : Nat) (hk : k < n) (x : Int) :
    Calls Try.prog 23 #[.pointer (some ⟨a, 0, none⟩), .int .i64 k, .int .i64 x] w (AddPost a wb n ws st k x w) := by
  have c0 := h.blk.cell 0
  have c1 := h.blk.cell 1
  have ck := h.cells k hk
  have f0 := fun j => h.blk.free j
  have f1 := fun j => h.row.free j
  simp at c0 c1
  have hs := h.small
  have hne := h.ne
  have hA := Lib.hid h
  have ha := h.blk.lt
  have hwb := h.row.lt
  clear h
  generalize hx : ws.getD k 0 = y at ck
  have HX := Lib.hid hx
  clear hx
  go_enter Try.func23, Try.ntmps23
  go_wp2_with fail
  go_in
  go_wp2_with fail
  refine (atomic_add _ ⟨a, 1, none⟩ st 1 ?_ ?_).mono ?_
  · rw [World.cell?_alloc_past _ _ _ ha]; exact c1
  · rw [World.frozen?_alloc_past _ _ _ ha]; exact f0 1
  rintro e w' ⟨rfl, rfl⟩
  go_wp2_with fail
  refine (change_add _ _ ⟨wb, k, none⟩ 0 y x (by have := Blk.new (w.setCell ⟨a, 1, none⟩ (.int .i64 (wrap64 (st + 1)))) #[.int .i64 0, .int .i64 x] 71; simpa using this) ?_ ?_ ?_).mono ?_
  · rw [World.cell?_alloc_past _ _ _ (by simpa using hwb), World.cell?_setCell_other _ _ _ _ (by simp)]; exact ck
  · rw [World.frozen?_alloc_past _ _ _ (by simpa using hwb), World.frozen?_setCell]; exact f1 k
  · simp; omega
  rintro e w' ⟨rfl, rfl⟩
  go_wp2_with fail
  go_ret2
  refine ⟨by rw [HX.out]; rfl, ?_, ?_⟩
  · rw [HX.out]
    exact (((hA.out.tick _).set k _).alloc _).drew
  · exact ((((Kept.refl _ w).set (.inl (.inl rfl)) _).set (.inl (.inr rfl)) _).alloc _).drew

/-- What Put leaves of the words. -/
def putAt (ws : List Int) (k : Nat) (ls : List Int) : List Int := ws.take k ++ (ls ++ ws.drop (k + ls.length))

theorem putAt_one (ws : List Int) (k : Nat) (x : Int) (h : k < ws.length) : putAt ws k [x] = ws.set k x := by
  unfold putAt
  rw [List.set_eq_take_append_cons_drop, if_pos h]
  simp

def PutPost (a wb n : Nat) (ws : List Int) (st : Int) (k : Nat) (ls : List Int) (w : World) (e : Ending) (w' : World) : Prop :=
  e = .returned (.int .i64 0) ∧ CellsAt w' a wb n (putAt ws k ls) st ∧ Kept (fun b => b = wb) w w'

set_option maxHeartbeats 1600000 in
theorem cells_put (w : World) (a wb n : Nat) (ws : List Int) (st : Int) (h : CellsAt w a wb n ws st) (k : Nat) (sp : Option Addr) (m c : Nat) (ls : List Int) (hk : k + m ≤ n) (hl : ls.length = m)
    (hsp : View w sp (ls.map (Value.int .i64))) :
    Calls Try.prog 30 #[.pointer (some ⟨a, 0, none⟩), .int .i64 k, .slice sp m c] w (PutPost a wb n ws st k ls w) := by
  have c0 := h.blk.cell 0
  simp at c0
  have hs := h.small
  have hne := h.ne
  have hA := Lib.hid h
  have hS := Lib.hid hsp
  have hL := Lib.hid hl
  clear h hsp hl
  have t1 : ¬ (n : Int) < k := by omega
  have t3 : k ≤ n := by omega
  have t4 : (k : Int) ≤ n := by omega
  have t2 : ¬ (n : Int) - k < m := by omega
  go_enter Try.func30, Try.ntmps30
  go_wp2_with (with_reducible refine wpList_copy_kept rfl (.tmp 39) (.tmp 40) 54 54 rfl 2 Try.underlying54 (by kernel_rfl) _ _ _ _ _ _ rfl rfl wb k (ws.map (Value.int .i64)) 2 hA.out.row (ls.map (Value.int .i64)) ?h1 ?h2 ?h3 (ints_oneCell _ _) ?h4)
  case h1 => rw [hL.out]; exact (Nat.min_eq_left (by omega)).symm
  case h2 =>
    intro hp
    obtain ⟨b, o, e, hc⟩ := hS.out (by simpa using hp)
    have := hL.out
    exact ⟨by rw [cutAddr_some (by omega)]; simp, ⟨b, o, none⟩, e, fun j v hj => by rw [Addr.add_lit]; exact hc j (.int .i64 v) (by simp [hj])⟩
  case h3 => have := hA.out.len; have := hL.out; simp; omega
  intro w1 hb hk1 hz
  go_wp2
  go_ret
  refine ⟨rfl, ⟨hk1.out.blk hA.out.blk (fun e => hne e.symm), ?_, hne, ?_, hs⟩, hk1.out⟩
  · have := hb.out
    simpa [putAt] using this
  · have := hA.out.len; have := hL.out; simp [putAt]; omega

/-- What Clone leaves of a slice that is not nil. -/
def ClonePost (e : TypeId) (n : Nat) (cs : List Value) (w : World) (en : Ending) (w' : World) : Prop :=
  ∃ v', en = .returned v' ∧ w'.ownsRow w.heap.size e 1 v' n cs ∧ v' ≠ .slice none 0 0 ∧ Below w.heap.size w w'

set_option maxHeartbeats 800000 in
theorem clone_i64 (b o n c : Nat) (cs : List Value) (w : World) (hl : cs.length = n) (hbig : n * 8 ≤ 140737488355328) (hv : View w (some ⟨b, o, none⟩) cs) (h1 : ∀ u ∈ cs, u.oneCell' = true) :
    Calls Try.prog 37 #[.slice (some ⟨b, o, none⟩) n c] w (ClonePost 2 n cs w) := by
  obtain ⟨i0, hi, hz0, hz1, hz2⟩ := info_parts Try.infoI64
  have q22 : ∀ (w : World) (a : Option Addr) (n c n' c' : Nat), (binOp .eql 54 (.slice a n c) (.slice none n' c')).run Try.prog w = .ok (.bool a.isNone) w := fun w a n c n' c' => Lib.run_eql_slice_nil w _ _ a n c n' c' Try.underlying54
  have HV := Lib.hid (show View (w.alloc (.cells #[] 2)) (some ⟨b, o, none⟩) cs from fun hp => by
    obtain ⟨b', o', e, hc⟩ := hv hp
    cases e
    exact ⟨b, o, rfl, fun j u hj => Lib.cell?_alloc_some _ (hc j u hj)⟩)
  have HL := Lib.hid hl
  have H1 := Lib.hid h1
  clear hv hl h1
  go_enter Try.func37, Try.ntmps37
  go_wp2_with (at_builtin; refine wpList_append_view _ rfl _ _ 54 rfl w.heap.size 2 i0 (.int .i64 0) 8 Try.underlying54 hi hz0 hz1 hz2 rfl _ _ _ rfl (World.ownsRow_made w #[] 0 (Nat.le_refl _) (Nat.zero_le _) rfl) (some ⟨b, o, none⟩) n c cs rfl HL.out HV.out (by intro h; cases h) H1.out ?q4 ?q5 ?q6 ?_)
  case q4 => unfold maxLen; omega
  case q5 => omega
  case q6 => simp
  intro v' w1 hown hgrow _ hnil
  go_wp2
  go_ret
  refine ⟨v', rfl, by simpa using hown, ?_, ?_⟩
  · simpa using hnil
  · exact ((Below.refl _ w).alloc (Nat.le_refl _) _).grown hgrow (by simp) (by intro k hk; simp [Value.ownBlock] at hk; omega)

/-- Words of a stretch that is not empty. -/
theorem cells_words (w : World) (a wb n : Nat) (ws : List Int) (st : Int) (h : CellsAt w a wb n ws st) (k m : Nat) (hk : k < m) (hm : m ≤ n) :
    Calls Try.prog 31 #[.pointer (some ⟨a, 0, none⟩), .int .i64 k, .int .i64 m] w (ClonePost 2 (m - k) (((ws.drop k).take (m - k)).map (Value.int .i64)) w) := by
  have c0 := h.blk.cell 0
  simp at c0
  have hs := h.small
  have HLen := Lib.hid (cells_len w a wb n ws st h)
  have m1 : max (k : Int) 0 = k := by omega
  have m2 : min (m : Int) n = m := by omega
  have m3 : ¬ (m : Int) ≤ k := by omega
  have hcl := Lib.hid (clone_i64 wb k (m - k) (n - k) (((ws.drop k).take (m - k)).map (Value.int .i64)) w (by have := h.len; simp; omega) (by omega) (fun _ => ⟨wb, k, rfl, fun j u hj => by
    rw [h.row.cell (k + j)]
    have hl := (List.getElem?_eq_some_iff.1 hj).1
    have hln := h.len
    simp at hl hj
    rw [List.getElem?_take, if_pos (by omega)] at hj
    simp
    simpa using hj⟩) (ints_oneCell _ _))
  clear h
  have k1 : k ≤ m := by omega
  have ca : cutAddr (some ⟨wb, 0, none⟩) k n 1 = some ⟨wb, k, none⟩ := by rw [cutAddr_some (by omega)]; simp
  go_enter Try.func31, Try.ntmps31
  go_wp2_with (go_at_call 22; refine HLen.out.mono ?_; rintro e w' ⟨rfl, rfl⟩)
  refine hcl.out.mono ?_
  rintro e w' ⟨v', rfl, hr⟩
  go_wp2
  go_ret
  exact ⟨v', rfl, hr⟩

end Go.Proofs.Ytpbbngdhljiedaa
