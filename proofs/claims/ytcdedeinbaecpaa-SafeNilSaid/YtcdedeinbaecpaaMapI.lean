/- A map of ints to ints, told by its keys (rising) and by what each bears (0: it isn't there): what looking, storing and deleting do. Condition: the map is one so told. -/
import Derived.Test.YtcdedeinbaecpaaProg
import Derived.Test.YtcdedeinbaecpaaBase
import Derived.Maps.OwnSet
import Derived.Lib.SlKeysI
namespace Go.Proofs.Ytcdedeinbaecpaa
open Go Go.RowKit Go.Maps

/-- The map m (a nil one too) holds the keys ks, rising, each with st of it. -/
structure StAt (w : World) (m : Option Nat) (ks : List Int) (st : Int → Int) : Prop where
  up : ks.Pairwise (· < ·)
  mem : ∀ x, x ∈ ks ↔ st x ≠ 0
  own : (m = none ∧ ks = []) ∨ ∃ (b : Nat) (D : DataW Unit), m = some b ∧ w.ownsMap Try.prog 3 (plainElem Try.prog 3) b ks.length D ∧ ∀ x, has D (.int .i64 x) = decide (st x ≠ 0) ∧ D.atKey (.int .i64 x) (.lit (.int .i64 0)) = .lit (.int .i64 (st x))

def put? (st : Int → Int) (x v : Int) : Int → Int := fun y => if y = x then v else st y

/-- x among rising keys. -/
def insK (x : Int) (ks : List Int) : List Int := ks.filter (· < x) ++ x :: ks.filter (x < ·)

theorem insK_mem (x : Int) (ks : List Int) (y : Int) : y ∈ insK x ks ↔ y = x ∨ y ∈ ks := by
  unfold insK
  simp only [List.mem_append, List.mem_cons, List.mem_filter, decide_eq_true_eq]
  constructor
  · rintro (h | h | h)
    · exact Or.inr h.1
    · exact Or.inl h
    · exact Or.inr h.1
  · rintro (h | h)
    · exact Or.inr (Or.inl h)
    · rcases Int.lt_trichotomy y x with h1 | h1 | h1
      · exact Or.inl ⟨h, h1⟩
      · exact Or.inr (Or.inl h1)
      · exact Or.inr (Or.inr ⟨h, h1⟩)

theorem insK_up (x : Int) (ks : List Int) (h : ks.Pairwise (· < ·)) : (insK x ks).Pairwise (· < ·) := by
  unfold insK
  refine List.pairwise_append.2 ⟨h.filter _, List.pairwise_cons.2 ⟨fun y hy => by simpa using (List.mem_filter.1 hy).2, h.filter _⟩, ?_⟩
  intro a ha b hb
  have h1 : a < x := by simpa using (List.mem_filter.1 ha).2
  rcases List.mem_cons.1 hb with rfl | hb
  · exact h1
  · have h2 : x < b := by simpa using (List.mem_filter.1 hb).2
    omega

theorem up_nodup {ks : List Int} (h : ks.Pairwise (· < ·)) : ks.Nodup := h.imp (fun h => by omega)

/-- Rising lists of the same numbers are the same. -/
theorem up_ext {a b : List Int} (ha : a.Pairwise (· < ·)) (hb : b.Pairwise (· < ·)) (h : ∀ x, x ∈ a ↔ x ∈ b) : a = b :=
  List.Perm.eq_of_pairwise (le := fun x y : Int => x < y) (fun x y _ _ h1 h2 => by omega) ha hb ((List.perm_ext_iff_of_nodup (up_nodup ha) (up_nodup hb)).2 h)

theorem insK_there {x : Int} {ks : List Int} (h : ks.Pairwise (· < ·)) (hx : x ∈ ks) : insK x ks = ks :=
  up_ext (insK_up x ks h) h (fun y => by rw [insK_mem]; constructor; rintro (rfl | h); exact hx; exact h; exact Or.inr)

theorem insK_len {x : Int} {ks : List Int} (h : ks.Pairwise (· < ·)) (hx : x ∉ ks) : (insK x ks).length = ks.length + 1 := by
  have hp : (insK x ks).Perm (x :: ks) := (List.perm_ext_iff_of_nodup (up_nodup (insK_up x ks h)) (List.nodup_cons.2 ⟨hx, up_nodup h⟩)).2 (fun y => by rw [insK_mem, List.mem_cons])
  simpa using hp.length_eq

theorem own_tight {P : Program} {k : TypeId} {R : Value → Option (DataW Unit × List MemPlace)} {w : World} {b n m : Nat} {D : DataW Unit} (h : w.ownsMap P k R b n D) (hm : size D ≤ m) : w.ownsMap P k R b m D := by
  obtain ⟨es, clock, hb, F, hs, rfl⟩ := h
  exact ⟨es, clock, hb, F, by simpa [Maps.size, length_sorted] using hm, rfl⟩

def In64 (x : Int) : Prop := -9223372036854775808 ≤ x ∧ x < 9223372036854775808

theorem wf64 {x : Int} (h : In64 x) : (Lit.int .i64 x).wf = true := by
  obtain ⟨h1, h2⟩ := h
  simp [Lit.wf, IntKind.min, IntKind.max, IntKind.signed, IntKind.bits]
  omega

theorem keyed : Keyed Try.prog 3 := int_keyed Try.underlying3

section
variable {w : World} {m : Option Nat} {ks : List Int} {st : Int → Int}

theorem StAt.nil (w : World) : StAt w none [] (fun _ => 0) := ⟨List.Pairwise.nil, by simp, Or.inl ⟨rfl, rfl⟩⟩

theorem StAt.made (w : World) : StAt (w.alloc (.map #[] 0)) (some w.heap.size) [] (fun _ => 0) :=
  ⟨List.Pairwise.nil, by simp, Or.inr ⟨_, _, rfl, World.ownsMap_made w _ _ _, fun x => ⟨by simp [has], rfl⟩⟩⟩

theorem StAt.lt (h : StAt w m ks st) : ∀ b, m = some b → b < w.heap.size := by
  intro b hb
  rcases h.own with ⟨h1, _⟩ | ⟨b', D, h1, h2, _⟩
  · rw [h1] at hb; cases hb
  · rw [h1] at hb; cases hb; exact h2.lt

theorem StAt.notCells (h : StAt w m ks st) {b : Nat} (hb : m = some b) {vs : Array Value} {t : TypeId} {s : Nat} (hs : Blk w s vs t) : s ≠ b := by
  rintro rfl
  rcases h.own with ⟨h1, _⟩ | ⟨b', D, h1, ⟨es, cl, h2, _⟩, _⟩
  · rw [h1] at hb; cases hb
  · rw [h1] at hb; cases hb
    unfold Blk at hs
    rw [h2] at hs; cases hs

theorem StAt.kept {F : Nat → Prop} {w' : World} (h : StAt w m ks st) (hk : Kept F w w') (hf : ∀ b, m = some b → ¬ F b) : StAt w' m ks st := by
  refine ⟨h.up, h.mem, ?_⟩
  rcases h.own with h1 | ⟨b, D, rfl, ⟨es, cl, h2, h3⟩, h4⟩
  · exact Or.inl h1
  · refine Or.inr ⟨b, D, rfl, ⟨es, cl, ?_, h3⟩, h4⟩
    rw [hk.block b (Array.getElem?_eq_some_iff.1 h2).1 (hf b rfl)]; exact h2

theorem StAt.set (h : StAt w m ks st) {a : Addr} {vs : Array Value} {t : TypeId} (hs : Blk w a.block vs t) (u : Value) : StAt (w.setCell a u) m ks st :=
  h.kept (F := fun b => b = a.block) ((Kept.refl (fun b => b = a.block) w).set (p := a) (Or.inl rfl) u) (fun _ hb e => h.notCells hb hs e.symm)

theorem StAt.alloc (h : StAt w m ks st) (o : Obj) : StAt (w.alloc o) m ks st :=
  h.kept (F := fun _ => False) ((Kept.refl _ w).alloc o) (fun _ _ h => h)

theorem StAt.val (h : StAt w m ks st) (x : Int) : (Lit.int .i64 (st x)).wf = true := by
  by_cases h0 : st x = 0
  · rw [h0]; decide
  · rcases h.own with ⟨_, h1⟩ | ⟨b, D, rfl, h2, h3⟩
    · exact absurd ((h.mem x).2 h0) (by rw [h1]; simp)
    · obtain ⟨es, cl, hb, F, hs, rfl⟩ := h2
      have hat := (h3 x).2
      by_cases hw : (Lit.int .i64 x).wf = true
      · obtain ⟨c, _, hc, hwc⟩ := World.ownsMap.lookup_int (q := .i64) (t := 47) (e := 3) ⟨es, cl, hb, F, hs, rfl⟩ keyed Try.underlying47 Try.underlying3 (by kernel_rfl) (keyOf_int_mk Try.underlying3 hw)
        rw [hat] at hc
        simp only [DataW.lit.injEq, Lit.int.injEq, true_and] at hc
        rw [hc]; exact hwc
      · exfalso
        have hh := (h3 x).1
        have hwx := intKeys_wf (k := 3) (P := Try.prog) (w := w) ⟨es, cl, hb, F, hs, rfl⟩ Try.underlying3 x
        refine hw (hwx ?_)
        have hc : CollectedI (DataW.map ((es.toList.map (WideElems.rg Try.prog 3 (plainElem Try.prog 3))).foldr DataW.insert [])) (fun _ => false) ks := ⟨up_nodup h.up, fun y => by rw [(h3 y).1, h.mem y]; simp⟩
        exact (hc.perm (k := 3) (P := Try.prog) (w := w) ⟨es, cl, hb, F, hs, rfl⟩ keyed Try.underlying3 (fun _ => rfl)).mem_iff.1 ((h.mem x).2 h0)

theorem StAt.look (h : StAt w m ks st) {x : Int} (hx : In64 x) : (Instr.lookup 47 (.map m) (.int .i64 x) false).run Try.prog w = .ok (.int .i64 (st x)) w := by
  rcases h.own with ⟨rfl, h1⟩ | ⟨b, D, rfl, h2, h3⟩
  · have h0 : st x = 0 := by
      by_cases h0 : st x = 0
      · exact h0
      · exact absurd ((h.mem x).2 h0) (by rw [h1]; simp)
    rw [h0]
    exact look_nil false keyed Try.underlying47 (by kernel_rfl) (keyOf_int_mk Try.underlying3 (wf64 hx))
  · obtain ⟨c, hr, hc, _⟩ := h2.lookup_int (q := .i64) (t := 47) (e := 3) keyed Try.underlying47 Try.underlying3 (by kernel_rfl) (keyOf_int_mk Try.underlying3 (wf64 hx))
    rw [(h3 x).2] at hc
    simp only [DataW.lit.injEq, Lit.int.injEq, true_and] at hc
    rw [hc]; exact hr

theorem StAt.look2 (h : StAt w m ks st) {x : Int} (hx : In64 x) : (Instr.lookup 47 (.map m) (.int .i64 x) true).run Try.prog w = .ok (.tuple #[.int .i64 (st x), .bool (decide (st x ≠ 0))]) w := by
  rcases h.own with ⟨rfl, h1⟩ | ⟨b, D, rfl, h2, h3⟩
  · have h0 : st x = 0 := by
      by_cases h0 : st x = 0
      · exact h0
      · exact absurd ((h.mem x).2 h0) (by rw [h1]; simp)
    rw [h0]
    exact look_nil true keyed Try.underlying47 (by kernel_rfl) (keyOf_int_mk Try.underlying3 (wf64 hx))
  · obtain ⟨v, ps, hr, hv⟩ := h2.look_ok (t := 47) (e := 3) keyed Try.underlying47 (z := .int .i64 0) (by kernel_rfl) (plainElem_int Try.underlying3 (by decide)) (keyOf_int_mk Try.underlying3 (wf64 hx))
    obtain ⟨c, rfl, hc, _⟩ := plainElem_int_inv Try.underlying3 hv
    have hc := congrArg Prod.fst hc
    simp only at hc
    rw [(h3 x).2] at hc
    simp only [DataW.lit.injEq, Lit.int.injEq, true_and] at hc
    rw [← (h3 x).1, hc]; exact hr

theorem size_le {D : DataW Unit} {b n : Nat} (h2 : w.ownsMap Try.prog 3 (plainElem Try.prog 3) b n D) {ks : List Int} {st : Int → Int} (hn : ks.Nodup) (hm : ∀ x, x ∈ ks ↔ st x ≠ 0) (h3 : ∀ x, has D (.int .i64 x) = decide (st x ≠ 0)) : size D = ks.length := by
  have hc : CollectedI D (fun _ => false) ks := ⟨hn, fun y => by rw [h3 y, hm y]; simp⟩
  have := (hc.perm h2 keyed Try.underlying3 (fun _ => rfl)).length_eq
  rw [this]
  obtain ⟨es, rfl⟩ := h2.isMap
  simp [Maps.size, intKeys]

theorem StAt.store {b : Nat} (h : StAt w (some b) ks st) {x v : Int} (hx : In64 x) (hv : In64 v) (h0 : v ≠ 0) (hl : ks.length < 9223372036854775807) :
    ∃ w', (Instr.mapUpdate 47 (.map (some b)) (.int .i64 x) (.int .i64 v)).run Try.prog w = .ok () w' ∧ StAt w' (some b) (insK x ks) (put? st x v) ∧ Kept (fun k => k = b) w w' := by
  rcases h.own with ⟨h1, _⟩ | ⟨b', D, e, h2, h3⟩
  · cases h1
  · cases e
    obtain ⟨w', hr, hn, ht⟩ := h2.store (t := 47) (e := 3) keyed Try.underlying47 (by unfold maxLen; omega) (keyOf_int_mk Try.underlying3 (wf64 hx)) (plainElem_int Try.underlying3 (wf64 hv))
    have hu := insK_up x ks h.up
    have hm : ∀ y, y ∈ insK x ks ↔ put? st x v y ≠ 0 := by
      intro y
      rw [insK_mem, h.mem y]
      unfold put?
      by_cases e : y = x <;> simp [e, h0]
    have hh : ∀ y, has (D.put (.int .i64 x) (.lit (.int .i64 v))) (.int .i64 y) = decide (put? st x v y ≠ 0) := by
      intro y
      unfold put?
      by_cases e : y = x
      · subst e; rw [has_put_same h2.isMap (show WideAt.IsKeyLit (.int .i64 y) from trivial)]; simp [h0]
      · rw [has_put_other (by simpa using e), (h3 y).1]; simp [e]
    refine ⟨w', hr, ⟨hu, hm, Or.inr ⟨b, _, rfl, own_tight hn (Nat.le_of_eq (size_le hn (up_nodup hu) hm hh)), fun y => ⟨hh y, ?_⟩⟩⟩, ?_⟩
    · unfold put?
      by_cases e : y = x
      · subst e; rw [atKey_put_same h2.isMap (show WideAt.IsKeyLit (.int .i64 y) from trivial)]; simp
      · rw [atKey_put_other (by simpa using e), (h3 y).2]; simp [e]
    · exact (Kept.refl _ w).grown ht.grown (by intro k hk; cases hk; exact Or.inl rfl)

theorem StAt.drop (h : StAt w m ks st) {x : Int} (hx : In64 x) (ty : TypeId) :
    ∃ w', (Builtin.delete_ #[47, 3] ty #[.map m, .int .i64 x]).run Try.prog w = .ok (.tuple #[]) w' ∧ StAt w' m (ks.filter (· != x)) (put? st x 0) ∧ Kept (fun k => m = some k) w w' := by
  have hu : (ks.filter (· != x)).Pairwise (· < ·) := h.up.filter _
  have hm : ∀ y, y ∈ ks.filter (· != x) ↔ put? st x 0 y ≠ 0 := by
    intro y
    rw [List.mem_filter, h.mem y]
    unfold put?
    by_cases e : y = x <;> simp [e]
  rcases h.own with ⟨rfl, h1⟩ | ⟨b, D, rfl, h2, h3⟩
  · exact ⟨w, drop_nil keyed Try.underlying47 (keyOf_int_mk Try.underlying3 (wf64 hx)) ty, ⟨hu, hm, Or.inl ⟨rfl, by rw [h1]; rfl⟩⟩, Kept.refl _ w⟩
  · obtain ⟨w', hr, hn, ht⟩ := h2.drop (t := 47) (e := 3) keyed Try.underlying47 (keyOf_int_mk Try.underlying3 (wf64 hx)) ty
    have hh : ∀ y, has (D.del (.int .i64 x)) (.int .i64 y) = decide (put? st x 0 y ≠ 0) := by
      intro y
      unfold put?
      by_cases e : y = x
      · subst e; rw [has_del_same]; simp
      · rw [has_del_other (by simpa using e), (h3 y).1]; simp [e]
    refine ⟨w', hr, ⟨hu, hm, Or.inr ⟨b, _, rfl, own_tight hn (Nat.le_of_eq (size_le hn (up_nodup hu) hm hh)), fun y => ⟨hh y, ?_⟩⟩⟩, ?_⟩
    · unfold put?
      by_cases e : y = x
      · subst e; rw [atKey_del_same]; simp
      · rw [atKey_del_other (by simpa using e), (h3 y).2]; simp [e]
    · exact (Kept.refl _ w).grown ht.grown (by intro k hk; cases hk; exact Or.inl rfl)

/-- The keys, sorted: they are ks. -/
theorem StAt.sorted {b : Nat} (h : StAt w (some b) ks st) : ∃ D : DataW Unit, w.ownsMap Try.prog 3 (plainElem Try.prog 3) b ks.length D ∧ size D = ks.length ∧ ∀ ss : List Int, ss.Perm (intKeys D) → ss.length = ks.length ∧ (ss.mergeSort fun x y => decide (x ≤ y)) = ks := by
  rcases h.own with ⟨h1, _⟩ | ⟨b', D, e, h2, h3⟩
  · cases h1
  · cases e
    have hc : CollectedI D (fun _ => false) ks := ⟨up_nodup h.up, fun y => by rw [(h3 y).1, h.mem y]; simp⟩
    have hp := hc.perm h2 keyed Try.underlying3 (fun _ => rfl)
    refine ⟨D, h2, size_le h2 (up_nodup h.up) h.mem (fun y => (h3 y).1), fun ss hs => ⟨(hs.trans hp.symm).length_eq, ?_⟩⟩
    rw [show (ss.mergeSort fun x y => decide (x ≤ y)) = ks.mergeSort leI from mergeSort_of_perm_i (hs.trans hp.symm)]
    exact List.mergeSort_of_pairwise (h.up.imp (fun h => by simp only [leI, decide_eq_true_eq]; omega))

theorem StAt.small (h : StAt w m ks st) {x : Int} (hx : x ∈ ks) : In64 x := by
  rcases h.own with ⟨_, h1⟩ | ⟨b, D, rfl, h2, h3⟩
  · rw [h1] at hx; cases hx
  · have hc : CollectedI D (fun _ => false) ks := ⟨up_nodup h.up, fun y => by rw [(h3 y).1, h.mem y]; simp⟩
    have hp := hc.perm h2 keyed Try.underlying3 (fun _ => rfl)
    have := intKeys_wf h2 Try.underlying3 x (hp.mem_iff.1 hx)
    simp [Lit.wf, IntKind.min, IntKind.max, IntKind.signed, IntKind.bits] at this
    unfold In64
    omega
end
end Go.Proofs.Ytcdedeinbaecpaa
