/- Laws on worlds and blocks that the walks of this seat share. No condition; no program is spoken of. -/
import Derived.WalkKit
import Derived.Maps.AppendAt
import Derived.Deep.QuietTactic
import Derived.BigQuiet
import Derived.Lib.Hide
import Derived.Laws.CopyOwn
import Derived.Laws.AppendOwnNone
import Derived.WalkSpells
namespace Go.Proofs.Ytcdedeinbaecpaa
open Go Go.RowKit

/-- Where a cut begins: at the capacity's end the model keeps the old address. Behind a name, so that the walk does not part on it. -/
def cutAddr (a : Option Addr) (l m s : Nat) : Option Addr := if m = l then a else a.map (·.add (l * s))

theorem Addr.add_zero' (a : Addr) : a.add 0 = a := by unfold Addr.add; cases a; rename_i b o s; cases s <;> simp

@[go_sem] theorem cutAddr_zero (a : Option Addr) (m s : Nat) : cutAddr a 0 m s = a := by
  unfold cutAddr
  split
  · rfl
  · cases a <;> simp [Addr.add_zero']

theorem cutAddr_some {b o l m s : Nat} (h : l < m) : cutAddr (some ⟨b, o, none⟩) l m s = some ⟨b, o + l * s, none⟩ := by
  unfold cutAddr
  rw [if_neg (by omega)]
  simp [Addr.add]

section
variable {P : Program} (w : World) (t : TypeId) (a : Option Addr) (len cap : Nat) (ht : P.underlying t = some (.slice (P.elem t)))
include ht
@[go_sem high] theorem cut_lh (kl kh : IntKind) (l h : Int) (h0 : 0 ≤ l) (h1 : l ≤ h) (h2 : h ≤ cap) :
    (Instr.slice t (.slice a len cap) (some (.int kl l)) (some (.int kh h)) none).run P w =
      ((sizeOf (P.elem t)).run P w).andThen fun s w => .ok (.slice (cutAddr a l.toNat cap s) (h.toNat - l.toNat) (cap - l.toNat)) w := run_slice_lh w t a len cap ht kl kh l h h0 h1 h2
@[go_sem high] theorem cut_l (kl : IntKind) (l : Int) (h0 : 0 ≤ l) (h1 : l ≤ len) :
    (Instr.slice t (.slice a len cap) (some (.int kl l)) none none).run P w =
      ((sizeOf (P.elem t)).run P w).andThen fun s w => .ok (.slice (cutAddr a l.toNat cap s) (len - l.toNat) (cap - l.toNat)) w := run_slice_l w t a len cap ht kl l h0 h1
@[go_sem high] theorem cut_h (kh : IntKind) (h : Int) (h0 : 0 ≤ h) (h2 : h ≤ cap) :
    (Instr.slice t (.slice a len cap) none (some (.int kh h)) none).run P w =
      ((sizeOf (P.elem t)).run P w).andThen fun s w => .ok (.slice (cutAddr a 0 cap s) h.toNat cap) w := by
  rw [run_slice_h w t a len cap ht kh h h0 h2]; rfl
@[go_sem high] theorem cut_lhm (kl kh km : IntKind) (l h m : Int) (h0 : 0 ≤ l) (h1 : l ≤ h) (h2 : h ≤ m) (h3 : m ≤ cap) :
    (Instr.slice t (.slice a len cap) (some (.int kl l)) (some (.int kh h)) (some (.int km m))).run P w =
      ((sizeOf (P.elem t)).run P w).andThen fun s w => .ok (.slice (cutAddr a l.toNat m.toNat s) (h.toNat - l.toNat) (m.toNat - l.toNat)) w := run_slice_lhm w t a len cap ht kl kh km l h m h0 h1 h2 h3
end

/-- What a slice's cells hold, as far as its length goes: of one without elements nothing is said. -/
def View (w : World) (sp : Option Addr) (cs : List Value) : Prop := 0 < cs.length → ∃ b o, sp = some ⟨b, o, none⟩ ∧ ∀ j u, cs[j]? = some u → w.cell? ⟨b, o + j, none⟩ = some u

theorem View.nil (w : World) (sp : Option Addr) : View w sp [] := fun h => absurd h (by simp)

theorem View.same {w w' : World} {sp : Option Addr} {cs : List Value} (h : View w sp cs) (he : ∀ a, w'.cell? a = w.cell? a) : View w' sp cs := fun hp => by
  obtain ⟨b, o, e, hc⟩ := h hp
  exact ⟨b, o, e, fun j u hj => by rw [he]; exact hc j u hj⟩

theorem View.below {w w' : World} {B : Nat} {sp : Option Addr} {cs : List Value} (h : View w sp cs) (hB : ∀ b o, sp = some ⟨b, o, none⟩ → b < B) (hb : Below B w w') : View w' sp cs := fun hp => by
  obtain ⟨b, o, e, hc⟩ := h hp
  exact ⟨b, o, e, fun j u hj => (hb.cell (p := ⟨b, o + j, none⟩) (hB b o e)).trans (hc j u hj)⟩

theorem View.ints {w : World} {b o n : Nat} {zs : List Int} (hz : zs.length = n) (h : ∀ j, j < n → w.cell? ⟨b, o + j, none⟩ = some (.int .i64 (zs.getD j 0))) : View w (some ⟨b, o, none⟩) (zs.map (Value.int .i64)) := fun _ => ⟨b, o, rfl, fun j u hj => by
  have hl : j < n := by
    have := (List.getElem?_eq_some_iff.1 hj).1
    simpa [hz] using this
  rw [h j hl]
  rw [← hj]
  simp [List.getD, show j < zs.length by omega]⟩

theorem View.at_int {w : World} {sp : Option Addr} {zs : List Int} (h : View w sp (zs.map (Value.int .i64))) (hn : 0 < zs.length) : ∃ b o, sp = some ⟨b, o, none⟩ ∧ ∀ j, j < zs.length → w.cell? ⟨b, o + j, none⟩ = some (.int .i64 (zs.getD j 0)) := by
  obtain ⟨b, o, e, hc⟩ := h (by simpa using hn)
  exact ⟨b, o, e, fun j hj => hc j _ (by simp [List.getD, hj])⟩

theorem View.new (w : World) (cs : List Value) (t : TypeId) : View (w.alloc (.cells cs.toArray t)) (some ⟨w.heap.size, 0, none⟩) cs := fun _ => ⟨_, _, rfl, fun j u hj => by
  rw [World.cell?_alloc_at _ _ _ _ rfl]
  simpa using hj⟩

theorem View.drew {w : World} {sp : Option Addr} {cs : List Value} (h : View w sp cs) : View w.drew sp cs := h

/-- Block b is a row of cells, none frozen. -/
def Blk (w : World) (b : Nat) (vs : Array Value) (t : TypeId) : Prop := w.heap[b]? = some (.cells vs t (0, 0))

theorem Blk.lt {w : World} {b : Nat} {vs : Array Value} {t : TypeId} (h : Blk w b vs t) : b < w.heap.size := lt_of_block h

theorem Blk.cell {w : World} {b : Nat} {vs : Array Value} {t : TypeId} (h : Blk w b vs t) (i : Nat) : w.cell? ⟨b, i, none⟩ = vs[i]? := by
  unfold Blk at h; simp [World.cell?, h]

theorem Blk.free {w : World} {b : Nat} {vs : Array Value} {t : TypeId} (h : Blk w b vs t) (i : Nat) : w.frozen? ⟨b, i, none⟩ = false := by
  unfold Blk at h; simp [World.frozen?, h]

theorem Blk.set {w : World} {b : Nat} {vs : Array Value} {t : TypeId} (h : Blk w b vs t) (i : Nat) (u : Value) : Blk (w.setCell ⟨b, i, none⟩ u) b (vs.setIfInBounds i u) t := by
  unfold Blk at *; exact heap_setCell_same w b i vs t u h

theorem Blk.other {w : World} {b : Nat} {vs : Array Value} {t : TypeId} (h : Blk w b vs t) {a : Addr} (hne : b ≠ a.block) (u : Value) : Blk (w.setCell a u) b vs t := by
  unfold Blk at *; rw [Below.heap_setCell _ _ _ _ hne]; exact h

theorem Blk.alloc {w : World} {b : Nat} {vs : Array Value} {t : TypeId} (h : Blk w b vs t) (o : Obj) : Blk (w.alloc o) b vs t := by
  have hl := h.lt
  unfold Blk at *; rw [Below.heap_alloc _ _ _ hl]; exact h

theorem Blk.drew {w : World} {b : Nat} {vs : Array Value} {t : TypeId} (h : Blk w b vs t) : Blk w.drew b vs t := h

theorem Blk.new (w : World) (vs : Array Value) (t : TypeId) : Blk (w.alloc (.cells vs t)) w.heap.size vs t := heap_alloc_new w _

/-- What was there and is not of F is as it was; nothing has gone. -/
structure Kept (F : Nat → Prop) (w w' : World) : Prop where
  os : w'.os = w.os
  tape : w'.tape = w.tape
  output : w'.output = w.output
  size : w.heap.size ≤ w'.heap.size
  block : ∀ k, k < w.heap.size → ¬ F k → w'.heap[k]? = w.heap[k]?

theorem Kept.refl (F : Nat → Prop) (w : World) : Kept F w w := ⟨rfl, rfl, rfl, Nat.le_refl _, fun _ _ _ => rfl⟩
theorem Kept.trans {F : Nat → Prop} {a b c : World} (h : Kept F a b) (k : Kept F b c) : Kept F a c :=
  ⟨k.os.trans h.os, k.tape.trans h.tape, k.output.trans h.output, Nat.le_trans h.size k.size, fun i hi hf => (k.block i (Nat.lt_of_lt_of_le hi h.size) hf).trans (h.block i hi hf)⟩
theorem Kept.mono {F G : Nat → Prop} {w w' : World} (h : Kept F w w') (hfg : ∀ k, k < w.heap.size → F k → G k) : Kept G w w' :=
  ⟨h.os, h.tape, h.output, h.size, fun k hk hg => h.block k hk (fun hf => hg (hfg k hk hf))⟩
theorem Kept.drew {F : Nat → Prop} {a w : World} (h : Kept F a w) : Kept F a w.drew := ⟨h.os, h.tape, h.output, h.size, h.block⟩
theorem Kept.drewN {F : Nat → Prop} {a w : World} (h : Kept F a w) (n : Nat) : Kept F a (w.drewN n) := ⟨h.os, h.tape, h.output, h.size, h.block⟩
theorem Kept.alloc {F : Nat → Prop} {a w : World} (h : Kept F a w) (o : Obj) : Kept F a (w.alloc o) :=
  h.trans ⟨rfl, rfl, rfl, by simp, fun k hk _ => Below.heap_alloc _ _ _ hk⟩
theorem Kept.set {F : Nat → Prop} {a w : World} (h : Kept F a w) {p : Addr} (hp : F p.block ∨ a.heap.size ≤ p.block) (u : Value) : Kept F a (w.setCell p u) :=
  ⟨h.os, h.tape, h.output, by simpa using h.size, fun k hk hf => by
    rw [Below.heap_setCell _ _ _ _ (fun e => by subst e; rcases hp with hp | hp; exact hf hp; omega)]; exact h.block k hk hf⟩
theorem Kept.grown {F : Nat → Prop} {a w w' : World} {row : Option Nat} (h : Kept F a w) (hg : w.grownBy w' row) (hr : ∀ k, row = some k → F k ∨ a.heap.size ≤ k) : Kept F a w' :=
  ⟨hg.os.trans h.os, hg.tape.trans h.tape, hg.output.trans h.output, Nat.le_trans h.size hg.size, fun k hk hf => by
    rw [hg.block k (Nat.lt_of_lt_of_le hk h.size) (fun e => by rcases hr k e.symm with h | h; exact hf h; omega)]; exact h.block k hk hf⟩
/-- A call in the middle: what it may turn is of F, or newer than a. -/
theorem Kept.call {F G : Nat → Prop} {a w w' : World} (h : Kept F a w) (hg : Kept G w w') (hr : ∀ k, G k → F k ∨ a.heap.size ≤ k) : Kept F a w' :=
  ⟨hg.os.trans h.os, hg.tape.trans h.tape, hg.output.trans h.output, Nat.le_trans h.size hg.size, fun k hk hf => by
    rw [hg.block k (Nat.lt_of_lt_of_le hk h.size) (fun e => by rcases hr k e with h | h; exact hf h; omega)]; exact h.block k hk hf⟩
theorem Kept.below {F : Nat → Prop} {w w' : World} (h : Kept F w w') {B : Nat} (hB : B ≤ w.heap.size) (hF : ∀ k, F k → B ≤ k) : Below B w w' :=
  ⟨h.os, h.tape, h.output, h.size, fun k hk => h.block k (by omega) (fun hf => by have := hF k hf; omega)⟩
theorem Kept.ofBelow {F : Nat → Prop} {w w' : World} {B : Nat} (h : Below B w w') (hF : ∀ k, k < w.heap.size → B ≤ k → F k) : Kept F w w' :=
  ⟨h.os, h.tape, h.output, h.size, fun k hk hf => h.block k (by rcases Nat.lt_or_ge k B with h | h; exact h; exact absurd (hF k hk h) hf)⟩
theorem Kept.blk {F : Nat → Prop} {w w' : World} (h : Kept F w w') {b : Nat} {vs : Array Value} {t : TypeId} (hb : Blk w b vs t) (hf : ¬ F b) : Blk w' b vs t := by
  have := h.block b hb.lt hf
  unfold Blk at *; rw [this]; exact hb
theorem Kept.cell {F : Nat → Prop} {w w' : World} (h : Kept F w w') {p : Addr} (hp : p.block < w.heap.size) (hf : ¬ F p.block) : w'.cell? p = w.cell? p := World.cell?_of_block (w := w) (h.block p.block hp hf)
theorem Kept.frozen {F : Nat → Prop} {w w' : World} (h : Kept F w w') {p : Addr} (hp : p.block < w.heap.size) (hf : ¬ F p.block) : w'.frozen? p = w.frozen? p := World.frozen?_of_block (w := w) (h.block p.block hp hf)
theorem Kept.owns {F : Nat → Prop} {w w' : World} (h : Kept F w w') {base : Nat} {e : TypeId} {size : Nat} {v : Value} {n : Nat} {xs : List Value} (ho : w.ownsRow base e size v n xs) (hf : ∀ k, v.ownBlock = some k → ¬ F k) : w'.ownsRow base e size v n xs := by
  obtain ⟨h1, h2⟩ := ho
  refine ⟨h1, ?_⟩
  rcases h2 with h2 | ⟨g, cap, cur, hv, hg, hh, r⟩
  · exact Or.inl h2
  · subst hv
    exact Or.inr ⟨g, cap, cur, rfl, hg, by rw [h.block g (lt_of_block hh) (hf g rfl)]; exact hh, r⟩

/-- An owned slice that is not empty shows what it is. -/
theorem own_shape {w : World} {base : Nat} {e : TypeId} {size : Nat} {v : Value} {n : Nat} {xs : List Value} (h : w.ownsRow base e size v n xs) (hn : 0 < n) :
    ∃ g cap, v = .slice (some ⟨g, 0, none⟩) n cap ∧ base ≤ g ∧ n ≤ cap ∧ cap ≤ 9223372036854775807 := by
  rcases h.2 with ⟨_, h0⟩ | ⟨g, cap, cur, hv, hb, _, h1, h2, _⟩
  · omega
  · exact ⟨g, cap, hv, hb, h1, by simpa [maxLen] using h2⟩

/-- What an append leaves beside the block that it writes. -/
theorem grown_kept {w w' : World} {row : Option Nat} (hg : w.grownBy w' row) {F : Nat → Prop} (hr : ∀ k, row = some k → k < w.heap.size → F k) : Kept F w w' :=
  ⟨hg.os, hg.tape, hg.output, hg.size, fun k hk hf => hg.block k hk (fun e => hf (hr k e.symm hk))⟩

theorem setRow_kept (w : World) (g : Nat) (cs : Array Value) : Kept (fun b => b = g) w (w.setRow g cs) :=
  ⟨rfl, rfl, rfl, by simp [World.setRow], fun k _ hf => setRow_other w g k cs (fun e => hf e)⟩

/-- copy onto a row of which the whole is known; what is copied from may be nothing, at whatever address. -/
theorem wpList_copy_kept {P : Program} {w : World} {ops : Array Oper} {rest : List Oper} {o : Oper} {a : Act} {Q : Exit → Act → World → Prop} (hgd : o.guard = none) (d s : Operand) (dT sT : TypeId)
    (ho : o.op = .call { callee := .builtin .copy, args := #[d, s], argTypes := #[dT, sT] }) (elem : TypeId) (hu : P.underlying dT = some (.slice elem)) (hsz : (P.info? elem).map (·.size) = some 1)
    (dp sp : Option Addr) (dLen dCap sLen sCap : Nat) (hd : a.eval d = .slice dp dLen dCap) (hs : a.eval s = .slice sp sLen sCap)
    (g off : Nat) (cur : List Value) (t : TypeId) (hg : Blk w g cur.toArray t) (cs : List Value) (hn : cs.length = Nat.min sLen dLen)
    (hpos : 0 < cs.length → dp = some ⟨g, off, none⟩ ∧ ∃ ad, sp = some ad ∧ ∀ j v, cs[j]? = some v → w.cell? (ad.add j) = some v)
    (hfit : off + cs.length ≤ cur.length) (h1 : ∀ v ∈ cs, v.oneCell' = true)
    (h : ∀ w', Hid (Blk w' g (cur.take off ++ (cs ++ cur.drop (off + cs.length))).toArray t) → Hid (Kept (fun b => b = g) w w') → w'.heap.size = w.heap.size → wpList P ops Q rest (a.put o.dst (goInt cs.length)) w') :
    wpList P ops Q (o :: rest) a w := by
  by_cases h0 : cs.length = 0
  · obtain rfl : cs = [] := List.eq_nil_of_length_eq_zero h0
    refine wpList_copy_nothing hgd d s dT sT ho elem hu hsz dp sp dLen dCap sLen sCap hd hs (by simpa using hn.symm) ?_
    exact h w (Lib.hid (by simpa using hg)) (Lib.hid (Kept.refl _ _)) rfl
  · obtain ⟨rfl, ad, rfl, hsrc⟩ := hpos (by omega)
    refine wpList_copy_own hgd d s dT sT ho elem hu hsz g off dLen dCap ad sLen sCap hd hs cur.toArray t hg cs hn hsrc (by simpa using hfit) h1 ?_
    exact h _ (Lib.hid (by unfold Blk; simpa using setRow_heap w g _ _ t _ hg)) (Lib.hid (setRow_kept w g _)) (by simp [World.setRow])

/-- append onto a slice that is owned, of whatever slice of one-cell elements. -/
theorem wpList_append_view {P : Program} (w : World) {ops : Array Oper} {rest : List Oper} {o : Oper} {a : Act} {Q : Exit → Act → World → Prop} (hgd : o.guard = none) (s x : Operand) (t : TypeId)
    (ho : o.op = .call { callee := .builtin .append, args := #[s, x], argTypes := #[t, t] })
    (base : Nat) (e : TypeId) (i : TypeInfo) (z : Value) (bytes : Nat) (ht : P.underlying t = some (.slice e)) (hi : P.info? e = some i) (hz : i.zero = some z)
    (hsize : i.size = 1) (hby : i.bytes = bytes) (hzs : z.cells.size = 1)
    (v : Value) (n : Nat) (xs : List Value) (hs : a.eval s = v) (hown : w.ownsRow base e 1 v n xs)
    (sp : Option Addr) (m c : Nat) (news : List Value) (hx : a.eval x = .slice sp m c) (hl : news.length = m) (hv : View w sp news) (hnil : sp = none → m = 0 ∧ c = 0) (h1 : ∀ u ∈ news, u.oneCell' = true)
    (h63 : n + m ≤ maxLen) (hbytes : (n + m) * bytes ≤ 140737488355328) (hbase : base ≤ w.heap.size)
    (h : ∀ v' w', w'.ownsRow base e 1 v' (n + m) (xs ++ news) → w.grownBy w' v.ownBlock → (v'.ownBlock = v.ownBlock ∨ v'.ownBlock = some w.heap.size) → (v' = .slice none 0 0 ↔ v = .slice none 0 0 ∧ m = 0) → wpList P ops Q rest (a.put o.dst v') w') :
    wpList P ops Q (o :: rest) a w := by
  rcases sp with _ | ad
  · obtain ⟨rfl, rfl⟩ := hnil rfl
    obtain rfl : news = [] := List.eq_nil_of_length_eq_zero hl
    refine wpList_append_own_none hgd s x t ho base e i 1 ht hi v n xs hs hown hx ?_
    exact h v w (by simpa using hown) (World.grownBy.refl _ _) (.inl rfl) (by simp)
  · refine wpList_append_own_at w hgd s x t ho base e i z 1 bytes ht hi hz hsize hby hzs (by omega) v n xs hs hown ad m c news hx (by omega) ?_ h1 h63 hbytes hbase (fun v' w' a b c d => h v' w' a b d c)
    intro j u hj
    have hpos : 0 < news.length := by have := (List.getElem?_eq_some_iff.1 hj).1; omega
    obtain ⟨b, off, e, hc⟩ := hv hpos
    cases e
    rw [Addr.add_lit]
    exact hc j u hj

theorem View.later {w w' : World} {sp : Option Addr} {cs : List Value} (h : View w sp cs) (hb : Below w.heap.size w w') : View w' sp cs := fun hp => by
  obtain ⟨b, o, e, hc⟩ := h hp
  refine ⟨b, o, e, fun j u hj => ?_⟩
  have h1 := hc j u hj
  have h2 := World.block_lt_of_cell? w _ h1
  exact (hb.cell (p := ⟨b, o + j, none⟩) h2).trans h1

theorem View.take {w : World} {sp : Option Addr} {cs : List Value} (h : View w sp cs) (n : Nat) : View w sp (cs.take n) := fun hp => by
  have hl : 0 < cs.length := by simp at hp; omega
  obtain ⟨b, o, e, hc⟩ := h hl
  refine ⟨b, o, e, fun j u hj => hc j u ?_⟩
  rw [List.getElem?_take] at hj
  split at hj
  · exact hj
  · cases hj

end Go.Proofs.Ytcdedeinbaecpaa
