/- The walk of ballastlaw10.GangSplit: it answers true, at any number and any picks; nothing that was there is turned. -/
import Derived.Test.YtpbbngdhljiedaaAwake10
import Derived.Deep.DeepCutAuto
import Derived.Deep.CutBlock
import Derived.Test.YtpbbngdhljiedaaOpen
namespace Go.Proofs.Ytpbbngdhljiedaa
open Go Go.RowKit

/-- A local array: zeros from c on. -/
structure Had (w : World) (hb c : Nat) (h : List Int) : Prop where
  blk : Blk w hb (h.map (Value.int .i64)).toArray 38
  len : h.length = 101
  zero : ∀ j, c ≤ j → j < 101 → h.getD j 0 = 0

theorem Had.lt {w : World} {hb c : Nat} {h : List Int} (hh : Had w hb c h) : hb < w.heap.size := hh.blk.lt
theorem Had.kept {F : Nat → Prop} {w w' : World} {hb c : Nat} {h : List Int} (hh : Had w hb c h) (hk : Kept F w w') (hf : ¬ F hb) : Had w' hb c h := ⟨hk.blk hh.blk hf, hh.len, hh.zero⟩
theorem Had.mono {w : World} {hb c c' : Nat} {h : List Int} (hh : Had w hb c h) (hc : c ≤ c') : Had w hb c' h := ⟨hh.blk, hh.len, fun j h1 h2 => hh.zero j (by omega) h2⟩
theorem Had.set {w : World} {hb c : Nat} {h : List Int} (hh : Had w hb c h) (x : Int) : Had (w.setCell ⟨hb, c, none⟩ (.int .i64 x)) hb (c + 1) (h.set c x) :=
  ⟨by have := hh.blk.set c (.int .i64 x); rw [List.map_set]; simpa using this, by simpa using hh.len, fun j h1 h2 => by
    have := hh.zero j (by omega) h2
    simpa [List.getD, List.getElem?_set, show c ≠ j by omega] using this⟩
theorem Had.cell {w : World} {hb c : Nat} {h : List Int} (hh : Had w hb c h) (hc : c < 101) : w.cell? ⟨hb, c, none⟩ = some (.int .i64 0) := by
  rw [hh.blk.cell c]
  have h1 := hh.zero c (Nat.le_refl _) hc
  have h2 := hh.len
  simp [List.getD, show c < h.length by omega] at h1
  simp [show c < h.length by omega, h1]

def zerosA (n : Nat) : Array Value := ((List.replicate n (0 : Int)).map (Value.int .i64)).toArray

theorem Had.new (w : World) : Had (w.alloc (.cells (zerosA 101) 38)) w.heap.size 0 (List.replicate 101 0) :=
  ⟨Blk.new _ _ _, List.length_replicate, fun j _ _ => zeros_getD 101 j⟩

theorem zero_101 (w : World) : (zeroValue 38).run Try.prog w = .ok (.agg (zerosA 101)) w := by kernel_rfl

/-- What holds of the share, its memory and the array behind c takings. -/
def SplitAt (W wr : World) (s ca wb hb n c : Nat) : Prop :=
  ∃ st h, ShareAt wr s ca 0 n ∧ CellsAt wr ca wb 1 [(c : Int)] st ∧ Had wr hb c h ∧ Below W.heap.size W wr

theorem split_store {W w : World} {s ca wb hb n c : Nat} {st : Int} {h : List Int} (hS : ShareAt w s ca 0 n) (hC : CellsAt w ca wb 1 [((c + 1 : Nat) : Int)] st) (hH : Had w hb c h) (hB : Below W.heap.size W w)
    (h1 : ca < hb) (h2 : wb < hb) (h3 : s < hb) (h4 : W.heap.size ≤ hb) (x : Int) : SplitAt W (w.setCell ⟨hb, c, none⟩ (.int .i64 x)) s ca wb hb n (c + 1) :=
  ⟨st, _, Blk.other hS (by simp; omega) _, hC.kept ((Kept.refl (fun b => b = hb) w).set (.inl rfl) _) (by omega) (by omega), hH.set x, hB.setCell h4 _⟩

theorem pick_pos (x : Int) : ∃ y : Int, bits .and .i64 x 3 = y ∧ 0 ≤ y ∧ y ≤ 3 := by
  refine ⟨_, rfl, ?_⟩
  simp only [bits, BitVec.toNat_and]
  have h : ((BitVec.ofInt IntKind.i64.bits x).toNat &&& (BitVec.ofInt IntKind.i64.bits 3).toNat) ≤ 3 := Nat.le_trans Nat.and_le_right (by decide)
  rw [IntKind.wrap_i64]
  omega

set_option maxHeartbeats 3200000 in
set_option maxRecDepth 100000 in
theorem split_walk (a0 : Int) (sp : Option Addr) (len cap : Nat) (zs : List Int) (w : World) (hz : zs.length = len) (hbig : len ≤ 9223372036854775807) (hv : View w sp (zs.map (Value.int .i64))) :
    Calls Try.prog 4 #[.int .i64 a0, .slice sp len cap] w (TrueBelow w) := by
  have hb := tmod_bd a0 101 (by omega)
  obtain ⟨n, hn⟩ : ∃ n : Nat, n = (a0.tmod 101).natAbs := ⟨_, rfl⟩
  have hn1 : n ≤ 100 := by omega
  have hr1 : -100 ≤ a0.tmod 101 := by omega
  have hr2 : a0.tmod 101 ≤ 100 := by omega
  have HN := Lib.hid hn
  have HV := Lib.hid hv
  have HZ := Lib.hid hz
  clear hn hv hz hb
  have hz101 := zero_101
  go_enter Try.func4, Try.ntmps4
  go_wp2_with fail
  refine (awake_true w).mono ?_
  rintro e w1 ⟨rfl, hb⟩
  have B1 := Lib.hid hb
  clear hb
  go_upto_if 21 with (fail)
  go_cut [6] (fun v wx => v = .int .i64 (n : Int) ∧ wx = w1)
  case first =>
    go_wp2_with fail
    all_goals
      go_meet
      refine ⟨?_, rfl⟩
      have h := HN.out
      congr 1
      omega
  case rest =>
    obtain ⟨rfl, rfl⟩ := hcut
    go_wp2_with fail
    refine (cells_new 1 wc (by omega)).mono ?_
    rintro e w2 ⟨ca, wb, rfl, hc, hb, hca, hwb⟩
    have C2 := Lib.hid hc
    have hl1 := B1.out.size
    have B2 := Lib.hid (B1.out.trans (hb.mono hl1))
    clear hc hb
    go_wp2_with fail
    refine (newShare_ok w2 ca wb 1 0 n _ _ C2.out (by omega) (by omega)).mono ?_
    rintro e w3 ⟨s, rfl, hs, hc, hsl, hk⟩
    have hsa : ca < s := by have := C2.out.blk.lt; omega
    have hsw : wb < s := by have := C2.out.row.lt; omega
    have B3 := Lib.hid (Below.kept B2.out hk B2.out.size (by rintro b rfl; omega))
    have hs3 := hs.lt
    have A0 : SplitAt w (w3.alloc (.cells (zerosA 101) 38)) s ca wb w3.heap.size n 0 :=
      ⟨0, List.replicate 101 0, hs.alloc _, by simpa using hc.alloc _, Had.new w3, B3.out.alloc (by have := B3.out.size; omega) _⟩
    have A1 := Lib.hid A0
    clear A0 hs hc hk
    go_upto_block 0 with (fail)
    generalize w3.alloc (.cells (zerosA 101) 38) = w4 at A1 ⊢
    have hwa : w.heap.size ≤ ca := by omega
    have hwb' : w.heap.size ≤ wb := by omega
    generalize w3.heap.size = hb at A1 hs3 ⊢
    clear B1 B2 B3 C2 hl1 hz101
    go_cut [10] (fun t wx => ∃ c : Nat, c ≤ 200 ∧ t = .int .i64 (min c n : Nat) ∧ SplitAt w wx s ca wb hb n c)
    case first =>
      go_wp2_with fail
      go_loopw [10, 11] (fun t i wr => ∃ c : Nat, c ≤ len ∧ c ≤ 200 ∧ i = .int .i64 c ∧ t = .int .i64 (min c n : Nat) ∧ SplitAt w wr s ca wb hb n c) (fun _ i _ => len - (intOf i).toNat)
      case atStart => exact ⟨0, by omega, by omega, rfl, by simp, A1.out⟩
      case round =>
        obtain ⟨c, hc1, hc2, rfl, rfl, hA⟩ := hrel
        obtain ⟨st, h, hS, hC, hH, hB⟩ := hA
        have HB := Lib.hid hB
        have HS := Lib.hid hS
        have HC := Lib.hid hC
        have HH := Lib.hid hH
        clear hS hC hH hB A1
        by_cases t1 : c < len
        · by_cases t2 : c < 200
          · go_wp2_with fail
            refine (next_at wr s ca wb 1 0 n [(c : Int)] st HS.out HC.out (by omega) (by omega) (by omega) c rfl).mono ?_
            rintro e w5 ⟨he, hs, hc, hk⟩
            have C5 := Lib.hid (show CellsAt w5 ca wb 1 [((c + 1 : Nat) : Int)] (wrap64 (st + 1)) from by
              have : wrap64 ((c : Int) + 1) = ((c + 1 : Nat) : Int) := by unfold wrap64; omega
              simpa [this] using hc)
            have S5 := Lib.hid hs
            have H5 := Lib.hid (HH.out.kept hk (by rintro (e | e) <;> omega))
            have B5 := Lib.hid (Below.kept HB.out hk HB.out.size (by rintro b (e | e) <;> omega))
            clear hs hc hk
            by_cases hcn : c < n
            · rw [if_pos (by omega)] at he
              subst he
              have hh0 := H5.out.cell (by omega : c < 101)
              have hhf := H5.out.blk.free c
              obtain ⟨b, o, rfl, hcells⟩ := (HV.out.later B5.out).at_int (by rw [HZ.out]; omega)
              have hx := hcells c (by rw [HZ.out]; exact t1)
              clear hcells
              obtain ⟨y, hy, hy0, hy3⟩ := pick_pos (zs.getD c 0)
              generalize zs.getD c 0 = x at hx hy
              have hc101 : c < 101 := by omega
              go_wp2_with fail
              have hfin := split_store S5.out C5.out H5.out B5.out (by omega) (by omega) (by omega) (by omega) (1 + y)
              exact ⟨⟨c + 1, by omega, by omega, by go_num, by rw [show min (c + 1) n = min c n + 1 from by omega]; go_num, hfin⟩, by simp [intOf]; omega⟩
            · rw [if_neg (by omega)] at he
              subst he
              go_wp2_with fail
              go_roundw
              case rel => exact ⟨c + 1, by omega, by omega, by go_num, by rw [show min (c + 1) n = min c n from by omega], wrap64 (st + 1), h, S5.out, C5.out, H5.out.mono (by omega), B5.out⟩
              case measure => simp [intOf]; omega
          · go_wp2_with fail
            go_meet
            exact ⟨c, hc2, rfl, st, h, HS.out, HC.out, HH.out, HB.out⟩
        · go_wp2_with fail
          go_meet
          exact ⟨c, hc2, rfl, st, h, HS.out, HC.out, HH.out, HB.out⟩
    case rest =>
      obtain ⟨c0, hc0, rfl, hA⟩ := hcut
      have HA := Lib.hid hA
      clear hA A1
      go_wp2_with fail
      go_loopw [10, 14] (fun t i wr => ∃ k : Nat, k ≤ n + 1 ∧ i = .int .i64 k ∧ t = .int .i64 (min (c0 + k) n : Nat) ∧ SplitAt w wr s ca wb hb n (c0 + k)) (fun _ i _ => n + 1 - (intOf i).toNat)
      case atStart => exact ⟨0, by omega, rfl, by simp, by simpa using HA.out⟩
      case round =>
        obtain ⟨k, hk1, rfl, rfl, hA⟩ := hrel
        obtain ⟨st, h, hS, hC, hH, hB⟩ := hA
        have HB := Lib.hid hB
        have HS := Lib.hid hS
        have HC := Lib.hid hC
        have HH := Lib.hid hH
        clear hS hC hH hB HA
        by_cases t1 : k ≤ n
        · go_wp2_with fail
          refine (next_at wr s ca wb 1 0 n [((c0 + k : Nat) : Int)] st HS.out HC.out (by omega) (by omega) (by omega) (c0 + k : Nat) rfl).mono ?_
          rintro e w5 ⟨he, hs, hc, hk⟩
          obtain ⟨c, hc'⟩ : ∃ c, c = c0 + k := ⟨_, rfl⟩
          have HE := Lib.hid hc'
          rw [← hc'] at he hc
          have C5 := Lib.hid (show CellsAt w5 ca wb 1 [((c + 1 : Nat) : Int)] (wrap64 (st + 1)) from by
            have : wrap64 ((c : Int) + 1) = ((c + 1 : Nat) : Int) := by unfold wrap64; omega
            simpa [this] using hc)
          have S5 := Lib.hid hs
          have H5 := Lib.hid (show Had w5 hb c h from hc' ▸ HH.out.kept hk (by rintro (e | e) <;> omega))
          have B5 := Lib.hid (Below.kept HB.out hk HB.out.size (by rintro b (e | e) <;> omega))
          have hm : min (c0 + k) n = min c n := by rw [hc']
          have hm2 : min (c0 + (k + 1)) n = min (c + 1) n := by rw [hc']; rfl
          have hck : c0 + (k + 1) = c + 1 := by omega
          rw [hm]
          have HM2 := Lib.hid hm2
          have HCK := Lib.hid hck
          clear hs hc hk hc' hm hm2 hck HC HS HH HB
          by_cases hcn : c < n
          · rw [if_pos (by omega)] at he
            subst he
            have hh0 := H5.out.cell (by omega : c < 101)
            have hhf := H5.out.blk.free c
            have hc101 : c < 101 := by omega
            go_wp2_with fail
            have hfin := split_store S5.out C5.out H5.out B5.out (by omega) (by omega) (by omega) (by omega) 9
            exact ⟨⟨k + 1, by omega, by go_num, by rw [HM2.out, show min (c + 1) n = min c n + 1 from by omega]; go_num, by rw [HCK.out]; exact hfin⟩, by simp [intOf]; omega⟩
          · rw [if_neg (by omega)] at he
            subst he
            go_wp2_with fail
            go_roundw
            case rel => exact ⟨k + 1, by omega, by go_num, by rw [HM2.out, show min (c + 1) n = min c n from by omega], wrap64 (st + 1), h, S5.out, HCK.out ▸ C5.out, HCK.out ▸ H5.out.mono (by omega), B5.out⟩
            case measure => simp [intOf]; omega
        · have hkn : k = n + 1 := by omega
          have hmn : min (c0 + k) n = n := by omega
          rw [hmn]
          go_wp2_with fail
          go_ret
          exact ⟨by simp, HB.out⟩

end Go.Proofs.Ytpbbngdhljiedaa
