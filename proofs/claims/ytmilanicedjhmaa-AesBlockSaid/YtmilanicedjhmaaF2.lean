/- Contracts: the reference's tables; rows of zero bytes. No condition beyond each theorem's own. -/
import Derived.Test.YtmilanicedjhmaaP2
namespace Go.Proofs.Ytmilanicedjhmaa
open Go.RowKit

theorem info5 : (Try.prog.info? 5).map (fun i => (i.zero, i.size, i.bytes)) = some (some (.int .u8 0), 1, 1) := by kernel_rfl
theorem eqlNil (w : World) (a : Option Addr) (n c : Nat) : (binOp .eql 22 (.slice a n c) (.slice none 0 0)).run Try.prog w = .ok (.bool a.isNone) w :=
  Lib.run_eql_slice_nil (P := Try.prog) w 22 5 a n c 0 0 Try.underlying22
theorem madeCells_zero (n : Nat) : madeCells (Value.cells (.int .u8 0)) (n * 1) = brow (tab n fun _ => 0) := by
  rw [← tab_zero]
  unfold madeCells brow
  apply Array.ext
  · simp
  · intro i h1 h2
    simp [Value.cells, Nat.mod_one]
theorem madeRow (w : World) (n : Nat) (hn : n ≤ 140737488351232) :
    (Instr.makeSlice 22 (.int .i64 (n : Int)) (.int .i64 (n : Int))).run Try.prog w = .ok (.slice (some ⟨w.heap.size, 0, none⟩) n n) (w.alloc (.cells (brow (tab n fun _ => 0)) 5)) := by
  obtain ⟨i0, hi, hz0, hz1, hz2⟩ := info_parts info5
  have h := run_make (P := Try.prog) w 22 5 i0 _ Try.underlying22 hi hz0 .i64 .i64 n n (by omega) (by omega) (by rw [hz2]; omega) (by omega)
  rw [h]
  simp only [Int.toNat_natCast, hz1, madeCells_zero]

def BoxesOk (w : World) (e : Ending) (w' : World) : Prop :=
  ∃ a b, e = .returned (.tuple #[.slice (some ⟨a, 0, none⟩) 256 256, .slice (some ⟨b, 0, none⟩) 256 256]) ∧ w.heap.size ≤ a ∧ w.heap.size ≤ b ∧ a ≠ b ∧ Blk w' a 5 (brow (tab 256 sbox)) ∧ Blk w' b 5 (brow (tab 256 (tboxTo 256))) ∧ Below w.heap.size w w'

theorem conv_byte (k : Nat) (hk : k < 256) : Value.int IntKind.u8 (k : Int) = B8 (UInt8.ofNat k) := by
  simp only [B8, UInt8.toNat_ofNat']
  congr 1
  omega
/-- What has been filled of S. -/
def sTo (k : Nat) (j : Nat) : UInt8 := if j < k then sbox j else 0
theorem sTo_upd (k : Nat) : upd (sTo k) k (sbox k) = sTo (k + 1) := by
  funext j
  unfold upd sTo
  by_cases h : j = k
  · subst h; simp
  · rw [if_neg h]
    by_cases h2 : j < k
    · rw [if_pos h2, if_pos (by omega)]
    · rw [if_neg h2, if_neg (by omega)]
theorem sTo_all : tab 256 (sTo 256) = tab 256 sbox := tab_congr fun i hi => by simp [sTo, hi]
theorem sTo_zero : (fun _ => 0) = sTo 0 := by funext j; simp [sTo]

set_option maxHeartbeats 1000000 in
theorem boxes_any (w : World) : Calls Try.prog 47 #[] w (BoxesOk w) := by
  have hmk : ∀ w : World, (Instr.makeSlice 22 (.int .i64 256) (.int .i64 256)).run Try.prog w = .ok (.slice (some ⟨w.heap.size, 0, none⟩) 256 256) (w.alloc (.cells (brow (tab 256 fun _ => 0)) 5)) := fun w => madeRow w 256 (by omega)
  go_enter Try.func47, Try.ntmps47
  go_wp2
  have b0 : Blk ((w.alloc (.cells (brow (tab 256 fun _ => 0)) 5)).alloc (.cells (brow (tab 256 fun _ => 0)) 5)) w.heap.size 5 (brow (tab 256 fun _ => 0)) := heap_alloc2_old w _ _
  have b1 : Blk ((w.alloc (.cells (brow (tab 256 fun _ => 0)) 5)).alloc (.cells (brow (tab 256 fun _ => 0)) 5)) (w.heap.size + 1) 5 (brow (tab 256 fun _ => 0)) := heap_alloc2_new w _ _
  have hb := ((Below.refl w.heap.size w).alloc (Nat.le_refl _) (.cells (brow (tab 256 fun _ => 0)) 5)).alloc (by simp) (.cells (brow (tab 256 fun _ => 0)) 5)
  clear hmk
  go_loopw [4] (fun vi wr => ∃ k : Nat, k ≤ 256 ∧ vi = .int .i64 k ∧ Blk wr w.heap.size 5 (brow (tab 256 (sTo k))) ∧ Blk wr (w.heap.size + 1) 5 (brow (tab 256 (tboxTo k))) ∧ Below w.heap.size w wr) (fun vi _ => 256 - (intOf vi).toNat)
  case atStart => exact ⟨0, by omega, rfl, by rw [← sTo_zero]; exact b0, b1, hb⟩
  case round =>
    obtain ⟨k, hk, rfl, h0, h1, hbr⟩ := hrel
    by_cases hlt : k < 256
    · have hi : (k : Int) < 256 := by omega
      have hsub : ∀ w, Calls Try.prog 79 #[.int .u8 (k : Int)] w fun e w' => e = .returned (B8 (sbox k)) ∧ w = w' := by
        rw [conv_byte k hlt]
        exact sub_any (UInt8.ofNat k)
      have hkb := conv_byte k hlt
      have c0 := h0.cell k
      rw [brow_tab 256 _ hlt] at c0
      have f0 := h0.frozen k
      have n0 := h0.set_ k (B8 (sbox k))
      rw [brow_tab_set _ _ hlt, sTo_upd] at n0
      have hT : tboxTo (k + 1) = upd (tboxTo k) (sbox k).toNat (UInt8.ofNat k) := rfl
      generalize sbox k = sb at hsub n0 hT
      have n1 : Blk (wr.setCell ⟨w.heap.size, k, none⟩ (B8 sb)) (w.heap.size + 1) 5 _ := Blk.far (p := ⟨w.heap.size, k, none⟩) h1 (by simp) (B8 sb)
      have c2 := n1.cell sb.toNat
      rw [brow_tab 256 _ sb.toNat_lt] at c2
      have f2 := n1.frozen sb.toNat
      have m1 := n1.set_ sb.toNat (B8 (UInt8.ofNat k))
      rw [brow_tab_set (n := 256) _ _ sb.toNat_lt, ← hT, ← hkb] at m1
      have m0 := Blk.far (p := ⟨w.heap.size + 1, sb.toNat, none⟩) n0 (by simp) (B8 (UInt8.ofNat k))
      rw [← hkb] at m0
      have hl0 := h0.lt
      have hl1 := h1.lt
      have hb2 := (hbr.setCell (p := ⟨w.heap.size, k, none⟩) (Nat.le_refl _) (B8 sb)).setCell (p := ⟨w.heap.size + 1, sb.toNat, none⟩) (by simp) (.int .u8 (k : Int))
      have HM := Lib.hid (And.intro m0 (And.intro m1 hb2))
      have hbi : (sb.toNat : Int) < 256 := by have := sb.toNat_lt; omega
      clear hkb hT n1 m1 m0 hb2 h0 h1 n0 b0 b1 hb hbr
      go_wp2_with (go_at_call 79; refine (hsub _).mono ?_; rintro e w' ⟨rfl, rfl⟩)
      exact ⟨⟨k + 1, by omega, by go_num, HM.out.1, HM.out.2.1, HM.out.2.2⟩, by simp [intOf]; omega⟩
    · obtain rfl : k = 256 := by omega
      rw [sTo_all] at h0
      go_wp2
      refine bodyPost_ret (results_tmp2 rfl _ _ _) rfl ?_
      exact ⟨w.heap.size, w.heap.size + 1, rfl, by omega, by omega, by omega, h0, h1, hbr⟩
end Go.Proofs.Ytmilanicedjhmaa
