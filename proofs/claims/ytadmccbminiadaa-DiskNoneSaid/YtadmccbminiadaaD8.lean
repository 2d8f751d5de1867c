/- Contracts of the functions of disk and of the law's own, part 8. No condition beyond each theorem's own. -/
import Derived.Test.YtadmccbminiadaaD7
namespace Go.Proofs.Ytadmccbminiadaa
open Go.RowKit

/-- A row of bytes. -/
def brow (l : List UInt8) : Array Value := (l.map B8).toArray
theorem brow_set (l : List UInt8) (i : Nat) (x : UInt8) : (brow l).setIfInBounds i (B8 x) = brow (l.set i x) := by
  unfold brow
  simp [List.map_set]
theorem brow_get (l : List UInt8) (i : Nat) (h : i < l.length) : (brow l)[i]? = some (B8 (l.getD i 0)) := by
  unfold brow
  simp [h]
theorem brow_bytes {w : World} {b : Nat} {l : List UInt8} (h : Blk w b 5 (brow l)) : Bytes w (some ⟨b, 0, none⟩) l.length l :=
  ⟨rfl, fun _ => ⟨b, 0, rfl, fun j x hx => by
    rw [h.cell]
    unfold brow
    simp [hx]⟩⟩
theorem zrow_brow (n : Nat) : zrow n = brow (List.replicate n 0) := rfl

def fullN (n : Int) : Nat := if n < 0 ∨ 20000 < n then 0 else n.toNat
/-- n bytes of l, over and over. -/
def over (l : List UInt8) (n : Nat) : List UInt8 := (List.range n).map fun i => l.getD (i % l.length) 0
def overTo (l : List UInt8) (n k : Nat) : List UInt8 := over l k ++ List.replicate (n - k) 0
theorem over_length (l : List UInt8) (n : Nat) : (over l n).length = n := by simp [over]
theorem overTo_length (l : List UInt8) (n k : Nat) (h : k ≤ n) : (overTo l n k).length = n := by simp [overTo, over_length]; omega
theorem overTo_zero (l : List UInt8) (n : Nat) : overTo l n 0 = List.replicate n 0 := by simp [overTo, over]
theorem overTo_all (l : List UInt8) (n : Nat) : overTo l n n = over l n := by simp [overTo]
theorem overTo_set (l : List UInt8) (n k : Nat) (h : k < n) : (overTo l n k).set k (l.getD (k % l.length) 0) = overTo l n (k + 1) := by
  have e : n - k = (n - (k + 1)) + 1 := by omega
  simp only [overTo, e, List.replicate_succ, over, List.range_succ, List.map_append]
  rw [List.set_append_right _ _ (by simp)]
  simp
theorem overTo_nil (n k : Nat) (h : k ≤ n) : overTo [] n k = List.replicate n 0 := by
  have : over [] k = List.replicate k 0 := by
    apply List.ext_getElem
    · simp [over]
    · intro i h1 h2; simp [over]
  rw [overTo, this, List.replicate_append_replicate]
  congr 1; omega

def Row5 (w : World) (l : List UInt8) (e : Ending) (w' : World) : Prop :=
  ∃ b, e = .returned (.slice (some ⟨b, 0, none⟩) l.length l.length) ∧ w.heap.size ≤ b ∧ Blk w' b 5 (brow l) ∧ Below w.heap.size w w'

set_option maxHeartbeats 1000000 in
theorem full_in (A : Option Addr) (n c : Nat) (l : List UInt8) (m : Nat) (w : World) (h : Bytes w A n l) (hn : n ≤ 9223372036854775807) (hm : m ≤ 20000) :
    Calls Try.prog 10 #[.slice A n c, .int .i64 m] w (Row5 w (over l m)) := by
  have hmk := fun w => madeRow w m (by omega)
  have hp : ¬ (m : Int) < 0 := by omega
  have hq : ¬ (20000 : Int) < m := by omega
  have hl := h.1
  go_enter Try.func10, Try.ntmps10
  go_wp2
  have Hl := Lib.hid hl
  have hbl := Blk.new w 5 (zrow m)
  rw [zrow_brow, ← overTo_zero l] at hbl
  clear hl hmk
  go_loopw [6] (fun i wr => ∃ k : Nat, k ≤ m ∧ i = .int .i64 k ∧ Blk wr w.heap.size 5 (brow (overTo l m k)) ∧ Below w.heap.size w wr) (fun i _ => m - (intOf i).toNat)
  case atStart => exact ⟨0, by omega, rfl, hbl, (Below.refl _ w).alloc (Nat.le_refl _) _⟩
  case round =>
    obtain ⟨k, hk, rfl, hbk, hb⟩ := hrel
    have hB := h.below hb
    by_cases hlt : k < m
    · by_cases hn0 : 0 < n
      · have hkm : k % n < n := Nat.mod_lt _ hn0
        obtain ⟨b0, o0, rfl, hc0⟩ := hB.at_ (k := k % n) hkm
        have hset := hbk.set_ k (B8 (l.getD (k % l.length) 0))
        rw [brow_set, overTo_set l m k hlt, Hl.out, List.getD_eq_getElem?_getD] at hset
        have x0 := hbk.cell k
        rw [brow_get _ _ (by rw [overTo_length _ _ _ hk]; exact hlt)] at x0
        have f0 := hbk.frozen k
        have hmm : ((k : Int) % n).toNat = k % n := by omega
        go_wp2
        exact ⟨⟨k + 1, by omega, by go_num, hset, hb.setCell (p := ⟨_, _, none⟩) (Nat.le_refl _) _⟩, by simp [intOf]; omega⟩
      · have hn1 : n = 0 := by omega
        have hl0 : l = [] := List.eq_nil_of_length_eq_zero (by have := Hl.out; omega)
        subst hl0
        have e : overTo [] m k = over [] m := by rw [overTo_nil m k hk, ← overTo_nil m m (Nat.le_refl _), overTo_all]
        rw [e] at hbk
        have hz : decide (0 < n) = false := by simp; omega
        clear e hn1 hn0
        go_wp2
        go_ret
        exact ⟨w.heap.size, by rw [over_length]; rfl, Nat.le_refl _, hbk, hb⟩
    · have hkm : k = m := by omega
      subst hkm
      rw [overTo_all] at hbk
      go_wp2
      go_ret
      exact ⟨w.heap.size, by rw [over_length]; rfl, Nat.le_refl _, hbk, hb⟩

theorem full_out (A : Option Addr) (n c : Nat) (m : Int) (w : World) (hm : m < 0 ∨ 20000 < m) :
    Calls Try.prog 10 #[.slice A n c, .int .i64 m] w (Row5 w []) := by
  have hmk : ∀ w : World, (Instr.makeSlice 31 (.int .i64 0) (.int .i64 0)).run Try.prog w = .ok (.slice (some ⟨w.heap.size, 0, none⟩) 0 0) (w.alloc (.cells (zrow 0) 5)) := fun w => madeRow w 0 (by omega)
  have hbl := Blk.new w 5 (zrow 0)
  by_cases h0 : m < 0
  all_goals
    (try have h1 : 20000 < m := by omega)
    go_enter Try.func10, Try.ntmps10
    go_wp2
    go_loop [6] (fun i => i = .int .i64 0) (fun _ => 0)
    case atStart => exact rfl
    case round =>
      obtain rfl := hrel
      go_wp2
      go_ret
      exact ⟨w.heap.size, rfl, Nat.le_refl _, hbl, (Below.refl _ w).alloc (Nat.le_refl _) _⟩
end Go.Proofs.Ytadmccbminiadaa
