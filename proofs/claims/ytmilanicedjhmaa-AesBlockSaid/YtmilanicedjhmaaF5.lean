/- Contracts: mixing columns. No condition beyond each theorem's own. -/
import Derived.Test.YtmilanicedjhmaaF4
namespace Go.Proofs.Ytmilanicedjhmaa
open Go.RowKit
set_option linter.unusedSimpArgs false

theorem wrap_i64 {x : Int} (h1 : -9223372036854775808 ≤ x) (h2 : x ≤ 9223372036854775807) : IntKind.i64.wrap x = x := by
  simp only [IntKind.wrap, IntKind.signed, IntKind.bits]
  simp
  omega
theorem below_drewN {B : Nat} {w w' : World} (h : Below B w w') (d : Nat) : Below B w (w'.drewN d) := ⟨h.os, h.tape, h.output, h.size, h.block⟩
/-- A column's byte, from the first k products. -/
def mixAcc (s m : Nat → UInt8) (c r : Nat) : Nat → UInt8
  | 0 => 0
  | k + 1 => mixAcc s m c r k ^^^ gmul (s (4 * c + k)) (m ((k + 4 - r) % 4))
def mixF (s m : Nat → UInt8) (j : Nat) : UInt8 := mixAcc s m (j / 4) (j % 4) 4
theorem mixF_at (s m : Nat → UInt8) {c r : Nat} (hr : r < 4) : mixF s m (4 * c + r) = mixAcc s m c r 4 := by
  unfold mixF
  rw [show (4 * c + r) / 4 = c by omega, show (4 * c + r) % 4 = r by omega]

set_option maxRecDepth 100000 in
set_option maxHeartbeats 4000000 in
theorem rmix_any {w : World} {s m : Nat → UInt8} (A : Option Addr) (n c : Nat) (hA : At w A 16 s) (hn : 16 ≤ n) (A2 : Option Addr) (n2 c2 : Nat) (hA2 : At w A2 4 m) (hn2 : 4 ≤ n2) :
    Calls Try.prog 53 #[.slice A n c, .slice A2 n2 c2] w (NewTab w 16 (mixF s m)) := by
  have hmk : ∀ w : World, (Instr.makeSlice 22 (.int .i64 16) (.int .i64 16)).run Try.prog w = .ok (.slice (some ⟨w.heap.size, 0, none⟩) 16 16) (w.alloc (.cells (brow (tab 16 fun _ => 0)) 5)) := fun w => madeRow w 16 (by omega)
  obtain ⟨b1, o1, rfl, hs0⟩ := hA (by omega)
  obtain ⟨b2, o2, rfl, hm0⟩ := hA2 (by omega)
  go_enter Try.func53, Try.ntmps53
  go_wp2
  have hbl := Blk.new w 5 (brow (tab 16 fun _ => 0))
  rw [← zeroTo_zero (mixF s m)] at hbl
  clear hmk
  go_loopw [6] (fun vi wr => ∃ k : Nat, k ≤ 4 ∧ vi = .int .i64 k ∧ Blk wr w.heap.size 5 (brow (tab 16 (zeroTo (mixF s m) (4 * k)))) ∧ Below w.heap.size w wr) (fun vi _ => 4 - (intOf vi).toNat)
  case atStart => exact ⟨0, by omega, rfl, hbl, (Below.refl _ w).alloc (Nat.le_refl _) _⟩
  case round =>
    obtain ⟨k, hk4, rfl, hb, hbr⟩ := hrel
    clear hbl
    by_cases hlt : k < 4
    · have hi : (k : Int) < 4 := by omega
      go_wp2
      go_loopw [7] (fun vr wr => ∃ r : Nat, r ≤ 4 ∧ vr = .int .i64 r ∧ Blk wr w.heap.size 5 (brow (tab 16 (zeroTo (mixF s m) (4 * k + r)))) ∧ Below w.heap.size w wr) (fun vr _ => 4 - (intOf vr).toNat)
      case atStart => exact ⟨0, by omega, rfl, hb, hbr⟩
      case round =>
        obtain ⟨r, hr4, rfl, hb, hbr⟩ := hrel
        by_cases hlr : r < 4
        · have hi2 : (r : Int) < 4 := by omega
          have HB := Lib.hid (And.intro hb hbr)
          clear hb hbr
          go_wp2
          go_loopw [8, 9] (fun vx vj wx => ∃ j : Nat, j ≤ 4 ∧ vj = .int .i64 j ∧ vx = B8 (mixAcc s m k r j) ∧ ∃ d, wx = wr.drewN d) (fun _ vj _ => 4 - (intOf vj).toNat)
          case atStart => exact ⟨0, by omega, rfl, rfl, 0, rfl⟩
          case round =>
            obtain ⟨j, hj4, rfl, rfl, d, rfl⟩ := hrel
            by_cases hlj : j < 4
            · have hi3 : (j : Int) < 4 := by omega
              have hbW : Below w.heap.size w wr := HB.out.2
              have hw1 : IntKind.i64.wrap (4 * (k : Int)) = 4 * k := wrap_i64 (by omega) (by omega)
              have hw2 : IntKind.i64.wrap (4 * (k : Int) + j) = 4 * k + j := wrap_i64 (by omega) (by omega)
              have hj0 : (0 : Int) ≤ 4 * k + j := by omega
              have hj1 : (4 : Int) * k + j < n := by omega
              have hs1 := below_cell hbW (hs0 (4 * k + j) (by omega))
              have hm1 := below_cell hbW (hm0 ((j + 4 - r) % 4) (by omega))
              have ht1 : ((4 : Int) * k + j).toNat = 4 * k + j := by omega
              have hw3 : IntKind.i64.wrap ((j : Int) - r) = j - r := wrap_i64 (by omega) (by omega)
              have hw4 : IntKind.i64.wrap ((j : Int) - r + 4) = j - r + 4 := wrap_i64 (by omega) (by omega)
              have ht3 : ((j : Int) - r + 4).tmod 4 = ((j + 4 - r) % 4 : Nat) := by rw [Int.tmod_eq_emod_of_nonneg (by omega)]; omega
              have ht4 : ((j : Int) - r + 4) % 4 = ((j + 4 - r) % 4 : Nat) := by omega
              have hq4 : (j + 4 - r) % 4 < 4 := by omega
              have hx := xor_walk (mixAcc s m k r j) (gmul (s (4 * k + j)) (m ((j + 4 - r) % 4)))
              have hnext : mixAcc s m k r (j + 1) = mixAcc s m k r j ^^^ gmul (s (4 * k + j)) (m ((j + 4 - r) % 4)) := rfl
              rw [← hnext] at hx
              clear hnext
              generalize (j + 4 - r) % 4 = q at hm1 ht3 ht4 hq4 hx
              have hq0 : (0 : Int) ≤ q := by omega
              have hq1 : (q : Int) < n2 := by omega
              go_upto_region 12 with fail
              go_region_held3 (fun w' => w'.cell? ⟨b1, o1 + (4 * k + j), none⟩ = some (B8 (s (4 * k + j))) ∧ w'.cell? ⟨b2, o2 + q, none⟩ = some (B8 (m q)))
                (exact ⟨hs1, hm1⟩) (first | (go_at_call 48; refine (rtimes_any _ _ _).mono ?_; rintro e w' ⟨rfl, rfl⟩))
              go_wp2
              exact ⟨⟨j + 1, by omega, by go_num, rfl, d + 1, rfl⟩, by simp [intOf]; omega⟩
            · obtain rfl : j = 4 := by omega
              have hb := HB.out.1.drewN d
              have hbr := below_drewN HB.out.2 d
              have hw1 : IntKind.i64.wrap (4 * (k : Int)) = 4 * k := wrap_i64 (by omega) (by omega)
              have hw2 : IntKind.i64.wrap (4 * (k : Int) + r) = 4 * k + r := wrap_i64 (by omega) (by omega)
              have ht1 : ((4 : Int) * k + r).toNat = 4 * k + r := by omega
              have hj0 : (0 : Int) ≤ 4 * k + r := by omega
              have hj1 : (4 : Int) * k + r < 16 := by omega
              have c0 := HB.out.1.cell (4 * k + r)
              rw [brow_tab 16 _ (by omega)] at c0
              have f0 := HB.out.1.frozen (4 * k + r)
              have hv := mixF_at s m (c := k) (r := r) hlr
              have n0 := hb.set_ (4 * k + r) (B8 (mixF s m (4 * k + r)))
              rw [brow_tab_set _ _ (by omega), zeroTo_upd] at n0
              have hF := hbr.setCell (p := ⟨w.heap.size, 4 * k + r, none⟩) (Nat.le_refl _) (B8 (mixF s m (4 * k + r)))
              rw [hv] at n0 hF
              generalize mixAcc s m k r 4 = x at n0 hF ⊢
              have HN := Lib.hid (And.intro n0 hF)
              have hlb := HB.out.1.lt
              clear n0 hF hb hbr hv
              go_wp2
              exact ⟨⟨r + 1, by omega, by go_num, HN.out.1, HN.out.2⟩, by simp [intOf]; omega⟩
        · obtain rfl : r = 4 := by omega
          go_wp2
          exact ⟨⟨k + 1, by omega, by go_num, by rw [show 4 * (k + 1) = 4 * k + 4 by omega]; exact hb, hbr⟩, by simp [intOf]; omega⟩
    · obtain rfl : k = 4 := by omega
      rw [show 4 * 4 = 16 from rfl, zeroTo_all] at hb
      go_wp2
      go_ret
      exact ⟨w.heap.size, rfl, Nat.le_refl _, hb, hbr⟩
end Go.Proofs.Ytmilanicedjhmaa
