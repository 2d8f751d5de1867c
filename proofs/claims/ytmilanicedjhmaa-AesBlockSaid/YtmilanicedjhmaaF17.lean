/- Contracts: products of elements. No condition beyond each theorem's own. -/
import Derived.Test.YtmilanicedjhmaaF16
import Derived.Test.YtmilanicedjhmaaP8
namespace Go.Proofs.Ytmilanicedjhmaa
open Go.RowKit
set_option linter.unusedSimpArgs false

def addIf (t : Nat) (z y : Nat → UInt8) (j : Nat) : UInt8 := if t = 1 then z j ^^^ y j else z j
/-- What has been summed up, and y moved. -/
def mulS (x y : Nat → UInt8) : Nat → (Nat → UInt8) × (Nat → UInt8)
  | 0 => (fun _ => 0, y)
  | i + 1 => (addIf (xbit x i) (mulS x y i).1 (mulS x y i).2, stepF (mulS x y i).2)
def mulF (x y : Nat → UInt8) : Nat → UInt8 := (mulS x y 128).1
theorem and_one (n : Nat) (h : n < 18446744073709551616) : bits .and .u64 (n : Int) 1 = ((n % 2 : Nat) : Int) := by
  rw [show (1 : Int) = ((1 : Nat) : Int) from rfl, u64_and_nat _ _ h (by omega), Nat.and_one_is_mod]
theorem and_neg (n t : Nat) (h : n < 18446744073709551616) : bits .and .u64 (n : Int) (if t = 1 then 18446744073709551615 else 0) = ((if t = 1 then n else 0 : Nat) : Int) := by
  by_cases h1 : t = 1
  · rw [if_pos h1, if_pos h1, show (18446744073709551615 : Int) = ((18446744073709551615 : Nat) : Int) from rfl, u64_and_nat _ _ h (by omega)]
    have := Nat.and_two_pow_sub_one_eq_mod n 64
    simp only [Nat.reducePow, Nat.reduceSub] at this
    rw [this, Nat.mod_eq_of_lt h]
  · rw [if_neg h1, if_neg h1, show (0 : Int) = ((0 : Nat) : Int) from rfl, u64_and_nat _ _ h (by omega), Nat.and_zero]
theorem wrap_neg (t : Nat) (ht : t < 2) : IntKind.u64.wrap (-(t : Int)) = if t = 1 then 18446744073709551615 else 0 := by
  match t, ht with
  | 0, _ => rfl
  | 1, _ => rfl
theorem g64_addIf (t : Nat) (z y : Nat → UInt8) : g64 z ^^^ (if t = 1 then g64 y else 0) = g64 (addIf t z y) := by
  by_cases h : t = 1
  · rw [if_pos h, g64_xor]
    congr 1
    funext j
    simp [addIf, h]
  · rw [if_neg h, Nat.xor_zero]
    congr 1
    funext j
    simp [addIf, h]

set_option maxRecDepth 100000 in
set_option maxHeartbeats 4000000 in
theorem times_el (w : World) (x y : Nat → UInt8) : Calls Try.prog 55 #[.agg (elem x), .agg (elem y)] w fun e w' => e = .returned (.agg (elem (mulF x y))) ∧ Below w.heap.size w w' := by
  go_enter Try.func55, Try.ntmps55
  unfold elem
  go_wp2
  obtain ⟨W1, hW1⟩ : ∃ W1 : World, W1 = (((w.alloc (.cells (elem x) 75)).alloc (.cells (elem y) 75)).alloc (.cells (elem fun _ => 0) 75)).alloc (.cells (elem fun _ => 0) 75) := ⟨_, rfl⟩
  obtain ⟨X, hX⟩ : ∃ X, X = w.heap.size := ⟨_, rfl⟩
  have hs1 : (w.alloc (.cells (elem x) 75)).heap.size = X + 1 := by simp [hX]
  have hs2 : ((w.alloc (.cells (elem x) 75)).alloc (.cells (elem y) 75)).heap.size = X + 1 + 1 := by simp [hX]
  have hs3 : (((w.alloc (.cells (elem x) 75)).alloc (.cells (elem y) 75)).alloc (.cells (elem fun _ => 0) 75)).heap.size = X + 1 + 1 + 1 := by simp [hX]
  have hx0 : Blk W1 X 75 (elem x) := by rw [hW1, hX]; exact (((Blk.new w 75 _).alloc _).alloc _).alloc _
  have hy0 : Blk W1 (X + 1) 75 (elem (mulS x y 0).2) := by rw [hW1, ← hs1]; exact ((Blk.new _ 75 _).alloc _).alloc _
  have hr0 : Blk W1 (X + 1 + 1) 75 (elem fun _ => 0) := by rw [hW1, ← hs2]; exact (Blk.new _ 75 _).alloc _
  have hz0 : Blk W1 (X + 1 + 1 + 1) 75 (elem (mulS x y 0).1) := by rw [hW1, ← hs3]; exact Blk.new _ 75 _
  have hb0 : Below X w W1 := by
    rw [hW1]
    exact ((((Below.refl X w).alloc (by omega) _).alloc (by simp; omega) _).alloc (by simp; omega) _).alloc (by simp; omega) _
  have e1 : W1 = ((((w.alloc (Obj.cells #[Value.int IntKind.u64 (g64 x : Nat), Value.int IntKind.u64 (g64 fun j => x (8 + j) : Nat)] 75)).alloc
              (Obj.cells #[Value.int IntKind.u64 (g64 y : Nat), Value.int IntKind.u64 (g64 fun j => y (8 + j) : Nat)] 75)).alloc
          (Obj.cells #[Value.int IntKind.u64 0, Value.int IntKind.u64 0] 75)).alloc
      (Obj.cells #[Value.int IntKind.u64 0, Value.int IntKind.u64 0] 75)) := hW1
  rw [← e1, ← hX]
  have HX := Lib.hid hX
  clear e1 hW1 hs1 hs2 hs3 hX
  go_loopw [9] (fun vi wr => ∃ i : Nat, i ≤ 128 ∧ vi = .int .i64 i ∧ Blk wr X 75 (elem x) ∧ Blk wr (X + 1) 75 (elem (mulS x y i).2) ∧ Blk wr (X + 1 + 1) 75 (elem fun _ => 0) ∧ Blk wr (X + 1 + 1 + 1) 75 (elem (mulS x y i).1) ∧ Below X w wr) (fun vi _ => 128 - (intOf vi).toNat)
  case atStart => exact ⟨0, by omega, rfl, hx0, hy0, hr0, hz0, hb0⟩
  case round =>
    obtain ⟨i, hi, rfl, hx, hy, hr, hz, hb⟩ := hrel
    clear hx0 hy0 hr0 hz0 hb0
    by_cases hlt : i < 128
    · have hii : (i : Int) < 128 := by omega
      have hi0 : (0 : Int) ≤ i := by omega
      have hnz : (mulS x y (i + 1)).1 = addIf (xbit x i) (mulS x y i).1 (mulS x y i).2 := rfl
      have hny : (mulS x y (i + 1)).2 = stepF (mulS x y i).2 := rfl
      generalize (mulS x y i).1 = z at hz hnz
      generalize (mulS x y i).2 = v at hy hnz hny
      have x0 : wr.cell? ⟨X, 0, none⟩ = some (.int .u64 (g64 x : Nat)) := hx.cell 0
      have x1 : wr.cell? ⟨X, 1, none⟩ = some (.int .u64 (g64 (fun j => x (8 + j)) : Nat)) := hx.cell 1
      have y0 : wr.cell? ⟨X + 1, 0, none⟩ = some (.int .u64 (g64 v : Nat)) := hy.cell 0
      have y1 : wr.cell? ⟨X + 1, 1, none⟩ = some (.int .u64 (g64 (fun j => v (8 + j)) : Nat)) := hy.cell 1
      have z0 : wr.cell? ⟨X + 1 + 1 + 1, 0, none⟩ = some (.int .u64 (g64 z : Nat)) := hz.cell 0
      have z1 : wr.cell? ⟨X + 1 + 1 + 1, 1, none⟩ = some (.int .u64 (g64 (fun j => z (8 + j)) : Nat)) := hz.cell 1
      have yf0 := hy.frozen 0
      have yf1 := hy.frozen 1
      have zf0 := hz.frozen 0
      have zf1 := hz.frozen 1
      obtain ⟨t, ht⟩ : ∃ t, t = xbit x i := ⟨_, rfl⟩
      have ht2 : t < 2 := by rw [ht]; unfold xbit; omega
      rw [← ht] at hnz
      -- the sums
      have s0 := g64_addIf t z v
      have s1 := g64_addIf t (fun j => z (8 + j)) (fun j => v (8 + j))
      have nz0 := z0
      have hA0 := and_neg (g64 v) t (g64_lt _)
      have hA1 := and_neg (g64 fun j => v (8 + j)) t (g64_lt _)
      have hX0 : bits .xor .u64 (g64 z : Nat) ((if t = 1 then g64 v else 0 : Nat) : Int) = ((g64 (addIf t z v) : Nat) : Int) := by
        rw [u64_xor_nat _ _ (g64_lt _) (by have := g64_lt v; split <;> omega), s0]
      have hX1 : bits .xor .u64 (g64 (fun j => z (8 + j)) : Nat) ((if t = 1 then g64 (fun j => v (8 + j)) else 0 : Nat) : Int) = ((g64 (fun j => addIf t z v (8 + j)) : Nat) : Int) := by
        rw [u64_xor_nat _ _ (g64_lt _) (by have := g64_lt (fun j => v (8 + j)); split <;> omega), s1]
        rfl
      have hN := wrap_neg t ht2
      have hl1 := and_one (g64 fun j => v (8 + j)) (g64_lt _)
      have hlow : g64 (fun j => v (8 + j)) % 2 = (v 15).toNat % 2 := by
        unfold g64
        simp
        omega
      rw [hlow] at hl1
      have hNl := wrap_neg ((v 15).toNat % 2) (by omega)
      have hAl : bits .and .u64 16212958658533785600 (if (v 15).toNat % 2 = 1 then 18446744073709551615 else 0) = ((if (v 15).toNat % 2 = 1 then 16212958658533785600 else 0 : Nat) : Int) := and_neg 16212958658533785600 ((v 15).toNat % 2) (by omega)
      have hYh : bits .xor .u64 ((g64 v : Nat) / 2 : Int) ((if (v 15).toNat % 2 = 1 then 16212958658533785600 else 0 : Nat) : Int) = ((g64 (stepF v) : Nat) : Int) := by
        rw [show ((g64 v : Nat) / 2 : Int) = ((g64 v / 2 : Nat) : Int) by omega, u64_xor_nat _ _ (by have := g64_lt v; omega) (by split <;> omega), step_hi]
      have hwv : IntKind.u64.wrap ((g64 v : Nat) * 9223372036854775808) = ((g64 v % 2 * 9223372036854775808 : Nat) : Int) := by
        rw [IntKind.wrap_u64]
        omega
      have hYl : bits .or .u64 ((g64 (fun j => v (8 + j)) : Nat) / 2 : Int) ((g64 v % 2 * 9223372036854775808 : Nat) : Int) = ((g64 (fun j => stepF v (8 + j)) : Nat) : Int) := by
        rw [show ((g64 (fun j => v (8 + j)) : Nat) / 2 : Int) = ((g64 (fun j => v (8 + j)) / 2 : Nat) : Int) by omega, u64_or_nat _ _ (by have := g64_lt (fun j => v (8 + j)); omega) (by omega), step_lo, Nat.or_comm, Nat.mul_comm]
        have h2 := Nat.two_pow_add_eq_or_of_lt (i := 63) (b := g64 (fun j => v (8 + j)) / 2) (by have := g64_lt (fun j => v (8 + j)); simp only [Nat.reducePow]; omega) (g64 v % 2)
        simp only [Nat.reducePow] at h2
        rw [← h2]
        congr 1
        omega
      have hb1 : bits .and .u64 ((g64 x : Nat) / 2 ^ (63 - i % 64) : Int) 1 = ((g64 x / 2 ^ (63 - i % 64) % 2 : Nat) : Int) := by
        rw [show ((g64 x : Nat) / 2 ^ (63 - i % 64) : Int) = ((g64 x / 2 ^ (63 - i % 64) : Nat) : Int) by rw [Int.natCast_ediv]; simp]
        exact and_one _ (Nat.lt_of_le_of_lt (Nat.div_le_self _ _) (g64_lt _))
      have hb2 : bits .and .u64 ((g64 (fun j => x (8 + j)) : Nat) / 2 ^ (63 - i % 64) : Int) 1 = ((g64 (fun j => x (8 + j)) / 2 ^ (63 - i % 64) % 2 : Nat) : Int) := by
        rw [show ((g64 (fun j => x (8 + j)) : Nat) / 2 ^ (63 - i % 64) : Int) = ((g64 (fun j => x (8 + j)) / 2 ^ (63 - i % 64) : Nat) : Int) by rw [Int.natCast_ediv]; simp]
        exact and_one _ (Nat.lt_of_le_of_lt (Nat.div_le_self _ _) (g64_lt _))
      have hbit : (i < 64 → g64 x / 2 ^ (63 - i % 64) % 2 = t) ∧ (¬ i < 64 → g64 (fun j => x (8 + j)) / 2 ^ (63 - i % 64) % 2 = t) := ⟨fun h => by rw [bit_hi x i h, ht], fun h => by rw [bit_lo x i (by omega) hlt, ht]⟩
      -- the blocks behind the round
      have nz := ((((hz.set_ 0 (.int .u64 (g64 (addIf t z v) : Nat))).set_ 1 (.int .u64 (g64 (fun j => addIf t z v (8 + j)) : Nat))).far (p := ⟨X + 1, 1, none⟩) (by show X + 1 + 1 + 1 ≠ X + 1; omega) (.int .u64 (g64 (fun j => stepF v (8 + j)) : Nat))).far (p := ⟨X + 1, 0, none⟩) (by show X + 1 + 1 + 1 ≠ X + 1; omega) (.int .u64 (g64 (stepF v) : Nat)))
      have ny := ((((hy.far (p := ⟨X + 1 + 1 + 1, 0, none⟩) (by show X + 1 ≠ X + 1 + 1 + 1; omega) (.int .u64 (g64 (addIf t z v) : Nat))).far (p := ⟨X + 1 + 1 + 1, 1, none⟩) (by show X + 1 ≠ X + 1 + 1 + 1; omega) (.int .u64 (g64 (fun j => addIf t z v (8 + j)) : Nat))).set_ 1 (.int .u64 (g64 (fun j => stepF v (8 + j)) : Nat))).set_ 0 (.int .u64 (g64 (stepF v) : Nat)))
      have nx := ((((hx.far (p := ⟨X + 1 + 1 + 1, 0, none⟩) (by show X ≠ X + 1 + 1 + 1; omega) (.int .u64 (g64 (addIf t z v) : Nat))).far (p := ⟨X + 1 + 1 + 1, 1, none⟩) (by show X ≠ X + 1 + 1 + 1; omega) (.int .u64 (g64 (fun j => addIf t z v (8 + j)) : Nat))).far (p := ⟨X + 1, 1, none⟩) (by show X ≠ X + 1; omega) (.int .u64 (g64 (fun j => stepF v (8 + j)) : Nat))).far (p := ⟨X + 1, 0, none⟩) (by show X ≠ X + 1; omega) (.int .u64 (g64 (stepF v) : Nat)))
      have nr := ((((hr.far (p := ⟨X + 1 + 1 + 1, 0, none⟩) (by show X + 1 + 1 ≠ X + 1 + 1 + 1; omega) (.int .u64 (g64 (addIf t z v) : Nat))).far (p := ⟨X + 1 + 1 + 1, 1, none⟩) (by show X + 1 + 1 ≠ X + 1 + 1 + 1; omega) (.int .u64 (g64 (fun j => addIf t z v (8 + j)) : Nat))).far (p := ⟨X + 1, 1, none⟩) (by show X + 1 + 1 ≠ X + 1; omega) (.int .u64 (g64 (fun j => stepF v (8 + j)) : Nat))).far (p := ⟨X + 1, 0, none⟩) (by show X + 1 + 1 ≠ X + 1; omega) (.int .u64 (g64 (stepF v) : Nat)))
      have nb := (((hb.setCell (p := ⟨X + 1 + 1 + 1, 0, none⟩) (by show X ≤ X + 1 + 1 + 1; omega) (.int .u64 (g64 (addIf t z v) : Nat))).setCell (p := ⟨X + 1 + 1 + 1, 1, none⟩) (by show X ≤ X + 1 + 1 + 1; omega) (.int .u64 (g64 (fun j => addIf t z v (8 + j)) : Nat))).setCell (p := ⟨X + 1, 1, none⟩) (by show X ≤ X + 1; omega) (.int .u64 (g64 (fun j => stepF v (8 + j)) : Nat))).setCell (p := ⟨X + 1, 0, none⟩) (by show X ≤ X + 1; omega) (.int .u64 (g64 (stepF v) : Nat))
      have HN := Lib.hid (And.intro nx (And.intro ny (And.intro nr (And.intro nz nb))))
      have Hnz := Lib.hid (And.intro hnz hny)
      clear nx ny nr nz nb hnz hny hx hy hr hz hb s0 s1 hlow nz0
      generalize (if t = 1 then (18446744073709551615 : Int) else 0) = nt at hA0 hA1 hN
      generalize (if t = 1 then g64 v else 0) = a0 at hA0 hX0
      generalize (if t = 1 then g64 (fun j => v (8 + j)) else 0) = a1 at hA1 hX1
      generalize (v 15).toNat % 2 = lw at hl1 hNl hAl hYh
      generalize (if lw = 1 then (18446744073709551615 : Int) else 0) = nl at hNl hAl
      generalize (if lw = 1 then 16212958658533785600 else 0) = rr at hAl hYh
      generalize g64 v % 2 * 9223372036854775808 = sh at hwv hYl
      generalize g64 x / 2 ^ (63 - i % 64) % 2 = t1 at hb1 hbit
      generalize g64 (fun j => x (8 + j)) / 2 ^ (63 - i % 64) % 2 = t2 at hb2 hbit
      have Hbit := Lib.hid hbit
      have Ht := Lib.hid ht
      clear hbit ht
      by_cases h64 : i < 64
      · have h63 : ¬ (63 : Int) < i := by omega
        obtain rfl : t1 = t := Hbit.out.1 h64
        clear h64 ht2
        go_wp2
        exact ⟨⟨i + 1, by omega, by go_num, HN.out.1, by rw [Hnz.out.2]; exact HN.out.2.1, HN.out.2.2.1, by rw [Hnz.out.1]; exact HN.out.2.2.2.1, HN.out.2.2.2.2⟩, by simp [intOf]; omega⟩
      · have h63 : (63 : Int) < i := by omega
        obtain rfl : t2 = t := Hbit.out.2 h64
        clear h64 ht2
        go_wp2
        exact ⟨⟨i + 1, by omega, by go_num, HN.out.1, by rw [Hnz.out.2]; exact HN.out.2.1, HN.out.2.2.1, by rw [Hnz.out.1]; exact HN.out.2.2.2.1, HN.out.2.2.2.2⟩, by simp [intOf]; omega⟩
    · obtain rfl : i = 128 := by omega
      have hmul : (mulS x y 128).1 = mulF x y := rfl
      rw [hmul] at hz
      have z0 : wr.cell? ⟨X + 1 + 1 + 1, 0, none⟩ = some (.int .u64 (g64 (mulF x y) : Nat)) := hz.cell 0
      have z1 : wr.cell? ⟨X + 1 + 1 + 1, 1, none⟩ = some (.int .u64 (g64 (fun j => mulF x y (8 + j)) : Nat)) := hz.cell 1
      have r0 : wr.cell? ⟨X + 1 + 1, 0, none⟩ = some (.int .u64 0) := hr.cell 0
      have r1 : wr.cell? ⟨X + 1 + 1, 1, none⟩ = some (.int .u64 0) := hr.cell 1
      have rf0 := hr.frozen 0
      have rf1 := hr.frozen 1
      have hf := (hr.set_ 0 (.int .u64 (g64 (mulF x y) : Nat))).set_ 1 (.int .u64 (g64 (fun j => mulF x y (8 + j)) : Nat))
      have f0 : ((wr.setCell ⟨X + 1 + 1, 0, none⟩ (.int .u64 (g64 (mulF x y) : Nat))).setCell ⟨X + 1 + 1, 1, none⟩ (.int .u64 (g64 (fun j => mulF x y (8 + j)) : Nat))).cell? ⟨X + 1 + 1, 0, none⟩ = some (.int .u64 (g64 (mulF x y) : Nat)) := hf.cell 0
      have f1 : ((wr.setCell ⟨X + 1 + 1, 0, none⟩ (.int .u64 (g64 (mulF x y) : Nat))).setCell ⟨X + 1 + 1, 1, none⟩ (.int .u64 (g64 (fun j => mulF x y (8 + j)) : Nat))).cell? ⟨X + 1 + 1, 1, none⟩ = some (.int .u64 (g64 (fun j => mulF x y (8 + j)) : Nat)) := hf.cell 1
      have HB := Lib.hid (And.intro hb (And.intro f0 f1))
      clear hx hy hr hz hb hmul hlt hi hf f0 f1
      go_wp2
      have hXw := HX.out
      have f0 := HB.out.2.1
      have f1 := HB.out.2.2
      refine bodyPost_ret (v := .agg #[.int .u64 (g64 (mulF x y) : Nat), .int .u64 (g64 (fun j => mulF x y (8 + j)) : Nat)]) ?_ rfl ⟨rfl, by rw [← hXw]; exact (HB.out.1.setCell (p := ⟨X + 1 + 1, 0, none⟩) (by show X ≤ X + 1 + 1; omega) _).setCell (p := ⟨X + 1 + 1, 1, none⟩) (by show X ≤ X + 1 + 1; omega) _⟩
      simp [results, Try.results55, go_sem, f0, f1]
end Go.Proofs.Ytmilanicedjhmaa
