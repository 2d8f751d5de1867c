/- Contracts: elements of the field of GHASH. No condition beyond each theorem's own. -/
import Derived.Test.YtmilanicedjhmaaF13
namespace Go.Proofs.Ytmilanicedjhmaa
open Go.RowKit
set_option linter.unusedSimpArgs false
theorem wrap_u64 {x : Int} (h1 : 0 ≤ x) (h2 : x ≤ 18446744073709551615) : IntKind.u64.wrap x = x := by
  simp only [IntKind.wrap, IntKind.signed, IntKind.bits]
  simp
  omega
theorem or64 {P m r k : Nat} (h : m = 2 ^ k ∧ r < m) (hP : P * m + r < 18446744073709551616) : bits .or .u64 ((P * m : Nat) : Int) ((r : Nat) : Int) = ((P * m + r : Nat) : Int) := by
  obtain ⟨rfl, h⟩ := h
  rw [u64_or_nat _ _ (by omega) (by omega), Nat.mul_comm P, Nat.two_pow_add_eq_or_of_lt h]
/-- Eight bytes as a number. -/
def g64 (f : Nat → UInt8) : Nat := ((((((((f 0).toNat * 256 + (f 1).toNat) * 256 + (f 2).toNat) * 256 + (f 3).toNat) * 256 + (f 4).toNat) * 256 + (f 5).toNat) * 256 + (f 6).toNat) * 256 + (f 7).toNat)
set_option maxRecDepth 100000 in
set_option maxHeartbeats 2000000 in
theorem get64_any {w : World} (A : Option Addr) (n c : Nat) (f : Nat → UInt8) (hA : At w A 8 f) (hn : 8 ≤ n) : Calls Try.prog 81 #[.slice A n c] w fun e w' => e = .returned (.int .u64 (g64 f : Nat)) ∧ w.drewN 1 = w' := by
  obtain ⟨b, o, rfl, q⟩ := hA (by omega)
  have q0 := q 0 (by omega)
  have q1 := q 1 (by omega)
  have q2 := q 2 (by omega)
  have q3 := q 3 (by omega)
  have q4 := q 4 (by omega)
  have q5 := q 5 (by omega)
  have q6 := q 6 (by omega)
  have q7 := q 7 (by omega)
  rw [Nat.add_zero] at q0
  have w0 : IntKind.u64.wrap ((f 0).toNat : Int) = ((f 0).toNat : Int) := wrap_u64 (by omega) (by have := (f 0).toNat_lt; omega)
  have w1 : IntKind.u64.wrap ((f 1).toNat : Int) = ((f 1).toNat : Int) := wrap_u64 (by omega) (by have := (f 1).toNat_lt; omega)
  have w2 : IntKind.u64.wrap ((f 2).toNat : Int) = ((f 2).toNat : Int) := wrap_u64 (by omega) (by have := (f 2).toNat_lt; omega)
  have w3 : IntKind.u64.wrap ((f 3).toNat : Int) = ((f 3).toNat : Int) := wrap_u64 (by omega) (by have := (f 3).toNat_lt; omega)
  have w4 : IntKind.u64.wrap ((f 4).toNat : Int) = ((f 4).toNat : Int) := wrap_u64 (by omega) (by have := (f 4).toNat_lt; omega)
  have w5 : IntKind.u64.wrap ((f 5).toNat : Int) = ((f 5).toNat : Int) := wrap_u64 (by omega) (by have := (f 5).toNat_lt; omega)
  have w6 : IntKind.u64.wrap ((f 6).toNat : Int) = ((f 6).toNat : Int) := wrap_u64 (by omega) (by have := (f 6).toNat_lt; omega)
  have w7 : IntKind.u64.wrap ((f 7).toNat : Int) = ((f 7).toNat : Int) := wrap_u64 (by omega) (by have := (f 7).toNat_lt; omega)
  have m0 : IntKind.u64.wrap ((f 0).toNat * 72057594037927936) = ((f 0).toNat : Int) * 72057594037927936 := wrap_u64 (by omega) (by have := (f 0).toNat_lt; omega)
  have m1 : IntKind.u64.wrap ((f 1).toNat * 281474976710656) = ((f 1).toNat : Int) * 281474976710656 := wrap_u64 (by omega) (by have := (f 1).toNat_lt; omega)
  have m2 : IntKind.u64.wrap ((f 2).toNat * 1099511627776) = ((f 2).toNat : Int) * 1099511627776 := wrap_u64 (by omega) (by have := (f 2).toNat_lt; omega)
  have m3 : IntKind.u64.wrap ((f 3).toNat * 4294967296) = ((f 3).toNat : Int) * 4294967296 := wrap_u64 (by omega) (by have := (f 3).toNat_lt; omega)
  have m4 : IntKind.u64.wrap ((f 4).toNat * 16777216) = ((f 4).toNat : Int) * 16777216 := wrap_u64 (by omega) (by have := (f 4).toNat_lt; omega)
  have m5 : IntKind.u64.wrap ((f 5).toNat * 65536) = ((f 5).toNat : Int) * 65536 := wrap_u64 (by omega) (by have := (f 5).toNat_lt; omega)
  have m6 : IntKind.u64.wrap ((f 6).toNat * 256) = ((f 6).toNat : Int) * 256 := wrap_u64 (by omega) (by have := (f 6).toNat_lt; omega)
  obtain ⟨N1, e1⟩ : ∃ N : Nat, N = ((f 0).toNat * 256 + (f 1).toNat) * 281474976710656 := ⟨_, rfl⟩
  have o1 : bits .or .u64 (((f 0).toNat : Int) * 72057594037927936) (((f 1).toNat : Int) * 281474976710656) = (N1 : Int) := by
    rw [show ((f 0).toNat : Int) * 72057594037927936 = (((f 0).toNat * 72057594037927936 : Nat) : Int) by omega, show ((f 1).toNat : Int) * 281474976710656 = (((f 1).toNat * 281474976710656 : Nat) : Int) by omega]
    rw [or64 (k := 56) ⟨by decide, by have := (f 0).toNat_lt; have := (f 1).toNat_lt; omega⟩ (by have := (f 0).toNat_lt; have := (f 1).toNat_lt; omega)]; omega
  obtain ⟨N2, e2⟩ : ∃ N : Nat, N = (((f 0).toNat * 256 + (f 1).toNat) * 256 + (f 2).toNat) * 1099511627776 := ⟨_, rfl⟩
  have o2 : bits .or .u64 ((N1 : Int)) (((f 2).toNat : Int) * 1099511627776) = (N2 : Int) := by
    rw [show (N1 : Int) = ((((f 0).toNat * 256 + (f 1).toNat) * 281474976710656 : Nat) : Int) from congrArg (Nat.cast (R := Int)) e1, show ((f 2).toNat : Int) * 1099511627776 = (((f 2).toNat * 1099511627776 : Nat) : Int) by omega]
    rw [or64 (k := 48) ⟨by decide, by have := (f 0).toNat_lt; have := (f 1).toNat_lt; have := (f 2).toNat_lt; omega⟩ (by have := (f 0).toNat_lt; have := (f 1).toNat_lt; have := (f 2).toNat_lt; omega)]; omega
  obtain ⟨N3, e3⟩ : ∃ N : Nat, N = ((((f 0).toNat * 256 + (f 1).toNat) * 256 + (f 2).toNat) * 256 + (f 3).toNat) * 4294967296 := ⟨_, rfl⟩
  have o3 : bits .or .u64 ((N2 : Int)) (((f 3).toNat : Int) * 4294967296) = (N3 : Int) := by
    rw [show (N2 : Int) = (((((f 0).toNat * 256 + (f 1).toNat) * 256 + (f 2).toNat) * 1099511627776 : Nat) : Int) from congrArg (Nat.cast (R := Int)) e2, show ((f 3).toNat : Int) * 4294967296 = (((f 3).toNat * 4294967296 : Nat) : Int) by omega]
    rw [or64 (k := 40) ⟨by decide, by have := (f 0).toNat_lt; have := (f 1).toNat_lt; have := (f 2).toNat_lt; have := (f 3).toNat_lt; omega⟩ (by have := (f 0).toNat_lt; have := (f 1).toNat_lt; have := (f 2).toNat_lt; have := (f 3).toNat_lt; omega)]; omega
  obtain ⟨N4, e4⟩ : ∃ N : Nat, N = (((((f 0).toNat * 256 + (f 1).toNat) * 256 + (f 2).toNat) * 256 + (f 3).toNat) * 256 + (f 4).toNat) * 16777216 := ⟨_, rfl⟩
  have o4 : bits .or .u64 ((N3 : Int)) (((f 4).toNat : Int) * 16777216) = (N4 : Int) := by
    rw [show (N3 : Int) = ((((((f 0).toNat * 256 + (f 1).toNat) * 256 + (f 2).toNat) * 256 + (f 3).toNat) * 4294967296 : Nat) : Int) from congrArg (Nat.cast (R := Int)) e3, show ((f 4).toNat : Int) * 16777216 = (((f 4).toNat * 16777216 : Nat) : Int) by omega]
    rw [or64 (k := 32) ⟨by decide, by have := (f 0).toNat_lt; have := (f 1).toNat_lt; have := (f 2).toNat_lt; have := (f 3).toNat_lt; have := (f 4).toNat_lt; omega⟩ (by have := (f 0).toNat_lt; have := (f 1).toNat_lt; have := (f 2).toNat_lt; have := (f 3).toNat_lt; have := (f 4).toNat_lt; omega)]; omega
  obtain ⟨N5, e5⟩ : ∃ N : Nat, N = ((((((f 0).toNat * 256 + (f 1).toNat) * 256 + (f 2).toNat) * 256 + (f 3).toNat) * 256 + (f 4).toNat) * 256 + (f 5).toNat) * 65536 := ⟨_, rfl⟩
  have o5 : bits .or .u64 ((N4 : Int)) (((f 5).toNat : Int) * 65536) = (N5 : Int) := by
    rw [show (N4 : Int) = (((((((f 0).toNat * 256 + (f 1).toNat) * 256 + (f 2).toNat) * 256 + (f 3).toNat) * 256 + (f 4).toNat) * 16777216 : Nat) : Int) from congrArg (Nat.cast (R := Int)) e4, show ((f 5).toNat : Int) * 65536 = (((f 5).toNat * 65536 : Nat) : Int) by omega]
    rw [or64 (k := 24) ⟨by decide, by have := (f 0).toNat_lt; have := (f 1).toNat_lt; have := (f 2).toNat_lt; have := (f 3).toNat_lt; have := (f 4).toNat_lt; have := (f 5).toNat_lt; omega⟩ (by have := (f 0).toNat_lt; have := (f 1).toNat_lt; have := (f 2).toNat_lt; have := (f 3).toNat_lt; have := (f 4).toNat_lt; have := (f 5).toNat_lt; omega)]; omega
  obtain ⟨N6, e6⟩ : ∃ N : Nat, N = (((((((f 0).toNat * 256 + (f 1).toNat) * 256 + (f 2).toNat) * 256 + (f 3).toNat) * 256 + (f 4).toNat) * 256 + (f 5).toNat) * 256 + (f 6).toNat) * 256 := ⟨_, rfl⟩
  have o6 : bits .or .u64 ((N5 : Int)) (((f 6).toNat : Int) * 256) = (N6 : Int) := by
    rw [show (N5 : Int) = ((((((((f 0).toNat * 256 + (f 1).toNat) * 256 + (f 2).toNat) * 256 + (f 3).toNat) * 256 + (f 4).toNat) * 256 + (f 5).toNat) * 65536 : Nat) : Int) from congrArg (Nat.cast (R := Int)) e5, show ((f 6).toNat : Int) * 256 = (((f 6).toNat * 256 : Nat) : Int) by omega]
    rw [or64 (k := 16) ⟨by decide, by have := (f 0).toNat_lt; have := (f 1).toNat_lt; have := (f 2).toNat_lt; have := (f 3).toNat_lt; have := (f 4).toNat_lt; have := (f 5).toNat_lt; have := (f 6).toNat_lt; omega⟩ (by have := (f 0).toNat_lt; have := (f 1).toNat_lt; have := (f 2).toNat_lt; have := (f 3).toNat_lt; have := (f 4).toNat_lt; have := (f 5).toNat_lt; have := (f 6).toNat_lt; omega)]; omega
  obtain ⟨N7, e7⟩ : ∃ N : Nat, N = ((((((((f 0).toNat * 256 + (f 1).toNat) * 256 + (f 2).toNat) * 256 + (f 3).toNat) * 256 + (f 4).toNat) * 256 + (f 5).toNat) * 256 + (f 6).toNat) * 256 + (f 7).toNat) * 1 := ⟨_, rfl⟩
  have o7 : bits .or .u64 ((N6 : Int)) (((f 7).toNat : Int)) = (N7 : Int) := by
    rw [show (N6 : Int) = (((((((((f 0).toNat * 256 + (f 1).toNat) * 256 + (f 2).toNat) * 256 + (f 3).toNat) * 256 + (f 4).toNat) * 256 + (f 5).toNat) * 256 + (f 6).toNat) * 256 : Nat) : Int) from congrArg (Nat.cast (R := Int)) e6, show ((f 7).toNat : Int) = (((f 7).toNat * 1 : Nat) : Int) by omega]
    rw [or64 (k := 8) ⟨by decide, by have := (f 0).toNat_lt; have := (f 1).toNat_lt; have := (f 2).toNat_lt; have := (f 3).toNat_lt; have := (f 4).toNat_lt; have := (f 5).toNat_lt; have := (f 6).toNat_lt; have := (f 7).toNat_lt; omega⟩ (by have := (f 0).toNat_lt; have := (f 1).toNat_lt; have := (f 2).toNat_lt; have := (f 3).toNat_lt; have := (f 4).toNat_lt; have := (f 5).toNat_lt; have := (f 6).toNat_lt; have := (f 7).toNat_lt; omega)]; omega
  have hg : N7 = g64 f := by rw [e7, Nat.mul_one]; rfl
  have Hg := Lib.hid hg
  clear hg e1 e2 e3 e4 e5 e6 e7
  have hn0 : (0 : Int) < n := by omega
  have hn1 : (1 : Int) < n := by omega
  have hn2 : (2 : Int) < n := by omega
  have hn3 : (3 : Int) < n := by omega
  have hn4 : (4 : Int) < n := by omega
  have hn5 : (5 : Int) < n := by omega
  have hn6 : (6 : Int) < n := by omega
  have hn7 : (7 : Int) < n := by omega
  have hn00 : 0 < n := by omega
  clear q hA
  go_enter Try.func81, Try.ntmps81
  go_upto_region 1 with fail
  refine wp_region_noPanic ?_
  refine wp_region_T (fun w' => w'.cell? ⟨b, o, none⟩ = some (B8 (f 0)) ∧ w'.cell? ⟨b, o + 1, none⟩ = some (B8 (f 1)) ∧ w'.cell? ⟨b, o + 2, none⟩ = some (B8 (f 2)) ∧ w'.cell? ⟨b, o + 3, none⟩ = some (B8 (f 3)) ∧ w'.cell? ⟨b, o + 4, none⟩ = some (B8 (f 4)) ∧ w'.cell? ⟨b, o + 5, none⟩ = some (B8 (f 5)) ∧ w'.cell? ⟨b, o + 6, none⟩ = some (B8 (f 6)) ∧ w'.cell? ⟨b, o + 7, none⟩ = some (B8 (f 7))) [] (by kernel_rfl) ?_ (fun hHeld => ?_)
  · exact ⟨q0, q1, q2, q3, q4, q5, q6, q7⟩
  refine wpAnyT_take (i := 0) (v := ?_) (by simp only [List.getElem?_toArray, List.getElem?_cons_zero, List.getElem?_cons_succ]; rfl) (by kernel_rfl) (by kernel_rfl) (by kernel_rfl) (by kernel_rfl) (by kernel_rfl) (fun _ _ _ h => h) (Or.inl ⟨by rfl, ?_⟩) (by assumption) ?_
  rotate_left
  · intro w hSw; (try dsimp only at hSw); go_simp; try (with_reducible rfl)
  try simp only [Act.put, List.setIfInBounds_toArray, List.set_cons_zero, List.set_cons_succ]
  refine wpAnyT_take (i := 1) (v := ?_) (by simp only [List.getElem?_toArray, List.getElem?_cons_zero, List.getElem?_cons_succ]; rfl) (by kernel_rfl) (by kernel_rfl) (by kernel_rfl) (by kernel_rfl) (by kernel_rfl) (fun _ _ _ h => h) (Or.inl ⟨by rfl, ?_⟩) (by assumption) ?_
  rotate_left
  · intro w hSw; (try dsimp only at hSw); go_simp; try (with_reducible rfl)
  try simp only [Act.put, List.setIfInBounds_toArray, List.set_cons_zero, List.set_cons_succ]
  refine wpAnyT_take (i := 2) (v := ?_) (by simp only [List.getElem?_toArray, List.getElem?_cons_zero, List.getElem?_cons_succ]; rfl) (by kernel_rfl) (by kernel_rfl) (by kernel_rfl) (by kernel_rfl) (by kernel_rfl) (fun _ _ _ h => h) (Or.inl ⟨by rfl, ?_⟩) (by assumption) ?_
  rotate_left
  · intro w hSw; (try dsimp only at hSw); go_simp; try (with_reducible rfl)
  try simp only [Act.put, List.setIfInBounds_toArray, List.set_cons_zero, List.set_cons_succ]
  refine wpAnyT_take (i := 3) (v := ?_) (by simp only [List.getElem?_toArray, List.getElem?_cons_zero, List.getElem?_cons_succ]; rfl) (by kernel_rfl) (by kernel_rfl) (by kernel_rfl) (by kernel_rfl) (by kernel_rfl) (fun _ _ _ h => h) (Or.inl ⟨by rfl, ?_⟩) (by assumption) ?_
  rotate_left
  · intro w hSw; (try dsimp only at hSw); go_simp; try (with_reducible rfl)
  try simp only [Act.put, List.setIfInBounds_toArray, List.set_cons_zero, List.set_cons_succ]
  refine wpAnyT_take (i := 4) (v := ?_) (by simp only [List.getElem?_toArray, List.getElem?_cons_zero, List.getElem?_cons_succ]; rfl) (by kernel_rfl) (by kernel_rfl) (by kernel_rfl) (by kernel_rfl) (by kernel_rfl) (fun _ _ _ h => h) (Or.inl ⟨by rfl, ?_⟩) (by assumption) ?_
  rotate_left
  · intro w hSw; (try dsimp only at hSw); go_simp; try (with_reducible rfl)
  try simp only [Act.put, List.setIfInBounds_toArray, List.set_cons_zero, List.set_cons_succ]
  refine wpAnyT_take (i := 5) (v := ?_) (by simp only [List.getElem?_toArray, List.getElem?_cons_zero, List.getElem?_cons_succ]; rfl) (by kernel_rfl) (by kernel_rfl) (by kernel_rfl) (by kernel_rfl) (by kernel_rfl) (fun _ _ _ h => h) (Or.inl ⟨by rfl, ?_⟩) (by assumption) ?_
  rotate_left
  · intro w hSw; (try dsimp only at hSw); go_simp; try (with_reducible rfl)
  try simp only [Act.put, List.setIfInBounds_toArray, List.set_cons_zero, List.set_cons_succ]
  refine wpAnyT_take (i := 6) (v := ?_) (by simp only [List.getElem?_toArray, List.getElem?_cons_zero, List.getElem?_cons_succ]; rfl) (by kernel_rfl) (by kernel_rfl) (by kernel_rfl) (by kernel_rfl) (by kernel_rfl) (fun _ _ _ h => h) (Or.inl ⟨by rfl, ?_⟩) (by assumption) ?_
  rotate_left
  · intro w hSw; (try dsimp only at hSw); go_simp; try (with_reducible rfl)
  try simp only [Act.put, List.setIfInBounds_toArray, List.set_cons_zero, List.set_cons_succ]
  refine wpAnyT_take (i := 7) (v := ?_) (by simp only [List.getElem?_toArray, List.getElem?_cons_zero, List.getElem?_cons_succ]; rfl) (by kernel_rfl) (by kernel_rfl) (by kernel_rfl) (by kernel_rfl) (by kernel_rfl) (fun _ _ _ h => h) (Or.inl ⟨by rfl, ?_⟩) (by assumption) ?_
  rotate_left
  · intro w hSw; (try dsimp only at hSw); go_simp; try (with_reducible rfl)
  try simp only [Act.put, List.setIfInBounds_toArray, List.set_cons_zero, List.set_cons_succ]
  refine wpAnyT_take (i := 8) (v := ?_) (by simp only [List.getElem?_toArray, List.getElem?_cons_zero, List.getElem?_cons_succ]; rfl) (by kernel_rfl) (by kernel_rfl) (by kernel_rfl) (by kernel_rfl) (by kernel_rfl) (fun _ _ _ h => h) (Or.inl ⟨by rfl, ?_⟩) (by assumption) ?_
  rotate_left
  · intro w hSw; (try dsimp only at hSw); go_simp; try (with_reducible rfl)
  try simp only [Act.put, List.setIfInBounds_toArray, List.set_cons_zero, List.set_cons_succ]
  refine wpAnyT_take (i := 9) (v := ?_) (by simp only [List.getElem?_toArray, List.getElem?_cons_zero, List.getElem?_cons_succ]; rfl) (by kernel_rfl) (by kernel_rfl) (by kernel_rfl) (by kernel_rfl) (by kernel_rfl) (fun _ _ _ h => h) (Or.inl ⟨by rfl, ?_⟩) (by assumption) ?_
  rotate_left
  · intro w hSw; (try dsimp only at hSw); go_simp; try (with_reducible rfl)
  try simp only [Act.put, List.setIfInBounds_toArray, List.set_cons_zero, List.set_cons_succ]
  refine wpAnyT_take (i := 10) (v := ?_) (by simp only [List.getElem?_toArray, List.getElem?_cons_zero, List.getElem?_cons_succ]; rfl) (by kernel_rfl) (by kernel_rfl) (by kernel_rfl) (by kernel_rfl) (by kernel_rfl) (fun _ _ _ h => h) (Or.inl ⟨by rfl, ?_⟩) (by assumption) ?_
  rotate_left
  · intro w hSw; (try dsimp only at hSw); go_simp; try (with_reducible rfl)
  try simp only [Act.put, List.setIfInBounds_toArray, List.set_cons_zero, List.set_cons_succ]
  refine wpAnyT_take (i := 11) (v := ?_) (by simp only [List.getElem?_toArray, List.getElem?_cons_zero, List.getElem?_cons_succ]; rfl) (by kernel_rfl) (by kernel_rfl) (by kernel_rfl) (by kernel_rfl) (by kernel_rfl) (fun _ _ _ h => h) (Or.inl ⟨by rfl, ?_⟩) (by assumption) ?_
  rotate_left
  · intro w hSw; (try dsimp only at hSw); go_simp; try (with_reducible rfl)
  try simp only [Act.put, List.setIfInBounds_toArray, List.set_cons_zero, List.set_cons_succ]
  refine wpAnyT_take (i := 12) (v := ?_) (by simp only [List.getElem?_toArray, List.getElem?_cons_zero, List.getElem?_cons_succ]; rfl) (by kernel_rfl) (by kernel_rfl) (by kernel_rfl) (by kernel_rfl) (by kernel_rfl) (fun _ _ _ h => h) (Or.inl ⟨by rfl, ?_⟩) (by assumption) ?_
  rotate_left
  · intro w hSw; (try dsimp only at hSw); go_simp; try (with_reducible rfl)
  try simp only [Act.put, List.setIfInBounds_toArray, List.set_cons_zero, List.set_cons_succ]
  refine wpAnyT_take (i := 13) (v := ?_) (by simp only [List.getElem?_toArray, List.getElem?_cons_zero, List.getElem?_cons_succ]; rfl) (by kernel_rfl) (by kernel_rfl) (by kernel_rfl) (by kernel_rfl) (by kernel_rfl) (fun _ _ _ h => h) (Or.inl ⟨by rfl, ?_⟩) (by assumption) ?_
  rotate_left
  · intro w hSw; (try dsimp only at hSw); go_simp; try (with_reducible rfl)
  try simp only [Act.put, List.setIfInBounds_toArray, List.set_cons_zero, List.set_cons_succ]
  refine wpAnyT_take (i := 14) (v := ?_) (by simp only [List.getElem?_toArray, List.getElem?_cons_zero, List.getElem?_cons_succ]; rfl) (by kernel_rfl) (by kernel_rfl) (by kernel_rfl) (by kernel_rfl) (by kernel_rfl) (fun _ _ _ h => h) (Or.inl ⟨by rfl, ?_⟩) (by assumption) ?_
  rotate_left
  · intro w hSw; (try dsimp only at hSw); go_simp; try (with_reducible rfl)
  try simp only [Act.put, List.setIfInBounds_toArray, List.set_cons_zero, List.set_cons_succ]
  refine wpAnyT_take (i := 15) (v := ?_) (by simp only [List.getElem?_toArray, List.getElem?_cons_zero, List.getElem?_cons_succ]; rfl) (by kernel_rfl) (by kernel_rfl) (by kernel_rfl) (by kernel_rfl) (by kernel_rfl) (fun _ _ _ h => h) (Or.inl ⟨by rfl, ?_⟩) (by assumption) ?_
  rotate_left
  · intro w hSw; (try dsimp only at hSw); go_simp; try (with_reducible rfl)
  try simp only [Act.put, List.setIfInBounds_toArray, List.set_cons_zero, List.set_cons_succ]
  refine wpAnyT_take (i := 16) (v := ?_) (by simp only [List.getElem?_toArray, List.getElem?_cons_zero, List.getElem?_cons_succ]; rfl) (by kernel_rfl) (by kernel_rfl) (by kernel_rfl) (by kernel_rfl) (by kernel_rfl) (fun _ _ _ h => h) (Or.inl ⟨by rfl, ?_⟩) (by assumption) ?_
  rotate_left
  · intro w hSw; (try dsimp only at hSw); go_simp; try (with_reducible rfl)
  try simp only [Act.put, List.setIfInBounds_toArray, List.set_cons_zero, List.set_cons_succ]
  refine wpAnyT_take (i := 17) (v := ?_) (by simp only [List.getElem?_toArray, List.getElem?_cons_zero, List.getElem?_cons_succ]; rfl) (by kernel_rfl) (by kernel_rfl) (by kernel_rfl) (by kernel_rfl) (by kernel_rfl) (fun _ _ _ h => h) (Or.inl ⟨by rfl, ?_⟩) (by assumption) ?_
  rotate_left
  · intro w hSw; (try dsimp only at hSw); go_simp; try (with_reducible rfl)
  try simp only [Act.put, List.setIfInBounds_toArray, List.set_cons_zero, List.set_cons_succ]
  refine wpAnyT_take (i := 18) (v := ?_) (by simp only [List.getElem?_toArray, List.getElem?_cons_zero, List.getElem?_cons_succ]; rfl) (by kernel_rfl) (by kernel_rfl) (by kernel_rfl) (by kernel_rfl) (by kernel_rfl) (fun _ _ _ h => h) (Or.inl ⟨by rfl, ?_⟩) (by assumption) ?_
  rotate_left
  · intro w hSw; (try dsimp only at hSw); go_simp; try (with_reducible rfl)
  try simp only [Act.put, List.setIfInBounds_toArray, List.set_cons_zero, List.set_cons_succ]
  refine wpAnyT_take (i := 19) (v := ?_) (by simp only [List.getElem?_toArray, List.getElem?_cons_zero, List.getElem?_cons_succ]; rfl) (by kernel_rfl) (by kernel_rfl) (by kernel_rfl) (by kernel_rfl) (by kernel_rfl) (fun _ _ _ h => h) (Or.inl ⟨by rfl, ?_⟩) (by assumption) ?_
  rotate_left
  · intro w hSw; (try dsimp only at hSw); go_simp; try (with_reducible rfl)
  try simp only [Act.put, List.setIfInBounds_toArray, List.set_cons_zero, List.set_cons_succ]
  refine wpAnyT_take (i := 20) (v := ?_) (by simp only [List.getElem?_toArray, List.getElem?_cons_zero, List.getElem?_cons_succ]; rfl) (by kernel_rfl) (by kernel_rfl) (by kernel_rfl) (by kernel_rfl) (by kernel_rfl) (fun _ _ _ h => h) (Or.inl ⟨by rfl, ?_⟩) (by assumption) ?_
  rotate_left
  · intro w hSw; (try dsimp only at hSw); go_simp; try (with_reducible rfl)
  try simp only [Act.put, List.setIfInBounds_toArray, List.set_cons_zero, List.set_cons_succ]
  refine wpAnyT_take (i := 21) (v := ?_) (by simp only [List.getElem?_toArray, List.getElem?_cons_zero, List.getElem?_cons_succ]; rfl) (by kernel_rfl) (by kernel_rfl) (by kernel_rfl) (by kernel_rfl) (by kernel_rfl) (fun _ _ _ h => h) (Or.inl ⟨by rfl, ?_⟩) (by assumption) ?_
  rotate_left
  · intro w hSw; (try dsimp only at hSw); go_simp; try (with_reducible rfl)
  try simp only [Act.put, List.setIfInBounds_toArray, List.set_cons_zero, List.set_cons_succ]
  refine wpAnyT_take (i := 22) (v := ?_) (by simp only [List.getElem?_toArray, List.getElem?_cons_zero, List.getElem?_cons_succ]; rfl) (by kernel_rfl) (by kernel_rfl) (by kernel_rfl) (by kernel_rfl) (by kernel_rfl) (fun _ _ _ h => h) (Or.inl ⟨by rfl, ?_⟩) (by assumption) ?_
  rotate_left
  · intro w hSw; (try dsimp only at hSw); go_simp; try (with_reducible rfl)
  try simp only [Act.put, List.setIfInBounds_toArray, List.set_cons_zero, List.set_cons_succ]
  refine wpAnyT_take (i := 23) (v := ?_) (by simp only [List.getElem?_toArray, List.getElem?_cons_zero, List.getElem?_cons_succ]; rfl) (by kernel_rfl) (by kernel_rfl) (by kernel_rfl) (by kernel_rfl) (by kernel_rfl) (fun _ _ _ h => h) (Or.inl ⟨by rfl, ?_⟩) (by assumption) ?_
  rotate_left
  · intro w hSw; (try dsimp only at hSw); go_simp; try (with_reducible rfl)
  try simp only [Act.put, List.setIfInBounds_toArray, List.set_cons_zero, List.set_cons_succ]
  refine wpAnyT_take (i := 24) (v := ?_) (by simp only [List.getElem?_toArray, List.getElem?_cons_zero, List.getElem?_cons_succ]; rfl) (by kernel_rfl) (by kernel_rfl) (by kernel_rfl) (by kernel_rfl) (by kernel_rfl) (fun _ _ _ h => h) (Or.inl ⟨by rfl, ?_⟩) (by assumption) ?_
  rotate_left
  · intro w hSw; (try dsimp only at hSw); go_simp; try (with_reducible rfl)
  try simp only [Act.put, List.setIfInBounds_toArray, List.set_cons_zero, List.set_cons_succ]
  refine wpAnyT_take (i := 25) (v := ?_) (by simp only [List.getElem?_toArray, List.getElem?_cons_zero, List.getElem?_cons_succ]; rfl) (by kernel_rfl) (by kernel_rfl) (by kernel_rfl) (by kernel_rfl) (by kernel_rfl) (fun _ _ _ h => h) (Or.inl ⟨by rfl, ?_⟩) (by assumption) ?_
  rotate_left
  · intro w hSw; (try dsimp only at hSw); go_simp; try (with_reducible rfl)
  try simp only [Act.put, List.setIfInBounds_toArray, List.set_cons_zero, List.set_cons_succ]
  refine wpAnyT_take (i := 26) (v := ?_) (by simp only [List.getElem?_toArray, List.getElem?_cons_zero, List.getElem?_cons_succ]; rfl) (by kernel_rfl) (by kernel_rfl) (by kernel_rfl) (by kernel_rfl) (by kernel_rfl) (fun _ _ _ h => h) (Or.inl ⟨by rfl, ?_⟩) (by assumption) ?_
  rotate_left
  · intro w hSw; (try dsimp only at hSw); go_simp; try (with_reducible rfl)
  try simp only [Act.put, List.setIfInBounds_toArray, List.set_cons_zero, List.set_cons_succ]
  refine wpAnyT_take (i := 27) (v := ?_) (by simp only [List.getElem?_toArray, List.getElem?_cons_zero, List.getElem?_cons_succ]; rfl) (by kernel_rfl) (by kernel_rfl) (by kernel_rfl) (by kernel_rfl) (by kernel_rfl) (fun _ _ _ h => h) (Or.inl ⟨by rfl, ?_⟩) (by assumption) ?_
  rotate_left
  · intro w hSw; (try dsimp only at hSw); go_simp; try (with_reducible rfl)
  try simp only [Act.put, List.setIfInBounds_toArray, List.set_cons_zero, List.set_cons_succ]
  refine wpAnyT_take (i := 28) (v := ?_) (by simp only [List.getElem?_toArray, List.getElem?_cons_zero, List.getElem?_cons_succ]; rfl) (by kernel_rfl) (by kernel_rfl) (by kernel_rfl) (by kernel_rfl) (by kernel_rfl) (fun _ _ _ h => h) (Or.inl ⟨by rfl, ?_⟩) (by assumption) ?_
  rotate_left
  · intro w hSw; (try dsimp only at hSw); go_simp; try (with_reducible rfl)
  try simp only [Act.put, List.setIfInBounds_toArray, List.set_cons_zero, List.set_cons_succ]
  refine wpAnyT_take (i := 29) (v := ?_) (by simp only [List.getElem?_toArray, List.getElem?_cons_zero, List.getElem?_cons_succ]; rfl) (by kernel_rfl) (by kernel_rfl) (by kernel_rfl) (by kernel_rfl) (by kernel_rfl) (fun _ _ _ h => h) (Or.inl ⟨by rfl, ?_⟩) (by assumption) ?_
  rotate_left
  · intro w hSw; (try dsimp only at hSw); go_simp; try (with_reducible rfl)
  try simp only [Act.put, List.setIfInBounds_toArray, List.set_cons_zero, List.set_cons_succ]
  refine wpAnyT_take (i := 30) (v := ?_) (by simp only [List.getElem?_toArray, List.getElem?_cons_zero, List.getElem?_cons_succ]; rfl) (by kernel_rfl) (by kernel_rfl) (by kernel_rfl) (by kernel_rfl) (by kernel_rfl) (fun _ _ _ h => h) (Or.inl ⟨by rfl, ?_⟩) (by assumption) ?_
  rotate_left
  · intro w hSw; (try dsimp only at hSw); go_simp; try (with_reducible rfl)
  try simp only [Act.put, List.setIfInBounds_toArray, List.set_cons_zero, List.set_cons_succ]
  refine wpAnyT_take (i := 31) (v := ?_) (by simp only [List.getElem?_toArray, List.getElem?_cons_zero, List.getElem?_cons_succ]; rfl) (by kernel_rfl) (by kernel_rfl) (by kernel_rfl) (by kernel_rfl) (by kernel_rfl) (fun _ _ _ h => h) (Or.inl ⟨by rfl, ?_⟩) (by assumption) ?_
  rotate_left
  · intro w hSw; (try dsimp only at hSw); go_simp; try (with_reducible rfl)
  try simp only [Act.put, List.setIfInBounds_toArray, List.set_cons_zero, List.set_cons_succ]
  refine wpAnyT_take (i := 32) (v := ?_) (by simp only [List.getElem?_toArray, List.getElem?_cons_zero, List.getElem?_cons_succ]; rfl) (by kernel_rfl) (by kernel_rfl) (by kernel_rfl) (by kernel_rfl) (by kernel_rfl) (fun _ _ _ h => h) (Or.inl ⟨by rfl, ?_⟩) (by assumption) ?_
  rotate_left
  · intro w hSw; (try dsimp only at hSw); go_simp; try (with_reducible rfl)
  try simp only [Act.put, List.setIfInBounds_toArray, List.set_cons_zero, List.set_cons_succ]
  refine wpAnyT_take (i := 33) (v := ?_) (by simp only [List.getElem?_toArray, List.getElem?_cons_zero, List.getElem?_cons_succ]; rfl) (by kernel_rfl) (by kernel_rfl) (by kernel_rfl) (by kernel_rfl) (by kernel_rfl) (fun _ _ _ h => h) (Or.inl ⟨by rfl, ?_⟩) (by assumption) ?_
  rotate_left
  · intro w hSw; (try dsimp only at hSw); go_simp; try (with_reducible rfl)
  try simp only [Act.put, List.setIfInBounds_toArray, List.set_cons_zero, List.set_cons_succ]
  refine wpAnyT_take (i := 34) (v := ?_) (by simp only [List.getElem?_toArray, List.getElem?_cons_zero, List.getElem?_cons_succ]; rfl) (by kernel_rfl) (by kernel_rfl) (by kernel_rfl) (by kernel_rfl) (by kernel_rfl) (fun _ _ _ h => h) (Or.inl ⟨by rfl, ?_⟩) (by assumption) ?_
  rotate_left
  · intro w hSw; (try dsimp only at hSw); go_simp; try (with_reducible rfl)
  try simp only [Act.put, List.setIfInBounds_toArray, List.set_cons_zero, List.set_cons_succ]
  refine wpAnyT_take (i := 35) (v := ?_) (by simp only [List.getElem?_toArray, List.getElem?_cons_zero, List.getElem?_cons_succ]; rfl) (by kernel_rfl) (by kernel_rfl) (by kernel_rfl) (by kernel_rfl) (by kernel_rfl) (fun _ _ _ h => h) (Or.inl ⟨by rfl, ?_⟩) (by assumption) ?_
  rotate_left
  · intro w hSw; (try dsimp only at hSw); go_simp; try (with_reducible rfl)
  try simp only [Act.put, List.setIfInBounds_toArray, List.set_cons_zero, List.set_cons_succ]
  refine wpAnyT_take (i := 36) (v := ?_) (by simp only [List.getElem?_toArray, List.getElem?_cons_zero, List.getElem?_cons_succ]; rfl) (by kernel_rfl) (by kernel_rfl) (by kernel_rfl) (by kernel_rfl) (by kernel_rfl) (fun _ _ _ h => h) (Or.inl ⟨by rfl, ?_⟩) (by assumption) ?_
  rotate_left
  · intro w hSw; (try dsimp only at hSw); go_simp; try (with_reducible rfl)
  try simp only [Act.put, List.setIfInBounds_toArray, List.set_cons_zero, List.set_cons_succ]
  refine wpAnyT_take (i := 37) (v := ?_) (by simp only [List.getElem?_toArray, List.getElem?_cons_zero, List.getElem?_cons_succ]; rfl) (by kernel_rfl) (by kernel_rfl) (by kernel_rfl) (by kernel_rfl) (by kernel_rfl) (fun _ _ _ h => h) (Or.inl ⟨by rfl, ?_⟩) (by assumption) ?_
  rotate_left
  · intro w hSw; (try dsimp only at hSw); go_simp; try (with_reducible rfl)
  try simp only [Act.put, List.setIfInBounds_toArray, List.set_cons_zero, List.set_cons_succ]
  refine wpAnyT_take (i := 38) (v := ?_) (by simp only [List.getElem?_toArray, List.getElem?_cons_zero, List.getElem?_cons_succ]; rfl) (by kernel_rfl) (by kernel_rfl) (by kernel_rfl) (by kernel_rfl) (by kernel_rfl) (fun _ _ _ h => h) (Or.inl ⟨by rfl, ?_⟩) (by assumption) ?_
  rotate_left
  · intro w hSw; (try dsimp only at hSw); go_simp; try (with_reducible rfl)
  try simp only [Act.put, List.setIfInBounds_toArray, List.set_cons_zero, List.set_cons_succ]
  refine wpAnyT_take (i := 39) (v := ?_) (by simp only [List.getElem?_toArray, List.getElem?_cons_zero, List.getElem?_cons_succ]; rfl) (by kernel_rfl) (by kernel_rfl) (by kernel_rfl) (by kernel_rfl) (by kernel_rfl) (fun _ _ _ h => h) (Or.inl ⟨by rfl, ?_⟩) (by assumption) ?_
  rotate_left
  · intro w hSw; (try dsimp only at hSw); go_simp; try (with_reducible rfl)
  try simp only [Act.put, List.setIfInBounds_toArray, List.set_cons_zero, List.set_cons_succ]
  refine wpAnyT_take (i := 40) (v := ?_) (by simp only [List.getElem?_toArray, List.getElem?_cons_zero, List.getElem?_cons_succ]; rfl) (by kernel_rfl) (by kernel_rfl) (by kernel_rfl) (by kernel_rfl) (by kernel_rfl) (fun _ _ _ h => h) (Or.inl ⟨by rfl, ?_⟩) (by assumption) ?_
  rotate_left
  · intro w hSw; (try dsimp only at hSw); go_simp; try (with_reducible rfl)
  try simp only [Act.put, List.setIfInBounds_toArray, List.set_cons_zero, List.set_cons_succ]
  refine wpAnyT_take (i := 41) (v := ?_) (by simp only [List.getElem?_toArray, List.getElem?_cons_zero, List.getElem?_cons_succ]; rfl) (by kernel_rfl) (by kernel_rfl) (by kernel_rfl) (by kernel_rfl) (by kernel_rfl) (fun _ _ _ h => h) (Or.inl ⟨by rfl, ?_⟩) (by assumption) ?_
  rotate_left
  · intro w hSw; (try dsimp only at hSw); go_simp; try (with_reducible rfl)
  try simp only [Act.put, List.setIfInBounds_toArray, List.set_cons_zero, List.set_cons_succ]
  refine wpAnyT_take (i := 42) (v := ?_) (by simp only [List.getElem?_toArray, List.getElem?_cons_zero, List.getElem?_cons_succ]; rfl) (by kernel_rfl) (by kernel_rfl) (by kernel_rfl) (by kernel_rfl) (by kernel_rfl) (fun _ _ _ h => h) (Or.inl ⟨by rfl, ?_⟩) (by assumption) ?_
  rotate_left
  · intro w hSw; (try dsimp only at hSw); go_simp; try (with_reducible rfl)
  try simp only [Act.put, List.setIfInBounds_toArray, List.set_cons_zero, List.set_cons_succ]
  refine wpAnyT_take (i := 43) (v := ?_) (by simp only [List.getElem?_toArray, List.getElem?_cons_zero, List.getElem?_cons_succ]; rfl) (by kernel_rfl) (by kernel_rfl) (by kernel_rfl) (by kernel_rfl) (by kernel_rfl) (fun _ _ _ h => h) (Or.inl ⟨by rfl, ?_⟩) (by assumption) ?_
  rotate_left
  · intro w hSw; (try dsimp only at hSw); go_simp; try (with_reducible rfl)
  try simp only [Act.put, List.setIfInBounds_toArray, List.set_cons_zero, List.set_cons_succ]
  refine wpAnyT_take (i := 44) (v := ?_) (by simp only [List.getElem?_toArray, List.getElem?_cons_zero, List.getElem?_cons_succ]; rfl) (by kernel_rfl) (by kernel_rfl) (by kernel_rfl) (by kernel_rfl) (by kernel_rfl) (fun _ _ _ h => h) (Or.inl ⟨by rfl, ?_⟩) (by assumption) ?_
  rotate_left
  · intro w hSw; (try dsimp only at hSw); go_simp; try (with_reducible rfl)
  try simp only [Act.put, List.setIfInBounds_toArray, List.set_cons_zero, List.set_cons_succ]
  refine wpAnyT_take (i := 45) (v := ?_) (by simp only [List.getElem?_toArray, List.getElem?_cons_zero, List.getElem?_cons_succ]; rfl) (by kernel_rfl) (by kernel_rfl) (by kernel_rfl) (by kernel_rfl) (by kernel_rfl) (fun _ _ _ h => h) (Or.inl ⟨by rfl, ?_⟩) (by assumption) ?_
  rotate_left
  · intro w hSw; (try dsimp only at hSw); go_simp; try (with_reducible rfl)
  try simp only [Act.put, List.setIfInBounds_toArray, List.set_cons_zero, List.set_cons_succ]
  refine wpAnyT_take (i := 46) (v := ?_) (by simp only [List.getElem?_toArray, List.getElem?_cons_zero, List.getElem?_cons_succ]; rfl) (by kernel_rfl) (by kernel_rfl) (by kernel_rfl) (by kernel_rfl) (by kernel_rfl) (fun _ _ _ h => h) (Or.inl ⟨by rfl, ?_⟩) (by assumption) ?_
  rotate_left
  · intro w hSw; (try dsimp only at hSw); go_simp; try (with_reducible rfl)
  try simp only [Act.put, List.setIfInBounds_toArray, List.set_cons_zero, List.set_cons_succ]
  refine wpAnyT_done (by kernel_rfl) ?_ _
  refine NoPanic.normal ?_
  go_wp2
  go_ret
  refine ⟨?_, rfl⟩
  rw [← Hg.out]
  rfl
end Go.Proofs.Ytmilanicedjhmaa
