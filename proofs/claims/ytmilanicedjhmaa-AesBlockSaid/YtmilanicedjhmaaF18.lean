/- Contracts: products in the field of GHASH, of bytes. No condition beyond each theorem's own. -/
import Derived.Test.YtmilanicedjhmaaF17
namespace Go.Proofs.Ytmilanicedjhmaa
open Go.RowKit
set_option linter.unusedSimpArgs false

theorem b64_g64 (f : Nat → UInt8) {i : Nat} (hi : i < 8) : b64 (g64 f) i = f i := by
  apply UInt8.toNat_inj.1
  rw [b64_val, show (256 : Nat) ^ (7 - i) = 2 ^ (8 * (7 - i)) by rw [Nat.pow_mul]]
  obtain ⟨P, hP⟩ := g64_at f i hi
  rw [hP]
  have := (f i).toNat_lt
  omega
theorem be64_g64 (f : Nat → UInt8) : be64 (g64 f) = tab 8 f := tab_congr fun _ hi => b64_g64 f hi
theorem be_elem (f : Nat → UInt8) : be64 (g64 f) ++ be64 (g64 fun j => f (8 + j)) = tab 16 f := by
  rw [be64_g64, be64_g64]
  rfl
theorem write_elem (w : World) (f : Nat → UInt8) : Calls Try.prog 56 #[.agg (elem f)] w (Out16 w (tab 16 f)) := by
  rw [← be_elem]
  exact write_any w _ _ (g64_lt _) (g64_lt _)

set_option maxRecDepth 100000 in
theorem times_no (A A2 : Option Addr) (n c n2 c2 : Nat) (w : World) (h : n ≠ 16 ∨ n2 ≠ 16) : Calls Try.prog 23 #[.slice A n c, .slice A2 n2 c2] w fun e w' => e = .returned (.slice none 0 0) ∧ w = w' := by
  by_cases h1 : n = 16
  · have h2 : n2 ≠ 16 := by omega
    subst h1
    have k1 : ((n2 : Int) != 16) = true := by simp; omega
    go_enter Try.func23, Try.ntmps23
    go_wp2
    go_ret
    exact ⟨rfl, rfl⟩
  · have k1 : ((n : Int) != 16) = true := by simp; omega
    go_enter Try.func23, Try.ntmps23
    go_wp2
    go_ret
    exact ⟨rfl, rfl⟩
set_option maxRecDepth 100000 in
set_option maxHeartbeats 2000000 in
theorem times_any' {w : World} (A A2 : Option Addr) (c c2 : Nat) (x y : Nat → UInt8) (hx : At w A 16 x) (hy : At w A2 16 y) (hc : 16 ≤ c) (hc2 : 16 ≤ c2) : Calls Try.prog 23 #[.slice A 16 c, .slice A2 16 c2] w (Out16 w (tab 16 (mulF x y))) := by
  have r1 := read_any A c x hx hc
  go_enter Try.func23, Try.ntmps23
  go_wp2_with (first
    | (go_at_call 54; refine r1.mono ?_; rintro e w1 ⟨rfl, hb1⟩; have r2 := read_any A2 c2 y (hy.below hb1) hc2; clear r1)
    | (go_at_call 54; refine r2.mono ?_; rintro e w2 ⟨rfl, hb2⟩; have r3 := times_el w2 x y; clear r2)
    | (go_at_call 55; refine r3.mono ?_; rintro e w3 ⟨rfl, hb3⟩; have r4 := write_elem w3 (mulF x y); clear r3)
    | (go_at_call 56; refine r4.mono ?_; rintro e w4 ⟨v, rfl, ho, hb4⟩))
  go_ret
  have hb13 : Below w.heap.size w w3 := (hb1.trans (hb2.mono hb1.size)).trans (hb3.mono (hb1.trans (hb2.mono hb1.size)).size)
  refine ⟨v, rfl, ?_, hb13.trans (hb4.mono hb13.size)⟩
  rcases ho.2 with ⟨_, h0⟩ | ⟨g, cap, cur, hv, hbg, hh⟩
  · cases h0
  · exact ⟨ho.1, .inr ⟨g, cap, cur, hv, Nat.le_trans hb13.size hbg, hh⟩⟩
end Go.Proofs.Ytmilanicedjhmaa
