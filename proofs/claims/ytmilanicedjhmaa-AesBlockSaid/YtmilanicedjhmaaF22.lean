/- Contract: bytes that are not too many. No condition beyond each theorem's own. -/
import Derived.Test.YtmilanicedjhmaaF21
namespace Go.Proofs.Ytmilanicedjhmaa
open Go.RowKit
set_option linter.unusedSimpArgs false

theorem Bytes.take_ {w : World} {A : Option Addr} {n : Nat} {l : List UInt8} (h : Bytes w A n l) (k : Nat) : Bytes w A (min n k) (l.take k) := by
  refine ⟨by rw [List.length_take, h.1]; omega, fun hn => ?_⟩
  obtain ⟨b, o, e, hr⟩ := h.2 (by omega)
  refine ⟨b, o, e, fun j x hx => ?_⟩
  rw [List.getElem?_take] at hx
  split at hx
  · exact hr j x hx
  · cases hx
theorem slice_h {w : World} {b o n c hi : Nat} {h : Int} (hh : h = hi) (h2 : hi ≤ c) (h3 : 0 < c) :
    (Instr.slice 22 (.slice (some ⟨b, o, none⟩) n c) none (some (.int .i64 h)) none).run Try.prog w = .ok (.slice (some ⟨b, o, none⟩) hi c) w := by
  subst hh
  rw [run_slice_h w 22 _ n c Try.underlying22 .i64 hi (by omega) (by omega)]
  obtain ⟨i0, hi0, hz0, hz1, hz2⟩ := info_parts info5
  have he : Try.prog.elem 22 = 5 := by kernel_rfl
  simp only [he, sizeOf, typeInfo, Sem.run_bind, run_program, Result.andThen_ok, hi0, Sem.run_pure, hz1, Int.toNat_natCast, sliced]
  rw [if_neg (by omega)]
  simp [addr_add]
set_option maxRecDepth 100000 in
theorem short_any {w : World} {A : Option Addr} {n : Nat} (c k : Nat) {l : List UInt8} (hB : Bytes w A n l) (hc : n ≤ c) : Calls Try.prog 15 #[.slice A n c, .int .i64 (k : Int)] w fun e w' => e = .returned (.slice A (min n k) c) ∧ w = w' := by
  by_cases h : k < n
  · obtain ⟨b, o, rfl, -⟩ := hB.2 (by omega)
    have hk : (k : Int) < n := by omega
    have hs := slice_h (w := w) (b := b) (o := o) (n := n) (c := c) (hi := k) (h := (k : Int)) rfl (by omega) (by omega)
    rw [show min n k = k by omega]
    clear hB
    go_enter Try.func15, Try.ntmps15
    go_wp2
    go_ret
    exact ⟨rfl, rfl⟩
  · have hk : ¬ (k : Int) < n := by omega
    rw [show min n k = n by omega]
    clear hB
    go_enter Try.func15, Try.ntmps15
    go_wp2
    go_ret
    exact ⟨rfl, rfl⟩
end Go.Proofs.Ytmilanicedjhmaa
