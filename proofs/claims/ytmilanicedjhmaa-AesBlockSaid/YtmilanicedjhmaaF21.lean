/- Contracts: products, the reference's. No condition beyond each theorem's own. -/
import Derived.Test.YtmilanicedjhmaaF20
import Derived.Test.YtmilanicedjhmaaP10
namespace Go.Proofs.Ytmilanicedjhmaa
open Go.RowKit
set_option linter.unusedSimpArgs false

/-- Sixteen bytes that may be written, whatever lies behind them. -/
def Buf (w : World) (g : Nat) (f : Nat → UInt8) : Prop := ∃ cur, Blk w g 5 cur ∧ ∀ j < 16, cur[j]? = some (B8 (f j))
theorem Buf.lt {w : World} {g : Nat} {f : Nat → UInt8} (h : Buf w g f) : g < w.heap.size := by obtain ⟨cur, h, -⟩ := h; exact h.lt
theorem Buf.cell {w : World} {g : Nat} {f : Nat → UInt8} (h : Buf w g f) (j : Nat) (hj : j < 16) : w.cell? ⟨g, j, none⟩ = some (B8 (f j)) := by
  obtain ⟨cur, h, hc⟩ := h
  rw [h.cell, hc j hj]
theorem Buf.frozen {w : World} {g : Nat} {f : Nat → UInt8} (h : Buf w g f) (j : Nat) : w.frozen? ⟨g, j, none⟩ = false := by
  obtain ⟨cur, h, -⟩ := h
  exact h.frozen j
theorem Buf.set_ {w : World} {g : Nat} {f : Nat → UInt8} (h : Buf w g f) (i : Nat) (x : UInt8) : Buf (w.setCell ⟨g, i, none⟩ (B8 x)) g (upd f i x) := by
  obtain ⟨cur, h, hc⟩ := h
  refine ⟨_, h.set_ i (B8 x), fun j hj => ?_⟩
  rw [Array.getElem?_setIfInBounds]
  have hs : j < cur.size := by
    have := hc j hj
    exact (Array.getElem?_eq_some_iff.1 this).1
  by_cases e : i = j
  · subst e
    simp [hs, upd]
  · rw [if_neg e, hc j hj]
    unfold upd
    rw [if_neg (fun e2 => e e2.symm)]
theorem Buf.far {w : World} {g : Nat} {f : Nat → UInt8} (h : Buf w g f) {p : Addr} (hp : g ≠ p.block) (u : Value) : Buf (w.setCell p u) g f := by
  obtain ⟨cur, h, hc⟩ := h
  exact ⟨cur, h.far hp u, hc⟩
theorem Buf.below {w w' : World} {B g : Nat} {f : Nat → UInt8} (h : Buf w g f) (hb : Below B w w') (hg : g < B) : Buf w' g f := by
  obtain ⟨cur, h, hc⟩ := h
  exact ⟨cur, h.below hb hg, hc⟩
theorem Buf.drew {w : World} {g : Nat} {f : Nat → UInt8} (h : Buf w g f) : Buf w.drew g f := h
theorem Buf.drewN {w : World} {g : Nat} {f : Nat → UInt8} (h : Buf w g f) (n : Nat) : Buf (w.drewN n) g f := h
theorem Buf.at {w : World} {g : Nat} {f : Nat → UInt8} (h : Buf w g f) : At w (some ⟨g, 0, none⟩) 16 f := fun _ => ⟨g, 0, rfl, fun j hj => by rw [Nat.zero_add]; exact h.cell j hj⟩
/-- Halved from the last byte down to byte m. -/
def hTo (y : Nat → UInt8) (m j : Nat) : UInt8 := if m ≤ j then shrF y j else y j
theorem hTo_top (y : Nat → UInt8) (j : Nat) (hj : j < 16) : hTo y 16 j = y j := by unfold hTo; rw [if_neg (by omega)]
theorem hTo_zero (y : Nat → UInt8) : hTo y 0 = shrF y := by funext j; unfold hTo; rw [if_pos (Nat.zero_le _)]
theorem hTo_step (y : Nat → UInt8) (m : Nat) : upd (hTo y (m + 1)) m (shrF y m) = hTo y m := by
  funext j
  unfold upd hTo
  by_cases h : j = m
  · subst h; simp
  · rw [if_neg h]
    by_cases h2 : m ≤ j
    · rw [if_pos h2, if_pos (by omega)]
    · rw [if_neg h2, if_neg (by omega)]
theorem app_copy {w : World} {A : Option Addr} {n c : Nat} {l : List UInt8} (h : Bytes w A n l) (hn : n ≤ 140737488355328) :
    ∃ v' w', (Builtin.append_ #[22, 22] 22 #[.slice none 0 0, .slice A n c]).run Try.prog w = .ok v' w' ∧ w'.ownsRow w.heap.size 5 1 v' n (l.map B8) ∧ Below w.heap.size w w' := by
  obtain ⟨i0, hi0, hz0, hz1, hz2⟩ := info_parts info5
  obtain ⟨v', w', hr, h2, h3, -⟩ := run_append_any (P := Try.prog) w w.heap.size 22 22 5 i0 _ 1 1 Try.underlying22 hi0 hz0 hz1 hz2 rfl (by omega) (.slice none 0 0) 0 [] (World.ownsRow_nil w _ 5 1) w.heap.size A n c _ h.reads (oneCell_map l) (by unfold maxLen; omega) (by omega) (Nat.le_refl _)
  rw [Nat.zero_add, List.nil_append] at h2
  exact ⟨v', w', hr, h2, (Below.refl _ w).grown h3 (Nat.le_refl _) (fun k hk => by cases hk)⟩
theorem At.bytes16 {w : World} {A : Option Addr} {f : Nat → UInt8} (h : At w A 16 f) : Bytes w A 16 (tab 16 f) := by
  refine ⟨by simp, fun _ => ?_⟩
  obtain ⟨b, o, e, hc⟩ := h (by omega)
  refine ⟨b, o, e, fun j x hx => ?_⟩
  have hj : j < 16 := by have := (List.getElem?_eq_some_iff.1 hx).1; simpa using this
  rw [tab_get _ hj] at hx
  cases hx
  exact hc j hj
theorem Buf.of_own {w : World} {base : Nat} {v : Value} {f : Nat → UInt8} (h : w.ownsRow base 5 1 v 16 ((tab 16 f).map B8)) : ∃ g c, v = .slice (some ⟨g, 0, none⟩) 16 c ∧ base ≤ g ∧ 16 ≤ c ∧ Buf w g f := by
  rcases h.2 with ⟨_, h0⟩ | ⟨g, cap, cur, rfl, hb, hh, hnc, _, hs, ht⟩
  · omega
  · refine ⟨g, cap, rfl, hb, hnc, cur, hh, fun j hj => ?_⟩
    have h1 : (cur.toList.take (16 * 1))[j]? = some (B8 (f j)) := by rw [ht, List.getElem?_map, tab_get _ hj]; rfl
    rw [List.getElem?_take_of_lt (by omega)] at h1
    simpa using h1
end Go.Proofs.Ytmilanicedjhmaa
