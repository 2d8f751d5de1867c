/- Contracts: adding and mixing. No condition beyond each theorem's own. -/
import Derived.Test.YtmilanicedjhmaaF3
import Derived.Deep.RegionLaw
import Derived.Deep.DeepCutAuto
namespace Go.Proofs.Ytmilanicedjhmaa
open Go.RowKit
set_option linter.unusedSimpArgs false

/-- What has been added. -/
def addTo (s k : Nat → UInt8) (i j : Nat) : UInt8 := if j < i then s j ^^^ k j else s j
theorem addTo_upd (s k : Nat → UInt8) (i : Nat) : upd (addTo s k i) i (s i ^^^ k i) = addTo s k (i + 1) := by
  funext j
  unfold upd addTo
  by_cases h : j = i
  · subst h; simp
  · rw [if_neg h]
    by_cases h2 : j < i
    · rw [if_pos h2, if_pos (by omega)]
    · rw [if_neg h2, if_neg (by omega)]
theorem addTo_all (s k : Nat → UInt8) : tab 16 (addTo s k 16) = tab 16 (fun j => s j ^^^ k j) := tab_congr fun i hi => by simp [addTo, hi]
theorem addTo_zero (s k : Nat → UInt8) : addTo s k 0 = s := by funext j; simp [addTo]
/-- A slice that reads as the first n of an index function. -/
def At (w : World) (A : Option Addr) (n : Nat) (f : Nat → UInt8) : Prop := 0 < n → ∃ b o, A = some ⟨b, o, none⟩ ∧ ∀ j, j < n → w.cell? ⟨b, o + j, none⟩ = some (B8 (f j))
theorem At.of_bytes {w : World} {A : Option Addr} {n m : Nat} {l : List UInt8} (h : Bytes w A n l) (hn : m ≤ n) : At w A m (fun j => l.getD j 0) := fun h0 => by
  obtain ⟨b, o, e, hr⟩ := h.2 (by omega)
  refine ⟨b, o, e, fun j hj => ?_⟩
  have hl : j < l.length := by have := h.1; omega
  rw [hr j l[j] (List.getElem?_eq_getElem hl)]
  simp [hl]
theorem At.of_blk {w : World} {b : Nat} {t : TypeId} {n : Nat} {f : Nat → UInt8} (h : Blk w b t (brow (tab n f))) : At w (some ⟨b, 0, none⟩) n f := fun _ => ⟨b, 0, rfl, fun j hj => by
  rw [Nat.zero_add, h.cell, brow_tab n f hj]⟩
theorem At.below {w w' : World} {A : Option Addr} {n : Nat} {f : Nat → UInt8} (h : At w A n f) (hb : Below w.heap.size w w') : At w' A n f := fun h0 => by
  obtain ⟨b, o, e, hc⟩ := h h0
  exact ⟨b, o, e, fun j hj => below_cell hb (hc j hj)⟩
theorem At.fr {S : Nat → Obj → Prop} {w w' : World} {A : Option Addr} {n : Nat} {f : Nat → UInt8} (h : At w A n f) (hb : Fr S w w') (hS : ∀ a o, A = some a → ¬ S a.block o) : At w' A n f := fun h0 => by
  obtain ⟨b, o, e, hc⟩ := h h0
  exact ⟨b, o, e, fun j hj => hb.cell (hc j hj) (fun ob _ => hS ⟨b, o, none⟩ ob e)⟩

set_option maxRecDepth 100000 in
set_option maxHeartbeats 2000000 in
theorem add_any {w : World} {b : Nat} {t : TypeId} {s f : Nat → UInt8} (h : Blk w b t (brow (tab 16 s))) (A : Option Addr) (n c : Nat) (hn : 16 ≤ n) (hA : At w A 16 f) (hne : ∀ a, A = some a → a.block ≠ b) :
    Calls Try.prog 50 #[.pointer (some ⟨b, 0, none⟩), .slice A n c] w fun e w' => e = .returned (.tuple #[]) ∧ Blk w' b t (brow (tab 16 fun j => s j ^^^ f j)) ∧ Fr (OnB b) w w' := by
  obtain ⟨kb, ko, rfl, hk⟩ := hA (by omega)
  have hne := hne _ rfl
  go_enter Try.func50, Try.ntmps50
  go_wp2
  go_loopw [5] (fun vi wr => ∃ k : Nat, k ≤ 16 ∧ vi = .int .i64 k ∧ Blk wr b t (brow (tab 16 (addTo s f k))) ∧ Fr (OnB b) w wr) (fun vi _ => 16 - (intOf vi).toNat)
  case atStart => exact ⟨0, by omega, rfl, by rw [addTo_zero]; exact h, Fr.refl _ _⟩
  case round =>
    obtain ⟨k, hk16, rfl, hb, hf⟩ := hrel
    by_cases hlt : k < 16
    · have hi : (k : Int) < 16 := by omega
      have hi2 : (k : Int) < n := by omega
      have hi0 : (0 : Int) ≤ k := by omega
      have c0 := hb.cell k
      rw [brow_tab 16 _ hlt, show addTo s f k k = s k by simp [addTo]] at c0
      have f0 := hb.frozen k
      have c1 : wr.cell? ⟨kb, ko + k, none⟩ = some (B8 (f k)) := hf.cell (hk k hlt) (fun o _ (x : OnB b kb o) => hne x)
      have hx := xor_walk (s k) (f k)
      have n0 := hb.set_ k (B8 (s k ^^^ f k))
      rw [brow_tab_set _ _ hlt, addTo_upd] at n0
      have hF := hf.trans ((Fr.refl (OnB b) wr).setIn (p := ⟨b, k, none⟩) (fun _ _ => rfl) (B8 (s k ^^^ f k)))
      generalize s k ^^^ f k = x at hx n0 hF
      have HN := Lib.hid (And.intro n0 hF)
      have hlb := hb.lt
      clear n0 hF hb hf
      go_upto_region 3 with fail
      go_region
      go_wp2
      exact ⟨⟨k + 1, by omega, by go_num, HN.out.1.drew, HN.out.2.drew⟩, by simp [intOf]; omega⟩
    · obtain rfl : k = 16 := by omega
      rw [addTo_all] at hb
      go_wp2
      refine bodyPost_end (results_none rfl _ _ _) rfl ?_
      exact ⟨rfl, hb, hf⟩

/-- A slice that the call has made: n bytes by an index function. -/
def NewTab (w : World) (n : Nat) (f : Nat → UInt8) (e : Ending) (w' : World) : Prop :=
  ∃ b, e = .returned (.slice (some ⟨b, 0, none⟩) n n) ∧ w.heap.size ≤ b ∧ Blk w' b 5 (brow (tab n f)) ∧ Below w.heap.size w w'
def zeroTo (f : Nat → UInt8) (i j : Nat) : UInt8 := if j < i then f j else 0
theorem zeroTo_upd (f : Nat → UInt8) (i : Nat) : upd (zeroTo f i) i (f i) = zeroTo f (i + 1) := by
  funext j
  unfold upd zeroTo
  by_cases h : j = i
  · subst h; simp
  · rw [if_neg h]
    by_cases h2 : j < i
    · rw [if_pos h2, if_pos (by omega)]
    · rw [if_neg h2, if_neg (by omega)]
theorem zeroTo_all (n : Nat) (f : Nat → UInt8) : tab n (zeroTo f n) = tab n f := tab_congr fun i hi => by simp [zeroTo, hi]
theorem zeroTo_zero (f : Nat → UInt8) : zeroTo f 0 = fun _ => 0 := by funext j; simp [zeroTo]

set_option maxRecDepth 100000 in
set_option maxHeartbeats 2000000 in
theorem rxor_any {w : World} {n : Nat} {s f : Nat → UInt8} (A : Option Addr) (c : Nat) (hA : At w A n s) (A2 : Option Addr) (n2 c2 : Nat) (hA2 : At w A2 n f) (hn : n ≤ 140737488351232) (hn2 : n ≤ n2) :
    Calls Try.prog 52 #[.slice A n c, .slice A2 n2 c2] w (NewTab w n fun j => s j ^^^ f j) := by
  have hmk := fun w => madeRow w n hn
  go_enter Try.func52, Try.ntmps52
  go_wp2
  have hbl := Blk.new w 5 (brow (tab n fun _ => 0))
  rw [← zeroTo_zero (fun j => s j ^^^ f j)] at hbl
  clear hmk
  go_loopw [6] (fun vi wr => ∃ k : Nat, k ≤ n ∧ vi = .int .i64 k ∧ Blk wr w.heap.size 5 (brow (tab n (zeroTo (fun j => s j ^^^ f j) k))) ∧ Below w.heap.size w wr) (fun vi _ => n - (intOf vi).toNat)
  case atStart => exact ⟨0, by omega, rfl, hbl, (Below.refl _ w).alloc (Nat.le_refl _) _⟩
  case round =>
    obtain ⟨k, hkn, rfl, hb, hbr⟩ := hrel
    by_cases hlt : k < n
    · obtain ⟨b1, o1, rfl, h1⟩ := hA.below hbr (by omega)
      obtain ⟨b2, o2, rfl, h2⟩ := hA2.below hbr (by omega)
      have c1 := h1 k hlt
      have c2 := h2 k hlt
      have hi : (k : Int) < n := by omega
      have hi2 : (k : Int) < n2 := by omega
      have hi0 : (0 : Int) ≤ k := by omega
      have c0 := hb.cell k
      rw [brow_tab n _ hlt] at c0
      have f0 := hb.frozen k
      have hx := xor_walk (s k) (f k)
      have n0 := hb.set_ k (B8 (s k ^^^ f k))
      rw [brow_tab_set _ _ hlt, zeroTo_upd (fun j => s j ^^^ f j) k] at n0
      have hF := hbr.setCell (p := ⟨w.heap.size, k, none⟩) (Nat.le_refl _) (B8 (s k ^^^ f k))
      generalize s k ^^^ f k = x at hx n0 hF
      have HN := Lib.hid (And.intro n0 hF)
      have hlb := hb.lt
      clear n0 hF hb hbr h1 h2 hbl
      go_upto_region 5 with fail
      go_region
      go_wp2
      exact ⟨⟨k + 1, by omega, by go_num, HN.out.1.drew, HN.out.2.drew⟩, by simp [intOf]; omega⟩
    · obtain rfl : k = n := by omega
      rw [zeroTo_all] at hb
      go_wp2
      go_ret
      exact ⟨w.heap.size, rfl, Nat.le_refl _, hb, hbr⟩
end Go.Proofs.Ytmilanicedjhmaa
