/- Plain words: rows of bytes by an index function; the tables of the cipher. No program in sight. -/
import Derived.Test.YtmilanicedjhmaaF1
namespace Go.Proofs.Ytmilanicedjhmaa
open Go.RowKit

def tab (n : Nat) (f : Nat → UInt8) : List UInt8 := (List.range n).map f
def upd {α : Type} (f : Nat → α) (i : Nat) (x : α) : Nat → α := fun j => if j = i then x else f j
@[simp] theorem tab_length (n : Nat) (f : Nat → UInt8) : (tab n f).length = n := by simp [tab]
theorem tab_get {n : Nat} (f : Nat → UInt8) {i : Nat} (h : i < n) : (tab n f)[i]? = some (f i) := by simp [tab, h]
theorem tab_getD {n : Nat} (f : Nat → UInt8) {i : Nat} (h : i < n) : (tab n f).getD i 0 = f i := by rw [List.getD_eq_getElem?_getD, tab_get f h]; rfl
theorem tab_congr {n : Nat} {f g : Nat → UInt8} (h : ∀ i, i < n → f i = g i) : tab n f = tab n g := List.map_congr_left fun i hi => h i (List.mem_range.1 hi)
theorem tab_set {n : Nat} (f : Nat → UInt8) {i : Nat} (x : UInt8) (_h : i < n) : (tab n f).set i x = tab n (upd f i x) := by
  apply List.ext_getElem?
  intro j
  rw [List.getElem?_set]
  by_cases hj : j < n
  · rw [tab_get (upd f i x) hj, tab_get f hj, tab_length]
    by_cases e : i = j
    · subst e; simp [upd, hj]
    · have e2 : ¬ j = i := fun x => e x.symm
      simp [e, upd, e2]
  · have h1 : (tab n f)[j]? = none := List.getElem?_eq_none (by simp; omega)
    have h2 : (tab n (upd f i x))[j]? = none := List.getElem?_eq_none (by simp; omega)
    rw [h1, h2]
    split
    · simp; omega
    · rfl
theorem tab_zero (n : Nat) : List.replicate n (0 : UInt8) = tab n (fun _ => 0) := by
  apply List.ext_getElem?
  intro j
  by_cases hj : j < n
  · rw [tab_get _ hj]; simp [hj]
  · rw [List.getElem?_eq_none (by simp; omega), List.getElem?_eq_none (by simp; omega)]
theorem tab_of (l : List UInt8) : l = tab l.length (fun i => l.getD i 0) := by
  apply List.ext_getElem?
  intro j
  by_cases hj : j < l.length
  · rw [tab_get _ hj]; simp [hj]
  · rw [List.getElem?_eq_none (by omega), List.getElem?_eq_none (by simp; omega)]

/-- A row of bytes as a block's cells. -/
def brow (l : List UInt8) : Array Value := (l.map B8).toArray
theorem brow_set (l : List UInt8) (i : Nat) (x : UInt8) : (brow l).setIfInBounds i (B8 x) = brow (l.set i x) := by
  simp [brow, List.map_set]
theorem brow_get (l : List UInt8) (i : Nat) (h : i < l.length) : (brow l)[i]? = some (B8 (l.getD i 0)) := by
  simp [brow, h]
theorem brow_tab (n : Nat) (f : Nat → UInt8) {i : Nat} (h : i < n) : (brow (tab n f))[i]? = some (B8 (f i)) := by rw [brow_get _ _ (by simpa using h), tab_getD f h]
theorem brow_tab_set {n : Nat} (f : Nat → UInt8) {i : Nat} (x : UInt8) (h : i < n) : (brow (tab n f)).setIfInBounds i (B8 x) = brow (tab n (upd f i x)) := by rw [brow_set, tab_set f x h]
theorem brow_bytes {w : World} {b : Nat} {t : TypeId} {l : List UInt8} (h : Blk w b t (brow l)) : Bytes w (some ⟨b, 0, none⟩) l.length l :=
  ⟨rfl, fun _ => ⟨b, 0, rfl, fun j x hx => by
    rw [h.cell]
    simp [brow, hx]⟩⟩

/-- The table of bytes, and its inverse as it is filled. -/
def sbox (i : Nat) : UInt8 := sub8 (UInt8.ofNat i)
def tboxTo : Nat → Nat → UInt8
  | 0 => fun _ => 0
  | k + 1 => upd (tboxTo k) (sbox k).toNat (UInt8.ofNat k)
end Go.Proofs.Ytmilanicedjhmaa
