/- Words for memory: bytes that a slice reads, blocks known whole, and what a call may change. No condition. -/
import Derived.Test.YtmilanicedjhmaaProg
import Derived.WalkKit
import Derived.WalkSpells
import Derived.WalkLawsBesides
import Derived.Lib.Hide
import Derived.Maps.AppendAt
import Derived.Deep.AppendLies
import Derived.Deep.Draws
import Derived.RegionTactic
import Derived.Deep.QuietTactic
import Derived.BigQuiet
namespace Go.Proofs.Ytmilanicedjhmaa
open Go.RowKit

/-- A byte as a value. -/
abbrev B8 (x : UInt8) : Value := .int .u8 (x.toNat : Int)
theorem addr_add (b o j : Nat) : (⟨b, o, none⟩ : Addr).add j = ⟨b, o + j, none⟩ := by unfold Addr.add; split <;> simp_all

/-- The cells of block b from offset o on are the bytes l. -/
def Row (w : World) (b o : Nat) (l : List UInt8) : Prop := ∀ j x, l[j]? = some x → w.cell? ⟨b, o + j, none⟩ = some (B8 x)
/-- A slice (address A, length n) reads as the bytes l. -/
def Bytes (w : World) (A : Option Addr) (n : Nat) (l : List UInt8) : Prop :=
  l.length = n ∧ (0 < n → ∃ b o, A = some ⟨b, o, none⟩ ∧ Row w b o l)

/-- What a call may change of what was there: the blocks in S. -/
structure Fr (S : Nat → Obj → Prop) (w w' : World) : Prop where
  os : w'.os = w.os
  tape : w'.tape = w.tape
  output : w'.output = w.output
  size : w.heap.size ≤ w'.heap.size
  block : ∀ (k : Nat) (o : Obj), w.heap[k]? = some o → ¬ S k o → w'.heap[k]? = some o

/-- Blocks of these element types. -/
def Ty (T : List TypeId) (_ : Nat) (o : Obj) : Prop := ∃ c t f, o = .cells c t f ∧ t ∈ T
def No (_ : Nat) (_ : Obj) : Prop := False

section
variable {S S' : Nat → Obj → Prop} {w w' w0 w1 w2 : World}
theorem Fr.refl (S : Nat → Obj → Prop) (w : World) : Fr S w w := ⟨rfl, rfl, rfl, Nat.le_refl _, fun _ _ h _ => h⟩
theorem Fr.trans (h : Fr S w0 w1) (k : Fr S w1 w2) : Fr S w0 w2 :=
  ⟨k.os.trans h.os, k.tape.trans h.tape, k.output.trans h.output, Nat.le_trans h.size k.size, fun i o ho hs => k.block i o (h.block i o ho hs) hs⟩
theorem Fr.mono (h : Fr S w w') (hs : ∀ k o, S k o → S' k o) : Fr S' w w' := ⟨h.os, h.tape, h.output, h.size, fun k o ho hn => h.block k o ho (fun e => hn (hs k o e))⟩
theorem Fr.drew (h : Fr S w w') : Fr S w w'.drew := ⟨h.os, h.tape, h.output, h.size, h.block⟩
theorem Fr.drewN (h : Fr S w w') (n : Nat) : Fr S w (w'.drewN n) := ⟨h.os, h.tape, h.output, h.size, h.block⟩
theorem lt_of_heap {k : Nat} {o : Obj} (h : w.heap[k]? = some o) : k < w.heap.size := (Array.getElem?_eq_some_iff.1 h).1
theorem Fr.alloc (h : Fr S w w') (o : Obj) : Fr S w (w'.alloc o) :=
  ⟨h.os, h.tape, h.output, Nat.le_trans h.size (by simp), fun k o' ho hn => by
    have := h.block k o' ho hn
    rw [Below.heap_alloc _ _ _ (lt_of_heap this)]; exact this⟩
theorem Fr.setNew (h : Fr S w w') {p : Addr} (hp : w.heap.size ≤ p.block) (u : Value) : Fr S w (w'.setCell p u) :=
  ⟨h.os, h.tape, h.output, by simpa [World.setCell] using h.size, fun k o ho hn => by
    rw [Below.heap_setCell _ _ _ _ (by have := lt_of_heap ho; omega)]; exact h.block k o ho hn⟩
theorem Fr.setIn (h : Fr S w w') {p : Addr} (hp : ∀ o, w.heap[p.block]? = some o → S p.block o) (u : Value) : Fr S w (w'.setCell p u) :=
  ⟨h.os, h.tape, h.output, by simpa [World.setCell] using h.size, fun k o ho hn => by
    rw [Below.heap_setCell _ _ _ _ (by rintro rfl; exact hn (hp o ho))]; exact h.block k o ho hn⟩
theorem Fr.of_below (h : Below w.heap.size w w') : Fr S w w' := ⟨h.os, h.tape, h.output, h.size, fun k _ ho _ => (h.block k (lt_of_heap ho)).trans ho⟩
theorem Fr.below (h : Fr No w w') : Below w.heap.size w w' := ⟨h.os, h.tape, h.output, h.size, fun k hk => by
  have e : w.heap[k]? = some w.heap[k] := Array.getElem?_eq_getElem hk
  rw [e]; exact h.block k _ e (fun x => x)⟩
theorem Fr.after (h : Fr S w0 w1) (k : Below w1.heap.size w1 w2) : Fr S w0 w2 := h.trans (Fr.of_below k)
theorem Fr.grown (h : Fr S w w') {row : Option Nat} (hg : w'.grownBy w2 row) (hr : ∀ k, row = some k → w.heap.size ≤ k) : Fr S w w2 :=
  ⟨hg.os.trans h.os, hg.tape.trans h.tape, hg.output.trans h.output, Nat.le_trans h.size hg.size, fun k o ho hn => by
    have h1 := h.block k o ho hn
    rw [hg.block k (lt_of_heap h1) (fun e => by have := hr k e.symm; have := lt_of_heap ho; omega)]; exact h1⟩

theorem heap_of_cell {a : Addr} {v : Value} (h : w.cell? a = some v) : ∃ c t f, w.heap[a.block]? = some (.cells c t f) := by
  unfold World.cell? at h
  split at h
  · rename_i c t f hh; exact ⟨c, t, f, hh⟩
  · cases h
theorem Fr.cell (h : Fr S w w') {a : Addr} {v : Value} (hc : w.cell? a = some v) (hn : ∀ o, w.heap[a.block]? = some o → ¬ S a.block o) : w'.cell? a = some v := by
  obtain ⟨c, t, f, hh⟩ := heap_of_cell hc
  have := h.block _ _ hh (hn _ hh)
  rw [World.cell?_of_block (w := w) (by rw [this, hh])]; exact hc
theorem below_cell (h : Below w.heap.size w w') {a : Addr} {v : Value} (hc : w.cell? a = some v) : w'.cell? a = some v := by
  rw [h.cell (World.block_lt_of_cell? w a hc)]; exact hc

/-- Whole blocks. -/
def Blk (w : World) (g : Nat) (t : TypeId) (cs : Array Value) : Prop := w.heap[g]? = some (.cells cs t (0, 0))
variable {g : Nat} {t : TypeId} {cs : Array Value}
theorem Blk.lt (h : Blk w g t cs) : g < w.heap.size := lt_of_heap h
theorem Blk.cell (h : Blk w g t cs) (i : Nat) : w.cell? ⟨g, i, none⟩ = cs[i]? := cell_of_row w g i cs t (0, 0) h
theorem Blk.frozen (h : Blk w g t cs) (i : Nat) : w.frozen? ⟨g, i, none⟩ = false := by
  unfold Blk at h
  simp [World.frozen?, h]
theorem Blk.new (w : World) (t : TypeId) (cs : Array Value) : Blk (w.alloc (.cells cs t)) w.heap.size t cs := heap_alloc_new w _
theorem Blk.drew (h : Blk w g t cs) : Blk w.drew g t cs := h
theorem Blk.drewN (h : Blk w g t cs) (n : Nat) : Blk (w.drewN n) g t cs := h
theorem Blk.alloc (h : Blk w g t cs) (o : Obj) : Blk (w.alloc o) g t cs := (Below.heap_alloc w o g h.lt).trans h
theorem Blk.set_ (h : Blk w g t cs) (i : Nat) (u : Value) : Blk (w.setCell ⟨g, i, none⟩ u) g t (cs.setIfInBounds i u) := by
  unfold Blk at h ⊢
  simp [World.setCell, Array.getElem?_modify, h]
theorem Blk.far (h : Blk w g t cs) {p : Addr} (hp : g ≠ p.block) (u : Value) : Blk (w.setCell p u) g t cs := (Below.heap_setCell w p u g hp).trans h
theorem Blk.below {B : Nat} (h : Blk w g t cs) (hb : Below B w w') (hg : g < B) : Blk w' g t cs := (hb.block g hg).trans h
theorem Blk.fr (h : Blk w g t cs) (hb : Fr S w w') (hn : ¬ S g (.cells cs t (0, 0))) : Blk w' g t cs := hb.block g _ h hn
theorem Blk.ne_ {g' : Nat} {t' : TypeId} {cs' : Array Value} (h : Blk w g t cs) (h' : Blk w g' t' cs') (hne : t ≠ t') : g ≠ g' := by
  rintro rfl
  unfold Blk at h h'
  rw [h] at h'
  injection h' with h'
  injection h' with _ ht
  exact hne ht

theorem Row.keep {b o : Nat} {l : List UInt8} (h : Row w b o l) (hk : ∀ a v, a.block = b → w.cell? a = some v → w'.cell? a = some v) : Row w' b o l := fun j x hx => hk _ _ rfl (h j x hx)
theorem Bytes.keep {A : Option Addr} {n : Nat} {l : List UInt8} (h : Bytes w A n l) (hk : ∀ a v, (A.map (·.block)) = some a.block → w.cell? a = some v → w'.cell? a = some v) : Bytes w' A n l :=
  ⟨h.1, fun hn => by
    obtain ⟨b, o, rfl, hr⟩ := h.2 hn
    exact ⟨b, o, rfl, hr.keep fun a v e => hk a v (by simp [e])⟩⟩
theorem Bytes.below {A : Option Addr} {n : Nat} {l : List UInt8} (h : Bytes w A n l) (hb : Below w.heap.size w w') : Bytes w' A n l := h.keep fun _ _ _ hc => below_cell hb hc
theorem Bytes.nil (w : World) (A : Option Addr) : Bytes w A 0 [] := ⟨rfl, fun h => absurd h (by omega)⟩
theorem Bytes.drewN {A : Option Addr} {n : Nat} {l : List UInt8} (h : Bytes w A n l) (k : Nat) : Bytes (w.drewN k) A n l := h
theorem Bytes.at_ {A : Option Addr} {n : Nat} {l : List UInt8} (h : Bytes w A n l) {k : Nat} (hk : k < n) :
    ∃ b o, A = some ⟨b, o, none⟩ ∧ w.cell? ⟨b, o + k, none⟩ = some (B8 (l.getD k 0)) := by
  obtain ⟨b, o, rfl, hr⟩ := h.2 (by omega)
  have hl : k < l.length := by have := h.1; omega
  exact ⟨b, o, rfl, by rw [hr k l[k] (List.getElem?_eq_getElem hl)]; simp [hl]⟩
/-- What the call itself made. -/
theorem Bytes.of_own {base : Nat} {e : TypeId} {A : Option Addr} {n c : Nat} {l : List UInt8} (h : w.ownsRow base e 1 (.slice A n c) n (l.map B8)) : Bytes w A n l := by
  have hl : l.length = n := by have := h.1; simpa using this
  refine ⟨hl, fun hn => ?_⟩
  obtain ⟨g, cap, hv, _, _⟩ := h.form hn
  injection hv with hA
  subst hA
  exact ⟨g, 0, rfl, fun j x hx => by
    have := h.cells (g := g) rfl j (B8 x) (by simp [hx])
    rwa [addr_add] at this⟩
end
end Go.Proofs.Ytmilanicedjhmaa
