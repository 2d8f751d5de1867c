/- Contracts: going over a cipher's round keys. No condition beyond each theorem's own. -/
import Derived.Test.YtmilanicedjhmaaF8
import Derived.Test.YtmilanicedjhmaaG2
import Derived.Shelf.Abstract
import Derived.Shelf.RegionOpen
import Derived.OwnWalkIn
import Derived.TacticsInMore
import Derived.LoopNIn
import Derived.LoopIn
import Derived.Sort.QuietIn
import Derived.Outline
namespace Go.Proofs.Ytmilanicedjhmaa
open Go.RowKit Go.Shelf
set_option linter.unusedSimpArgs false
attribute [local go_sem] Oper.semAt_some

theorem keys_any (p : Option Addr) (w : World) : Calls Try.prog 20 #[.pointer p] w fun e w' => e = .returned (.func (.func 51) #[] #[.pointer (some ⟨w.heap.size, 0, none⟩)]) ∧ w.alloc (.cells #[.pointer p] 25) = w' := by
  go_enter Try.func20, Try.ntmps20
  go_wp2
  go_ret
  exact ⟨rfl, rfl⟩

/-- The blocks of a cipher that is gone over. -/
def NotC (g gk Bn : Nat) (k : Nat) (_ : Obj) : Prop := k ≠ g ∧ k ≠ gk ∧ k ≠ Bn
theorem PC.fr {S : Nat → Obj → Prop} {w w' : World} {g gk nw : Nat} {key : List UInt8} (h : PC w g gk nw key) (hf : Fr S w w') (hg : ∀ o, ¬ S g o) (hk : ∀ o, ¬ S gk o) : PC w' g gk nw key := by
  obtain ⟨kc, h0, h1, h2⟩ := h
  exact ⟨kc, h0, h1.fr hf (hg _), fun k j hk' hj => hf.cell (h2 k j hk' hj) (fun o _ => hk o)⟩
theorem PC.below {w w' : World} {g gk nw : Nat} {key : List UInt8} (h : PC w g gk nw key) (hb : Below w.heap.size w w') : PC w' g gk nw key := h.fr (Fr.of_below hb (S := No)) (fun _ x => x) (fun _ x => x)
/-- A key that is handed on. -/
structure KeyAt where
  i : Nat
  a : Option Addr
  c : Nat
def KeyAt.enc (x : KeyAt) : Array Value := #[.int .i64 (x.i : Int), .slice x.a 16 x.c]
def KeyIn (w0 : World) (nw : Nat) (key : List UInt8) (pre : List KeyAt) (x : KeyAt) (W : World) : Prop :=
  x.i = pre.length ∧ At W x.a 16 (rkey nw key x.i) ∧ ∀ a, x.a = some a → w0.heap.size ≤ a.block
/-- What the going itself keeps. -/
def Grows (A B : World) : Prop := Below A.heap.size A B
theorem grows_trans {A B C : World} (h : Grows A B) (k : Grows B C) : Grows A C := Below.trans h (k.mono h.size)

set_option maxRecDepth 100000 in
set_option maxHeartbeats 2000000 in
theorem keys_seq {n : Nat} (hn : 1 ≤ n) {g gk Bn nw : Nat} {key : List UInt8} {w : World} (hB : Blk w Bn 25 #[.pointer (some ⟨g, 0, none⟩)]) (hP : PC w g gk nw key) (hnw : nw ≤ 8) :
    SeqX Fence.wide n Try.prog 51 #[.pointer (some ⟨Bn, 0, none⟩)] KeyAt.enc (KeyIn w nw key) Grows (Fr (NotC g gk Bn)) (fun xs => xs.length = nw + 7) (fun _ => True) (nw + 7) w := fun l J Jx hJ hJx hY W hW h0 => by
  have hB1 := hB.below hW hB.lt
  have hP1 := hP.below hW
  have hlen := hW.size
  refine callsIn_of_wp Try.func51 rfl trivial ?_ rfl
  simp only [Try.ntmps51, List.size_toArray, List.length_cons, List.length_nil, Nat.reduceAdd, Nat.reduceSub, Array.replicate_succ, Array.replicate_zero, List.push_toArray, List.append_toArray, List.nil_append, List.cons_append]
  have b0 := hB1.cell 0
  simp only [List.getElem?_toArray, List.getElem?_cons_zero] at b0
  obtain ⟨kc, hkc, hc0, hck⟩ := hP1
  have c0 := hc0.cell 0
  rw [ccells_zero] at c0
  have HC := Lib.hid (And.intro hc0 hck)
  have HY := Lib.hid hY
  clear hc0 hck hY
  gi_wp2
  clear b0 c0
  gi_loopw [12] (fun i wr => ∃ (k : Nat) (pre : List KeyAt), k ≤ nw + 7 ∧ pre.length = k ∧ i = .int .i64 k ∧ J pre wr ∧ Fr (NotC g gk Bn) W wr) (fun i _ => nw + 7 - (intOf i).toNat)
  case atStart => exact ⟨0, [], by omega, rfl, rfl, h0, Fr.refl _ _⟩
  case round =>
    obtain ⟨k, pre, hk, hpk, rfl, hJs, hfr⟩ := hrel
    by_cases hlt : k < nw + 7
    · have hi : (k : Int) < nw + 7 := by omega
      have q : ∀ j, j < 16 → wr.cell? ⟨gk, k * 16 + j, none⟩ = some (B8 (rkey nw key k j)) := fun j hj => hfr.cell (HC.out.2 k j hlt hj) (fun o _ (x : NotC g gk Bn gk o) => x.2.1 rfl)
      obtain ⟨f, hf⟩ : ∃ f, f = rkey nw key k := ⟨_, rfl⟩
      rw [← hf] at q
      have q0 := q 0 (by omega)
      have q1 := q 1 (by omega)
      have q2 := q 2 (by omega)
      have q3 := q 3 (by omega)
      have q4 := q 4 (by omega)
      have q5 := q 5 (by omega)
      have q6 := q 6 (by omega)
      have q7 := q 7 (by omega)
      have q8 := q 8 (by omega)
      have q9 := q 9 (by omega)
      have q10 := q 10 (by omega)
      have q11 := q 11 (by omega)
      have q12 := q 12 (by omega)
      have q13 := q 13 (by omega)
      have q14 := q 14 (by omega)
      have q15 := q 15 (by omega)
      rw [Nat.add_zero] at q0
      have HJ := Lib.hid hJs
      have Hpk := Lib.hid hpk
      have Hf := Lib.hid hf
      have Hfr := Lib.hid hfr
      clear q hJs hpk hf hfr
      have hbl : Bytes (wr.alloc (.cells #[B8 (f 0), B8 (f 1), B8 (f 2), B8 (f 3), B8 (f 4), B8 (f 5), B8 (f 6), B8 (f 7), B8 (f 8), B8 (f 9), B8 (f 10), B8 (f 11), B8 (f 12), B8 (f 13), B8 (f 14), B8 (f 15)] 65)) (some ⟨wr.heap.size, 0, none⟩) 16 (tab 16 f) :=
        brow_bytes (l := tab 16 f) (Blk.new wr 65 _)
      have Hbl := Lib.hid hbl
      clear hbl
      gi_wp2_with (first
        | (gi_at_builtin; refine wpListIn_append_bytes _ rfl (.const (.slice none 0 0)) (.tmp 19) 22 rfl wr.heap.size 5 Try.underlying22 info5 (.slice none 0 0) 0 [] rfl (World.ownsRow_nil _ _ _ _) (some ⟨wr.heap.size, 0, none⟩) 16 16 (tab 16 f) rfl Hbl.out (by omega) (by simp) ?_; intro v9 w9 hown hg hat
           rw [Nat.zero_add, List.nil_append] at hown
           obtain ⟨g9, c9, rfl, hg9, hc9, -⟩ := own_some hown (by omega)
           have hgr : Grows wr w9 := ((Below.refl _ wr).alloc (Nat.le_refl _) _).grown hg (by simp) (fun k e => by simp [Value.ownBlock] at e)
           have hwr := Hfr.out.size
           have hat9 : At w9 (some ⟨g9, 0, none⟩) 16 (rkey nw key k) := fun _ => ⟨g9, 0, rfl, fun j hj => by
             have h1 := hown.cells (g := g9) rfl j (B8 (f j)) (by rw [List.getElem?_map, tab_get f hj]; rfl)
             rw [addr_add] at h1
             rw [h1, Hf.out]⟩
           obtain ⟨fn, tmps, assign, body, hy, hR⟩ := HY.out pre ⟨k, some ⟨g9, 0, none⟩, c9⟩ w9 (hJ _ _ _ HJ.out hgr) ⟨Hpk.out.symm, hat9, fun a ha => by cases ha; show w.heap.size ≤ g9; omega⟩ (by have := Hpk.out; omega)
           have hfr9 : Fr (NotC g gk Bn) W w9 := Hfr.out.trans (Fr.of_below hgr)
           have Hfr9 := Lib.hid hfr9
           have hy2 : (Instr.yield l #[.int .i64 (k : Int), .slice (some ⟨g9, 0, none⟩) 16 c9]).run Try.prog w9 = _ := hy
           clear hfr9 hat9 hg hat hown hgr HJ hy Hfr Hbl))
      refine hR.mono ?_
      rintro e W2 (⟨rfl, hJ2, hk2⟩ | ⟨rfl, hx2⟩)
      · have HJ2 := Lib.hid hJ2
        have HF2 := Lib.hid (Hfr9.out.trans hk2)
        clear hJ2 hk2 hR
        gi_wp2
        exact ⟨⟨k + 1, pre ++ [⟨k, some ⟨g9, 0, none⟩, c9⟩], by omega, by have := Hpk.out; simp; omega, by go_num, HJ2.out, HF2.out⟩, by simp [intOf]; omega⟩
      · have HX2 := Lib.hid hx2
        clear hx2 hR
        gi_wp2
        refine bodyPost_ret (results_none rfl _ _ _) rfl ?_
        exact ⟨⟨_, rfl⟩, .inr ⟨_, trivial, HX2.out⟩⟩
    · have hkn : k = nw + 7 := by omega
      have hi : ¬ (k : Int) < nw + 7 := by omega
      have HJ := Lib.hid hJs
      have Hpk := Lib.hid hpk
      have Hkn := Lib.hid hkn
      clear hJs hpk hkn
      gi_wp2
      go_end0
      exact ⟨⟨_, rfl⟩, .inl ⟨pre, by have := Hpk.out; have := Hkn.out; omega, HJ.out⟩⟩
end Go.Proofs.Ytmilanicedjhmaa
