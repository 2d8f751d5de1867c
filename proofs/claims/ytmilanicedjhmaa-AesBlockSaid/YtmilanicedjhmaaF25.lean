/- Contract: the hash of bytes, the reference's. No condition beyond each theorem's own. -/
import Derived.Test.YtmilanicedjhmaaF23
import Derived.Test.YtmilanicedjhmaaF24
namespace Go.Proofs.Ytmilanicedjhmaa
open Go.RowKit
set_option linter.unusedSimpArgs false

theorem ghTo_congr (h : Nat → UInt8) : ∀ (k : Nat) (y : Nat → UInt8) (l l' : List UInt8), (∀ j, l.getD j 0 = l'.getD j 0) → ghTo h k y l = ghTo h k y l'
  | 0, _, _, _, _ => rfl
  | k + 1, y, l, l', e => by
    have e1 : pad16 l = pad16 l' := by funext j; unfold pad16; rw [e j]
    have e2 : ∀ j, (l.drop 16).getD j 0 = (l'.drop 16).getD j 0 := fun j => by
      have := e (16 + j)
      simpa [List.getD_eq_getElem?_getD, List.getElem?_drop] using this
    show ghTo h k (mulF (fun j => y j ^^^ pad16 l j) h) (l.drop 16) = ghTo h k (mulF (fun j => y j ^^^ pad16 l' j) h) (l'.drop 16)
    rw [e1]
    exact ghTo_congr h k _ _ _ e2
theorem ghF_fill (h : Nat → UInt8) (l : List UInt8) : ghTo h ((l.length + 15) / 16) (fun _ => 0) (fillL l) = ghF h l := ghTo_congr h _ _ _ _ (fillL_get l)

set_option maxRecDepth 100000 in
set_option maxHeartbeats 4000000 in
theorem rghash_any {w : World} (A A2 : Option Addr) (c n2 c2 : Nat) (h : Nat → UInt8) (l : List UInt8) (hh : At w A 16 h) (hB : Bytes w A2 n2 l) (hn : n2 ≤ 1000000000) : Calls Try.prog 25 #[.slice A 16 c, .slice A2 n2 c2] w (NewTab w 16 (ghF h l)) := by
  have hmk : ∀ w : World, (Instr.makeSlice 22 (.int .i64 16) (.int .i64 16)).run Try.prog w = .ok (.slice (some ⟨w.heap.size, 0, none⟩) 16 16) (w.alloc (.cells (brow (tab 16 fun _ => 0)) 5)) := fun w => madeRow w 16 (by omega)
  have hl0 : Below w.heap.size w (w.alloc (.cells (brow (tab 16 fun _ => 0)) 5)) := (Below.refl _ w).alloc (Nat.le_refl _) _
  have hz0 := Blk.new w 5 (brow (tab 16 fun _ => 0))
  have hfill := fill_any (c := c2) (hB.below hl0) hn
  have hl2 := hB.1
  have H0 := Lib.hid (And.intro hl0 hz0)
  clear hl0 hz0 hB
  go_enter Try.func25, Try.ntmps25
  go_wp2_with (go_at_call 57; refine hfill.mono ?_; rintro e w1 ⟨v, rfl, ho, hb⟩)
  obtain ⟨hl0, hz0⟩ := H0.out
  have hlow : Below w.heap.size w w1 := hl0.trans (hb.mono hl0.size)
  have hz := hz0.below hb hz0.lt
  obtain ⟨A', c', rfl, hc'⟩ := own_form0 ho
  have hb1 : Bytes w1 A' (fillL l).length (fillL l) := Bytes.of_own ho
  rw [fillL_len, hl2] at hb1 hc'
  rw [fillL_len, hl2]
  have hgh := ghF_fill h l
  rw [hl2] at hgh
  have hK : (n2 + 15) / 16 ≤ 1000000000 := by omega
  generalize (n2 + 15) / 16 = K at hb1 hc' hgh hK ⊢
  have H1 := Lib.hid (And.intro hb1 (And.intro hgh (And.intro hlow hz)))
  clear hmk hl0 hz0 hfill H0 hlow hz hb1 hgh
  clear ho hb
  go_loopg [5, 6] K (fun m vy vm wr => ∃ yb A' c' l' y, vy = .slice (some ⟨yb, 0, none⟩) 16 16 ∧ vm = .slice A' (16 * m : Nat) c' ∧ 16 * m ≤ c' ∧ m ≤ 1000000000 ∧ w.heap.size ≤ yb ∧ Blk wr yb 5 (brow (tab 16 y)) ∧ Bytes wr A' (16 * m) l' ∧ ghTo h m y l' = ghF h l ∧ Below w.heap.size w wr)
  case atStart => exact ⟨w.heap.size, A', c', _, fun _ => 0, rfl, rfl, hc', hK, Nat.le_refl _, H1.out.2.2.2, H1.out.1, H1.out.2.1, H1.out.2.2.1⟩
  case round =>
    obtain ⟨yb, A', c', l', y, rfl, rfl, hc', hgk, hyb, hy, hb1, hgh, hlow⟩ := hrel
    clear H1
    by_cases h0 : 0 < gk
    · obtain ⟨bb, o, rfl, hrow⟩ := hb1.2 (by omega)
      obtain ⟨m, rfl⟩ : ∃ m, gk = m + 1 := ⟨gk - 1, by omega⟩
      have hlen := hb1.1
      have hsl := slice_h (w := wr) (b := bb) (o := o) (n := 16 * (m + 1)) (c := c') (hi := 16) (h := 16) rfl (by omega) (by omega)
      have h16 : At wr (some ⟨bb, o, none⟩) 16 (pad16 l') := fun _ => ⟨bb, o, rfl, fun j hj => by
        have hj2 : j < l'.length := by omega
        rw [hrow j l'[j] (List.getElem?_eq_getElem hj2)]
        simp [pad16, hj, hj2]⟩
      have hx := rxor_any (some ⟨yb, 0, none⟩) 16 (At.of_blk hy) (some ⟨bb, o, none⟩) 16 c' h16 (by omega) (by omega)
      have hA := hh.below hlow
      have hlenp : (0 : Int) < ((16 * (m + 1) : Nat) : Int) := by omega
      have HK := Lib.hid (And.intro hb1 (And.intro hgh (And.intro hlow hy)))
      clear hb1 hgh hlow hy h16 hrow
      go_wp2_with (first
        | (go_at_call 52; refine hx.mono ?_; rintro e w2 ⟨xb, rfl, hxb, hx2, hb2⟩; have ht := rprod_any (some ⟨xb, 0, none⟩) A 16 c _ h (At.of_blk hx2) (hA.below hb2))
        | (go_at_call 26; refine ht.mono ?_; rintro e w3 ⟨zb, rfl, hzb, hz3, hb3⟩
           obtain ⟨A3, hsl3, hA3⟩ := slice_tail (w := w3) (b := bb) (o := o) (n := 16 * (m + 1)) (c := c') (m := 16) (l := 16) rfl (by omega) hc'))
      obtain ⟨hb1, hgh, hlow, hy⟩ := HK.out
      have hl2 : Below w.heap.size w w2 := hlow.trans (hb2.mono hlow.size)
      have hl3 : Below w.heap.size w w3 := hl2.trans (hb3.mono hl2.size)
      go_roundg m
      case measure => omega
      case rel =>
        have e16 : 16 * (m + 1) - 16 = 16 * m := by omega
        refine ⟨zb, A3, c' - 16, l'.drop 16, mulF (fun j => y j ^^^ pad16 l' j) h, rfl, by rw [e16], by omega, by omega, ?_, hz3, ?_, hgh, hl3⟩
        · have := hl2.size; omega
        · refine ⟨by rw [List.length_drop]; omega, fun hp => ?_⟩
          refine ⟨bb, o + 16, hA3 (by omega), fun j x hx => ?_⟩
          rw [List.getElem?_drop] at hx
          obtain ⟨b', o', e', hr'⟩ := hb1.2 (by omega)
          cases e'
          rw [Nat.add_assoc]
          exact below_cell (hb2.trans (hb3.mono hb2.size)) (hr' (16 + j) x hx)
    · obtain rfl : gk = 0 := by omega
      have hye : y = ghF h l := hgh
      subst hye
      have HK := Lib.hid (And.intro hy hlow)
      clear hb1 hgh hy hlow
      go_wp2
      go_ret
      exact ⟨yb, rfl, hyb, HK.out.1, HK.out.2⟩
end Go.Proofs.Ytmilanicedjhmaa
