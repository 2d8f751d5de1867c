/- Decrypting undoes encrypting: the law's walk. No condition. -/
import Derived.Test.YtmilanicedjhmaaR0
namespace Go.Proofs.Ytmilanicedjhmaa
open Go.RowKit
set_option linter.unusedSimpArgs false

set_option maxRecDepth 100000 in
set_option maxHeartbeats 4000000 in
theorem back_some {w : World} (A A2 : Option Addr) (c c2 nw : Nat) (key l : List UInt8) (hw : nw = 4 ∨ nw = 6 ∨ nw = 8) (hK : Bytes w A (4 * nw) key) (hB : Bytes w A2 16 l) : Calls Try.prog 4 #[.slice A (4 * nw) c, .slice A2 16 c2] w (LawOk w) := by
  have hnw : nw ≤ 8 := by omega
  have hne : ((16 : Int) != 16) = false := rfl
  have Hw := Lib.hid hw
  clear hw
  go_enter Try.func4, Try.ntmps4
  go_upto_region 5 with (first
    | (go_at_call 14; refine (begun5 _).mono ?_; rintro e w0 ⟨rfl, hb0⟩; have hnew := new_some A c nw key w0 Hw.out (hK.below hb0))
    | (go_at_call 16; refine hnew.mono ?_; rintro e w1 ⟨g, gk, rfl, hg, hgk, hP, hb1⟩))
  have hb01 : Below w.heap.size w w1 := hb0.trans (hb1.mono hb0.size)
  have HB := Lib.hid (hB.below hb01)
  have hcv1 := conv_str (w := w1.drew) (c := c2) HB.out (fun e => by omega)
  have henc := enc_some (hP.below (Below.refl _ w1).drew) hnw A2 c2 _ (At.of_bytes (w := w1.drew) HB.out (Nat.le_refl _))
  have hl0 := hB.1
  have hl16 : tab 16 (fun j => l.getD j 0) = l := by rw [← hl0]; exact (tab_of l).symm
  have hde : tab 16 (decF nw key (encF nw key fun j => l.getD j 0)) = l := (dec_enc nw key _).tab.trans hl16
  have hed : tab 16 (encF nw key (decF nw key fun j => l.getD j 0)) = l := (enc_dec nw key _).tab.trans hl16
  have hlen : l.length = 16 := hl0
  have heq : ((bstr l).toList == (bstr l).toList) = true := by simp
  clear hl0 hl16 hnew hK hB
  refine wp_region_noPanic ?_
  refine wp_region_T (fun w' => (convert 22 9 (.slice A2 16 c2)).run Try.prog w' = .ok (.string (bstr l)) w') [] (by kernel_rfl) ?_ (fun hHeld => ?_)
  · exact hcv1
  refine wpAnyT_take (i := 0) (v := ?_) (by simp only [List.getElem?_toArray, List.getElem?_cons_zero, List.getElem?_cons_succ]; rfl) (by kernel_rfl) (by kernel_rfl) (by kernel_rfl) (by kernel_rfl) (by kernel_rfl) (fun _ _ _ h => h) (Or.inl ⟨by rfl, ?_⟩) (by assumption) ?_
  rotate_left
  · intro w hSw; (try dsimp only at hSw); go_simp; try (with_reducible rfl)
  try simp only [Act.put, List.setIfInBounds_toArray, List.set_cons_zero, List.set_cons_succ]
  refine wpAnyT_take (i := 1) (v := ?_) (by simp only [List.getElem?_toArray, List.getElem?_cons_zero, List.getElem?_cons_succ]; rfl) (by kernel_rfl) (by kernel_rfl) (by kernel_rfl) (by kernel_rfl) (by kernel_rfl) (fun _ _ _ h => h) (Or.inl ⟨by rfl, ?_⟩) (by assumption) ?_
  rotate_left
  · intro w hSw; (try dsimp only at hSw); go_simp; try (with_reducible rfl)
  try simp only [Act.put, List.setIfInBounds_toArray, List.set_cons_zero, List.set_cons_succ]
  refine wpAnyT_take (i := 2) (v := ?_) (by simp only [List.getElem?_toArray, List.getElem?_cons_zero, List.getElem?_cons_succ]; rfl) (by kernel_rfl) (by kernel_rfl) (by kernel_rfl) (by kernel_rfl) (by kernel_rfl) (fun _ _ _ h => h) (Or.inl ⟨by rfl, ?_⟩) (by assumption) ?_
  rotate_left
  · intro w hSw; (try dsimp only at hSw); go_simp; try (with_reducible rfl)
  try simp only [Act.put, List.setIfInBounds_toArray, List.set_cons_zero, List.set_cons_succ]
  refine wpAnyT_take (i := 3) (v := ?_) (by simp only [List.getElem?_toArray, List.getElem?_cons_zero, List.getElem?_cons_succ]; rfl) (by kernel_rfl) (by kernel_rfl) (by kernel_rfl) (by kernel_rfl) (by kernel_rfl) (fun _ _ _ h => h) (Or.inl ⟨by rfl, ?_⟩) (by assumption) ?_
  rotate_left
  · intro w hSw; (try dsimp only at hSw); go_simp; try (with_reducible rfl)
  try simp only [Act.put, List.setIfInBounds_toArray, List.set_cons_zero, List.set_cons_succ]
  refine wpAnyT_take (i := 4) (v := ?_) (by simp only [List.getElem?_toArray, List.getElem?_cons_zero, List.getElem?_cons_succ]; rfl) (by kernel_rfl) (by kernel_rfl) (by kernel_rfl) (by kernel_rfl) (by kernel_rfl) (fun _ _ _ h => h) (Or.inl ⟨by rfl, ?_⟩) (by assumption) ?_
  rotate_left
  · intro w hSw; (try dsimp only at hSw); go_simp; try (with_reducible rfl)
  try simp only [Act.put, List.setIfInBounds_toArray, List.set_cons_zero, List.set_cons_succ]
  refine wpAnyT_take (i := 8) (v := ?_) (by simp only [List.getElem?_toArray, List.getElem?_cons_zero, List.getElem?_cons_succ]; rfl) (by kernel_rfl) (by kernel_rfl) (by kernel_rfl) (by kernel_rfl) (by kernel_rfl) (fun _ _ _ h => h) (Or.inl ⟨by rfl, ?_⟩) (by assumption) ?_
  rotate_left
  · intro w hSw; (try dsimp only at hSw); go_simp; try (with_reducible rfl)
  try simp only [Act.put, List.setIfInBounds_toArray, List.set_cons_zero, List.set_cons_succ]
  refine wpAnyT_take (i := 9) (v := ?_) (by simp only [List.getElem?_toArray, List.getElem?_cons_zero, List.getElem?_cons_succ]; rfl) (by kernel_rfl) (by kernel_rfl) (by kernel_rfl) (by kernel_rfl) (by kernel_rfl) (fun _ _ _ h => h) (Or.inl ⟨by rfl, ?_⟩) (by assumption) ?_
  rotate_left
  · intro w hSw; (try dsimp only at hSw); go_simp; try (with_reducible rfl)
  try simp only [Act.put, List.setIfInBounds_toArray, List.set_cons_zero, List.set_cons_succ]
  refine wpAnyT_ready (rs := [5]) (by kernel_rfl) (by simp) (AllReadyT.cons (by simp only [List.getElem?_toArray, List.getElem?_cons_zero, List.getElem?_cons_succ]; rfl) (fun K hK => ?_) AllReadyT.nil)
  go_simp
  go_at_call 18
  refine henc.mono ?_
  rintro e w2 ⟨g2, rfl, hg2, hg2b, hb2⟩
  have hb2 : Below w1.heap.size w1 w2 := ⟨hb2.os, hb2.tape, hb2.output, hb2.size, hb2.block⟩
  have hcv2 := conv_str (c := c2) (HB.out.below hb2) (fun e => by omega)
  have hdec := dec_some (hP.below hb2) hnw (some ⟨g2, 0, none⟩) 16 _ (At.of_blk hg2b)
  have HP2 := Lib.hid (hP.below hb2)
  have HB2 := Lib.hid (HB.out.below hb2)
  refine hK.out _ _ ?_ (fun hHeld => ?_)
  · exact hcv2
  clear hK K
  try simp only [Act.put, List.setIfInBounds_toArray, List.set_cons_zero, List.set_cons_succ]
  refine wpAnyT_ready (rs := [6]) (by kernel_rfl) (by simp) (AllReadyT.cons (by simp only [List.getElem?_toArray, List.getElem?_cons_zero, List.getElem?_cons_succ]; rfl) (fun K hK => ?_) AllReadyT.nil)
  go_simp
  go_at_call 19
  refine hdec.mono ?_
  rintro e w3 ⟨g3, rfl, hg3, hg3b, hb3⟩
  have hcv3 := conv_str (c := c2) (HB2.out.below hb3) (fun e => by omega)
  rw [hde] at hg3b
  have hcw3 := conv_str (c := 16) (brow_bytes hg3b) (fun e => by omega)
  rw [hlen] at hcw3
  have hdec2 := dec_some (PC.below HP2.out hb3) hnw A2 c2 _ (At.of_bytes (HB2.out.below hb3) (Nat.le_refl _))
  have HP3 := Lib.hid (PC.below HP2.out hb3)
  have HB3 := Lib.hid (HB2.out.below hb3)
  refine hK.out _ _ ?_ (fun hHeld => ?_)
  · exact hcv3
  clear hK K
  try simp only [Act.put, List.setIfInBounds_toArray, List.set_cons_zero, List.set_cons_succ]
  refine wpAnyT_ready (rs := [7]) (by kernel_rfl) (by simp) (AllReadyT.cons (by simp only [List.getElem?_toArray, List.getElem?_cons_zero, List.getElem?_cons_succ]; rfl) (fun K hK => ?_) AllReadyT.nil)
  go_simp
  refine hK.out _ _ ?_ (fun hHeld => ?_)
  · exact hHeld
  clear hK K
  try simp only [Act.put, List.setIfInBounds_toArray, List.set_cons_zero, List.set_cons_succ]
  refine wpAnyT_take (i := 10) (v := ?_) (by simp only [List.getElem?_toArray, List.getElem?_cons_zero, List.getElem?_cons_succ]; rfl) (by kernel_rfl) (by kernel_rfl) (by kernel_rfl) (by kernel_rfl) (by kernel_rfl) (fun _ _ _ h => h) (Or.inl ⟨by rfl, ?_⟩) (by assumption) ?_
  rotate_left
  · intro w hSw; (try dsimp only at hSw); go_simp; try (with_reducible rfl)
  try simp only [Act.put, List.setIfInBounds_toArray, List.set_cons_zero, List.set_cons_succ]
  refine wpAnyT_take (i := 11) (v := ?_) (by simp only [List.getElem?_toArray, List.getElem?_cons_zero, List.getElem?_cons_succ]; rfl) (by kernel_rfl) (by kernel_rfl) (by kernel_rfl) (by kernel_rfl) (by kernel_rfl) (fun _ _ _ h => h) (Or.inl ⟨by rfl, ?_⟩) (by assumption) ?_
  rotate_left
  · intro w hSw; (try dsimp only at hSw); go_simp; try (with_reducible rfl)
  try simp only [Act.put, List.setIfInBounds_toArray, List.set_cons_zero, List.set_cons_succ]
  refine wpAnyT_take (i := 12) (v := ?_) (by simp only [List.getElem?_toArray, List.getElem?_cons_zero, List.getElem?_cons_succ]; rfl) (by kernel_rfl) (by kernel_rfl) (by kernel_rfl) (by kernel_rfl) (by kernel_rfl) (fun _ _ _ h => h) (Or.inl ⟨by rfl, ?_⟩) (by assumption) ?_
  rotate_left
  · intro w hSw; (try dsimp only at hSw); go_simp; try (with_reducible rfl)
  try simp only [Act.put, List.setIfInBounds_toArray, List.set_cons_zero, List.set_cons_succ]
  refine wpAnyT_take (i := 13) (v := ?_) (by simp only [List.getElem?_toArray, List.getElem?_cons_zero, List.getElem?_cons_succ]; rfl) (by kernel_rfl) (by kernel_rfl) (by kernel_rfl) (by kernel_rfl) (by kernel_rfl) (fun _ _ _ h => h) (Or.inl ⟨by rfl, ?_⟩) (by assumption) ?_
  rotate_left
  · intro w hSw; (try dsimp only at hSw); go_simp; try (with_reducible rfl)
  try simp only [Act.put, List.setIfInBounds_toArray, List.set_cons_zero, List.set_cons_succ]
  refine wpAnyT_take (i := 14) (v := ?_) (by simp only [List.getElem?_toArray, List.getElem?_cons_zero, List.getElem?_cons_succ]; rfl) (by kernel_rfl) (by kernel_rfl) (by kernel_rfl) (by kernel_rfl) (by kernel_rfl) (fun _ _ _ h => h) (Or.inl ⟨by rfl, ?_⟩) (by assumption) ?_
  rotate_left
  · intro w hSw; (try dsimp only at hSw); go_simp; try (with_reducible rfl)
  try simp only [Act.put, List.setIfInBounds_toArray, List.set_cons_zero, List.set_cons_succ]
  refine wpAnyT_take (i := 15) (v := ?_) (by simp only [List.getElem?_toArray, List.getElem?_cons_zero, List.getElem?_cons_succ]; rfl) (by kernel_rfl) (by kernel_rfl) (by kernel_rfl) (by kernel_rfl) (by kernel_rfl) (fun _ _ _ h => h) (Or.inl ⟨by rfl, ?_⟩) (by assumption) ?_
  rotate_left
  · intro w hSw; (try dsimp only at hSw); go_simp; try (with_reducible rfl)
  try simp only [Act.put, List.setIfInBounds_toArray, List.set_cons_zero, List.set_cons_succ]
  refine wpAnyT_take (i := 19) (v := ?_) (by simp only [List.getElem?_toArray, List.getElem?_cons_zero, List.getElem?_cons_succ]; rfl) (by kernel_rfl) (by kernel_rfl) (by kernel_rfl) (by kernel_rfl) (by kernel_rfl) (fun _ _ _ h => h) (Or.inl ⟨by rfl, ?_⟩) (by assumption) ?_
  rotate_left
  · intro w hSw; (try dsimp only at hSw); go_simp; try (with_reducible rfl)
  try simp only [Act.put, List.setIfInBounds_toArray, List.set_cons_zero, List.set_cons_succ]
  refine wpAnyT_take (i := 20) (v := ?_) (by simp only [List.getElem?_toArray, List.getElem?_cons_zero, List.getElem?_cons_succ]; rfl) (by kernel_rfl) (by kernel_rfl) (by kernel_rfl) (by kernel_rfl) (by kernel_rfl) (fun _ _ _ h => h) (Or.inl ⟨by rfl, ?_⟩) (by assumption) ?_
  rotate_left
  · intro w hSw; (try dsimp only at hSw); go_simp; try (with_reducible rfl)
  try simp only [Act.put, List.setIfInBounds_toArray, List.set_cons_zero, List.set_cons_succ]
  refine wpAnyT_ready (rs := [16]) (by kernel_rfl) (by simp) (AllReadyT.cons (by simp only [List.getElem?_toArray, List.getElem?_cons_zero, List.getElem?_cons_succ]; rfl) (fun K hK => ?_) AllReadyT.nil)
  go_simp
  go_at_call 19
  refine hdec2.mono ?_
  rintro e w4 ⟨g4, rfl, hg4, hg4b, hb4⟩
  have hcv4 := conv_str (c := c2) (HB3.out.below hb4) (fun e => by omega)
  have henc2 := enc_some (PC.below HP3.out hb4) hnw (some ⟨g4, 0, none⟩) 16 _ (At.of_blk hg4b)
  have HB4 := Lib.hid (HB3.out.below hb4)
  refine hK.out _ _ ?_ (fun hHeld => ?_)
  · exact hcv4
  clear hK K
  try simp only [Act.put, List.setIfInBounds_toArray, List.set_cons_zero, List.set_cons_succ]
  refine wpAnyT_ready (rs := [17]) (by kernel_rfl) (by simp) (AllReadyT.cons (by simp only [List.getElem?_toArray, List.getElem?_cons_zero, List.getElem?_cons_succ]; rfl) (fun K hK => ?_) AllReadyT.nil)
  go_simp
  go_at_call 18
  refine henc2.mono ?_
  rintro e w5 ⟨g5, rfl, hg5, hg5b, hb5⟩
  have hcv5 := conv_str (c := c2) (HB4.out.below hb5) (fun e => by omega)
  rw [hed] at hg5b
  have hcw5 := conv_str (c := 16) (brow_bytes hg5b) (fun e => by omega)
  rw [hlen] at hcw5
  refine hK.out _ _ ?_ (fun hHeld => ?_)
  · exact hcv5
  clear hK K
  try simp only [Act.put, List.setIfInBounds_toArray, List.set_cons_zero, List.set_cons_succ]
  refine wpAnyT_ready (rs := [18]) (by kernel_rfl) (by simp) (AllReadyT.cons (by simp only [List.getElem?_toArray, List.getElem?_cons_zero, List.getElem?_cons_succ]; rfl) (fun K hK => ?_) AllReadyT.nil)
  go_simp
  refine hK.out _ _ ?_ (fun hHeld => ?_)
  · exact hHeld
  clear hK K
  try simp only [Act.put, List.setIfInBounds_toArray, List.set_cons_zero, List.set_cons_succ]
  refine wpAnyT_take (i := 21) (v := ?_) (by simp only [List.getElem?_toArray, List.getElem?_cons_zero, List.getElem?_cons_succ]; rfl) (by kernel_rfl) (by kernel_rfl) (by kernel_rfl) (by kernel_rfl) (by kernel_rfl) (fun _ _ _ h => h) (Or.inl ⟨by rfl, ?_⟩) (by assumption) ?_
  rotate_left
  · intro w hSw; (try dsimp only at hSw); go_simp; try (with_reducible rfl)
  try simp only [Act.put, List.setIfInBounds_toArray, List.set_cons_zero, List.set_cons_succ]
  refine wpAnyT_take (i := 22) (v := ?_) (by simp only [List.getElem?_toArray, List.getElem?_cons_zero, List.getElem?_cons_succ]; rfl) (by kernel_rfl) (by kernel_rfl) (by kernel_rfl) (by kernel_rfl) (by kernel_rfl) (fun _ _ _ h => h) (Or.inl ⟨by rfl, ?_⟩) (by assumption) ?_
  rotate_left
  · intro w hSw; (try dsimp only at hSw); go_simp; try (with_reducible rfl)
  try simp only [Act.put, List.setIfInBounds_toArray, List.set_cons_zero, List.set_cons_succ]
  refine wpAnyT_take (i := 23) (v := ?_) (by simp only [List.getElem?_toArray, List.getElem?_cons_zero, List.getElem?_cons_succ]; rfl) (by kernel_rfl) (by kernel_rfl) (by kernel_rfl) (by kernel_rfl) (by kernel_rfl) (fun _ _ _ h => h) (Or.inl ⟨by rfl, ?_⟩) (by assumption) ?_
  rotate_left
  · intro w hSw; (try dsimp only at hSw); go_simp; try (with_reducible rfl)
  try simp only [Act.put, List.setIfInBounds_toArray, List.set_cons_zero, List.set_cons_succ]
  refine wpAnyT_done (by kernel_rfl) ?_ _
  refine NoPanic.normal ?_
  go_wp2
  go_ret
  have q2 := hb01.trans (hb2.mono hb01.size)
  have q3 := q2.trans (hb3.mono q2.size)
  have q4 := q3.trans (hb4.mono q3.size)
  exact ⟨rfl, q4.trans (hb5.mono q4.size)⟩

set_option maxRecDepth 100000 in
set_option maxHeartbeats 4000000 in
theorem back_nokey {w : World} (A : Option Addr) (n c : Nat) (A2 : Option Addr) (n2 c2 : Nat) (h : n ≠ 16 ∧ n ≠ 24 ∧ n ≠ 32) : Calls Try.prog 4 #[.slice A n c, .slice A2 n2 c2] w (LawOk w) := by
  go_enter Try.func4, Try.ntmps4
  go_upto_region 3 with (first
    | (go_at_call 14; refine (begun5 _).mono ?_; rintro e w0 ⟨rfl, hb0⟩; have hnew := new_no A n c w0 h)
    | (go_at_call 16; refine hnew.mono ?_; rintro e w1 ⟨rfl, rfl⟩))
  go_wp2
  go_ret
  exact ⟨rfl, hb0.trans ⟨rfl, rfl, rfl, Nat.le_refl _, fun _ _ => rfl⟩⟩

set_option maxRecDepth 100000 in
set_option maxHeartbeats 4000000 in
theorem back_nob {w : World} (A A2 : Option Addr) (c n2 c2 nw : Nat) (key : List UInt8) (hw : nw = 4 ∨ nw = 6 ∨ nw = 8) (hK : Bytes w A (4 * nw) key) (h2 : n2 ≠ 16) : Calls Try.prog 4 #[.slice A (4 * nw) c, .slice A2 n2 c2] w (LawOk w) := by
  have hne : ((n2 : Int) != 16) = true := by simp; omega
  have Hw := Lib.hid hw
  clear hw
  go_enter Try.func4, Try.ntmps4
  go_upto_region 3 with (first
    | (go_at_call 14; refine (begun5 _).mono ?_; rintro e w0 ⟨rfl, hb0⟩; have hnew := new_some A c nw key w0 Hw.out (hK.below hb0))
    | (go_at_call 16; refine hnew.mono ?_; rintro e w1 ⟨g, gk, rfl, hg, hgk, hP, hb1⟩))
  go_wp2
  go_ret
  exact ⟨rfl, (hb0.trans (hb1.mono hb0.size)).trans ⟨rfl, rfl, rfl, Nat.le_refl _, fun _ _ => rfl⟩⟩

theorem back {w : World} (A A2 : Option Addr) (n c n2 c2 : Nat) (key l : List UInt8) (hK : Bytes w A n key) (hB : Bytes w A2 n2 l) : Calls Try.prog 4 #[.slice A n c, .slice A2 n2 c2] w (LawOk w) := by
  by_cases h : n = 16 ∨ n = 24 ∨ n = 32
  · obtain ⟨nw, hnw, rfl⟩ : ∃ nw, (nw = 4 ∨ nw = 6 ∨ nw = 8) ∧ n = 4 * nw := by
      rcases h with rfl | rfl | rfl
      · exact ⟨4, .inl rfl, rfl⟩
      · exact ⟨6, .inr (.inl rfl), rfl⟩
      · exact ⟨8, .inr (.inr rfl), rfl⟩
    by_cases h2 : n2 = 16
    · subst h2
      exact back_some A A2 c c2 nw key l hnw hK hB
    · exact back_nob A A2 c n2 c2 nw key hnw hK h2
  · exact back_nokey A n c A2 n2 c2 ⟨fun e => h (.inl e), fun e => h (.inr (.inl e)), fun e => h (.inr (.inr e))⟩
end Go.Proofs.Ytmilanicedjhmaa
