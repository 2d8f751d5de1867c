/- Products and the hash in the field: the law's walk. No condition. -/
import Derived.Test.YtmilanicedjhmaaF25
import Derived.Test.YtmilanicedjhmaaR0
namespace Go.Proofs.Ytmilanicedjhmaa
open Go.RowKit
set_option linter.unusedSimpArgs false

theorem short_to {w : World} {A : Option Addr} {n c k m : Nat} {l : List UInt8} (hB : Bytes w A n l) (hc : n ≤ c) (hm : min n k = m) {kI : Int} (hk : kI = k) : Calls Try.prog 15 #[.slice A n c, .int .i64 kI] w fun e w' => e = .returned (.slice A m c) ∧ w = w' := by
  subst hk hm
  exact short_any c k hB hc

set_option maxRecDepth 100000 in
set_option maxHeartbeats 4000000 in
theorem field_no {w : World} (A A2 A3 : Option Addr) (n c n2 c2 n3 c3 : Nat) (x y l : List UInt8) (hX : Bytes w A n x) (hY : Bytes w A2 n2 y) (hB : Bytes w A3 n3 l) (hc : n ≤ c) (hc2 : n2 ≤ c2) (hc3 : n3 ≤ c3) (hn : n ≠ 16) :
    Calls Try.prog 5 #[.slice A n c, .slice A2 n2 c2, .slice A3 n3 c3] w (LawOk w) := by
  obtain ⟨m, hm⟩ : ∃ m, min n 20 = m := ⟨_, rfl⟩
  obtain ⟨m2, hm2⟩ : ∃ m, min n2 20 = m := ⟨_, rfl⟩
  obtain ⟨m3, hm3⟩ : ∃ m, min n3 100 = m := ⟨_, rfl⟩
  have hm16 : m ≠ 16 := by omega
  have hne : ((m : Int) != 16) = true := by simp; omega
  have Hm := Lib.hid (And.intro hm (And.intro hm2 (And.intro hm3 (And.intro hn (And.intro hc (And.intro hc2 hc3))))))
  have HB := Lib.hid (And.intro hX (And.intro hY hB))
  clear hX hY hB hm hm2 hm3 hn hc hc2 hc3
  have t1 : True := trivial
  have t2 : True := trivial
  have t3 : True := trivial
  go_enter Try.func5, Try.ntmps5
  go_wp2_with (first
    | (go_at_call 14; refine (begun5 _).mono ?_; rintro e w0 ⟨rfl, hb0⟩
       have hs1 := short_to (HB.out.1.below hb0) Hm.out.2.2.2.2.1 Hm.out.1 (kI := 20) rfl
       have hs2 := short_to (HB.out.2.1.below hb0) Hm.out.2.2.2.2.2.1 Hm.out.2.1 (kI := 20) rfl
       have hs3 := short_to (HB.out.2.2.below hb0) Hm.out.2.2.2.2.2.2 Hm.out.2.2.1 (kI := 100) rfl)
    | (clear t1; go_at_call 15; refine hs1.mono ?_; rintro e w1 ⟨rfl, rfl⟩)
    | (clear t2; go_at_call 15; refine hs2.mono ?_; rintro e w2 ⟨rfl, rfl⟩)
    | (clear t3; go_at_call 15; refine hs3.mono ?_; rintro e w3 ⟨rfl, rfl⟩)
    | (go_at_call 23; refine (times_no A A2 m c m2 c2 _ (Or.inl hm16)).mono ?_; rintro e w4 ⟨rfl, rfl⟩)
    | (go_at_call 24; refine (ghash_no A A3 m c m3 c3 _ hm16).mono ?_; rintro e w5 ⟨rfl, rfl⟩))
  go_ret
  exact ⟨rfl, hb0⟩

/-- What stands behind the first hash, and the test whether it is the reference's. -/
theorem tab16_mul_comm (x y : Nat → UInt8) : tab 16 (mulF y x) = tab 16 (mulF x y) := tab_congr fun j hj => mulF_comm y x j hj

set_option maxRecDepth 100000 in
set_option maxHeartbeats 4000000 in
theorem field_yes {w : World} (A A2 A3 : Option Addr) (c c2 n3 c3 : Nat) (x y l : List UInt8) (hX : Bytes w A 16 x) (hY : Bytes w A2 16 y) (hB : Bytes w A3 n3 l) (hc : 16 ≤ c) (hc2 : 16 ≤ c2) (hc3 : n3 ≤ c3) (hc9 : c3 ≤ 9223372036854775807) :
    Calls Try.prog 5 #[.slice A 16 c, .slice A2 16 c2, .slice A3 n3 c3] w (LawOk w) := by
  obtain ⟨m3, hm3⟩ : ∃ m, min n3 100 = m := ⟨_, rfl⟩
  have hn16 : ((16 : Int) != 16) = false := rfl
  have hcomm := tab16_mul_comm (fun j => x.getD j 0) (fun j => y.getD j 0)
  have heq := fun L : List UInt8 => (show ((bstr L).toList == (bstr L).toList) = true by simp)
  have Hm := Lib.hid (And.intro hm3 hc3)
  have Hc := Lib.hid (And.intro hc (And.intro hc2 (And.intro (show m3 ≤ c3 by omega) (And.intro hc9 (show m3 ≤ 1000000000 by omega)))))
  have HB := Lib.hid (And.intro hX (And.intro hY hB))
  clear hX hY hB hm3 hc hc2 hc3 hc9
  have t1 : True := trivial
  have t2 : True := trivial
  have t3 : True := trivial
  go_enter Try.func5, Try.ntmps5
  go_upto_region 7 with (first
    | (go_at_call 14; refine (begun5 _).mono ?_; rintro e w0 ⟨rfl, hb0⟩
       have hs1 := short_to (HB.out.1.below hb0) Hc.out.1 (show min 16 20 = 16 from rfl) (kI := 20) rfl
       have hs2 := short_to (HB.out.2.1.below hb0) Hc.out.2.1 (show min 16 20 = 16 from rfl) (kI := 20) rfl
       have hs3 := short_to (HB.out.2.2.below hb0) Hm.out.2 Hm.out.1 (kI := 100) rfl
       have htm := times_any' A A2 c c2 _ _ (At.of_bytes (HB.out.1.below hb0) (Nat.le_refl _)) (At.of_bytes (HB.out.2.1.below hb0) (Nat.le_refl _)) Hc.out.1 Hc.out.2.1)
    | (clear t1; go_at_call 15; refine hs1.mono ?_; rintro e w1 ⟨rfl, rfl⟩)
    | (clear t2; go_at_call 15; refine hs2.mono ?_; rintro e w2 ⟨rfl, rfl⟩)
    | (clear t3; go_at_call 15; refine hs3.mono ?_; rintro e w3 ⟨rfl, rfl⟩)
    | (go_at_call 23; refine htm.mono ?_; rintro e w5 ⟨v5, rfl, ho5, hb5⟩
       obtain ⟨gp, cp, rfl, -, -, -⟩ := own_some ho5 (by omega)
       have h3 : Bytes w5 A3 m3 (l.take 100) := by have := ((HB.out.2.2.below hb0).below hb5).take_ 100; rwa [Hm.out.1] at this
       have hgh := ghash_any A A3 c m3 c3 _ _ (At.of_bytes ((HB.out.1.below hb0).below hb5) (Nat.le_refl _)) Hc.out.1 h3 Hc.out.2.2.1 Hc.out.2.2.2.1)
    | (go_at_call 24; refine hgh.mono ?_; rintro e w6 ⟨v6, rfl, ho6, hb6⟩
       obtain ⟨gh, ch, rfl, -, -, -⟩ := own_some ho6 (by omega)))
  have HG := Lib.hid (Bytes.of_own ho6)
  have hcv6 := conv_str (w := w6.drew) (c := ch) HG.out (fun e => by omega)
  have hA6 : At w6 A 16 (fun j => x.getD j 0) := At.of_bytes (((HB.out.1.below hb0).below hb5).below hb6) (Nat.le_refl _)
  have h36 : Bytes w6 A3 m3 (l.take 100) := h3.below hb6
  have hrg := rghash_any (w := w6.drew) A A3 c m3 c3 _ _ hA6 h36 Hc.out.2.2.2.2
  have hl5 : Below w.heap.size w w5 := hb0.trans (hb5.mono hb0.size)
  have hl6 : Below w.heap.size w w6 := hl5.trans (hb6.mono hl5.size)
  refine wp_region_noPanic ?_
  refine wp_region_T (fun w' => (convert 22 9 (.slice (some ⟨gh, 0, none⟩) 16 ch)).run Try.prog w' = .ok (.string (bstr (tab 16 (ghF (fun j => x.getD j 0) (l.take 100))))) w') [] (by kernel_rfl) ?_ (fun hHeld => ?_)
  · exact hcv6
  refine wpAnyT_take (i := 0) (v := ?_) (by simp only [List.getElem?_toArray, List.getElem?_cons_zero, List.getElem?_cons_succ]; rfl) (by kernel_rfl) (by kernel_rfl) (by kernel_rfl) (by kernel_rfl) (by kernel_rfl) (fun _ _ _ h => h) (Or.inl ⟨by rfl, ?_⟩) (by assumption) ?_
  rotate_left
  · intro w hSw; (try dsimp only at hSw); go_simp; try (with_reducible rfl)
  try simp only [Act.put, List.setIfInBounds_toArray, List.set_cons_zero, List.set_cons_succ]
  refine wpAnyT_take (i := 1) (v := ?_) (by simp only [List.getElem?_toArray, List.getElem?_cons_zero, List.getElem?_cons_succ]; rfl) (by kernel_rfl) (by kernel_rfl) (by kernel_rfl) (by kernel_rfl) (by kernel_rfl) (fun _ _ _ h => h) (Or.inl ⟨by rfl, ?_⟩) (by assumption) ?_
  rotate_left
  · intro w hSw; (try dsimp only at hSw); go_simp; try (with_reducible rfl)
  try simp only [Act.put, List.setIfInBounds_toArray, List.set_cons_zero, List.set_cons_succ]
  refine wpAnyT_take (i := 2) (v := ?_) (by simp only [List.getElem?_toArray, List.getElem?_cons_zero, List.getElem?_cons_succ]; rfl) (by kernel_rfl) (by kernel_rfl) (by kernel_rfl) (by kernel_rfl) (by kernel_rfl) (fun _ _ _ h => h) (Or.inl ⟨by rfl, ?_⟩) (by assumption) ?_
  rotate_left
  · intro w hSw; (try dsimp only at hSw); go_simp; try (with_reducible rfl)
  try simp only [Act.put, List.setIfInBounds_toArray, List.set_cons_zero, List.set_cons_succ]
  refine wpAnyT_take (i := 3) (v := ?_) (by simp only [List.getElem?_toArray, List.getElem?_cons_zero, List.getElem?_cons_succ]; rfl) (by kernel_rfl) (by kernel_rfl) (by kernel_rfl) (by kernel_rfl) (by kernel_rfl) (fun _ _ _ h => h) (Or.inl ⟨by rfl, ?_⟩) (by assumption) ?_
  rotate_left
  · intro w hSw; (try dsimp only at hSw); go_simp; try (with_reducible rfl)
  try simp only [Act.put, List.setIfInBounds_toArray, List.set_cons_zero, List.set_cons_succ]
  refine wpAnyT_ready (rs := [4]) (by kernel_rfl) (by simp) (AllReadyT.cons (by simp only [List.getElem?_toArray, List.getElem?_cons_zero, List.getElem?_cons_succ]; rfl) (fun K hK => ?_) AllReadyT.nil)
  go_simp
  go_at_call 25
  refine hrg.mono ?_
  rintro e w7 ⟨g7, rfl, hg7, hg7b, hb7⟩
  have hb7 : Below w6.heap.size w6 w7 := ⟨hb7.os, hb7.tape, hb7.output, hb7.size, hb7.block⟩
  have hcv7 := conv_str (c := ch) (HG.out.below hb7) (fun e => by omega)
  have hcw7 := conv_str (c := 16) (brow_bytes hg7b) (fun e => by rw [tab_length] at e; omega)
  rw [tab_length] at hcw7
  refine hK.out _ _ ?_ (fun hHeld => ?_)
  · exact hcv7
  clear hK K
  try simp only [Act.put, List.setIfInBounds_toArray, List.set_cons_zero, List.set_cons_succ]
  refine wpAnyT_ready (rs := [5]) (by kernel_rfl) (by simp) (AllReadyT.cons (by simp only [List.getElem?_toArray, List.getElem?_cons_zero, List.getElem?_cons_succ]; rfl) (fun K hK => ?_) AllReadyT.nil)
  go_simp
  refine hK.out _ _ ?_ (fun hHeld => ?_)
  · exact hHeld
  clear hK K
  try simp only [Act.put, List.setIfInBounds_toArray, List.set_cons_zero, List.set_cons_succ]
  refine wpAnyT_take (i := 6) (v := ?_) (by simp only [List.getElem?_toArray, List.getElem?_cons_zero, List.getElem?_cons_succ]; rfl) (by kernel_rfl) (by kernel_rfl) (by kernel_rfl) (by kernel_rfl) (by kernel_rfl) (fun _ _ _ h => h) (Or.inl ⟨by rfl, ?_⟩) (by assumption) ?_
  rotate_left
  · intro w hSw; (try dsimp only at hSw); go_simp; try (with_reducible rfl)
  try simp only [Act.put, List.setIfInBounds_toArray, List.set_cons_zero, List.set_cons_succ]
  refine wpAnyT_done (by kernel_rfl) ?_ _
  refine NoPanic.normal ?_
  have hl7 : Below w.heap.size w w7 := hl6.trans (hb7.mono hl6.size)
  have hP7 : Bytes w7 (some ⟨gp, 0, none⟩) 16 _ := ((Bytes.of_own ho5).below hb6).below hb7
  have hX7 := ((HB.out.1.below hb0).below hb5).below (hb6.trans (hb7.mono hb6.size))
  have hY7 := ((HB.out.2.1.below hb0).below hb5).below (hb6.trans (hb7.mono hb6.size))
  have HP := Lib.hid (And.intro hP7 (And.intro (At.of_bytes hY7 (Nat.le_refl _)) (At.of_bytes hX7 (Nat.le_refl _))))
  have hcv7p := conv_str (w := w7.drew) (c := cp) HP.out.1 (fun e => by omega)
  have hrt := rprod_any (w := w7.drew) A A2 c c2 _ _ HP.out.2.2 HP.out.2.1
  clear hP7 hX7 hY7 hcv6 hcv7 hcw7 hrg hA6 h36 h3 hgh htm hs1 hs2 hs3
  go_upto_region 11 with fail
  refine wp_region_noPanic ?_
  refine wp_region_T (fun w' => (convert 22 9 (.slice (some ⟨gp, 0, none⟩) 16 cp)).run Try.prog w' = .ok (.string (bstr (tab 16 (mulF (fun j => x.getD j 0) (fun j => y.getD j 0))))) w') [] (by kernel_rfl) ?_ (fun hHeld => ?_)
  · exact hcv7p
  refine wpAnyT_take (i := 0) (v := ?_) (by simp only [List.getElem?_toArray, List.getElem?_cons_zero, List.getElem?_cons_succ]; rfl) (by kernel_rfl) (by kernel_rfl) (by kernel_rfl) (by kernel_rfl) (by kernel_rfl) (fun _ _ _ h => h) (Or.inl ⟨by rfl, ?_⟩) (by assumption) ?_
  rotate_left
  · intro w hSw; (try dsimp only at hSw); go_simp; try (with_reducible rfl)
  try simp only [Act.put, List.setIfInBounds_toArray, List.set_cons_zero, List.set_cons_succ]
  refine wpAnyT_take (i := 1) (v := ?_) (by simp only [List.getElem?_toArray, List.getElem?_cons_zero, List.getElem?_cons_succ]; rfl) (by kernel_rfl) (by kernel_rfl) (by kernel_rfl) (by kernel_rfl) (by kernel_rfl) (fun _ _ _ h => h) (Or.inl ⟨by rfl, ?_⟩) (by assumption) ?_
  rotate_left
  · intro w hSw; (try dsimp only at hSw); go_simp; try (with_reducible rfl)
  try simp only [Act.put, List.setIfInBounds_toArray, List.set_cons_zero, List.set_cons_succ]
  refine wpAnyT_take (i := 2) (v := ?_) (by simp only [List.getElem?_toArray, List.getElem?_cons_zero, List.getElem?_cons_succ]; rfl) (by kernel_rfl) (by kernel_rfl) (by kernel_rfl) (by kernel_rfl) (by kernel_rfl) (fun _ _ _ h => h) (Or.inl ⟨by rfl, ?_⟩) (by assumption) ?_
  rotate_left
  · intro w hSw; (try dsimp only at hSw); go_simp; try (with_reducible rfl)
  try simp only [Act.put, List.setIfInBounds_toArray, List.set_cons_zero, List.set_cons_succ]
  refine wpAnyT_take (i := 3) (v := ?_) (by simp only [List.getElem?_toArray, List.getElem?_cons_zero, List.getElem?_cons_succ]; rfl) (by kernel_rfl) (by kernel_rfl) (by kernel_rfl) (by kernel_rfl) (by kernel_rfl) (fun _ _ _ h => h) (Or.inl ⟨by rfl, ?_⟩) (by assumption) ?_
  rotate_left
  · intro w hSw; (try dsimp only at hSw); go_simp; try (with_reducible rfl)
  try simp only [Act.put, List.setIfInBounds_toArray, List.set_cons_zero, List.set_cons_succ]
  refine wpAnyT_take (i := 4) (v := ?_) (by simp only [List.getElem?_toArray, List.getElem?_cons_zero, List.getElem?_cons_succ]; rfl) (by kernel_rfl) (by kernel_rfl) (by kernel_rfl) (by kernel_rfl) (by kernel_rfl) (fun _ _ _ h => h) (Or.inl ⟨by rfl, ?_⟩) (by assumption) ?_
  rotate_left
  · intro w hSw; (try dsimp only at hSw); go_simp; try (with_reducible rfl)
  try simp only [Act.put, List.setIfInBounds_toArray, List.set_cons_zero, List.set_cons_succ]
  refine wpAnyT_take (i := 5) (v := ?_) (by simp only [List.getElem?_toArray, List.getElem?_cons_zero, List.getElem?_cons_succ]; rfl) (by kernel_rfl) (by kernel_rfl) (by kernel_rfl) (by kernel_rfl) (by kernel_rfl) (fun _ _ _ h => h) (Or.inl ⟨by rfl, ?_⟩) (by assumption) ?_
  rotate_left
  · intro w hSw; (try dsimp only at hSw); go_simp; try (with_reducible rfl)
  try simp only [Act.put, List.setIfInBounds_toArray, List.set_cons_zero, List.set_cons_succ]
  refine wpAnyT_ready (rs := [6]) (by kernel_rfl) (by simp) (AllReadyT.cons (by simp only [List.getElem?_toArray, List.getElem?_cons_zero, List.getElem?_cons_succ]; rfl) (fun K hK => ?_) AllReadyT.nil)
  go_simp
  go_at_call 26
  refine hrt.mono ?_
  rintro e w8 ⟨g8, rfl, hg8, hg8b, hb8⟩
  have hb8 : Below w7.heap.size w7 w8 := ⟨hb8.os, hb8.tape, hb8.output, hb8.size, hb8.block⟩
  have hcv8 := conv_str (c := cp) (HP.out.1.below hb8) (fun e => by omega)
  have hcw8 := conv_str (c := 16) (brow_bytes hg8b) (fun e => by rw [tab_length] at e; omega)
  rw [tab_length] at hcw8
  have htt := times_any' A2 A c2 c _ _ (HP.out.2.1.below hb8) (HP.out.2.2.below hb8) Hc.out.2.1 Hc.out.1
  refine hK.out _ _ ?_ (fun hHeld => ?_)
  · exact hcv8
  clear hK K
  try simp only [Act.put, List.setIfInBounds_toArray, List.set_cons_zero, List.set_cons_succ]
  refine wpAnyT_ready (rs := [7]) (by kernel_rfl) (by simp) (AllReadyT.cons (by simp only [List.getElem?_toArray, List.getElem?_cons_zero, List.getElem?_cons_succ]; rfl) (fun K hK => ?_) AllReadyT.nil)
  go_simp
  refine hK.out _ _ ?_ (fun hHeld => ?_)
  · exact hHeld
  clear hK K
  try simp only [Act.put, List.setIfInBounds_toArray, List.set_cons_zero, List.set_cons_succ]
  refine wpAnyT_take (i := 8) (v := ?_) (by simp only [List.getElem?_toArray, List.getElem?_cons_zero, List.getElem?_cons_succ]; rfl) (by kernel_rfl) (by kernel_rfl) (by kernel_rfl) (by kernel_rfl) (by kernel_rfl) (fun _ _ _ h => h) (Or.inl ⟨by rfl, ?_⟩) (by assumption) ?_
  rotate_left
  · intro w hSw; (try dsimp only at hSw); go_simp; try (with_reducible rfl)
  try simp only [Act.put, List.setIfInBounds_toArray, List.set_cons_zero, List.set_cons_succ]
  refine wpAnyT_take (i := 9) (v := ?_) (by simp only [List.getElem?_toArray, List.getElem?_cons_zero, List.getElem?_cons_succ]; rfl) (by kernel_rfl) (by kernel_rfl) (by kernel_rfl) (by kernel_rfl) (by kernel_rfl) (fun _ _ _ h => h) (Or.inl ⟨by rfl, ?_⟩) (by assumption) ?_
  rotate_left
  · intro w hSw; (try dsimp only at hSw); go_simp; try (with_reducible rfl)
  try simp only [Act.put, List.setIfInBounds_toArray, List.set_cons_zero, List.set_cons_succ]
  refine wpAnyT_take (i := 10) (v := ?_) (by simp only [List.getElem?_toArray, List.getElem?_cons_zero, List.getElem?_cons_succ]; rfl) (by kernel_rfl) (by kernel_rfl) (by kernel_rfl) (by kernel_rfl) (by kernel_rfl) (fun _ _ _ h => h) (Or.inl ⟨by rfl, ?_⟩) (by assumption) ?_
  rotate_left
  · intro w hSw; (try dsimp only at hSw); go_simp; try (with_reducible rfl)
  try simp only [Act.put, List.setIfInBounds_toArray, List.set_cons_zero, List.set_cons_succ]
  refine wpAnyT_take (i := 11) (v := ?_) (by simp only [List.getElem?_toArray, List.getElem?_cons_zero, List.getElem?_cons_succ]; rfl) (by kernel_rfl) (by kernel_rfl) (by kernel_rfl) (by kernel_rfl) (by kernel_rfl) (fun _ _ _ h => h) (Or.inl ⟨by rfl, ?_⟩) (by assumption) ?_
  rotate_left
  · intro w hSw; (try dsimp only at hSw); go_simp; try (with_reducible rfl)
  try simp only [Act.put, List.setIfInBounds_toArray, List.set_cons_zero, List.set_cons_succ]
  refine wpAnyT_take (i := 12) (v := ?_) (by simp only [List.getElem?_toArray, List.getElem?_cons_zero, List.getElem?_cons_succ]; rfl) (by kernel_rfl) (by kernel_rfl) (by kernel_rfl) (by kernel_rfl) (by kernel_rfl) (fun _ _ _ h => h) (Or.inl ⟨by rfl, ?_⟩) (by assumption) ?_
  rotate_left
  · intro w hSw; (try dsimp only at hSw); go_simp; try (with_reducible rfl)
  try simp only [Act.put, List.setIfInBounds_toArray, List.set_cons_zero, List.set_cons_succ]
  refine wpAnyT_take (i := 13) (v := ?_) (by simp only [List.getElem?_toArray, List.getElem?_cons_zero, List.getElem?_cons_succ]; rfl) (by kernel_rfl) (by kernel_rfl) (by kernel_rfl) (by kernel_rfl) (by kernel_rfl) (fun _ _ _ h => h) (Or.inl ⟨by rfl, ?_⟩) (by assumption) ?_
  rotate_left
  · intro w hSw; (try dsimp only at hSw); go_simp; try (with_reducible rfl)
  try simp only [Act.put, List.setIfInBounds_toArray, List.set_cons_zero, List.set_cons_succ]
  refine wpAnyT_take (i := 14) (v := ?_) (by simp only [List.getElem?_toArray, List.getElem?_cons_zero, List.getElem?_cons_succ]; rfl) (by kernel_rfl) (by kernel_rfl) (by kernel_rfl) (by kernel_rfl) (by kernel_rfl) (fun _ _ _ h => h) (Or.inl ⟨by rfl, ?_⟩) (by assumption) ?_
  rotate_left
  · intro w hSw; (try dsimp only at hSw); go_simp; try (with_reducible rfl)
  try simp only [Act.put, List.setIfInBounds_toArray, List.set_cons_zero, List.set_cons_succ]
  refine wpAnyT_ready (rs := [15]) (by kernel_rfl) (by simp) (AllReadyT.cons (by simp only [List.getElem?_toArray, List.getElem?_cons_zero, List.getElem?_cons_succ]; rfl) (fun K hK => ?_) AllReadyT.nil)
  go_simp
  go_at_call 23
  refine htt.mono ?_
  rintro e w9 ⟨v9, rfl, ho9, hb9⟩
  have hcv9 := conv_str (c := cp) ((HP.out.1.below hb8).below hb9) (fun e => by omega)
  obtain ⟨g9, c9, rfl, -, -, -⟩ := own_some ho9 (by omega)
  have hcw9 := conv_str (c := c9) (Bytes.of_own ho9) (fun e => by omega)
  rw [hcomm] at hcw9
  refine hK.out _ _ ?_ (fun hHeld => ?_)
  · exact hcv9
  clear hK K
  try simp only [Act.put, List.setIfInBounds_toArray, List.set_cons_zero, List.set_cons_succ]
  refine wpAnyT_ready (rs := [16]) (by kernel_rfl) (by simp) (AllReadyT.cons (by simp only [List.getElem?_toArray, List.getElem?_cons_zero, List.getElem?_cons_succ]; rfl) (fun K hK => ?_) AllReadyT.nil)
  go_simp
  refine hK.out _ _ ?_ (fun hHeld => ?_)
  · exact hHeld
  clear hK K
  try simp only [Act.put, List.setIfInBounds_toArray, List.set_cons_zero, List.set_cons_succ]
  refine wpAnyT_take (i := 17) (v := ?_) (by simp only [List.getElem?_toArray, List.getElem?_cons_zero, List.getElem?_cons_succ]; rfl) (by kernel_rfl) (by kernel_rfl) (by kernel_rfl) (by kernel_rfl) (by kernel_rfl) (fun _ _ _ h => h) (Or.inl ⟨by rfl, ?_⟩) (by assumption) ?_
  rotate_left
  · intro w hSw; (try dsimp only at hSw); go_simp; try (with_reducible rfl)
  try simp only [Act.put, List.setIfInBounds_toArray, List.set_cons_zero, List.set_cons_succ]
  refine wpAnyT_take (i := 18) (v := ?_) (by simp only [List.getElem?_toArray, List.getElem?_cons_zero, List.getElem?_cons_succ]; rfl) (by kernel_rfl) (by kernel_rfl) (by kernel_rfl) (by kernel_rfl) (by kernel_rfl) (fun _ _ _ h => h) (Or.inl ⟨by rfl, ?_⟩) (by assumption) ?_
  rotate_left
  · intro w hSw; (try dsimp only at hSw); go_simp; try (with_reducible rfl)
  try simp only [Act.put, List.setIfInBounds_toArray, List.set_cons_zero, List.set_cons_succ]
  refine wpAnyT_take (i := 19) (v := ?_) (by simp only [List.getElem?_toArray, List.getElem?_cons_zero, List.getElem?_cons_succ]; rfl) (by kernel_rfl) (by kernel_rfl) (by kernel_rfl) (by kernel_rfl) (by kernel_rfl) (fun _ _ _ h => h) (Or.inl ⟨by rfl, ?_⟩) (by assumption) ?_
  rotate_left
  · intro w hSw; (try dsimp only at hSw); go_simp; try (with_reducible rfl)
  try simp only [Act.put, List.setIfInBounds_toArray, List.set_cons_zero, List.set_cons_succ]
  refine wpAnyT_done (by kernel_rfl) ?_ _
  refine NoPanic.normal ?_
  go_wp2
  go_ret
  have q8 := hl7.trans (hb8.mono hl7.size)
  exact ⟨rfl, q8.trans (hb9.mono q8.size)⟩

set_option maxRecDepth 100000 in
set_option maxHeartbeats 4000000 in
theorem field_mid {w : World} (A A2 A3 : Option Addr) (c n2 c2 n3 c3 : Nat) (x y l : List UInt8) (hX : Bytes w A 16 x) (hY : Bytes w A2 n2 y) (hB : Bytes w A3 n3 l) (hc : 16 ≤ c) (hc2 : n2 ≤ c2) (hc3 : n3 ≤ c3) (hc9 : c3 ≤ 9223372036854775807) (hn2 : n2 ≠ 16) :
    Calls Try.prog 5 #[.slice A 16 c, .slice A2 n2 c2, .slice A3 n3 c3] w (LawOk w) := by
  obtain ⟨m2, hm2⟩ : ∃ m, min n2 20 = m := ⟨_, rfl⟩
  obtain ⟨m3, hm3⟩ : ∃ m, min n3 100 = m := ⟨_, rfl⟩
  have hn16 : ((16 : Int) != 16) = false := rfl
  have hm16 : m2 ≠ 16 := by omega
  have hne : ((m2 : Int) != 16) = true := by simp; omega
  have heq := fun L : List UInt8 => (show ((bstr L).toList == (bstr L).toList) = true by simp)
  have Hm := Lib.hid (And.intro hm3 (And.intro hc3 (And.intro hm2 hc2)))
  have Hc := Lib.hid (And.intro hc (And.intro (show m3 ≤ c3 by omega) (And.intro hc9 (show m3 ≤ 1000000000 by omega))))
  have HB := Lib.hid (And.intro hX (And.intro hY hB))
  clear hX hY hB hm3 hc hc2 hc3 hc9 hm2 hn2
  have t1 : True := trivial
  have t2 : True := trivial
  have t3 : True := trivial
  go_enter Try.func5, Try.ntmps5
  go_upto_region 7 with (first
    | (go_at_call 14; refine (begun5 _).mono ?_; rintro e w0 ⟨rfl, hb0⟩
       have hs1 := short_to (HB.out.1.below hb0) Hc.out.1 (show min 16 20 = 16 from rfl) (kI := 20) rfl
       have hs2 := short_to (HB.out.2.1.below hb0) Hm.out.2.2.2 Hm.out.2.2.1 (kI := 20) rfl
       have hs3 := short_to (HB.out.2.2.below hb0) Hm.out.2.1 Hm.out.1 (kI := 100) rfl)
    | (clear t1; go_at_call 15; refine hs1.mono ?_; rintro e w1 ⟨rfl, rfl⟩)
    | (clear t2; go_at_call 15; refine hs2.mono ?_; rintro e w2 ⟨rfl, rfl⟩)
    | (clear t3; go_at_call 15; refine hs3.mono ?_; rintro e w3 ⟨rfl, rfl⟩)
    | (go_at_call 23; refine (times_no A A2 16 c m2 c2 _ (Or.inr hm16)).mono ?_; rintro e w5 ⟨rfl, rfl⟩
       have h3 : Bytes w0 A3 m3 (l.take 100) := by have := (HB.out.2.2.below hb0).take_ 100; rwa [Hm.out.1] at this
       have hgh := ghash_any A A3 c m3 c3 _ _ (At.of_bytes (HB.out.1.below hb0) (Nat.le_refl _)) Hc.out.1 h3 Hc.out.2.1 Hc.out.2.2.1)
    | (go_at_call 24; refine hgh.mono ?_; rintro e w6 ⟨v6, rfl, ho6, hb6⟩
       obtain ⟨gh, ch, rfl, -, -, -⟩ := own_some ho6 (by omega)))
  have HG := Lib.hid (Bytes.of_own ho6)
  have hcv6 := conv_str (w := w6.drew) (c := ch) HG.out (fun e => by omega)
  have hA6 : At w6 A 16 (fun j => x.getD j 0) := At.of_bytes ((HB.out.1.below hb0).below hb6) (Nat.le_refl _)
  have h36 : Bytes w6 A3 m3 (l.take 100) := h3.below hb6
  have hrg := rghash_any (w := w6.drew) A A3 c m3 c3 _ _ hA6 h36 Hc.out.2.2.2
  have hl6 : Below w.heap.size w w6 := hb0.trans (hb6.mono hb0.size)
  refine wp_region_noPanic ?_
  refine wp_region_T (fun w' => (convert 22 9 (.slice (some ⟨gh, 0, none⟩) 16 ch)).run Try.prog w' = .ok (.string (bstr (tab 16 (ghF (fun j => x.getD j 0) (l.take 100))))) w') [] (by kernel_rfl) ?_ (fun hHeld => ?_)
  · exact hcv6
  refine wpAnyT_take (i := 0) (v := ?_) (by simp only [List.getElem?_toArray, List.getElem?_cons_zero, List.getElem?_cons_succ]; rfl) (by kernel_rfl) (by kernel_rfl) (by kernel_rfl) (by kernel_rfl) (by kernel_rfl) (fun _ _ _ h => h) (Or.inl ⟨by rfl, ?_⟩) (by assumption) ?_
  rotate_left
  · intro w hSw; (try dsimp only at hSw); go_simp; try (with_reducible rfl)
  try simp only [Act.put, List.setIfInBounds_toArray, List.set_cons_zero, List.set_cons_succ]
  refine wpAnyT_take (i := 1) (v := ?_) (by simp only [List.getElem?_toArray, List.getElem?_cons_zero, List.getElem?_cons_succ]; rfl) (by kernel_rfl) (by kernel_rfl) (by kernel_rfl) (by kernel_rfl) (by kernel_rfl) (fun _ _ _ h => h) (Or.inl ⟨by rfl, ?_⟩) (by assumption) ?_
  rotate_left
  · intro w hSw; (try dsimp only at hSw); go_simp; try (with_reducible rfl)
  try simp only [Act.put, List.setIfInBounds_toArray, List.set_cons_zero, List.set_cons_succ]
  refine wpAnyT_take (i := 2) (v := ?_) (by simp only [List.getElem?_toArray, List.getElem?_cons_zero, List.getElem?_cons_succ]; rfl) (by kernel_rfl) (by kernel_rfl) (by kernel_rfl) (by kernel_rfl) (by kernel_rfl) (fun _ _ _ h => h) (Or.inl ⟨by rfl, ?_⟩) (by assumption) ?_
  rotate_left
  · intro w hSw; (try dsimp only at hSw); go_simp; try (with_reducible rfl)
  try simp only [Act.put, List.setIfInBounds_toArray, List.set_cons_zero, List.set_cons_succ]
  refine wpAnyT_take (i := 3) (v := ?_) (by simp only [List.getElem?_toArray, List.getElem?_cons_zero, List.getElem?_cons_succ]; rfl) (by kernel_rfl) (by kernel_rfl) (by kernel_rfl) (by kernel_rfl) (by kernel_rfl) (fun _ _ _ h => h) (Or.inl ⟨by rfl, ?_⟩) (by assumption) ?_
  rotate_left
  · intro w hSw; (try dsimp only at hSw); go_simp; try (with_reducible rfl)
  try simp only [Act.put, List.setIfInBounds_toArray, List.set_cons_zero, List.set_cons_succ]
  refine wpAnyT_ready (rs := [4]) (by kernel_rfl) (by simp) (AllReadyT.cons (by simp only [List.getElem?_toArray, List.getElem?_cons_zero, List.getElem?_cons_succ]; rfl) (fun K hK => ?_) AllReadyT.nil)
  go_simp
  go_at_call 25
  refine hrg.mono ?_
  rintro e w7 ⟨g7, rfl, hg7, hg7b, hb7⟩
  have hb7 : Below w6.heap.size w6 w7 := ⟨hb7.os, hb7.tape, hb7.output, hb7.size, hb7.block⟩
  have hcv7 := conv_str (c := ch) (HG.out.below hb7) (fun e => by omega)
  have hcw7 := conv_str (c := 16) (brow_bytes hg7b) (fun e => by rw [tab_length] at e; omega)
  rw [tab_length] at hcw7
  refine hK.out _ _ ?_ (fun hHeld => ?_)
  · exact hcv7
  clear hK K
  try simp only [Act.put, List.setIfInBounds_toArray, List.set_cons_zero, List.set_cons_succ]
  refine wpAnyT_ready (rs := [5]) (by kernel_rfl) (by simp) (AllReadyT.cons (by simp only [List.getElem?_toArray, List.getElem?_cons_zero, List.getElem?_cons_succ]; rfl) (fun K hK => ?_) AllReadyT.nil)
  go_simp
  refine hK.out _ _ ?_ (fun hHeld => ?_)
  · exact hHeld
  clear hK K
  try simp only [Act.put, List.setIfInBounds_toArray, List.set_cons_zero, List.set_cons_succ]
  refine wpAnyT_take (i := 6) (v := ?_) (by simp only [List.getElem?_toArray, List.getElem?_cons_zero, List.getElem?_cons_succ]; rfl) (by kernel_rfl) (by kernel_rfl) (by kernel_rfl) (by kernel_rfl) (by kernel_rfl) (fun _ _ _ h => h) (Or.inl ⟨by rfl, ?_⟩) (by assumption) ?_
  rotate_left
  · intro w hSw; (try dsimp only at hSw); go_simp; try (with_reducible rfl)
  try simp only [Act.put, List.setIfInBounds_toArray, List.set_cons_zero, List.set_cons_succ]
  refine wpAnyT_done (by kernel_rfl) ?_ _
  refine NoPanic.normal ?_
  have hl7 : Below w.heap.size w w7 := hl6.trans (hb7.mono hl6.size)
  go_wp2
  go_ret
  exact ⟨rfl, hl7⟩

theorem field {w : World} (A A2 A3 : Option Addr) (n c n2 c2 n3 c3 : Nat) (x y l : List UInt8) (hX : Bytes w A n x) (hY : Bytes w A2 n2 y) (hB : Bytes w A3 n3 l) (hc : n ≤ c) (hc2 : n2 ≤ c2) (hc3 : n3 ≤ c3) (_ : c ≤ 9223372036854775807) (_ : c2 ≤ 9223372036854775807) (hc9 : c3 ≤ 9223372036854775807) :
    Calls Try.prog 5 #[.slice A n c, .slice A2 n2 c2, .slice A3 n3 c3] w (LawOk w) := by
  by_cases h : n = 16
  · subst h
    by_cases h2 : n2 = 16
    · subst h2
      exact field_yes A A2 A3 c c2 n3 c3 x y l hX hY hB hc hc2 hc3 hc9
    · exact field_mid A A2 A3 c n2 c2 n3 c3 x y l hX hY hB hc hc2 hc3 hc9 h2
  · exact field_no A A2 A3 n c n2 c2 n3 c3 x y l hX hY hB hc hc2 hc3 h
end Go.Proofs.Ytmilanicedjhmaa
