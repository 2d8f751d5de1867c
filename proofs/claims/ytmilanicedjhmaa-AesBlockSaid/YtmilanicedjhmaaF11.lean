/- Contracts: a block back through the cipher. No condition beyond each theorem's own. -/
import Derived.Test.YtmilanicedjhmaaF10
namespace Go.Proofs.Ytmilanicedjhmaa
open Go.RowKit
set_option linter.unusedSimpArgs false

/-- What has been scattered. -/
def scat (s : Nat → UInt8) (j x : Nat) : UInt8 := if backAt x < j then T8 (s (backAt x)) else 0
theorem back_at : ∀ j, j < 16 → ∀ x, x < 16 → (x = (j + j % 4 * 4) % 16 ↔ backAt x = j) := by decide
theorem scat_zero (s : Nat → UInt8) : scat s 0 = fun _ => 0 := by funext x; simp [scat]
theorem scat_step (s : Nat → UInt8) {j : Nat} (hj : j < 16) : tab 16 (upd (scat s j) ((j + j % 4 * 4) % 16) (T8 (s j))) = tab 16 (scat s (j + 1)) := tab_congr fun x hx => by
  unfold upd scat
  have h := back_at j hj x hx
  by_cases e : x = (j + j % 4 * 4) % 16
  · rw [if_pos e, h.1 e, if_pos (by omega)]
  · rw [if_neg e]
    have h2 : backAt x ≠ j := fun e2 => e (h.2 e2)
    by_cases h3 : backAt x < j
    · rw [if_pos h3, if_pos (by omega)]
    · rw [if_neg h3, if_neg (by omega)]
theorem scat_all (s : Nat → UInt8) : tab 16 (scat s 16) = tab 16 (subB s) := tab_congr fun x _ => by
  have h : backAt x < 16 := by unfold backAt; omega
  simp [scat, subB, h]

set_option maxRecDepth 100000 in
theorem dec_nil (A : Option Addr) (n c : Nat) (w : World) : Calls Try.prog 19 #[.pointer none, .slice A n c] w fun e w' => e = .returned (.slice none 0 0) ∧ w = w' := by
  go_enter Try.func19, Try.ntmps19
  go_wp2
  go_ret
  exact ⟨rfl, rfl⟩
set_option maxRecDepth 100000 in
theorem dec_no (p : Addr) (A : Option Addr) (n c : Nat) (w : World) (hn : n ≠ 16) : Calls Try.prog 19 #[.pointer (some p), .slice A n c] w fun e w' => e = .returned (.slice none 0 0) ∧ w = w' := by
  have k1 : ((n : Int) != 16) = true := by simp; omega
  go_enter Try.func19, Try.ntmps19
  go_wp2
  go_ret
  exact ⟨rfl, rfl⟩

set_option maxRecDepth 100000 in
set_option maxHeartbeats 4000000 in
theorem dec_some {w : World} {g gk nw : Nat} {key : List UInt8} (hP : PC w g gk nw key) (hnw : nw ≤ 8) (A : Option Addr) (c : Nat) (b : Nat → UInt8) (hA : At w A 16 b) : Calls Try.prog 19 #[.pointer (some ⟨g, 0, none⟩), .slice A 16 c] w (New16 w (decF nw key b)) := by
  obtain ⟨bb, bo, rfl, q⟩ := hA (by omega)
  have hr : w.rangeAt bb bo ((tab 16 b).map B8) := fun j v hv => by
    have hj : j < 16 := by have := (List.getElem?_eq_some_iff.1 hv).1; simpa using this
    rw [List.getElem?_map, tab_get b hj] at hv
    cases hv
    exact q j hj
  have Hr := Lib.hid hr
  clear q hA hr
  have harr := arr65w
  go_enter Try.func19, Try.ntmps19
  go_upto_region 3 with fail
  refine wp_region_lit ?_
  iterate 6 go_step
  refine wpList_load_mid rfl 65 (.tmp 17) rfl bb bo rfl ((tab 16 b).map B8) _ Hr.out Try.underlying65 rfl (by rw [List.length_map, tab_length]; exact size65) ?_
  iterate 3 go_step
  have hz0 : Blk (w.alloc (.cells #[Value.int IntKind.u8 0, Value.int IntKind.u8 0, Value.int IntKind.u8 0, Value.int IntKind.u8 0, Value.int IntKind.u8 0, Value.int IntKind.u8 0, Value.int IntKind.u8 0, Value.int IntKind.u8 0, Value.int IntKind.u8 0, Value.int IntKind.u8 0, Value.int IntKind.u8 0, Value.int IntKind.u8 0, Value.int IntKind.u8 0, Value.int IntKind.u8 0, Value.int IntKind.u8 0, Value.int IntKind.u8 0] 65)) w.heap.size 65 (brow (tab 16 fun _ => 0)) := Blk.new w 65 _
  refine wpList_store_w rfl 65 (.tmp 5) (.tmp 18) rfl w.heap.size 0 ((tab 16 b).map B8).toArray rfl rfl (by have := there_blk hz0; simpa using this) (by rw [List.size_toArray, List.length_map, tab_length]; exact size65) (all_oneCell_toArray (oneCell_map (tab 16 b))) ?_
  intro W2 hW2
  obtain ⟨B, hB⟩ : ∃ B, B = w.heap.size := ⟨_, rfl⟩
  rw [← hB]
  have hS2 : Blk W2 B 65 (brow (tab 16 b)) := by rw [hW2, hB]; exact blk_setAll hz0 (by simp)
  have hF2 : Fr (OnB w.heap.size) _ W2 := hW2 ▸ fr_setCells _ _ _
  have hlow2 : Below w.heap.size w W2 := below_new ((Below.refl _ w).alloc (Nat.le_refl _) _) hF2 (by omega) (by simp)
  have hP2 : PC W2 g gk nw key := hP.below hlow2
  have hgl : g < w.heap.size ∧ gk < w.heap.size := by
    obtain ⟨kc, h0, h1, h2⟩ := hP
    exact ⟨h1.lt, World.block_lt_of_cell? w _ (h2 0 0 (by omega) (by omega))⟩
  have hgB : g ≠ B ∧ gk ≠ B := ⟨by omega, by omega⟩
  obtain ⟨kc, hkc, hc2, hck2⟩ := hP2
  have c2 := hc2.cell 0
  rw [ccells_zero] at c2
  have HP := Lib.hid (⟨kc, hkc, hc2, hck2⟩ : PC W2 g gk nw key)
  have HS := Lib.hid (And.intro hS2 hlow2)
  have HB := Lib.hid hB
  have hw6 : IntKind.i64.wrap ((nw : Int) + 7 - 1) = nw + 6 := by rw [show (nw : Int) + 7 - 1 = nw + 6 by omega]; exact wrap_i64 (by omega) (by omega)
  clear hW2 hF2 hS2 hlow2 hz0 Hr hP hc2 hck2 hB
  go_wp2
  clear c2 hkc
  go_loopw [6] (fun vi wr => ∃ i k : Nat, i + k = nw + 6 ∧ vi = .int .i64 i ∧ Blk wr B 65 (brow (tab 16 (decTo nw key b k))) ∧ PC wr g gk nw key ∧ Below w.heap.size w wr) (fun vi _ => (intOf vi).toNat)
  case atStart => exact ⟨nw + 6, 0, by omega, by go_num, HS.out.1, HP.out, HS.out.2⟩
  case round =>
    obtain ⟨i, k, hik, rfl, hs, hp, hlow⟩ := hrel
    obtain ⟨kc, hkc, hc, hck⟩ := hp
    have c2 := hc.cell 0
    rw [ccells_zero] at c2
    have hi1 : (i : Int) < nw + 7 := by omega
    have hi0 : (0 : Int) ≤ i := by omega
    have hAk : At wr (some ⟨gk, i * 16, none⟩) 16 (rkey nw key i) := fun _ => ⟨gk, i * 16, rfl, fun j hj => hck i j (by omega) hj⟩
    have hadd := add_any hs (some ⟨gk, i * 16, none⟩) 16 16 (by omega) hAk (fun a ha => by cases ha; exact hgB.2)
    have HS1 := Lib.hid (And.intro hs (⟨kc, hkc, hc, hck⟩ : PC wr g gk nw key))
    have HL := Lib.hid hlow
    have Hik := Lib.hid hik
    clear hs hlow hik hc hck hAk
    by_cases h0 : i = 0
    · subst h0
      have b0 : ((0 : Int) == 0) = true := rfl
      go_wp2_with (go_at_call 50; refine hadd.mono ?_; rintro e w9 ⟨rfl, hs9, hf9⟩)
      go_ret
      have hk : k = nw + 6 := by have := Hik.out; omega
      exact ⟨B, rfl, by have := HB.out; omega, by rw [hk] at hs9; exact hs9, below_new HL.out hf9 (by have := HB.out; omega) HL.out.size⟩
    · have b0 : ((i : Int) == 0) = false := by rw [beq_eq_false_iff_ne]; omega
      have h0' : 0 < i := by omega
      clear h0
      go_upto_if 46 with (go_at_call 50; refine hadd.mono ?_; rintro e w9 ⟨rfl, hs9, hf9⟩
                          obtain ⟨kc, hkc, hc, hck⟩ := PC.fr HS1.out.2 hf9 (fun _ x => hgB.1 x) (fun _ x => hgB.2 x)
                          have c9 := hc.cell 0
                          rw [ccells_zero] at c9
                          have HP9 := Lib.hid (⟨kc, hkc, hc, hck⟩ : PC w9 g gk nw key)
                          clear hc hck)
      have hlow9 := below_new HL.out hf9 (by have := HB.out; omega) HL.out.size
      obtain ⟨y, hy⟩ : ∃ y, y = fun j => decTo nw key b k j ^^^ rkey nw key i j := ⟨_, rfl⟩
      rw [← hy] at hs9
      have Hy := Lib.hid hy
      clear hy hf9 hadd c2 hkc c9
      go_cut [47, 48] from 46 to 48 (fun _ _ wx => Blk wx B 65 (brow (tab 16 (if k = 0 then y else mixF y mBwd))) ∧ PC wx g gk nw key ∧ Below w.heap.size w wx)
      case first =>
        have hmix : Calls Try.prog 49 #[.pointer (some ⟨B, 0, none⟩), .agg #[.int .u8 14, .int .u8 11, .int .u8 13, .int .u8 9]] w9 _ := mix_any (m := mBwd) hs9
        have Hs9 := Lib.hid hs9
        have Hl9 := Lib.hid hlow9
        clear hs9 hlow9
        by_cases hk : k = 0
        · have hl : ¬ (i : Int) < nw + 6 := by have := Hik.out; omega
          have Hk := Lib.hid hk
          clear hk
          go_wp2
          go_meet
          exact ⟨by rw [if_pos Hk.out]; exact Hs9.out, HP9.out, Hl9.out⟩
        · have hl : (i : Int) < nw + 6 := by have := Hik.out; omega
          have Hk := Lib.hid hk
          clear hk
          go_wp2_with (go_at_call 49; refine hmix.mono ?_; rintro e w5 ⟨rfl, hs5, hf5⟩)
          go_meet
          exact ⟨by rw [if_neg Hk.out]; exact hs5, PC.fr HP9.out hf5 (fun _ x => hgB.1 x) (fun _ x => hgB.2 x), below_new Hl9.out hf5 (by have := HB.out; omega) Hl9.out.size⟩
      case rest =>
        obtain ⟨hs, hp, hlow⟩ := hcut
        have hstep : decTo nw key b (k + 1) = subB (if k = 0 then y else mixF y mBwd) := by
          have h1 : nw + 6 - k = i := by have := Hik.out; omega
          rw [decTo, Hy.out, h1]
          congr 1
          funext j
          by_cases hk : k = 0 <;> simp [hk]
        have Hstep := Lib.hid hstep
        generalize (if k = 0 then y else mixF y mBwd) = s at hs Hstep
        obtain ⟨kc, hkc, hc0, hck⟩ := hp
        have hinv : ∀ x : UInt8, wc.cell? ⟨g, 257 + x.toNat, none⟩ = some (.int .u8 ((T8 x).toNat : Int)) := fun x => by
          have h := hc0.cell (257 + x.toNat)
          rw [ccells_inv _ _ _ (by simp) (by simp) x.toNat_lt, tab_getD _ x.toNat_lt] at h
          exact h
        have hgW : g < wc.heap.size := hc0.lt
        have HQ := Lib.hid (And.intro hs (And.intro hinv (And.intro (⟨kc, hkc, hc0, hck⟩ : PC wc g gk nw key) hlow)))
        clear hstep hs hinv hc0 hck hlow hkc
        go_wp2
        obtain ⟨T, hT⟩ : ∃ T, T = wc.heap.size := ⟨_, rfl⟩
        rw [← hT]
        have hz0 : Blk (wc.alloc (.cells #[Value.int IntKind.u8 0, Value.int IntKind.u8 0, Value.int IntKind.u8 0, Value.int IntKind.u8 0, Value.int IntKind.u8 0, Value.int IntKind.u8 0, Value.int IntKind.u8 0, Value.int IntKind.u8 0, Value.int IntKind.u8 0, Value.int IntKind.u8 0, Value.int IntKind.u8 0, Value.int IntKind.u8 0, Value.int IntKind.u8 0, Value.int IntKind.u8 0, Value.int IntKind.u8 0, Value.int IntKind.u8 0] 65)) T 65 (brow (tab 16 (scat s 0))) := by
          rw [hT, scat_zero]
          exact Blk.new wc 65 _
        have hlT0 : Below T wc (wc.alloc (.cells #[Value.int IntKind.u8 0, Value.int IntKind.u8 0, Value.int IntKind.u8 0, Value.int IntKind.u8 0, Value.int IntKind.u8 0, Value.int IntKind.u8 0, Value.int IntKind.u8 0, Value.int IntKind.u8 0, Value.int IntKind.u8 0, Value.int IntKind.u8 0, Value.int IntKind.u8 0, Value.int IntKind.u8 0, Value.int IntKind.u8 0, Value.int IntKind.u8 0, Value.int IntKind.u8 0, Value.int IntKind.u8 0] 65)) := (Below.refl _ wc).alloc (by omega) _
        have HT := Lib.hid hT
        have hTB : B < T ∧ g < T := ⟨by have := HQ.out.1.lt; omega, by omega⟩
        clear hT
        go_loopw [8, 49] (fun _ vi wr => ∃ j : Nat, j ≤ 16 ∧ vi = .int .i64 j ∧ Blk wr T 65 (brow (tab 16 (scat s j))) ∧ Below T wc wr) (fun _ vi _ => 16 - (intOf vi).toNat)
        case atStart => exact ⟨0, by omega, rfl, hz0, hlT0⟩
        case round =>
          obtain ⟨j, hj16, rfl, ht, hlT⟩ := hrel
          by_cases hlj : j < 16
          · clear hz0 hlT0
            have hji : (j : Int) < 16 := by omega
            have hj0 : (0 : Int) ≤ j := by omega
            have hsq := HQ.out.1.cell j
            rw [brow_tab 16 s hlj] at hsq
            have C1 := (hlT.cell (p := ⟨B, j, none⟩) hTB.1).trans hsq
            have hst := scat_step s hlj
            have hq16 : (j + j % 4 * 4) % 16 < 16 := by omega
            have ct := ht.cell ((j + j % 4 * 4) % 16)
            rw [brow_tab 16 _ hq16] at ct
            have cf := ht.frozen ((j + j % 4 * 4) % 16)
            have n0 := ht.set_ ((j + j % 4 * 4) % 16) (B8 (T8 (s j)))
            rw [brow_tab_set _ _ hq16, hst] at n0
            have n1 := hlT.setCell (p := ⟨T, (j + j % 4 * 4) % 16, none⟩) (Nat.le_refl _) (B8 (T8 (s j)))
            generalize hu : scat s j ((j + j % 4 * 4) % 16) = uu at ct
            have hm1 : ((j : Int) + (j : Int) % 4 * 4) % 16 = (((j + j % 4 * 4) % 16 : Nat) : Int) := by omega
            generalize (j + j % 4 * 4) % 16 = qx at hm1 hq16 ct cf n0 n1
            generalize s j = sx at C1 n0 n1
            have C2 := (hlT.cell (p := ⟨g, 257 + sx.toNat, none⟩) hTB.2).trans (HQ.out.2.1 sx)
            have hq0 : (0 : Int) ≤ qx := by omega
            have hq1 : (qx : Int) < 16 := by omega
            have hw1 : IntKind.i64.wrap ((j : Int) % 4 * 4) = (j : Int) % 4 * 4 := wrap_i64 (by omega) (by omega)
            have hw2 : IntKind.i64.wrap ((j : Int) + (j : Int) % 4 * 4) = (j : Int) + (j : Int) % 4 * 4 := wrap_i64 (by omega) (by omega)
            have hm2 : ((j : Int) + (j : Int) % 4 * 4).tmod 16 = qx := by rw [Int.tmod_eq_emod_of_nonneg (by omega)]; exact hm1
            have hm3 : (j : Int).tmod 4 = (j : Int) % 4 := Int.tmod_eq_emod_of_nonneg (by omega)
            have hsx : (sx.toNat : Int) < 256 := by have := sx.toNat_lt; omega
            have HN := Lib.hid (And.intro n0 n1)
            have hTl := ht.lt
            clear n0 n1 ht hlT hsq hst hu
            go_upto_region 15 with fail
            refine wp_region_noPanic ?_
            refine wp_region_T (fun w' => w'.cell? ⟨B, j, none⟩ = some (B8 sx) ∧ w'.cell? ⟨g, 257 + sx.toNat, none⟩ = some (.int .u8 ((T8 sx).toNat : Int))) [15] (by kernel_rfl) ?_ (fun hHeld => ?_)
            · exact ⟨C1, C2⟩
            refine wpAnyT_take (i := 0) (v := ?_) (by simp only [List.getElem?_toArray, List.getElem?_cons_zero, List.getElem?_cons_succ]; rfl) (by kernel_rfl) (by kernel_rfl) (by kernel_rfl) (by kernel_rfl) (by kernel_rfl) (fun _ _ _ h => h) (Or.inl ⟨by rfl, ?_⟩) (by assumption) ?_
            rotate_left
            · intro w hSw; (try dsimp only at hSw); go_simp; try (with_reducible rfl)
            try simp only [Act.put, List.setIfInBounds_toArray, List.set_cons_zero, List.set_cons_succ]
            refine wpAnyT_take (i := 1) (v := ?_) (by simp only [List.getElem?_toArray, List.getElem?_cons_zero, List.getElem?_cons_succ]; rfl) (by kernel_rfl) (by kernel_rfl) (by kernel_rfl) (by kernel_rfl) (by kernel_rfl) (fun _ _ _ h => h) (Or.inl ⟨by rfl, ?_⟩) (by assumption) ?_
            rotate_left
            · intro w hSw; (try dsimp only at hSw); go_simp; try (with_reducible rfl)
            try simp only [Act.put, List.setIfInBounds_toArray, List.set_cons_zero, List.set_cons_succ]
            refine wpAnyT_take (i := 2) (v := ?_) (by simp only [List.getElem?_toArray, List.getElem?_cons_zero, List.getElem?_cons_succ]; rfl) (by kernel_rfl) (by kernel_rfl) (by kernel_rfl) (by kernel_rfl) (by kernel_rfl) (fun _ _ _ h => h) (Or.inl ⟨by rfl, ?_⟩) (by assumption) ?_
            rotate_left
            · intro w hSw; (try dsimp only at hSw); go_simp; try (with_reducible rfl)
            try simp only [Act.put, List.setIfInBounds_toArray, List.set_cons_zero, List.set_cons_succ]
            refine wpAnyT_take (i := 3) (v := ?_) (by simp only [List.getElem?_toArray, List.getElem?_cons_zero, List.getElem?_cons_succ]; rfl) (by kernel_rfl) (by kernel_rfl) (by kernel_rfl) (by kernel_rfl) (by kernel_rfl) (fun _ _ _ h => h) (Or.inl ⟨by rfl, ?_⟩) (by assumption) ?_
            rotate_left
            · intro w hSw; (try dsimp only at hSw); go_simp; try (with_reducible rfl)
            try simp only [Act.put, List.setIfInBounds_toArray, List.set_cons_zero, List.set_cons_succ]
            refine wpAnyT_take (i := 4) (v := ?_) (by simp only [List.getElem?_toArray, List.getElem?_cons_zero, List.getElem?_cons_succ]; rfl) (by kernel_rfl) (by kernel_rfl) (by kernel_rfl) (by kernel_rfl) (by kernel_rfl) (fun _ _ _ h => h) (Or.inl ⟨by rfl, ?_⟩) (by assumption) ?_
            rotate_left
            · intro w hSw; (try dsimp only at hSw); go_simp; try (with_reducible rfl)
            try simp only [Act.put, List.setIfInBounds_toArray, List.set_cons_zero, List.set_cons_succ]
            refine wpAnyT_take (i := 5) (v := ?_) (by simp only [List.getElem?_toArray, List.getElem?_cons_zero, List.getElem?_cons_succ]; rfl) (by kernel_rfl) (by kernel_rfl) (by kernel_rfl) (by kernel_rfl) (by kernel_rfl) (fun _ _ _ h => h) (Or.inl ⟨by rfl, ?_⟩) (by assumption) ?_
            rotate_left
            · intro w hSw; (try dsimp only at hSw); go_simp; try (with_reducible rfl)
            try simp only [Act.put, List.setIfInBounds_toArray, List.set_cons_zero, List.set_cons_succ]
            refine wpAnyT_take (i := 6) (v := ?_) (by simp only [List.getElem?_toArray, List.getElem?_cons_zero, List.getElem?_cons_succ]; rfl) (by kernel_rfl) (by kernel_rfl) (by kernel_rfl) (by kernel_rfl) (by kernel_rfl) (fun _ _ _ h => h) (Or.inl ⟨by rfl, ?_⟩) (by assumption) ?_
            rotate_left
            · intro w hSw; (try dsimp only at hSw); go_simp; try (with_reducible rfl)
            try simp only [Act.put, List.setIfInBounds_toArray, List.set_cons_zero, List.set_cons_succ]
            refine wpAnyT_take (i := 7) (v := ?_) (by simp only [List.getElem?_toArray, List.getElem?_cons_zero, List.getElem?_cons_succ]; rfl) (by kernel_rfl) (by kernel_rfl) (by kernel_rfl) (by kernel_rfl) (by kernel_rfl) (fun _ _ _ h => h) (Or.inl ⟨by rfl, ?_⟩) (by assumption) ?_
            rotate_left
            · intro w hSw; (try dsimp only at hSw); go_simp; try (with_reducible rfl)
            try simp only [Act.put, List.setIfInBounds_toArray, List.set_cons_zero, List.set_cons_succ]
            refine wpAnyT_take (i := 8) (v := ?_) (by simp only [List.getElem?_toArray, List.getElem?_cons_zero, List.getElem?_cons_succ]; rfl) (by kernel_rfl) (by kernel_rfl) (by kernel_rfl) (by kernel_rfl) (by kernel_rfl) (fun _ _ _ h => h) (Or.inl ⟨by rfl, ?_⟩) (by assumption) ?_
            rotate_left
            · intro w hSw; (try dsimp only at hSw); go_simp; try (with_reducible rfl)
            try simp only [Act.put, List.setIfInBounds_toArray, List.set_cons_zero, List.set_cons_succ]
            refine wpAnyT_take (i := 9) (v := ?_) (by simp only [List.getElem?_toArray, List.getElem?_cons_zero, List.getElem?_cons_succ]; rfl) (by kernel_rfl) (by kernel_rfl) (by kernel_rfl) (by kernel_rfl) (by kernel_rfl) (fun _ _ _ h => h) (Or.inl ⟨by rfl, ?_⟩) (by assumption) ?_
            rotate_left
            · intro w hSw; (try dsimp only at hSw); go_simp; try (with_reducible rfl)
            try simp only [Act.put, List.setIfInBounds_toArray, List.set_cons_zero, List.set_cons_succ]
            refine wpAnyT_take (i := 10) (v := ?_) (by simp only [List.getElem?_toArray, List.getElem?_cons_zero, List.getElem?_cons_succ]; rfl) (by kernel_rfl) (by kernel_rfl) (by kernel_rfl) (by kernel_rfl) (by kernel_rfl) (fun _ _ _ h => h) (Or.inl ⟨by rfl, ?_⟩) (by assumption) ?_
            rotate_left
            · intro w hSw; (try dsimp only at hSw); go_simp; try (with_reducible rfl)
            try simp only [Act.put, List.setIfInBounds_toArray, List.set_cons_zero, List.set_cons_succ]
            refine wpAnyT_take (i := 11) (v := ?_) (by simp only [List.getElem?_toArray, List.getElem?_cons_zero, List.getElem?_cons_succ]; rfl) (by kernel_rfl) (by kernel_rfl) (by kernel_rfl) (by kernel_rfl) (by kernel_rfl) (fun _ _ _ h => h) (Or.inl ⟨by rfl, ?_⟩) (by assumption) ?_
            rotate_left
            · intro w hSw; (try dsimp only at hSw); go_simp; try (with_reducible rfl)
            try simp only [Act.put, List.setIfInBounds_toArray, List.set_cons_zero, List.set_cons_succ]
            refine wpAnyT_take (i := 12) (v := ?_) (by simp only [List.getElem?_toArray, List.getElem?_cons_zero, List.getElem?_cons_succ]; rfl) (by kernel_rfl) (by kernel_rfl) (by kernel_rfl) (by kernel_rfl) (by kernel_rfl) (fun _ _ _ h => h) (Or.inl ⟨by rfl, ?_⟩) (by assumption) ?_
            rotate_left
            · intro w hSw; (try dsimp only at hSw); go_simp; try (with_reducible rfl)
            try simp only [Act.put, List.setIfInBounds_toArray, List.set_cons_zero, List.set_cons_succ]
            refine wpAnyT_take (i := 13) (v := ?_) (by simp only [List.getElem?_toArray, List.getElem?_cons_zero, List.getElem?_cons_succ]; rfl) (by kernel_rfl) (by kernel_rfl) (by kernel_rfl) (by kernel_rfl) (by kernel_rfl) (fun _ _ _ h => h) (Or.inl ⟨by rfl, ?_⟩) (by assumption) ?_
            rotate_left
            · intro w hSw; (try dsimp only at hSw); go_simp; try (with_reducible rfl)
            try simp only [Act.put, List.setIfInBounds_toArray, List.set_cons_zero, List.set_cons_succ]
            refine wpAnyT_take (i := 14) (v := ?_) (by simp only [List.getElem?_toArray, List.getElem?_cons_zero, List.getElem?_cons_succ]; rfl) (by kernel_rfl) (by kernel_rfl) (by kernel_rfl) (by kernel_rfl) (by kernel_rfl) (fun _ _ _ h => h) (Or.inl ⟨by rfl, ?_⟩) (by assumption) ?_
            rotate_left
            · intro w hSw; (try dsimp only at hSw); go_simp; try (with_reducible rfl)
            try simp only [Act.put, List.setIfInBounds_toArray, List.set_cons_zero, List.set_cons_succ]
            refine wpAnyT_ready (rs := [15]) (by kernel_rfl) (by simp) (AllReadyT.store (by simp only [List.getElem?_toArray, List.getElem?_cons_zero, List.getElem?_cons_succ]; rfl) (by simp) (fun K hK => ?_) AllReadyT.nil)
            go_simp
            refine hK.out _ _ ?_
            clear hK K
            try simp only [Act.put, List.setIfInBounds_toArray, List.set_cons_zero, List.set_cons_succ]
            refine wpAnyT_done (by kernel_rfl) ?_ _
            refine NoPanic.normal ?_
            go_wp2
            exact ⟨⟨j + 1, by omega, by go_num, HN.out.1.drew, HN.out.2.drew⟩, by simp [intOf]; omega⟩
          · obtain rfl : j = 16 := by omega
            rw [scat_all] at ht
            clear hz0 hlT0
            have hs1 : Blk wr B 65 (brow (tab 16 s)) := HQ.out.1.below hlT hTB.1
            have Ht := Lib.hid (And.intro ht (And.intro hs1 hlT))
            clear ht hs1 hlT hlj hj16
            go_upto_region 17 with fail
            refine wp_region_lit ?_
            refine wpList_load_mid rfl 65 (.tmp 7) rfl T 0 rfl ((tab 16 (subB s)).map B8) _ (range_blk Ht.out.1) Try.underlying65 rfl (by rw [List.length_map, tab_length]; exact size65) ?_
            refine wpList_store_w rfl 65 (.tmp 5) (.tmp 68) rfl B 0 ((tab 16 (subB s)).map B8).toArray rfl rfl (by have := there_blk Ht.out.2.1; simpa using this) (by rw [List.size_toArray, List.length_map, tab_length]; exact size65) (all_oneCell_toArray (oneCell_map (tab 16 (subB s)))) ?_
            intro W4 hW4
            have hs4 : Blk W4 B 65 (brow (tab 16 (subB s))) := by rw [hW4]; exact blk_setAll Ht.out.2.1 (by simp)
            have hF4 : Fr (OnB B) wr W4 := hW4 ▸ fr_setCells _ _ _
            have hb1 : Below wc.heap.size wc wr := HT.out ▸ Ht.out.2.2
            have hp4 : PC W4 g gk nw key := PC.fr (PC.below HQ.out.2.2.1 hb1) hF4 (fun _ x => hgB.1 x) (fun _ x => hgB.2 x)
            have hlow1 : Below w.heap.size w wr := HQ.out.2.2.2.trans (hb1.mono HQ.out.2.2.2.size)
            have hlow4 : Below w.heap.size w W4 := below_new hlow1 hF4 (by have := HB.out; omega) hlow1.size
            have H4 := Lib.hid (And.intro hs4 (And.intro hp4 hlow4))
            clear hW4 hs4 hF4 hb1 hp4 hlow1 hlow4
            go_wp2
            have h1 := Hik.out
            exact ⟨⟨i - 1, k + 1, by omega, by rw [show (i : Int) - 1 = ((i - 1 : Nat) : Int) by omega], by rw [Hstep.out]; exact H4.out.1, H4.out.2.1, H4.out.2.2⟩, by simp [intOf]; omega⟩
end Go.Proofs.Ytmilanicedjhmaa
