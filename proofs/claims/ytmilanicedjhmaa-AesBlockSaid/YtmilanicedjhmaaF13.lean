/- Contracts: a block back through the reference's cipher. No condition beyond each theorem's own. -/
import Derived.Test.YtmilanicedjhmaaF12
namespace Go.Proofs.Ytmilanicedjhmaa
open Go.RowKit
set_option linter.unusedSimpArgs false

/-- Sixteen bytes that are read. -/
def X16 (w : World) (f : Nat → UInt8) (v : Value) (W : World) : Prop := ∃ A c, v = .slice A 16 c ∧ At W A 16 f ∧ Below w.heap.size w W
theorem scat_step' (s : Nat → UInt8) {j : Nat} (hj : j < 16) : tab 16 (upd (scat s j) ((j + 4 * (j % 4)) % 16) (T8 (s j))) = tab 16 (scat s (j + 1)) := by
  rw [← scat_step s hj, Nat.mul_comm 4]

set_option maxRecDepth 100000 in
set_option maxHeartbeats 4000000 in
theorem rdec_any {w : World} {g gk gw nw : Nat} {key : List UInt8} (hP : RC w g gk gw nw key) (hnw : nw ≤ 8) (A : Option Addr) (c : Nat) (b : Nat → UInt8) (hA : At w A 16 b) : Calls Try.prog 22 #[.pointer (some ⟨g, 0, none⟩), .slice A 16 c] w (NewTab w 16 (decF nw key b)) := by
  have hmk : ∀ w : World, (Instr.makeSlice 22 (.int .i64 16) (.int .i64 16)).run Try.prog w = .ok (.slice (some ⟨w.heap.size, 0, none⟩) 16 16) (w.alloc (.cells (brow (tab 16 fun _ => 0)) 5)) := fun w => madeRow w 16 (by omega)
  have HP := Lib.hid hP
  obtain ⟨kc, a, bb, hkc, hc, ha, hbb, hks, hkw⟩ := hP
  have c0 := hc.cell 0
  simp only [List.getElem?_toArray, List.getElem?_cons_zero] at c0
  have hw6 : IntKind.i64.wrap ((nw : Int) + 7 - 1) = nw + 6 := by rw [show (nw : Int) + 7 - 1 = nw + 6 by omega]; exact wrap_i64 (by omega) (by omega)
  have Hs := Lib.hid (⟨A, c, rfl, hA, Below.refl _ w⟩ : X16 w (decTo nw key b 0) (.slice A 16 c) w)
  clear hc ha hbb hks hkw hA hkc
  go_enter Try.func22, Try.ntmps22
  go_wp2
  clear c0
  go_loopw [6, 7] (fun vx vi wr => ∃ i k : Nat, i + k = nw + 6 ∧ vi = .int .i64 i ∧ X16 w (decTo nw key b k) vx wr) (fun _ vi _ => (intOf vi).toNat)
  case atStart => exact ⟨nw + 6, 0, by omega, by go_num, Hs.out⟩
  case round =>
    obtain ⟨i, k, hik, rfl, A, c, rfl, hx, hlow⟩ := hrel
    clear Hs
    have hi8 : (i : Int) < nw + 7 := by omega
    have hi0 : (0 : Int) ≤ i := by omega
    have Hik := Lib.hid hik
    by_cases h0 : i = 0
    · have hk : k = nw + 6 := by omega
      subst h0
      rw [hk] at hx
      have hn1 : ¬ (1 : Int) ≤ ((0 : Nat) : Int) := by omega
      obtain ⟨kc, a, bb, hkc, hc, -, -, hks, hkw⟩ := HP.out.below hlow
      have c0 := hc.cell 0
      simp only [List.getElem?_toArray, List.getElem?_cons_zero] at c0
      have k0 := hks 0 (by omega)
      rw [Nat.mul_zero] at k0
      have hx0 := rxor_any A c hx (some ⟨gw, 0, none⟩) 16 16 (fun _ => ⟨gw, 0, rfl, fun j hj => by have := hkw 0 j (by omega) hj; rwa [Nat.mul_zero] at this⟩ : At wr (some ⟨gw, 0, none⟩) 16 (rkey nw key 0)) (by omega) (by omega)
      have HL := Lib.hid hlow
      have hkb : (0 : Int) < nw + 7 := by omega
      clear hc hks hkw hlow hk hik hx hkc
      go_wp2_with (go_at_call 52; refine hx0.mono ?_; rintro e w1 ⟨xb, rfl, hxb, hx1, hlow1⟩)
      go_ret
      have hlz := HL.out.size
      exact ⟨xb, rfl, by omega, hx1, HL.out.trans (hlow1.mono hlz)⟩
    · have hi1 : (1 : Int) ≤ i := by omega
      obtain ⟨kc, a, bb, hkc, hc, -, -, hks, hkw⟩ := HP.out.below hlow
      have c0 := hc.cell 0
      simp only [List.getElem?_toArray, List.getElem?_cons_zero] at c0
      have k0 := hks i (by omega)
      have hx0 := rxor_any A c hx (some ⟨gw, 16 * i, none⟩) 16 16 (fun _ => ⟨gw, 16 * i, rfl, fun j hj => hkw i j (by omega) hj⟩ : At wr (some ⟨gw, 16 * i, none⟩) 16 (rkey nw key i)) (by omega) (by omega)
      have HL := Lib.hid hlow
      clear hc hks hkw hlow hik hx hkc h0
      go_upto_if 33 with (go_at_call 52; refine hx0.mono ?_; rintro e w1 ⟨yb, rfl, hyb, hy1, hlow1⟩)
      have hlz := HL.out.size
      have hlow2 : Below w.heap.size w w1 := HL.out.trans (hlow1.mono hlz)
      obtain ⟨y, hy⟩ : ∃ y, y = fun j => decTo nw key b k j ^^^ rkey nw key i j := ⟨_, rfl⟩
      rw [← hy] at hy1
      have Hy := Lib.hid hy
      have hyb2 : w.heap.size ≤ yb := by omega
      have HY := Lib.hid (And.intro hy1 hlow2)
      clear hy hlow1 hx0 c0 k0 hy1 hlow2
      go_cut [8] from 33 to 36 (fun v8 wx => Y16 w (if k = 0 then y else mixF y mBwd) v8 wx)
      case first =>
        have hAm : ∀ w : World, At (w.alloc (.cells #[.int .u8 14, .int .u8 11, .int .u8 13, .int .u8 9] 5)) (some ⟨w.heap.size, 0, none⟩) 4 mBwd := fun w => At.of_blk (t := 5) (f := mBwd) (Blk.new w 5 (brow (tab 4 mBwd)))
        have hAs : At (w1.alloc (.cells #[.int .u8 14, .int .u8 11, .int .u8 13, .int .u8 9] 5)) (some ⟨yb, 0, none⟩) 16 y := At.of_blk (HY.out.1.alloc _)
        have hmix := rmix_any (some ⟨yb, 0, none⟩) 16 16 hAs (by omega) (some ⟨w1.heap.size, 0, none⟩) 4 4 (hAm w1) (by omega)
        clear hAm hAs
        by_cases hk : k = 0
        · have hl : ¬ (i : Int) < nw + 6 := by have := Hik.out; omega
          have Hk := Lib.hid hk
          clear hk
          go_wp2
          go_meet
          rw [if_pos Hk.out]
          exact ⟨yb, rfl, hyb2, HY.out.1, HY.out.2⟩
        · have hl : (i : Int) < nw + 6 := by have := Hik.out; omega
          have Hk := Lib.hid hk
          clear hk
          go_wp2_with (go_at_call 53; refine hmix.mono ?_; rintro e w5 ⟨zb, rfl, hzb, hz5, hb5⟩)
          go_meet
          rw [if_neg Hk.out]
          have hlz2 := HY.out.2.size
          exact ⟨zb, rfl, by simp at hzb; omega, hz5, (HY.out.2.alloc hlz2 _).trans (hb5.mono (by simp; omega))⟩
      case rest =>
        obtain ⟨yb, rfl, hyb, hy, hlow⟩ := hcut
        clear HY
        have hstep : decTo nw key b (k + 1) = subB (if k = 0 then y else mixF y mBwd) := by
          have h1 : nw + 6 - k = i := by have := Hik.out; omega
          rw [decTo, Hy.out, h1]
          congr 1
          funext j
          by_cases hk : k = 0 <;> simp [hk]
        have Hstep := Lib.hid hstep
        generalize (if k = 0 then y else mixF y mBwd) = s at hy Hstep
        have HX := Lib.hid (And.intro hy hlow)
        clear hstep hy hlow
        go_wp2
        obtain ⟨T, hT⟩ : ∃ T, T = wc.heap.size := ⟨_, rfl⟩
        rw [← hT]
        have hz0 : Blk (wc.alloc (.cells (brow (tab 16 fun _ => 0)) 5)) T 5 (brow (tab 16 (scat s 0))) := by
          rw [hT, scat_zero]
          exact Blk.new wc 5 _
        have hlT0 : Below T wc (wc.alloc (.cells (brow (tab 16 fun _ => 0)) 5)) := (Below.refl _ wc).alloc (by omega) _
        have hTx : yb < T := by have := HX.out.1.lt; omega
        have HT := Lib.hid hT
        have hTw : w.heap.size ≤ T := by have := HX.out.2.size; omega
        clear hT
        go_loopw [9] (fun vj wr => ∃ j : Nat, j ≤ 16 ∧ vj = .int .i64 j ∧ Blk wr T 5 (brow (tab 16 (scat s j))) ∧ Below T wc wr) (fun vj _ => 16 - (intOf vj).toNat)
        case atStart => exact ⟨0, by omega, rfl, hz0, hlT0⟩
        case round =>
          obtain ⟨j, hj16, rfl, ht, hlT⟩ := hrel
          have hb1 : Below wc.heap.size wc wr := HT.out ▸ hlT
          have hlow2 : Below w.heap.size w wr := HX.out.2.trans (hb1.mono HX.out.2.size)
          by_cases hlj : j < 16
          · clear hz0 hlT0
            have hji : (j : Int) < 16 := by omega
            have hj0 : (0 : Int) ≤ j := by omega
            obtain ⟨kc2, b2, a, -, hc, -, ha, -, -⟩ := HP.out.below hlow2
            have C0 : wr.cell? ⟨g, 2, none⟩ = some (.slice (some ⟨a, 0, none⟩) 256 256) := hc.cell 2
            have C1 := (hlT.cell (p := ⟨yb, j, none⟩) hTx).trans (HX.out.1.cell j)
            rw [brow_tab 16 s hlj] at C1
            have hst := scat_step' s hlj
            have hq16 : (j + 4 * (j % 4)) % 16 < 16 := by omega
            have ct := ht.cell ((j + 4 * (j % 4)) % 16)
            rw [brow_tab 16 _ hq16] at ct
            have cf := ht.frozen ((j + 4 * (j % 4)) % 16)
            have n0 := ht.set_ ((j + 4 * (j % 4)) % 16) (B8 (T8 (s j)))
            rw [brow_tab_set _ _ hq16, hst] at n0
            have n1 := hlT.setCell (p := ⟨T, (j + 4 * (j % 4)) % 16, none⟩) (Nat.le_refl _) (B8 (T8 (s j)))
            generalize hu : scat s j ((j + 4 * (j % 4)) % 16) = uu at ct
            have hm1 : ((j : Int) + 4 * ((j : Int) % 4)) % 16 = (((j + 4 * (j % 4)) % 16 : Nat) : Int) := by omega
            generalize (j + 4 * (j % 4)) % 16 = qx at hm1 hq16 ct cf n0 n1
            generalize s j = sx at C1 n0 n1
            have C2 := ha.cell sx.toNat
            rw [brow_tab 256 _ sx.toNat_lt] at C2
            have C2 : wr.cell? ⟨a, sx.toNat, none⟩ = some (.int .u8 ((T8 sx).toNat : Int)) := C2
            have hq0 : (0 : Int) ≤ qx := by omega
            have hq1 : (qx : Int) < 16 := by omega
            have hw1 : IntKind.i64.wrap (4 * ((j : Int) % 4)) = 4 * ((j : Int) % 4) := wrap_i64 (by omega) (by omega)
            have hw2 : IntKind.i64.wrap ((j : Int) + 4 * ((j : Int) % 4)) = (j : Int) + 4 * ((j : Int) % 4) := wrap_i64 (by omega) (by omega)
            have hm2 : ((j : Int) + 4 * ((j : Int) % 4)).tmod 16 = qx := by rw [Int.tmod_eq_emod_of_nonneg (by omega)]; exact hm1
            have hm3 : (j : Int).tmod 4 = (j : Int) % 4 := Int.tmod_eq_emod_of_nonneg (by omega)
            have hsx : (sx.toNat : Int) < 256 := by have := sx.toNat_lt; omega
            have HN := Lib.hid (And.intro n0 n1)
            have hTl := ht.lt
            clear n0 n1 ht hlT hst hu hc ha hlow2 hb1
            go_upto_region 13 with fail
            refine wp_region_noPanic ?_
            refine wp_region_T (fun w' => w'.cell? ⟨g, 2, none⟩ = some (.slice (some ⟨a, 0, none⟩) 256 256) ∧ w'.cell? ⟨yb, j, none⟩ = some (B8 sx) ∧ w'.cell? ⟨a, sx.toNat, none⟩ = some (.int .u8 ((T8 sx).toNat : Int))) [18] (by kernel_rfl) ?_ (fun hHeld => ?_)
            · exact ⟨C0, C1, C2⟩
            refine wpAnyT_take (i := 0) (v := ?_) (by simp only [List.getElem?_toArray, List.getElem?_cons_zero, List.getElem?_cons_succ]; rfl) (by kernel_rfl) (by kernel_rfl) (by kernel_rfl) (by kernel_rfl) (by kernel_rfl) (fun _ _ _ h => h) (Or.inl ⟨by rfl, ?_⟩) (by assumption) ?_
            rotate_left
            · intro w hSw; (try dsimp only at hSw); go_simp; try (with_reducible rfl)
            try simp only [Act.put, List.setIfInBounds_toArray, List.set_cons_zero, List.set_cons_succ]
            refine wpAnyT_take (i := 1) (v := ?_) (by simp only [List.getElem?_toArray, List.getElem?_cons_zero, List.getElem?_cons_succ]; rfl) (by kernel_rfl) (by kernel_rfl) (by kernel_rfl) (by kernel_rfl) (by kernel_rfl) (fun _ _ _ h => h) (Or.inl ⟨by rfl, ?_⟩) (by assumption) ?_
            rotate_left
            · intro w hSw; (try dsimp only at hSw); go_simp; try (with_reducible rfl)
            try simp only [Act.put, List.setIfInBounds_toArray, List.set_cons_zero, List.set_cons_succ]
            refine wpAnyT_take (i := 2) (v := ?_) (by simp only [List.getElem?_toArray, List.getElem?_cons_zero, List.getElem?_cons_succ]; rfl) (by kernel_rfl) (by kernel_rfl) (by kernel_rfl) (by kernel_rfl) (by kernel_rfl) (fun _ _ _ h => h) (Or.inl ⟨by rfl, ?_⟩) (by assumption) ?_
            rotate_left
            · intro w hSw; (try dsimp only at hSw); go_simp; try (with_reducible rfl)
            try simp only [Act.put, List.setIfInBounds_toArray, List.set_cons_zero, List.set_cons_succ]
            refine wpAnyT_take (i := 3) (v := ?_) (by simp only [List.getElem?_toArray, List.getElem?_cons_zero, List.getElem?_cons_succ]; rfl) (by kernel_rfl) (by kernel_rfl) (by kernel_rfl) (by kernel_rfl) (by kernel_rfl) (fun _ _ _ h => h) (Or.inl ⟨by rfl, ?_⟩) (by assumption) ?_
            rotate_left
            · intro w hSw; (try dsimp only at hSw); go_simp; try (with_reducible rfl)
            try simp only [Act.put, List.setIfInBounds_toArray, List.set_cons_zero, List.set_cons_succ]
            refine wpAnyT_take (i := 4) (v := ?_) (by simp only [List.getElem?_toArray, List.getElem?_cons_zero, List.getElem?_cons_succ]; rfl) (by kernel_rfl) (by kernel_rfl) (by kernel_rfl) (by kernel_rfl) (by kernel_rfl) (fun _ _ _ h => h) (Or.inl ⟨by rfl, ?_⟩) (by assumption) ?_
            rotate_left
            · intro w hSw; (try dsimp only at hSw); go_simp; try (with_reducible rfl)
            try simp only [Act.put, List.setIfInBounds_toArray, List.set_cons_zero, List.set_cons_succ]
            refine wpAnyT_take (i := 5) (v := ?_) (by simp only [List.getElem?_toArray, List.getElem?_cons_zero, List.getElem?_cons_succ]; rfl) (by kernel_rfl) (by kernel_rfl) (by kernel_rfl) (by kernel_rfl) (by kernel_rfl) (fun _ _ _ h => h) (Or.inl ⟨by rfl, ?_⟩) (by assumption) ?_
            rotate_left
            · intro w hSw; (try dsimp only at hSw); go_simp; try (with_reducible rfl)
            try simp only [Act.put, List.setIfInBounds_toArray, List.set_cons_zero, List.set_cons_succ]
            refine wpAnyT_take (i := 6) (v := ?_) (by simp only [List.getElem?_toArray, List.getElem?_cons_zero, List.getElem?_cons_succ]; rfl) (by kernel_rfl) (by kernel_rfl) (by kernel_rfl) (by kernel_rfl) (by kernel_rfl) (fun _ _ _ h => h) (Or.inl ⟨by rfl, ?_⟩) (by assumption) ?_
            rotate_left
            · intro w hSw; (try dsimp only at hSw); go_simp; try (with_reducible rfl)
            try simp only [Act.put, List.setIfInBounds_toArray, List.set_cons_zero, List.set_cons_succ]
            refine wpAnyT_take (i := 7) (v := ?_) (by simp only [List.getElem?_toArray, List.getElem?_cons_zero, List.getElem?_cons_succ]; rfl) (by kernel_rfl) (by kernel_rfl) (by kernel_rfl) (by kernel_rfl) (by kernel_rfl) (fun _ _ _ h => h) (Or.inl ⟨by rfl, ?_⟩) (by assumption) ?_
            rotate_left
            · intro w hSw; (try dsimp only at hSw); go_simp; try (with_reducible rfl)
            try simp only [Act.put, List.setIfInBounds_toArray, List.set_cons_zero, List.set_cons_succ]
            refine wpAnyT_take (i := 8) (v := ?_) (by simp only [List.getElem?_toArray, List.getElem?_cons_zero, List.getElem?_cons_succ]; rfl) (by kernel_rfl) (by kernel_rfl) (by kernel_rfl) (by kernel_rfl) (by kernel_rfl) (fun _ _ _ h => h) (Or.inl ⟨by rfl, ?_⟩) (by assumption) ?_
            rotate_left
            · intro w hSw; (try dsimp only at hSw); go_simp; try (with_reducible rfl)
            try simp only [Act.put, List.setIfInBounds_toArray, List.set_cons_zero, List.set_cons_succ]
            refine wpAnyT_take (i := 9) (v := ?_) (by simp only [List.getElem?_toArray, List.getElem?_cons_zero, List.getElem?_cons_succ]; rfl) (by kernel_rfl) (by kernel_rfl) (by kernel_rfl) (by kernel_rfl) (by kernel_rfl) (fun _ _ _ h => h) (Or.inl ⟨by rfl, ?_⟩) (by assumption) ?_
            rotate_left
            · intro w hSw; (try dsimp only at hSw); go_simp; try (with_reducible rfl)
            try simp only [Act.put, List.setIfInBounds_toArray, List.set_cons_zero, List.set_cons_succ]
            refine wpAnyT_take (i := 10) (v := ?_) (by simp only [List.getElem?_toArray, List.getElem?_cons_zero, List.getElem?_cons_succ]; rfl) (by kernel_rfl) (by kernel_rfl) (by kernel_rfl) (by kernel_rfl) (by kernel_rfl) (fun _ _ _ h => h) (Or.inl ⟨by rfl, ?_⟩) (by assumption) ?_
            rotate_left
            · intro w hSw; (try dsimp only at hSw); go_simp; try (with_reducible rfl)
            try simp only [Act.put, List.setIfInBounds_toArray, List.set_cons_zero, List.set_cons_succ]
            refine wpAnyT_take (i := 11) (v := ?_) (by simp only [List.getElem?_toArray, List.getElem?_cons_zero, List.getElem?_cons_succ]; rfl) (by kernel_rfl) (by kernel_rfl) (by kernel_rfl) (by kernel_rfl) (by kernel_rfl) (fun _ _ _ h => h) (Or.inl ⟨by rfl, ?_⟩) (by assumption) ?_
            rotate_left
            · intro w hSw; (try dsimp only at hSw); go_simp; try (with_reducible rfl)
            try simp only [Act.put, List.setIfInBounds_toArray, List.set_cons_zero, List.set_cons_succ]
            refine wpAnyT_take (i := 12) (v := ?_) (by simp only [List.getElem?_toArray, List.getElem?_cons_zero, List.getElem?_cons_succ]; rfl) (by kernel_rfl) (by kernel_rfl) (by kernel_rfl) (by kernel_rfl) (by kernel_rfl) (fun _ _ _ h => h) (Or.inl ⟨by rfl, ?_⟩) (by assumption) ?_
            rotate_left
            · intro w hSw; (try dsimp only at hSw); go_simp; try (with_reducible rfl)
            try simp only [Act.put, List.setIfInBounds_toArray, List.set_cons_zero, List.set_cons_succ]
            refine wpAnyT_take (i := 13) (v := ?_) (by simp only [List.getElem?_toArray, List.getElem?_cons_zero, List.getElem?_cons_succ]; rfl) (by kernel_rfl) (by kernel_rfl) (by kernel_rfl) (by kernel_rfl) (by kernel_rfl) (fun _ _ _ h => h) (Or.inl ⟨by rfl, ?_⟩) (by assumption) ?_
            rotate_left
            · intro w hSw; (try dsimp only at hSw); go_simp; try (with_reducible rfl)
            try simp only [Act.put, List.setIfInBounds_toArray, List.set_cons_zero, List.set_cons_succ]
            refine wpAnyT_take (i := 14) (v := ?_) (by simp only [List.getElem?_toArray, List.getElem?_cons_zero, List.getElem?_cons_succ]; rfl) (by kernel_rfl) (by kernel_rfl) (by kernel_rfl) (by kernel_rfl) (by kernel_rfl) (fun _ _ _ h => h) (Or.inl ⟨by rfl, ?_⟩) (by assumption) ?_
            rotate_left
            · intro w hSw; (try dsimp only at hSw); go_simp; try (with_reducible rfl)
            try simp only [Act.put, List.setIfInBounds_toArray, List.set_cons_zero, List.set_cons_succ]
            refine wpAnyT_take (i := 15) (v := ?_) (by simp only [List.getElem?_toArray, List.getElem?_cons_zero, List.getElem?_cons_succ]; rfl) (by kernel_rfl) (by kernel_rfl) (by kernel_rfl) (by kernel_rfl) (by kernel_rfl) (fun _ _ _ h => h) (Or.inl ⟨by rfl, ?_⟩) (by assumption) ?_
            rotate_left
            · intro w hSw; (try dsimp only at hSw); go_simp; try (with_reducible rfl)
            try simp only [Act.put, List.setIfInBounds_toArray, List.set_cons_zero, List.set_cons_succ]
            refine wpAnyT_take (i := 16) (v := ?_) (by simp only [List.getElem?_toArray, List.getElem?_cons_zero, List.getElem?_cons_succ]; rfl) (by kernel_rfl) (by kernel_rfl) (by kernel_rfl) (by kernel_rfl) (by kernel_rfl) (fun _ _ _ h => h) (Or.inl ⟨by rfl, ?_⟩) (by assumption) ?_
            rotate_left
            · intro w hSw; (try dsimp only at hSw); go_simp; try (with_reducible rfl)
            try simp only [Act.put, List.setIfInBounds_toArray, List.set_cons_zero, List.set_cons_succ]
            refine wpAnyT_take (i := 17) (v := ?_) (by simp only [List.getElem?_toArray, List.getElem?_cons_zero, List.getElem?_cons_succ]; rfl) (by kernel_rfl) (by kernel_rfl) (by kernel_rfl) (by kernel_rfl) (by kernel_rfl) (fun _ _ _ h => h) (Or.inl ⟨by rfl, ?_⟩) (by assumption) ?_
            rotate_left
            · intro w hSw; (try dsimp only at hSw); go_simp; try (with_reducible rfl)
            try simp only [Act.put, List.setIfInBounds_toArray, List.set_cons_zero, List.set_cons_succ]
            refine wpAnyT_ready (rs := [18]) (by kernel_rfl) (by simp) (AllReadyT.store (by simp only [List.getElem?_toArray, List.getElem?_cons_zero, List.getElem?_cons_succ]; rfl) (by simp) (fun K hK => ?_) AllReadyT.nil)
            go_simp
            refine hK.out _ _ ?_
            clear hK K
            try simp only [Act.put, List.setIfInBounds_toArray, List.set_cons_zero, List.set_cons_succ]
            refine wpAnyT_done (by kernel_rfl) ?_ _
            refine NoPanic.normal ?_
            go_wp2
            exact ⟨⟨j + 1, by omega, by go_num, HN.out.1.drew, HN.out.2.drew⟩, by simp [intOf]; omega⟩
          · obtain rfl : j = 16 := by omega
            rw [scat_all] at ht
            clear hz0 hlT0 hlj hj16
            have Ht := Lib.hid (And.intro ht hlow2)
            clear ht hlT hb1 hlow2
            go_wp2
            have h1 := Hik.out
            exact ⟨⟨i - 1, k + 1, by omega, by rw [show (i : Int) - 1 = ((i - 1 : Nat) : Int) by omega], some ⟨T, 0, none⟩, 16, rfl, by rw [Hstep.out]; exact At.of_blk Ht.out.1, Ht.out.2⟩, by simp [intOf]; omega⟩
end Go.Proofs.Ytmilanicedjhmaa
