/- Contracts: a block through the reference's cipher. No condition beyond each theorem's own. -/
import Derived.Test.YtmilanicedjhmaaF11
namespace Go.Proofs.Ytmilanicedjhmaa
open Go.RowKit
set_option linter.unusedSimpArgs false

theorem RC.below {w w' : World} {g gk gw nw : Nat} {key : List UInt8} (h : RC w g gk gw nw key) (hb : Below w.heap.size w w') : RC w' g gk gw nw key := by
  obtain ⟨kc, a, b, h0, h1, h2, h3, h4, h5⟩ := h
  exact ⟨kc, a, b, h0, h1.below hb h1.lt, h2.below hb h2.lt, h3.below hb h3.lt, fun k hk => below_cell hb (h4 k hk), fun k j hk hj => below_cell hb (h5 k j hk hj)⟩
/-- Sixteen bytes that the call made, since w. -/
def Y16 (w : World) (f : Nat → UInt8) (v : Value) (W : World) : Prop := ∃ b, v = .slice (some ⟨b, 0, none⟩) 16 16 ∧ w.heap.size ≤ b ∧ Blk W b 5 (brow (tab 16 f)) ∧ Below w.heap.size w W
theorem subF_at (s : Nat → UInt8) (j : Nat) : subF s j = S8 (s ((j + 4 * (j % 4)) % 16)) := by unfold subF; rw [Nat.mul_comm]

set_option maxRecDepth 100000 in
set_option maxHeartbeats 4000000 in
theorem renc_any {w : World} {g gk gw nw : Nat} {key : List UInt8} (hP : RC w g gk gw nw key) (hnw : nw ≤ 8) (A : Option Addr) (c : Nat) (b : Nat → UInt8) (hA : At w A 16 b) : Calls Try.prog 21 #[.pointer (some ⟨g, 0, none⟩), .slice A 16 c] w (NewTab w 16 (encF nw key b)) := by
  have hmk : ∀ w : World, (Instr.makeSlice 22 (.int .i64 16) (.int .i64 16)).run Try.prog w = .ok (.slice (some ⟨w.heap.size, 0, none⟩) 16 16) (w.alloc (.cells (brow (tab 16 fun _ => 0)) 5)) := fun w => madeRow w 16 (by omega)
  have hP0 := hP
  obtain ⟨kc, a, bb, hkc, hc, ha, hbb, hks, hkw⟩ := hP
  have c0 := hc.cell 0
  have k0 := hks 0 (by omega)
  simp only [List.getElem?_toArray, List.getElem?_cons_zero] at c0
  rw [Nat.mul_zero] at k0
  have hx0 := rxor_any A c hA (some ⟨gw, 0, none⟩) 16 16 (fun _ => ⟨gw, 0, rfl, fun j hj => by have := hkw 0 j (by omega) hj; rwa [Nat.mul_zero] at this⟩ : At w (some ⟨gw, 0, none⟩) 16 (rkey nw key 0)) (by omega) (by omega)
  have hkb : (0 : Int) < nw + 7 := by omega
  have hw6 : IntKind.i64.wrap ((nw : Int) + 7 - 1) = nw + 6 := by rw [show (nw : Int) + 7 - 1 = nw + 6 by omega]; exact wrap_i64 (by omega) (by omega)
  have HP := Lib.hid hP0
  have hlw := hc.lt
  clear hc ha hbb hks hkw hP0
  go_enter Try.func21, Try.ntmps21
  go_wp2_with (go_at_call 52; refine hx0.mono ?_; rintro e w1 ⟨xb, rfl, hxb, hx1, hlow1⟩; have c1 := below_cell hlow1 c0)
  clear c0 k0 hx0 c1
  have Hs := Lib.hid (⟨xb, rfl, hxb, hx1, hlow1⟩ : Y16 w (encTo nw key b 1) (.slice (some ⟨xb, 0, none⟩) 16 16) w1)
  clear hx1 hlow1
  go_loopw [5, 7] (fun vx vi wr => ∃ i : Nat, 1 ≤ i ∧ i ≤ nw + 7 ∧ vi = .int .i64 i ∧ Y16 w (encTo nw key b i) vx wr) (fun _ vi _ => nw + 7 - (intOf vi).toNat)
  case atStart => exact ⟨1, by omega, by omega, rfl, Hs.out⟩
  case round =>
    obtain ⟨i, hi1, hi7, rfl, xb, rfl, hxb, hx, hlow⟩ := hrel
    clear Hs
    by_cases hlt : i < nw + 7
    · have hii : (i : Int) ≤ nw + 6 := by omega
      have hi0 : (0 : Int) ≤ i := by omega
      have hi8 : (i : Int) < nw + 7 := by omega
      have hstep : tab 16 (encTo nw key b (i + 1)) = tab 16 (fun j => (if i < nw + 6 then mixF (subF (encTo nw key b i)) mFwd else subF (encTo nw key b i)) j ^^^ rkey nw key i j) := by
        obtain ⟨k, rfl⟩ : ∃ k, i = k + 1 := ⟨i - 1, by omega⟩
        rfl
      have Hstep := Lib.hid hstep
      generalize encTo nw key b i = s at hx Hstep
      clear hstep
      have HX := Lib.hid (And.intro hx hlow)
      clear hx hlow
      go_wp2
      obtain ⟨T, hT⟩ : ∃ T, T = wr.heap.size := ⟨_, rfl⟩
      rw [← hT]
      have hz0 : Blk (wr.alloc (.cells (brow (tab 16 fun _ => 0)) 5)) T 5 (brow (tab 16 (zeroTo (subF s) 0))) := by
        rw [hT, zeroTo_zero]
        exact Blk.new wr 5 _
      have hlT0 : Below T wr (wr.alloc (.cells (brow (tab 16 fun _ => 0)) 5)) := (Below.refl _ wr).alloc (by omega) _
      have hTx : xb < T := by have := HX.out.1.lt; omega
      have HT := Lib.hid hT
      have hTw : w.heap.size ≤ T := by have := HX.out.2.size; omega
      clear hT
      obtain ⟨wo, rfl⟩ : ∃ wo : World, wo = wr := ⟨_, rfl⟩
      go_loopw [9] (fun vj wr => ∃ j : Nat, j ≤ 16 ∧ vj = .int .i64 j ∧ Blk wr T 5 (brow (tab 16 (zeroTo (subF s) j))) ∧ Below T wo wr) (fun vj _ => 16 - (intOf vj).toNat)
      case atStart => exact ⟨0, by omega, rfl, hz0, hlT0⟩
      case round =>
        obtain ⟨j, hj16, rfl, ht, hlT⟩ := hrel
        have hb1 : Below wo.heap.size wo wr := HT.out ▸ hlT
        have hlow2 : Below w.heap.size w wr := HX.out.2.trans (hb1.mono HX.out.2.size)
        by_cases hlj : j < 16
        · clear hz0 hlT0
          have hji : (j : Int) < 16 := by omega
          have hj0 : (0 : Int) ≤ j := by omega
          obtain ⟨kc2, a, b2, -, hc, ha, -, -, -⟩ := HP.out.below hlow2
          have C0 : wr.cell? ⟨g, 1, none⟩ = some (.slice (some ⟨a, 0, none⟩) 256 256) := hc.cell 1
          have hq16 : (j + 4 * (j % 4)) % 16 < 16 := by omega
          have C1 := (hlT.cell (p := ⟨xb, (j + 4 * (j % 4)) % 16, none⟩) hTx).trans (HX.out.1.cell ((j + 4 * (j % 4)) % 16))
          rw [brow_tab 16 s hq16] at C1
          have hqv := subF_at s j
          have hm1 : ((j : Int) + 4 * ((j : Int) % 4)) % 16 = (((j + 4 * (j % 4)) % 16 : Nat) : Int) := by omega
          generalize s ((j + 4 * (j % 4)) % 16) = sx at C1 hqv
          generalize (j + 4 * (j % 4)) % 16 = qx at C1 hm1 hq16
          have C2 := ha.cell sx.toNat
          rw [brow_tab 256 _ sx.toNat_lt] at C2
          have C2 : wr.cell? ⟨a, sx.toNat, none⟩ = some (.int .u8 ((S8 sx).toNat : Int)) := C2
          have hq0 : (0 : Int) ≤ qx := by omega
          have hq1 : (qx : Int) < 16 := by omega
          have hw1 : IntKind.i64.wrap (4 * ((j : Int) % 4)) = 4 * ((j : Int) % 4) := wrap_i64 (by omega) (by omega)
          have hw2 : IntKind.i64.wrap ((j : Int) + 4 * ((j : Int) % 4)) = (j : Int) + 4 * ((j : Int) % 4) := wrap_i64 (by omega) (by omega)
          have hm2 : ((j : Int) + 4 * ((j : Int) % 4)).tmod 16 = qx := by rw [Int.tmod_eq_emod_of_nonneg (by omega)]; exact hm1
          have hm3 : (j : Int).tmod 4 = (j : Int) % 4 := Int.tmod_eq_emod_of_nonneg (by omega)
          have hsx : (sx.toNat : Int) < 256 := by have := sx.toNat_lt; omega
          have ct := ht.cell j
          rw [brow_tab 16 _ hlj] at ct
          have cf := ht.frozen j
          have n0 := ht.set_ j (B8 (subF s j))
          rw [brow_tab_set _ _ hlj, zeroTo_upd] at n0
          have n1 := hlT.setCell (p := ⟨T, j, none⟩) (Nat.le_refl _) (B8 (subF s j))
          rw [hqv] at n0 n1
          have HN := Lib.hid (And.intro n0 n1)
          have hTl := ht.lt
          clear n0 n1 ht hlT hqv hc ha hlow2 hb1
          go_upto_region 10 with fail
          refine wp_region_noPanic ?_
          refine wp_region_T (fun w' => w'.cell? ⟨g, 1, none⟩ = some (.slice (some ⟨a, 0, none⟩) 256 256) ∧ w'.cell? ⟨xb, qx, none⟩ = some (B8 sx) ∧ w'.cell? ⟨a, sx.toNat, none⟩ = some (.int .u8 ((S8 sx).toNat : Int))) [18] (by kernel_rfl) ?_ (fun hHeld => ?_)
          · exact ⟨C0, C1, C2⟩
          refine wpAnyT_take (i := 0) (v := ?_) (by simp only [List.getElem?_toArray, List.getElem?_cons_zero, List.getElem?_cons_succ]; rfl) (by kernel_rfl) (by kernel_rfl) (by kernel_rfl) (by kernel_rfl) (by kernel_rfl) (fun _ _ _ h => h) (Or.inl ⟨by rfl, ?_⟩) (by assumption) ?_
          rotate_left
          · intro w hSw; (try dsimp only at hSw); go_simp; try (with_reducible rfl)
          try simp only [Act.put, List.setIfInBounds_toArray, List.set_cons_zero, List.set_cons_succ]
          refine wpAnyT_take (i := 1) (v := ?_) (by simp only [List.getElem?_toArray, List.getElem?_cons_zero, List.getElem?_cons_succ]; rfl) (by kernel_rfl) (by kernel_rfl) (by kernel_rfl) (by kernel_rfl) (by kernel_rfl) (fun _ _ _ h => h) (Or.inl ⟨by rfl, ?_⟩) (by assumption) ?_
          rotate_left
          · intro w hSw; (try dsimp only at hSw); go_simp; try (with_reducible rfl)
          try simp only [Act.put, List.setIfInBounds_toArray, List.set_cons_zero, List.set_cons_succ]
          refine wpAnyT_take (i := 2) (v := ?_) (by simp only [List.getElem?_toArray, List.getElem?_cons_zero, List.getElem?_cons_succ]; rfl) (by kernel_rfl) (by kernel_rfl) (by kernel_rfl) (by kernel_rfl) (by kernel_rfl) (fun _ _ _ h => h) (Or.inl ⟨by rfl, ?_⟩) (by assumption) ?_
          rotate_left
          · intro w hSw; (try dsimp only at hSw); go_simp; try (with_reducible rfl)
          try simp only [Act.put, List.setIfInBounds_toArray, List.set_cons_zero, List.set_cons_succ]
          refine wpAnyT_take (i := 3) (v := ?_) (by simp only [List.getElem?_toArray, List.getElem?_cons_zero, List.getElem?_cons_succ]; rfl) (by kernel_rfl) (by kernel_rfl) (by kernel_rfl) (by kernel_rfl) (by kernel_rfl) (fun _ _ _ h => h) (Or.inl ⟨by rfl, ?_⟩) (by assumption) ?_
          rotate_left
          · intro w hSw; (try dsimp only at hSw); go_simp; try (with_reducible rfl)
          try simp only [Act.put, List.setIfInBounds_toArray, List.set_cons_zero, List.set_cons_succ]
          refine wpAnyT_take (i := 4) (v := ?_) (by simp only [List.getElem?_toArray, List.getElem?_cons_zero, List.getElem?_cons_succ]; rfl) (by kernel_rfl) (by kernel_rfl) (by kernel_rfl) (by kernel_rfl) (by kernel_rfl) (fun _ _ _ h => h) (Or.inl ⟨by rfl, ?_⟩) (by assumption) ?_
          rotate_left
          · intro w hSw; (try dsimp only at hSw); go_simp; try (with_reducible rfl)
          try simp only [Act.put, List.setIfInBounds_toArray, List.set_cons_zero, List.set_cons_succ]
          refine wpAnyT_take (i := 5) (v := ?_) (by simp only [List.getElem?_toArray, List.getElem?_cons_zero, List.getElem?_cons_succ]; rfl) (by kernel_rfl) (by kernel_rfl) (by kernel_rfl) (by kernel_rfl) (by kernel_rfl) (fun _ _ _ h => h) (Or.inl ⟨by rfl, ?_⟩) (by assumption) ?_
          rotate_left
          · intro w hSw; (try dsimp only at hSw); go_simp; try (with_reducible rfl)
          try simp only [Act.put, List.setIfInBounds_toArray, List.set_cons_zero, List.set_cons_succ]
          refine wpAnyT_take (i := 6) (v := ?_) (by simp only [List.getElem?_toArray, List.getElem?_cons_zero, List.getElem?_cons_succ]; rfl) (by kernel_rfl) (by kernel_rfl) (by kernel_rfl) (by kernel_rfl) (by kernel_rfl) (fun _ _ _ h => h) (Or.inl ⟨by rfl, ?_⟩) (by assumption) ?_
          rotate_left
          · intro w hSw; (try dsimp only at hSw); go_simp; try (with_reducible rfl)
          try simp only [Act.put, List.setIfInBounds_toArray, List.set_cons_zero, List.set_cons_succ]
          refine wpAnyT_take (i := 7) (v := ?_) (by simp only [List.getElem?_toArray, List.getElem?_cons_zero, List.getElem?_cons_succ]; rfl) (by kernel_rfl) (by kernel_rfl) (by kernel_rfl) (by kernel_rfl) (by kernel_rfl) (fun _ _ _ h => h) (Or.inl ⟨by rfl, ?_⟩) (by assumption) ?_
          rotate_left
          · intro w hSw; (try dsimp only at hSw); go_simp; try (with_reducible rfl)
          try simp only [Act.put, List.setIfInBounds_toArray, List.set_cons_zero, List.set_cons_succ]
          refine wpAnyT_take (i := 8) (v := ?_) (by simp only [List.getElem?_toArray, List.getElem?_cons_zero, List.getElem?_cons_succ]; rfl) (by kernel_rfl) (by kernel_rfl) (by kernel_rfl) (by kernel_rfl) (by kernel_rfl) (fun _ _ _ h => h) (Or.inl ⟨by rfl, ?_⟩) (by assumption) ?_
          rotate_left
          · intro w hSw; (try dsimp only at hSw); go_simp; try (with_reducible rfl)
          try simp only [Act.put, List.setIfInBounds_toArray, List.set_cons_zero, List.set_cons_succ]
          refine wpAnyT_take (i := 9) (v := ?_) (by simp only [List.getElem?_toArray, List.getElem?_cons_zero, List.getElem?_cons_succ]; rfl) (by kernel_rfl) (by kernel_rfl) (by kernel_rfl) (by kernel_rfl) (by kernel_rfl) (fun _ _ _ h => h) (Or.inl ⟨by rfl, ?_⟩) (by assumption) ?_
          rotate_left
          · intro w hSw; (try dsimp only at hSw); go_simp; try (with_reducible rfl)
          try simp only [Act.put, List.setIfInBounds_toArray, List.set_cons_zero, List.set_cons_succ]
          refine wpAnyT_take (i := 10) (v := ?_) (by simp only [List.getElem?_toArray, List.getElem?_cons_zero, List.getElem?_cons_succ]; rfl) (by kernel_rfl) (by kernel_rfl) (by kernel_rfl) (by kernel_rfl) (by kernel_rfl) (fun _ _ _ h => h) (Or.inl ⟨by rfl, ?_⟩) (by assumption) ?_
          rotate_left
          · intro w hSw; (try dsimp only at hSw); go_simp; try (with_reducible rfl)
          try simp only [Act.put, List.setIfInBounds_toArray, List.set_cons_zero, List.set_cons_succ]
          refine wpAnyT_take (i := 11) (v := ?_) (by simp only [List.getElem?_toArray, List.getElem?_cons_zero, List.getElem?_cons_succ]; rfl) (by kernel_rfl) (by kernel_rfl) (by kernel_rfl) (by kernel_rfl) (by kernel_rfl) (fun _ _ _ h => h) (Or.inl ⟨by rfl, ?_⟩) (by assumption) ?_
          rotate_left
          · intro w hSw; (try dsimp only at hSw); go_simp; try (with_reducible rfl)
          try simp only [Act.put, List.setIfInBounds_toArray, List.set_cons_zero, List.set_cons_succ]
          refine wpAnyT_take (i := 12) (v := ?_) (by simp only [List.getElem?_toArray, List.getElem?_cons_zero, List.getElem?_cons_succ]; rfl) (by kernel_rfl) (by kernel_rfl) (by kernel_rfl) (by kernel_rfl) (by kernel_rfl) (fun _ _ _ h => h) (Or.inl ⟨by rfl, ?_⟩) (by assumption) ?_
          rotate_left
          · intro w hSw; (try dsimp only at hSw); go_simp; try (with_reducible rfl)
          try simp only [Act.put, List.setIfInBounds_toArray, List.set_cons_zero, List.set_cons_succ]
          refine wpAnyT_take (i := 13) (v := ?_) (by simp only [List.getElem?_toArray, List.getElem?_cons_zero, List.getElem?_cons_succ]; rfl) (by kernel_rfl) (by kernel_rfl) (by kernel_rfl) (by kernel_rfl) (by kernel_rfl) (fun _ _ _ h => h) (Or.inl ⟨by rfl, ?_⟩) (by assumption) ?_
          rotate_left
          · intro w hSw; (try dsimp only at hSw); go_simp; try (with_reducible rfl)
          try simp only [Act.put, List.setIfInBounds_toArray, List.set_cons_zero, List.set_cons_succ]
          refine wpAnyT_take (i := 14) (v := ?_) (by simp only [List.getElem?_toArray, List.getElem?_cons_zero, List.getElem?_cons_succ]; rfl) (by kernel_rfl) (by kernel_rfl) (by kernel_rfl) (by kernel_rfl) (by kernel_rfl) (fun _ _ _ h => h) (Or.inl ⟨by rfl, ?_⟩) (by assumption) ?_
          rotate_left
          · intro w hSw; (try dsimp only at hSw); go_simp; try (with_reducible rfl)
          try simp only [Act.put, List.setIfInBounds_toArray, List.set_cons_zero, List.set_cons_succ]
          refine wpAnyT_take (i := 15) (v := ?_) (by simp only [List.getElem?_toArray, List.getElem?_cons_zero, List.getElem?_cons_succ]; rfl) (by kernel_rfl) (by kernel_rfl) (by kernel_rfl) (by kernel_rfl) (by kernel_rfl) (fun _ _ _ h => h) (Or.inl ⟨by rfl, ?_⟩) (by assumption) ?_
          rotate_left
          · intro w hSw; (try dsimp only at hSw); go_simp; try (with_reducible rfl)
          try simp only [Act.put, List.setIfInBounds_toArray, List.set_cons_zero, List.set_cons_succ]
          refine wpAnyT_take (i := 16) (v := ?_) (by simp only [List.getElem?_toArray, List.getElem?_cons_zero, List.getElem?_cons_succ]; rfl) (by kernel_rfl) (by kernel_rfl) (by kernel_rfl) (by kernel_rfl) (by kernel_rfl) (fun _ _ _ h => h) (Or.inl ⟨by rfl, ?_⟩) (by assumption) ?_
          rotate_left
          · intro w hSw; (try dsimp only at hSw); go_simp; try (with_reducible rfl)
          try simp only [Act.put, List.setIfInBounds_toArray, List.set_cons_zero, List.set_cons_succ]
          refine wpAnyT_take (i := 17) (v := ?_) (by simp only [List.getElem?_toArray, List.getElem?_cons_zero, List.getElem?_cons_succ]; rfl) (by kernel_rfl) (by kernel_rfl) (by kernel_rfl) (by kernel_rfl) (by kernel_rfl) (fun _ _ _ h => h) (Or.inl ⟨by rfl, ?_⟩) (by assumption) ?_
          rotate_left
          · intro w hSw; (try dsimp only at hSw); go_simp; try (with_reducible rfl)
          try simp only [Act.put, List.setIfInBounds_toArray, List.set_cons_zero, List.set_cons_succ]
          refine wpAnyT_ready (rs := [18]) (by kernel_rfl) (by simp) (AllReadyT.store (by simp only [List.getElem?_toArray, List.getElem?_cons_zero, List.getElem?_cons_succ]; rfl) (by simp) (fun K hK => ?_) AllReadyT.nil)
          go_simp
          refine hK.out _ _ ?_
          clear hK K
          try simp only [Act.put, List.setIfInBounds_toArray, List.set_cons_zero, List.set_cons_succ]
          refine wpAnyT_done (by kernel_rfl) ?_ _
          refine NoPanic.normal ?_
          go_wp2
          exact ⟨⟨j + 1, by omega, by go_num, HN.out.1.drew, HN.out.2.drew⟩, by simp [intOf]; omega⟩
        · obtain rfl : j = 16 := by omega
          rw [zeroTo_all] at ht
          clear hz0 hlT0 hlj hj16
          have hP1 := HP.out.below hlow2
          have Ht := Lib.hid (And.intro ht (And.intro hlow2 hP1))
          obtain ⟨kc2, a2, b2, hkc2, hc, -, -, hks, hkw⟩ := hP1
          clear ht hlT hb1 hlow2
          have hAm : ∀ w : World, At (w.alloc (.cells #[.int .u8 2, .int .u8 3, .int .u8 1, .int .u8 1] 5)) (some ⟨w.heap.size, 0, none⟩) 4 mFwd := fun w => At.of_blk (t := 5) (f := mFwd) (Blk.new w 5 (brow (tab 4 mFwd)))
          have hAs : At (wr.alloc (.cells #[.int .u8 2, .int .u8 3, .int .u8 1, .int .u8 1] 5)) (some ⟨T, 0, none⟩) 16 (subF s) := At.of_blk (Ht.out.1.alloc _)
          have hmix := rmix_any (some ⟨T, 0, none⟩) 16 16 hAs (by omega) (some ⟨wr.heap.size, 0, none⟩) 4 4 (hAm wr) (by omega)
          clear hAm hAs
          clear hks hkw hkc2 hc
          go_upto_if 54 with fail
          go_cut [8] from 54 to 57 (fun v8 wx => Y16 w (if i < nw + 6 then mixF (subF s) mFwd else subF s) v8 wx)
          case first =>
            by_cases hl : i < nw + 6
            · have hl1 : (i : Int) < nw + 6 := by omega
              have Hl := Lib.hid hl
              clear hl
              go_wp2_with (go_at_call 53; refine hmix.mono ?_; rintro e w5 ⟨yb, rfl, hyb, hy5, hb5⟩)
              go_meet
              rw [if_pos Hl.out]
              have hlz : w.heap.size ≤ wr.heap.size := Ht.out.2.1.size
              exact ⟨yb, rfl, by simp at hyb; omega, hy5, (Ht.out.2.1.alloc hlz _).trans (hb5.mono (by simp; omega))⟩
            · have hl1 : ¬ (i : Int) < nw + 6 := by omega
              have Hl := Lib.hid hl
              clear hl
              go_wp2
              go_meet
              rw [if_neg Hl.out]
              exact ⟨T, rfl, hTw, Ht.out.1, Ht.out.2.1⟩
          case rest =>
            obtain ⟨yb, rfl, hyb, hy, hlow⟩ := hcut
            have Hy := Lib.hid (And.intro hy hlow)
            obtain ⟨kc3, a3, b3, hkc3, hc3, -, -, hks3, hkw3⟩ := HP.out.below hlow
            have c3 := hc3.cell 0
            simp only [List.getElem?_toArray, List.getElem?_cons_zero] at c3
            have k3 := hks3 i hlt
            have hAk : At wc (some ⟨gw, 16 * i, none⟩) 16 (rkey nw key i) := fun _ => ⟨gw, 16 * i, rfl, fun j hj => hkw3 i j hlt hj⟩
            have hxor := rxor_any (some ⟨yb, 0, none⟩) 16 (At.of_blk hy) (some ⟨gw, 16 * i, none⟩) 16 16 hAk (by omega) (by omega)
            clear hy hlow hc3 hks3 hkw3 hAk hkc3 hmix
            go_wp2_with (go_at_call 52; refine hxor.mono ?_; rintro e w7 ⟨zb, rfl, hzb, hz7, hb7⟩)
            have hlz : w.heap.size ≤ wc.heap.size := Hy.out.2.size
            exact ⟨⟨i + 1, by omega, by omega, by go_num, zb, rfl, by omega, by rw [Hstep.out]; exact hz7, Hy.out.2.trans (hb7.mono hlz)⟩, by simp [intOf]; omega⟩
    · obtain rfl : i = nw + 7 := by omega
      have hii : ¬ ((nw + 7 : Nat) : Int) ≤ nw + 6 := by omega
      have hii2 : ¬ (nw : Int) + 7 ≤ nw + 6 := by omega
      have HX := Lib.hid (And.intro hx hlow)
      clear hx hlow hlt hi1 hi7
      go_wp2
      go_ret
      exact ⟨xb, rfl, hxb, HX.out.1, HX.out.2⟩
end Go.Proofs.Ytmilanicedjhmaa
