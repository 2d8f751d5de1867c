/- Contracts: the reference's cipher of a key. No condition. -/
import Derived.Test.YtmilanicedjhmaaF7
namespace Go.Proofs.Ytmilanicedjhmaa
open Go.RowKit
set_option linter.unusedSimpArgs false

set_option maxRecDepth 100000 in
theorem rnew_no (A : Option Addr) (n c : Nat) (w : World) (h : n ≠ 16 ∧ n ≠ 24 ∧ n ≠ 32) : Calls Try.prog 17 #[.slice A n c] w fun e w' => e = .returned (.pointer none) ∧ w = w' := by
  obtain ⟨h1, h2, h3⟩ := h
  have k1 : ((n : Int) != 16) = true := by simp; omega
  have k2 : ((n : Int) != 24) = true := by simp; omega
  have k3 : ((n : Int) != 32) = true := by simp; omega
  go_enter Try.func17, Try.ntmps17
  go_wp2
  go_ret
  exact ⟨rfl, rfl⟩

theorem slice_l {w : World} {b o n c lo : Nat} {l : Int} (hl : l = lo) (h1 : lo ≤ n) (h3 : lo < c) :
    (Instr.slice 22 (.slice (some ⟨b, o, none⟩) n c) (some (.int .i64 l)) none none).run Try.prog w = .ok (.slice (some ⟨b, o + lo, none⟩) (n - lo) (c - lo)) w := by
  subst hl
  rw [run_slice_l w 22 _ n c Try.underlying22 .i64 lo (by omega) (by omega)]
  obtain ⟨i0, hi0, hz0, hz1, hz2⟩ := info_parts info5
  have he : Try.prog.elem 22 = 5 := by kernel_rfl
  simp only [he, sizeOf, typeInfo, Sem.run_bind, run_program, Result.andThen_ok, hi0, Sem.run_pure, hz1, Int.toNat_natCast, sliced]
  rw [if_neg (by omega)]
  simp [addr_add]
theorem slice_lhm {w : World} {b o n c lo hi mx : Nat} {l h m : Int} (hl : l = lo) (hh : h = hi) (hm : m = mx) (h1 : lo ≤ hi) (h2 : hi ≤ mx) (h3 : mx ≤ c) (h4 : lo < mx) :
    (Instr.slice 22 (.slice (some ⟨b, o, none⟩) n c) (some (.int .i64 l)) (some (.int .i64 h)) (some (.int .i64 m))).run Try.prog w = .ok (.slice (some ⟨b, o + lo, none⟩) (hi - lo) (mx - lo)) w := by
  subst hl; subst hh; subst hm
  rw [run_slice_lhm w 22 _ n c Try.underlying22 .i64 .i64 .i64 lo hi mx (by omega) (by omega) (by omega) (by omega)]
  obtain ⟨i0, hi0, hz0, hz1, hz2⟩ := info_parts info5
  have he : Try.prog.elem 22 = 5 := by kernel_rfl
  simp only [he, sizeOf, typeInfo, Sem.run_bind, run_program, Result.andThen_ok, hi0, Sem.run_pure, hz1, Int.toNat_natCast, sliced]
  rw [if_neg (by omega)]
  simp [addr_add]
theorem info22 : (Try.prog.info? 22).map (fun i => (i.zero, i.size, i.bytes)) = some (some (.slice none 0 0), 1, 24) := by kernel_rfl
/-- A reference's cipher in memory. -/
def RC (w : World) (g gk gw : Nat) (nw : Nat) (key : List UInt8) : Prop :=
  ∃ kc a b, nw + 7 ≤ kc ∧ Blk w g 35 #[.slice (some ⟨gk, 0, none⟩) (nw + 7) kc, .slice (some ⟨a, 0, none⟩) 256 256, .slice (some ⟨b, 0, none⟩) 256 256] ∧ Blk w a 5 (brow (tab 256 sbox)) ∧ Blk w b 5 (brow (tab 256 (tboxTo 256))) ∧
    (∀ k, k < nw + 7 → w.cell? ⟨gk, k, none⟩ = some (.slice (some ⟨gw, 16 * k, none⟩) 16 16)) ∧ ∀ k j, k < nw + 7 → j < 16 → w.cell? ⟨gw, 16 * k + j, none⟩ = some (B8 (rkey nw key k j))
/-- A new one of a key of 4 * nw bytes. -/
def NewR (w : World) (nw : Nat) (key : List UInt8) (e : Ending) (w' : World) : Prop :=
  ∃ g gk gw, e = .returned (.pointer (some ⟨g, 0, none⟩)) ∧ w.heap.size ≤ g ∧ w.heap.size ≤ gk ∧ w.heap.size ≤ gw ∧ RC w' g gk gw nw key ∧ Below w.heap.size w w'
/-- Four bytes that the call itself made. -/
def XOk (w0 : World) (f : Nat → UInt8) (v : Value) (w : World) : Prop := ∃ gx cx, v = .slice (some ⟨gx, 0, none⟩) 4 cx ∧ w0.heap.size ≤ gx ∧ gx < w.heap.size ∧ ∀ j, j < 4 → w.cell? ⟨gx, j, none⟩ = some (B8 (f j))
theorem XOk.new {w0 w : World} {f : Nat → UInt8} {a b c d : UInt8} (hl : w0.heap.size ≤ w.heap.size) (h0 : f 0 = a) (h1 : f 1 = b) (h2 : f 2 = c) (h3 : f 3 = d) : XOk w0 f (.slice (some ⟨w.heap.size, 0, none⟩) 4 4) (w.alloc (.cells #[B8 a, B8 b, B8 c, B8 d] 5)) := by
  refine ⟨w.heap.size, 4, rfl, hl, by simp, fun j hj => ?_⟩
  rw [four_eq h0 h1 h2 h3, (Blk.new w 5 _).cell, brow_tab 4 f hj]

set_option maxRecDepth 100000 in
set_option maxHeartbeats 8000000 in
theorem rnew_some (A : Option Addr) (c nw : Nat) (key : List UInt8) (w : World) (hw : nw = 4 ∨ nw = 6 ∨ nw = 8) (hB : Bytes w A (4 * nw) key) : Calls Try.prog 17 #[.slice A (4 * nw) c] w (NewR w nw key) := by
  go_enter Try.func17, Try.ntmps17
  go_upto_region 2 with fail
  go_cut [25] from 16 to 25 (fun v wx => v = .bool false ∧ wx = w)
  case first =>
    rcases hw with rfl | rfl | rfl <;>
    · go_wp2
      go_meet
      exact ⟨rfl, rfl⟩
  case rest =>
    obtain ⟨rfl, rfl⟩ := hcut
    obtain ⟨w0, rfl⟩ : ∃ w0 : World, w0 = wc := ⟨_, rfl⟩
    have HB := Lib.hid hB
    clear hB
    have hw1 : (4 * (nw : Int)).tdiv 4 = nw := by rw [Int.tdiv_eq_ediv_of_nonneg (by omega)]; omega
    have hw2 : (4 * (nw : Int)) / 4 = nw := by omega
    have hnw1 : 4 ≤ nw := by omega
    have hnw2 : nw ≤ 8 := by omega
    go_wp2_with (first
      | (go_at_call 47; refine (boxes_any _).mono ?_; rintro e w2 ⟨a, b, rfl, ha, hb, hab, hsa, htb, hlow2⟩; have hB2 := HB.out.below hlow2; have hsz2 := hlow2.size)
      | (at_builtin; refine wpList_append_bytes _ rfl (.const (.slice none 0 0)) (.tmp 33) 22 rfl w0.heap.size 5 Try.underlying22 info5 (.slice none 0 0) 0 [] rfl (World.ownsRow_nil _ _ _ _) A (4 * nw) c key rfl hB2 (by omega) hsz2 ?_; intro v3 w3 hown hg hat))
    rw [Nat.zero_add, List.nil_append] at hown
    have hlow3 : Below w0.heap.size w0 w3 := hlow2.grown hg hsz2 (fun k e => by simp [Value.ownBlock] at e)
    have hsa3 : Blk w3 a 5 (brow (tab 256 sbox)) := (hg.block a hsa.lt (fun e => by simp [Value.ownBlock] at e)).trans hsa
    have htb3 : Blk w3 b 5 (brow (tab 256 (tboxTo 256))) := (hg.block b htb.lt (fun e => by simp [Value.ownBlock] at e)).trans htb
    have hna : v3.ownBlock ≠ some a := by
      rcases hat with h | h
      · rw [h]; simp [Value.ownBlock]
      · rw [h]; have := hsa.lt; simp; omega
    have hnb : v3.ownBlock ≠ some b := by
      rcases hat with h | h
      · rw [h]; simp [Value.ownBlock]
      · rw [h]; have := htb.lt; simp; omega
    clear hsa htb hlow2 hB2 hsz2 hg hat
    clear hw1 hw2
    go_loopg [7, 8] (3 * nw + 28) (fun m vw vr wr => ∃ k : Nat, k + m = 3 * nw + 28 ∧ vr = B8 (kExp nw key k).1 ∧ wr.ownsRow w0.heap.size 5 1 vw (4 * (nw + k)) ((kExp nw key k).2.map B8) ∧
      Blk wr a 5 (brow (tab 256 sbox)) ∧ Blk wr b 5 (brow (tab 256 (tboxTo 256))) ∧ vw.ownBlock ≠ some a ∧ vw.ownBlock ≠ some b ∧ Below w0.heap.size w0 wr)
    case atStart => exact ⟨0, by omega, rfl, hown, hsa3, htb3, hna, hnb, hlow3⟩
    case round =>
      obtain ⟨k, hk, rfl, ho, hsa, htb, hna, hnb, hlow⟩ := hrel
      clear hown hsa3 htb3 hlow3
      by_cases hlt : k < 3 * nw + 28
      · obtain ⟨gw, cap, rfl, hgw, hcap, hgl⟩ := own_some ho (by omega)
        have hlen := kExp_len nw key HB.out.1 k
        have hcell : ∀ j, j < 4 * (nw + k) → wr.cell? ⟨gw, j, none⟩ = some (B8 ((kExp nw key k).2.getD j 0)) := fun j hj => by
          have := ho.cells (g := gw) rfl j (B8 ((kExp nw key k).2.getD j 0)) (by simp [hlen, hj])
          rwa [addr_add, Nat.zero_add] at this
        obtain ⟨i, hi⟩ : ∃ i, i = nw + k := ⟨_, rfl⟩
        rw [← hi] at hlen hcell hcap ho ⊢
        have hi4 : 4 ≤ i := by omega
        have hi5 : i < 4 * nw + 28 := by omega
        generalize hW : kExp nw key k = ks at ho hlen hcell ⊢
        have t0 := hcell (4 * i - 4) (by omega)
        have t1 := hcell (4 * i - 4 + 1) (by omega)
        have t2 := hcell (4 * i - 4 + 2) (by omega)
        have t3 := hcell (4 * i - 4 + 3) (by omega)
        generalize hx0 : ks.2.getD (4 * i - 4) 0 = x0 at t0
        generalize hx1 : ks.2.getD (4 * i - 4 + 1) 0 = x1 at t1
        generalize hx2 : ks.2.getD (4 * i - 4 + 2) 0 = x2 at t2
        generalize hx3 : ks.2.getD (4 * i - 4 + 3) 0 = x3 at t3
        have hl4 : Bytes wr (some ⟨gw, 4 * i - 4, none⟩) 4 [x0, x1, x2, x3] := ⟨rfl, fun _ => ⟨gw, 4 * i - 4, rfl, fun j x hx => by
          match j, hx with
          | 0, hx => cases hx; exact t0
          | 1, hx => cases hx; exact t1
          | 2, hx => cases hx; exact t2
          | 3, hx => cases hx; exact t3⟩⟩
        have HX := Lib.hid (And.intro hx0 (And.intro hx1 (And.intro hx2 hx3)))
        clear hx0 hx1 hx2 hx3 t0 t1 t2 t3
        have HW := Lib.hid hW
        have Hi := Lib.hid (And.intro hi (And.intro hk hlt))
        have hsl := fun w => slice_l (w := w) (b := gw) (o := 0) (n := 4 * i) (c := cap) (lo := 4 * i - 4) (l := 4 * (i : Int) - 4) (by omega) (by omega) (by omega)
        rw [Nat.zero_add, show 4 * i - (4 * i - 4) = 4 by omega] at hsl
        have hlt2 : (4 : Int) * i < 16 * (nw + 7) := by omega
        have HO := Lib.hid ho
        have HS := Lib.hid (And.intro hsa (And.intro htb hlow))
        have Hl4 := Lib.hid hl4
        have HN := Lib.hid (And.intro hna hnb)
        have hm1 : ((4 : Int) * i % (4 * nw)) = ((4 * (i % nw) : Nat) : Int) := by
          rw [show ((4 : Int) * i) = ((4 * i : Nat) : Int) by omega, show ((4 : Int) * nw) = ((4 * nw : Nat) : Int) by omega, ← Int.natCast_emod, Nat.mul_mod_mul_left]
        have hm2 : ((4 : Int) * i).tmod (4 * nw) = ((4 * (i % nw) : Nat) : Int) := by rw [Int.tmod_eq_emod_of_nonneg (by omega)]; exact hm1
        obtain ⟨q, hq⟩ : ∃ q, q = i % nw := ⟨_, rfl⟩
        rw [← hq] at hm1 hm2
        have HQ := Lib.hid hq
        obtain ⟨mq, hmq⟩ : ∃ mq : Int, mq = ((4 * q : Nat) : Int) := ⟨_, rfl⟩
        rw [← hmq] at hm1 hm2
        have HM := Lib.hid hmq
        clear hmq
        clear ho hsa htb hlow hl4 hna hnb hlt hi hk hW hcell hq
        have hlwr := HS.out.2.2.size
        go_upto_if 52 with (first
          | (at_builtin; refine wpList_append_bytes _ rfl (.const (.slice none 0 0)) (.tmp 45) 22 rfl wr.heap.size 5 Try.underlying22 info5 (.slice none 0 0) 0 [] rfl (World.ownsRow_nil _ _ _ _) (some ⟨gw, 4 * i - 4, none⟩) 4 (cap - (4 * i - 4)) [x0, x1, x2, x3] rfl Hl4.out (by omega) (Nat.le_refl _) ?_; intro v4 w4 hown hg hat))
        rw [Nat.zero_add, List.nil_append] at hown
        have hl1 : Below wr.heap.size wr w4 := (Below.refl _ wr).grown hg (Nat.le_refl _) (fun k e => by simp [Value.ownBlock] at e)
        obtain ⟨gx0, cx0, rfl, hgx1, hcx0, hgx2⟩ := own_some hown (by omega)
        have t0 := hown.cells (g := gx0) rfl 0 (B8 x0) rfl
        have t1 := hown.cells (g := gx0) rfl 1 (B8 x1) rfl
        have t2 := hown.cells (g := gx0) rfl 2 (B8 x2) rfl
        have t3 := hown.cells (g := gx0) rfl 3 (B8 x3) rfl
        rw [addr_add] at t0 t1 t2 t3
        have box : ∀ x : UInt8, w4.cell? ⟨a, x.toNat, none⟩ = some (B8 (S8 x)) := fun x => by
          have h := (HS.out.1.below hl1 HS.out.1.lt).cell x.toNat
          rw [brow_tab 256 _ x.toNat_lt] at h
          exact h
        have bx0 := box x0
        have bx1 := box x1
        have bx2 := box x2
        have bx3 := box x3
        have l0 : (x0.toNat : Int) < 256 := by have := x0.toNat_lt; omega
        have l1 : (x1.toNat : Int) < 256 := by have := x1.toNat_lt; omega
        have l2 : (x2.toNat : Int) < 256 := by have := x2.toNat_lt; omega
        have l3 : (x3.toNat : Int) < 256 := by have := x3.toNat_lt; omega
        clear hown hg hat box
        go_cut [8, 9] from 52 to 114 (fun vr vx wx => vr = B8 (if i % nw = 0 then xt ks.1 else ks.1) ∧ XOk wr (kT nw i ks.1 ks.2) vx wx ∧ Below wr.heap.size wr wx)
        case first =>
          by_cases h0 : q = 0
          · skip
            have hkq : i % nw = 0 := HQ.out ▸ h0
            have Hkq := Lib.hid hkq
            clear hkq
            have b0 : (mq == 0) = true := by rw [HM.out, h0]; rfl
            clear h0
            obtain ⟨y0, hy0⟩ : ∃ y, y = S8 x1 ^^^ ks.1 := ⟨_, rfl⟩
            have hx := xor_walk (S8 x1) ks.1
            rw [← hy0] at hx
            have Hy := Lib.hid hy0
            clear hy0
            go_upto_region 12 with fail
            refine wp_region_noPanic ?_
            refine wp_region_T (fun w' => w'.cell? ⟨gx0, 0, none⟩ = some (B8 x0) ∧ w'.cell? ⟨gx0, 1, none⟩ = some (B8 x1) ∧ w'.cell? ⟨gx0, 2, none⟩ = some (B8 x2) ∧ w'.cell? ⟨gx0, 3, none⟩ = some (B8 x3) ∧ w'.cell? ⟨a, x0.toNat, none⟩ = some (B8 (S8 x0)) ∧ w'.cell? ⟨a, x1.toNat, none⟩ = some (B8 (S8 x1)) ∧ w'.cell? ⟨a, x2.toNat, none⟩ = some (B8 (S8 x2)) ∧ w'.cell? ⟨a, x3.toNat, none⟩ = some (B8 (S8 x3))) [26, 27] (by kernel_rfl) ?_ (fun hHeld => ?_)
            · exact ⟨t0, t1, t2, t3, bx0, bx1, bx2, bx3⟩
            refine wpAnyT_take (i := 0) (v := ?_) (by simp only [List.getElem?_toArray, List.getElem?_cons_zero, List.getElem?_cons_succ]; rfl) (by kernel_rfl) (by kernel_rfl) (by kernel_rfl) (by kernel_rfl) (by kernel_rfl) (fun _ _ _ h => h) (Or.inl ⟨by rfl, ?_⟩) (by assumption) ?_
            rotate_left
            · intro w hSw; (try dsimp only at hSw); go_simp; try (with_reducible rfl)
            try simp only [Act.put, List.setIfInBounds_toArray, List.set_cons_zero, List.set_cons_succ]
            refine wpAnyT_take (i := 1) (v := ?_) (by simp only [List.getElem?_toArray, List.getElem?_cons_zero, List.getElem?_cons_succ]; rfl) (by kernel_rfl) (by kernel_rfl) (by kernel_rfl) (by kernel_rfl) (by kernel_rfl) (fun _ _ _ h => h) (Or.inl ⟨by rfl, ?_⟩) (by assumption) ?_
            rotate_left
            · intro w hSw; (try dsimp only at hSw); go_simp; try (with_reducible rfl)
            try simp only [Act.put, List.setIfInBounds_toArray, List.set_cons_zero, List.set_cons_succ]
            refine wpAnyT_take (i := 2) (v := ?_) (by simp only [List.getElem?_toArray, List.getElem?_cons_zero, List.getElem?_cons_succ]; rfl) (by kernel_rfl) (by kernel_rfl) (by kernel_rfl) (by kernel_rfl) (by kernel_rfl) (fun _ _ _ h => h) (Or.inl ⟨by rfl, ?_⟩) (by assumption) ?_
            rotate_left
            · intro w hSw; (try dsimp only at hSw); go_simp; try (with_reducible rfl)
            try simp only [Act.put, List.setIfInBounds_toArray, List.set_cons_zero, List.set_cons_succ]
            refine wpAnyT_take (i := 3) (v := ?_) (by simp only [List.getElem?_toArray, List.getElem?_cons_zero, List.getElem?_cons_succ]; rfl) (by kernel_rfl) (by kernel_rfl) (by kernel_rfl) (by kernel_rfl) (by kernel_rfl) (fun _ _ _ h => h) (Or.inl ⟨by rfl, ?_⟩) (by assumption) ?_
            rotate_left
            · intro w hSw; (try dsimp only at hSw); go_simp; try (with_reducible rfl)
            try simp only [Act.put, List.setIfInBounds_toArray, List.set_cons_zero, List.set_cons_succ]
            refine wpAnyT_take (i := 4) (v := ?_) (by simp only [List.getElem?_toArray, List.getElem?_cons_zero, List.getElem?_cons_succ]; rfl) (by kernel_rfl) (by kernel_rfl) (by kernel_rfl) (by kernel_rfl) (by kernel_rfl) (fun _ _ _ h => h) (Or.inl ⟨by rfl, ?_⟩) (by assumption) ?_
            rotate_left
            · intro w hSw; (try dsimp only at hSw); go_simp; try (with_reducible rfl)
            try simp only [Act.put, List.setIfInBounds_toArray, List.set_cons_zero, List.set_cons_succ]
            refine wpAnyT_take (i := 5) (v := ?_) (by simp only [List.getElem?_toArray, List.getElem?_cons_zero, List.getElem?_cons_succ]; rfl) (by kernel_rfl) (by kernel_rfl) (by kernel_rfl) (by kernel_rfl) (by kernel_rfl) (fun _ _ _ h => h) (Or.inl ⟨by rfl, ?_⟩) (by assumption) ?_
            rotate_left
            · intro w hSw; (try dsimp only at hSw); go_simp; try (with_reducible rfl)
            try simp only [Act.put, List.setIfInBounds_toArray, List.set_cons_zero, List.set_cons_succ]
            refine wpAnyT_take (i := 6) (v := ?_) (by simp only [List.getElem?_toArray, List.getElem?_cons_zero, List.getElem?_cons_succ]; rfl) (by kernel_rfl) (by kernel_rfl) (by kernel_rfl) (by kernel_rfl) (by kernel_rfl) (fun _ _ _ h => h) (Or.inl ⟨by rfl, ?_⟩) (by assumption) ?_
            rotate_left
            · intro w hSw; (try dsimp only at hSw); go_simp; try (with_reducible rfl)
            try simp only [Act.put, List.setIfInBounds_toArray, List.set_cons_zero, List.set_cons_succ]
            refine wpAnyT_take (i := 7) (v := ?_) (by simp only [List.getElem?_toArray, List.getElem?_cons_zero, List.getElem?_cons_succ]; rfl) (by kernel_rfl) (by kernel_rfl) (by kernel_rfl) (by kernel_rfl) (by kernel_rfl) (fun _ _ _ h => h) (Or.inl ⟨by rfl, ?_⟩) (by assumption) ?_
            rotate_left
            · intro w hSw; (try dsimp only at hSw); go_simp; try (with_reducible rfl)
            try simp only [Act.put, List.setIfInBounds_toArray, List.set_cons_zero, List.set_cons_succ]
            refine wpAnyT_take (i := 8) (v := ?_) (by simp only [List.getElem?_toArray, List.getElem?_cons_zero, List.getElem?_cons_succ]; rfl) (by kernel_rfl) (by kernel_rfl) (by kernel_rfl) (by kernel_rfl) (by kernel_rfl) (fun _ _ _ h => h) (Or.inl ⟨by rfl, ?_⟩) (by assumption) ?_
            rotate_left
            · intro w hSw; (try dsimp only at hSw); go_simp; try (with_reducible rfl)
            try simp only [Act.put, List.setIfInBounds_toArray, List.set_cons_zero, List.set_cons_succ]
            refine wpAnyT_take (i := 9) (v := ?_) (by simp only [List.getElem?_toArray, List.getElem?_cons_zero, List.getElem?_cons_succ]; rfl) (by kernel_rfl) (by kernel_rfl) (by kernel_rfl) (by kernel_rfl) (by kernel_rfl) (fun _ _ _ h => h) (Or.inl ⟨by rfl, ?_⟩) (by assumption) ?_
            rotate_left
            · intro w hSw; (try dsimp only at hSw); go_simp; try (with_reducible rfl)
            try simp only [Act.put, List.setIfInBounds_toArray, List.set_cons_zero, List.set_cons_succ]
            refine wpAnyT_take (i := 10) (v := ?_) (by simp only [List.getElem?_toArray, List.getElem?_cons_zero, List.getElem?_cons_succ]; rfl) (by kernel_rfl) (by kernel_rfl) (by kernel_rfl) (by kernel_rfl) (by kernel_rfl) (fun _ _ _ h => h) (Or.inl ⟨by rfl, ?_⟩) (by assumption) ?_
            rotate_left
            · intro w hSw; (try dsimp only at hSw); go_simp; try (with_reducible rfl)
            try simp only [Act.put, List.setIfInBounds_toArray, List.set_cons_zero, List.set_cons_succ]
            refine wpAnyT_take (i := 11) (v := ?_) (by simp only [List.getElem?_toArray, List.getElem?_cons_zero, List.getElem?_cons_succ]; rfl) (by kernel_rfl) (by kernel_rfl) (by kernel_rfl) (by kernel_rfl) (by kernel_rfl) (fun _ _ _ h => h) (Or.inl ⟨by rfl, ?_⟩) (by assumption) ?_
            rotate_left
            · intro w hSw; (try dsimp only at hSw); go_simp; try (with_reducible rfl)
            try simp only [Act.put, List.setIfInBounds_toArray, List.set_cons_zero, List.set_cons_succ]
            refine wpAnyT_take (i := 12) (v := ?_) (by simp only [List.getElem?_toArray, List.getElem?_cons_zero, List.getElem?_cons_succ]; rfl) (by kernel_rfl) (by kernel_rfl) (by kernel_rfl) (by kernel_rfl) (by kernel_rfl) (fun _ _ _ h => h) (Or.inl ⟨by rfl, ?_⟩) (by assumption) ?_
            rotate_left
            · intro w hSw; (try dsimp only at hSw); go_simp; try (with_reducible rfl)
            try simp only [Act.put, List.setIfInBounds_toArray, List.set_cons_zero, List.set_cons_succ]
            refine wpAnyT_take (i := 13) (v := ?_) (by simp only [List.getElem?_toArray, List.getElem?_cons_zero, List.getElem?_cons_succ]; rfl) (by kernel_rfl) (by kernel_rfl) (by kernel_rfl) (by kernel_rfl) (by kernel_rfl) (fun _ _ _ h => h) (Or.inl ⟨by rfl, ?_⟩) (by assumption) ?_
            rotate_left
            · intro w hSw; (try dsimp only at hSw); go_simp; try (with_reducible rfl)
            try simp only [Act.put, List.setIfInBounds_toArray, List.set_cons_zero, List.set_cons_succ]
            refine wpAnyT_take (i := 14) (v := ?_) (by simp only [List.getElem?_toArray, List.getElem?_cons_zero, List.getElem?_cons_succ]; rfl) (by kernel_rfl) (by kernel_rfl) (by kernel_rfl) (by kernel_rfl) (by kernel_rfl) (fun _ _ _ h => h) (Or.inl ⟨by rfl, ?_⟩) (by assumption) ?_
            rotate_left
            · intro w hSw; (try dsimp only at hSw); go_simp; try (with_reducible rfl)
            try simp only [Act.put, List.setIfInBounds_toArray, List.set_cons_zero, List.set_cons_succ]
            refine wpAnyT_take (i := 15) (v := ?_) (by simp only [List.getElem?_toArray, List.getElem?_cons_zero, List.getElem?_cons_succ]; rfl) (by kernel_rfl) (by kernel_rfl) (by kernel_rfl) (by kernel_rfl) (by kernel_rfl) (fun _ _ _ h => h) (Or.inl ⟨by rfl, ?_⟩) (by assumption) ?_
            rotate_left
            · intro w hSw; (try dsimp only at hSw); go_simp; try (with_reducible rfl)
            try simp only [Act.put, List.setIfInBounds_toArray, List.set_cons_zero, List.set_cons_succ]
            refine wpAnyT_take (i := 16) (v := ?_) (by simp only [List.getElem?_toArray, List.getElem?_cons_zero, List.getElem?_cons_succ]; rfl) (by kernel_rfl) (by kernel_rfl) (by kernel_rfl) (by kernel_rfl) (by kernel_rfl) (fun _ _ _ h => h) (Or.inl ⟨by rfl, ?_⟩) (by assumption) ?_
            rotate_left
            · intro w hSw; (try dsimp only at hSw); go_simp; try (with_reducible rfl)
            try simp only [Act.put, List.setIfInBounds_toArray, List.set_cons_zero, List.set_cons_succ]
            refine wpAnyT_take (i := 17) (v := ?_) (by simp only [List.getElem?_toArray, List.getElem?_cons_zero, List.getElem?_cons_succ]; rfl) (by kernel_rfl) (by kernel_rfl) (by kernel_rfl) (by kernel_rfl) (by kernel_rfl) (fun _ _ _ h => h) (Or.inl ⟨by rfl, ?_⟩) (by assumption) ?_
            rotate_left
            · intro w hSw; (try dsimp only at hSw); go_simp; try (with_reducible rfl)
            try simp only [Act.put, List.setIfInBounds_toArray, List.set_cons_zero, List.set_cons_succ]
            refine wpAnyT_take (i := 18) (v := ?_) (by simp only [List.getElem?_toArray, List.getElem?_cons_zero, List.getElem?_cons_succ]; rfl) (by kernel_rfl) (by kernel_rfl) (by kernel_rfl) (by kernel_rfl) (by kernel_rfl) (fun _ _ _ h => h) (Or.inl ⟨by rfl, ?_⟩) (by assumption) ?_
            rotate_left
            · intro w hSw; (try dsimp only at hSw); go_simp; try (with_reducible rfl)
            try simp only [Act.put, List.setIfInBounds_toArray, List.set_cons_zero, List.set_cons_succ]
            refine wpAnyT_take (i := 19) (v := ?_) (by simp only [List.getElem?_toArray, List.getElem?_cons_zero, List.getElem?_cons_succ]; rfl) (by kernel_rfl) (by kernel_rfl) (by kernel_rfl) (by kernel_rfl) (by kernel_rfl) (fun _ _ _ h => h) (Or.inl ⟨by rfl, ?_⟩) (by assumption) ?_
            rotate_left
            · intro w hSw; (try dsimp only at hSw); go_simp; try (with_reducible rfl)
            try simp only [Act.put, List.setIfInBounds_toArray, List.set_cons_zero, List.set_cons_succ]
            refine wpAnyT_take (i := 20) (v := ?_) (by simp only [List.getElem?_toArray, List.getElem?_cons_zero, List.getElem?_cons_succ]; rfl) (by kernel_rfl) (by kernel_rfl) (by kernel_rfl) (by kernel_rfl) (by kernel_rfl) (fun _ _ _ h => h) (Or.inl ⟨by rfl, ?_⟩) (by assumption) ?_
            rotate_left
            · intro w hSw; (try dsimp only at hSw); go_simp; try (with_reducible rfl)
            try simp only [Act.put, List.setIfInBounds_toArray, List.set_cons_zero, List.set_cons_succ]
            refine wpAnyT_take (i := 21) (v := ?_) (by simp only [List.getElem?_toArray, List.getElem?_cons_zero, List.getElem?_cons_succ]; rfl) (by kernel_rfl) (by kernel_rfl) (by kernel_rfl) (by kernel_rfl) (by kernel_rfl) (fun _ _ _ h => h) (Or.inl ⟨by rfl, ?_⟩) (by assumption) ?_
            rotate_left
            · intro w hSw; (try dsimp only at hSw); go_simp; try (with_reducible rfl)
            try simp only [Act.put, List.setIfInBounds_toArray, List.set_cons_zero, List.set_cons_succ]
            refine wpAnyT_take (i := 22) (v := ?_) (by simp only [List.getElem?_toArray, List.getElem?_cons_zero, List.getElem?_cons_succ]; rfl) (by kernel_rfl) (by kernel_rfl) (by kernel_rfl) (by kernel_rfl) (by kernel_rfl) (fun _ _ _ h => h) (Or.inl ⟨by rfl, ?_⟩) (by assumption) ?_
            rotate_left
            · intro w hSw; (try dsimp only at hSw); go_simp; try (with_reducible rfl)
            try simp only [Act.put, List.setIfInBounds_toArray, List.set_cons_zero, List.set_cons_succ]
            refine wpAnyT_take (i := 23) (v := ?_) (by simp only [List.getElem?_toArray, List.getElem?_cons_zero, List.getElem?_cons_succ]; rfl) (by kernel_rfl) (by kernel_rfl) (by kernel_rfl) (by kernel_rfl) (by kernel_rfl) (fun _ _ _ h => h) (Or.inl ⟨by rfl, ?_⟩) (by assumption) ?_
            rotate_left
            · intro w hSw; (try dsimp only at hSw); go_simp; try (with_reducible rfl)
            try simp only [Act.put, List.setIfInBounds_toArray, List.set_cons_zero, List.set_cons_succ]
            refine wpAnyT_take (i := 24) (v := ?_) (by simp only [List.getElem?_toArray, List.getElem?_cons_zero, List.getElem?_cons_succ]; rfl) (by kernel_rfl) (by kernel_rfl) (by kernel_rfl) (by kernel_rfl) (by kernel_rfl) (fun _ _ _ h => h) (Or.inl ⟨by rfl, ?_⟩) (by assumption) ?_
            rotate_left
            · intro w hSw; (try dsimp only at hSw); go_simp; try (with_reducible rfl)
            try simp only [Act.put, List.setIfInBounds_toArray, List.set_cons_zero, List.set_cons_succ]
            refine wpAnyT_take (i := 25) (v := ?_) (by simp only [List.getElem?_toArray, List.getElem?_cons_zero, List.getElem?_cons_succ]; rfl) (by kernel_rfl) (by kernel_rfl) (by kernel_rfl) (by kernel_rfl) (by kernel_rfl) (fun _ _ _ h => h) (Or.inl ⟨by rfl, ?_⟩) (by assumption) ?_
            rotate_left
            · intro w hSw; (try dsimp only at hSw); go_simp; try (with_reducible rfl)
            try simp only [Act.put, List.setIfInBounds_toArray, List.set_cons_zero, List.set_cons_succ]
            refine wpAnyT_ready (rs := [26]) (by kernel_rfl) (by simp) (AllReadyT.store (by simp only [List.getElem?_toArray, List.getElem?_cons_zero, List.getElem?_cons_succ]; rfl) (by simp) (fun K hK => ?_) AllReadyT.nil)
            go_simp
            refine hK.out _ _ ?_
            clear hK K
            try simp only [Act.put, List.setIfInBounds_toArray, List.set_cons_zero, List.set_cons_succ]
            refine wpAnyT_ready (rs := [27]) (by kernel_rfl) (by simp) (AllReadyT.store (by simp only [List.getElem?_toArray, List.getElem?_cons_zero, List.getElem?_cons_succ]; rfl) (by simp) (fun K hK => ?_) AllReadyT.nil)
            go_simp
            refine hK.out _ _ ?_
            clear hK K
            try simp only [Act.put, List.setIfInBounds_toArray, List.set_cons_zero, List.set_cons_succ]
            refine wpAnyT_done (by kernel_rfl) ?_ _
            refine NoPanic.normal ?_
            go_wp2_with (go_at_call 48; refine (rtimes_any ks.1 2 _).mono ?_; rintro e w' ⟨rfl, rfl⟩)
            rw [gmul_two]
            go_meet
            obtain ⟨g0, g1, g2, g3⟩ := HX.out
            refine ⟨by rw [if_pos Hkq.out], ?_, (hl1.drew.alloc (by have := hl1.size; simp; omega) _)⟩
            exact XOk.new (w := w4.drew) hl1.size (f := kT nw i ks.1 ks.2) (by rw [Hy.out, ← g1]; simp [kT, Hkq.out]) (by rw [← g2]; simp [kT, Hkq.out]) (by rw [← g3]; simp [kT, Hkq.out]) (by rw [← g0]; simp [kT, Hkq.out])
          · have b0 : (mq == 0) = false := by rw [beq_eq_false_iff_ne, HM.out]; omega
            by_cases h4 : 6 < nw ∧ q = 4
            · skip
              obtain ⟨h6, h4⟩ := h4
              have Hk4 := Lib.hid (And.intro h6 (HQ.out ▸ h4 : i % nw = 4))
              have Hn0 := Lib.hid h0
              have hdd : ((4 : Int) * (nw : Int) == 32) = true := by rw [beq_iff_eq]; omega
              have b4 : (mq == 16) = true := by rw [HM.out, h4]; rfl
              clear h0 h4 h6
              go_upto_region 15 with fail
              refine wp_region_noPanic ?_
              refine wp_region_T (fun w' => w'.cell? ⟨gx0, 0, none⟩ = some (B8 x0) ∧ w'.cell? ⟨gx0, 1, none⟩ = some (B8 x1) ∧ w'.cell? ⟨gx0, 2, none⟩ = some (B8 x2) ∧ w'.cell? ⟨gx0, 3, none⟩ = some (B8 x3) ∧ w'.cell? ⟨a, x0.toNat, none⟩ = some (B8 (S8 x0)) ∧ w'.cell? ⟨a, x1.toNat, none⟩ = some (B8 (S8 x1)) ∧ w'.cell? ⟨a, x2.toNat, none⟩ = some (B8 (S8 x2)) ∧ w'.cell? ⟨a, x3.toNat, none⟩ = some (B8 (S8 x3))) [24, 25] (by kernel_rfl) ?_ (fun hHeld => ?_)
              · exact ⟨t0, t1, t2, t3, bx0, bx1, bx2, bx3⟩
              refine wpAnyT_take (i := 0) (v := ?_) (by simp only [List.getElem?_toArray, List.getElem?_cons_zero, List.getElem?_cons_succ]; rfl) (by kernel_rfl) (by kernel_rfl) (by kernel_rfl) (by kernel_rfl) (by kernel_rfl) (fun _ _ _ h => h) (Or.inl ⟨by rfl, ?_⟩) (by assumption) ?_
              rotate_left
              · intro w hSw; (try dsimp only at hSw); go_simp; try (with_reducible rfl)
              try simp only [Act.put, List.setIfInBounds_toArray, List.set_cons_zero, List.set_cons_succ]
              refine wpAnyT_take (i := 1) (v := ?_) (by simp only [List.getElem?_toArray, List.getElem?_cons_zero, List.getElem?_cons_succ]; rfl) (by kernel_rfl) (by kernel_rfl) (by kernel_rfl) (by kernel_rfl) (by kernel_rfl) (fun _ _ _ h => h) (Or.inl ⟨by rfl, ?_⟩) (by assumption) ?_
              rotate_left
              · intro w hSw; (try dsimp only at hSw); go_simp; try (with_reducible rfl)
              try simp only [Act.put, List.setIfInBounds_toArray, List.set_cons_zero, List.set_cons_succ]
              refine wpAnyT_take (i := 2) (v := ?_) (by simp only [List.getElem?_toArray, List.getElem?_cons_zero, List.getElem?_cons_succ]; rfl) (by kernel_rfl) (by kernel_rfl) (by kernel_rfl) (by kernel_rfl) (by kernel_rfl) (fun _ _ _ h => h) (Or.inl ⟨by rfl, ?_⟩) (by assumption) ?_
              rotate_left
              · intro w hSw; (try dsimp only at hSw); go_simp; try (with_reducible rfl)
              try simp only [Act.put, List.setIfInBounds_toArray, List.set_cons_zero, List.set_cons_succ]
              refine wpAnyT_take (i := 3) (v := ?_) (by simp only [List.getElem?_toArray, List.getElem?_cons_zero, List.getElem?_cons_succ]; rfl) (by kernel_rfl) (by kernel_rfl) (by kernel_rfl) (by kernel_rfl) (by kernel_rfl) (fun _ _ _ h => h) (Or.inl ⟨by rfl, ?_⟩) (by assumption) ?_
              rotate_left
              · intro w hSw; (try dsimp only at hSw); go_simp; try (with_reducible rfl)
              try simp only [Act.put, List.setIfInBounds_toArray, List.set_cons_zero, List.set_cons_succ]
              refine wpAnyT_take (i := 4) (v := ?_) (by simp only [List.getElem?_toArray, List.getElem?_cons_zero, List.getElem?_cons_succ]; rfl) (by kernel_rfl) (by kernel_rfl) (by kernel_rfl) (by kernel_rfl) (by kernel_rfl) (fun _ _ _ h => h) (Or.inl ⟨by rfl, ?_⟩) (by assumption) ?_
              rotate_left
              · intro w hSw; (try dsimp only at hSw); go_simp; try (with_reducible rfl)
              try simp only [Act.put, List.setIfInBounds_toArray, List.set_cons_zero, List.set_cons_succ]
              refine wpAnyT_take (i := 5) (v := ?_) (by simp only [List.getElem?_toArray, List.getElem?_cons_zero, List.getElem?_cons_succ]; rfl) (by kernel_rfl) (by kernel_rfl) (by kernel_rfl) (by kernel_rfl) (by kernel_rfl) (fun _ _ _ h => h) (Or.inl ⟨by rfl, ?_⟩) (by assumption) ?_
              rotate_left
              · intro w hSw; (try dsimp only at hSw); go_simp; try (with_reducible rfl)
              try simp only [Act.put, List.setIfInBounds_toArray, List.set_cons_zero, List.set_cons_succ]
              refine wpAnyT_take (i := 6) (v := ?_) (by simp only [List.getElem?_toArray, List.getElem?_cons_zero, List.getElem?_cons_succ]; rfl) (by kernel_rfl) (by kernel_rfl) (by kernel_rfl) (by kernel_rfl) (by kernel_rfl) (fun _ _ _ h => h) (Or.inl ⟨by rfl, ?_⟩) (by assumption) ?_
              rotate_left
              · intro w hSw; (try dsimp only at hSw); go_simp; try (with_reducible rfl)
              try simp only [Act.put, List.setIfInBounds_toArray, List.set_cons_zero, List.set_cons_succ]
              refine wpAnyT_take (i := 7) (v := ?_) (by simp only [List.getElem?_toArray, List.getElem?_cons_zero, List.getElem?_cons_succ]; rfl) (by kernel_rfl) (by kernel_rfl) (by kernel_rfl) (by kernel_rfl) (by kernel_rfl) (fun _ _ _ h => h) (Or.inl ⟨by rfl, ?_⟩) (by assumption) ?_
              rotate_left
              · intro w hSw; (try dsimp only at hSw); go_simp; try (with_reducible rfl)
              try simp only [Act.put, List.setIfInBounds_toArray, List.set_cons_zero, List.set_cons_succ]
              refine wpAnyT_take (i := 8) (v := ?_) (by simp only [List.getElem?_toArray, List.getElem?_cons_zero, List.getElem?_cons_succ]; rfl) (by kernel_rfl) (by kernel_rfl) (by kernel_rfl) (by kernel_rfl) (by kernel_rfl) (fun _ _ _ h => h) (Or.inl ⟨by rfl, ?_⟩) (by assumption) ?_
              rotate_left
              · intro w hSw; (try dsimp only at hSw); go_simp; try (with_reducible rfl)
              try simp only [Act.put, List.setIfInBounds_toArray, List.set_cons_zero, List.set_cons_succ]
              refine wpAnyT_take (i := 9) (v := ?_) (by simp only [List.getElem?_toArray, List.getElem?_cons_zero, List.getElem?_cons_succ]; rfl) (by kernel_rfl) (by kernel_rfl) (by kernel_rfl) (by kernel_rfl) (by kernel_rfl) (fun _ _ _ h => h) (Or.inl ⟨by rfl, ?_⟩) (by assumption) ?_
              rotate_left
              · intro w hSw; (try dsimp only at hSw); go_simp; try (with_reducible rfl)
              try simp only [Act.put, List.setIfInBounds_toArray, List.set_cons_zero, List.set_cons_succ]
              refine wpAnyT_take (i := 10) (v := ?_) (by simp only [List.getElem?_toArray, List.getElem?_cons_zero, List.getElem?_cons_succ]; rfl) (by kernel_rfl) (by kernel_rfl) (by kernel_rfl) (by kernel_rfl) (by kernel_rfl) (fun _ _ _ h => h) (Or.inl ⟨by rfl, ?_⟩) (by assumption) ?_
              rotate_left
              · intro w hSw; (try dsimp only at hSw); go_simp; try (with_reducible rfl)
              try simp only [Act.put, List.setIfInBounds_toArray, List.set_cons_zero, List.set_cons_succ]
              refine wpAnyT_take (i := 11) (v := ?_) (by simp only [List.getElem?_toArray, List.getElem?_cons_zero, List.getElem?_cons_succ]; rfl) (by kernel_rfl) (by kernel_rfl) (by kernel_rfl) (by kernel_rfl) (by kernel_rfl) (fun _ _ _ h => h) (Or.inl ⟨by rfl, ?_⟩) (by assumption) ?_
              rotate_left
              · intro w hSw; (try dsimp only at hSw); go_simp; try (with_reducible rfl)
              try simp only [Act.put, List.setIfInBounds_toArray, List.set_cons_zero, List.set_cons_succ]
              refine wpAnyT_take (i := 12) (v := ?_) (by simp only [List.getElem?_toArray, List.getElem?_cons_zero, List.getElem?_cons_succ]; rfl) (by kernel_rfl) (by kernel_rfl) (by kernel_rfl) (by kernel_rfl) (by kernel_rfl) (fun _ _ _ h => h) (Or.inl ⟨by rfl, ?_⟩) (by assumption) ?_
              rotate_left
              · intro w hSw; (try dsimp only at hSw); go_simp; try (with_reducible rfl)
              try simp only [Act.put, List.setIfInBounds_toArray, List.set_cons_zero, List.set_cons_succ]
              refine wpAnyT_take (i := 13) (v := ?_) (by simp only [List.getElem?_toArray, List.getElem?_cons_zero, List.getElem?_cons_succ]; rfl) (by kernel_rfl) (by kernel_rfl) (by kernel_rfl) (by kernel_rfl) (by kernel_rfl) (fun _ _ _ h => h) (Or.inl ⟨by rfl, ?_⟩) (by assumption) ?_
              rotate_left
              · intro w hSw; (try dsimp only at hSw); go_simp; try (with_reducible rfl)
              try simp only [Act.put, List.setIfInBounds_toArray, List.set_cons_zero, List.set_cons_succ]
              refine wpAnyT_take (i := 14) (v := ?_) (by simp only [List.getElem?_toArray, List.getElem?_cons_zero, List.getElem?_cons_succ]; rfl) (by kernel_rfl) (by kernel_rfl) (by kernel_rfl) (by kernel_rfl) (by kernel_rfl) (fun _ _ _ h => h) (Or.inl ⟨by rfl, ?_⟩) (by assumption) ?_
              rotate_left
              · intro w hSw; (try dsimp only at hSw); go_simp; try (with_reducible rfl)
              try simp only [Act.put, List.setIfInBounds_toArray, List.set_cons_zero, List.set_cons_succ]
              refine wpAnyT_take (i := 15) (v := ?_) (by simp only [List.getElem?_toArray, List.getElem?_cons_zero, List.getElem?_cons_succ]; rfl) (by kernel_rfl) (by kernel_rfl) (by kernel_rfl) (by kernel_rfl) (by kernel_rfl) (fun _ _ _ h => h) (Or.inl ⟨by rfl, ?_⟩) (by assumption) ?_
              rotate_left
              · intro w hSw; (try dsimp only at hSw); go_simp; try (with_reducible rfl)
              try simp only [Act.put, List.setIfInBounds_toArray, List.set_cons_zero, List.set_cons_succ]
              refine wpAnyT_take (i := 16) (v := ?_) (by simp only [List.getElem?_toArray, List.getElem?_cons_zero, List.getElem?_cons_succ]; rfl) (by kernel_rfl) (by kernel_rfl) (by kernel_rfl) (by kernel_rfl) (by kernel_rfl) (fun _ _ _ h => h) (Or.inl ⟨by rfl, ?_⟩) (by assumption) ?_
              rotate_left
              · intro w hSw; (try dsimp only at hSw); go_simp; try (with_reducible rfl)
              try simp only [Act.put, List.setIfInBounds_toArray, List.set_cons_zero, List.set_cons_succ]
              refine wpAnyT_take (i := 17) (v := ?_) (by simp only [List.getElem?_toArray, List.getElem?_cons_zero, List.getElem?_cons_succ]; rfl) (by kernel_rfl) (by kernel_rfl) (by kernel_rfl) (by kernel_rfl) (by kernel_rfl) (fun _ _ _ h => h) (Or.inl ⟨by rfl, ?_⟩) (by assumption) ?_
              rotate_left
              · intro w hSw; (try dsimp only at hSw); go_simp; try (with_reducible rfl)
              try simp only [Act.put, List.setIfInBounds_toArray, List.set_cons_zero, List.set_cons_succ]
              refine wpAnyT_take (i := 18) (v := ?_) (by simp only [List.getElem?_toArray, List.getElem?_cons_zero, List.getElem?_cons_succ]; rfl) (by kernel_rfl) (by kernel_rfl) (by kernel_rfl) (by kernel_rfl) (by kernel_rfl) (fun _ _ _ h => h) (Or.inl ⟨by rfl, ?_⟩) (by assumption) ?_
              rotate_left
              · intro w hSw; (try dsimp only at hSw); go_simp; try (with_reducible rfl)
              try simp only [Act.put, List.setIfInBounds_toArray, List.set_cons_zero, List.set_cons_succ]
              refine wpAnyT_take (i := 19) (v := ?_) (by simp only [List.getElem?_toArray, List.getElem?_cons_zero, List.getElem?_cons_succ]; rfl) (by kernel_rfl) (by kernel_rfl) (by kernel_rfl) (by kernel_rfl) (by kernel_rfl) (fun _ _ _ h => h) (Or.inl ⟨by rfl, ?_⟩) (by assumption) ?_
              rotate_left
              · intro w hSw; (try dsimp only at hSw); go_simp; try (with_reducible rfl)
              try simp only [Act.put, List.setIfInBounds_toArray, List.set_cons_zero, List.set_cons_succ]
              refine wpAnyT_take (i := 20) (v := ?_) (by simp only [List.getElem?_toArray, List.getElem?_cons_zero, List.getElem?_cons_succ]; rfl) (by kernel_rfl) (by kernel_rfl) (by kernel_rfl) (by kernel_rfl) (by kernel_rfl) (fun _ _ _ h => h) (Or.inl ⟨by rfl, ?_⟩) (by assumption) ?_
              rotate_left
              · intro w hSw; (try dsimp only at hSw); go_simp; try (with_reducible rfl)
              try simp only [Act.put, List.setIfInBounds_toArray, List.set_cons_zero, List.set_cons_succ]
              refine wpAnyT_take (i := 21) (v := ?_) (by simp only [List.getElem?_toArray, List.getElem?_cons_zero, List.getElem?_cons_succ]; rfl) (by kernel_rfl) (by kernel_rfl) (by kernel_rfl) (by kernel_rfl) (by kernel_rfl) (fun _ _ _ h => h) (Or.inl ⟨by rfl, ?_⟩) (by assumption) ?_
              rotate_left
              · intro w hSw; (try dsimp only at hSw); go_simp; try (with_reducible rfl)
              try simp only [Act.put, List.setIfInBounds_toArray, List.set_cons_zero, List.set_cons_succ]
              refine wpAnyT_take (i := 22) (v := ?_) (by simp only [List.getElem?_toArray, List.getElem?_cons_zero, List.getElem?_cons_succ]; rfl) (by kernel_rfl) (by kernel_rfl) (by kernel_rfl) (by kernel_rfl) (by kernel_rfl) (fun _ _ _ h => h) (Or.inl ⟨by rfl, ?_⟩) (by assumption) ?_
              rotate_left
              · intro w hSw; (try dsimp only at hSw); go_simp; try (with_reducible rfl)
              try simp only [Act.put, List.setIfInBounds_toArray, List.set_cons_zero, List.set_cons_succ]
              refine wpAnyT_take (i := 23) (v := ?_) (by simp only [List.getElem?_toArray, List.getElem?_cons_zero, List.getElem?_cons_succ]; rfl) (by kernel_rfl) (by kernel_rfl) (by kernel_rfl) (by kernel_rfl) (by kernel_rfl) (fun _ _ _ h => h) (Or.inl ⟨by rfl, ?_⟩) (by assumption) ?_
              rotate_left
              · intro w hSw; (try dsimp only at hSw); go_simp; try (with_reducible rfl)
              try simp only [Act.put, List.setIfInBounds_toArray, List.set_cons_zero, List.set_cons_succ]
              refine wpAnyT_ready (rs := [24]) (by kernel_rfl) (by simp) (AllReadyT.store (by simp only [List.getElem?_toArray, List.getElem?_cons_zero, List.getElem?_cons_succ]; rfl) (by simp) (fun K hK => ?_) AllReadyT.nil)
              go_simp
              refine hK.out _ _ ?_
              clear hK K
              try simp only [Act.put, List.setIfInBounds_toArray, List.set_cons_zero, List.set_cons_succ]
              refine wpAnyT_ready (rs := [25]) (by kernel_rfl) (by simp) (AllReadyT.store (by simp only [List.getElem?_toArray, List.getElem?_cons_zero, List.getElem?_cons_succ]; rfl) (by simp) (fun K hK => ?_) AllReadyT.nil)
              go_simp
              refine hK.out _ _ ?_
              clear hK K
              try simp only [Act.put, List.setIfInBounds_toArray, List.set_cons_zero, List.set_cons_succ]
              refine wpAnyT_done (by kernel_rfl) ?_ _
              refine NoPanic.normal ?_
              go_wp2
              go_meet
              obtain ⟨g0, g1, g2, g3⟩ := HX.out
              refine ⟨by rw [← HQ.out, if_neg Hn0.out], ?_, (hl1.drew.alloc (by have := hl1.size; simp; omega) _)⟩
              exact XOk.new (w := w4.drew) hl1.size (f := kT nw i ks.1 ks.2) (by rw [← g0]; simp [kT, Hk4.out.1, Hk4.out.2]) (by rw [← g1]; simp [kT, Hk4.out.1, Hk4.out.2]) (by rw [← g2]; simp [kT, Hk4.out.1, Hk4.out.2]) (by rw [← g3]; simp [kT, Hk4.out.1, Hk4.out.2])
            · skip
              have hKT : ∀ r, kT nw i ks.1 ks.2 r = ks.2.getD (4 * i - 4 + r) 0 := fun r => by
                unfold kT
                rw [← HQ.out, if_neg h0, if_neg h4]
              have HKT := Lib.hid hKT
              have Hn0 := Lib.hid h0
              have H4 := Lib.hid h4
              have HT := Lib.hid (And.intro t0 (And.intro t1 (And.intro t2 t3)))
              clear hKT h0 h4 t0 t1 t2 t3 bx0 bx1 bx2 bx3
              have fin : XOk wr (kT nw i ks.1 ks.2) (.slice (some ⟨gx0, 0, none⟩) 4 cx0) w4 := by
                obtain ⟨g0, g1, g2, g3⟩ := HX.out
                obtain ⟨t0, t1, t2, t3⟩ := HT.out
                refine ⟨gx0, cx0, rfl, hgx1, hgx2, fun j hj => ?_⟩
                rw [HKT.out]
                match j, hj with
                | 0, _ => rw [Nat.add_zero, g0]; exact t0
                | 1, _ => rw [g1]; exact t1
                | 2, _ => rw [g2]; exact t2
                | 3, _ => rw [g3]; exact t3
              have Hfin := Lib.hid fin
              clear fin
              by_cases h8 : nw = 8
              · have hdd : ((4 : Int) * (nw : Int) == 32) = true := by rw [beq_iff_eq]; omega
                have h4 : ¬ q = 4 := fun e => H4.out ⟨by omega, e⟩
                have b4 : (mq == 16) = false := by rw [beq_eq_false_iff_ne, HM.out]; omega
                clear h4 h8
                go_wp2
                go_meet
                exact ⟨by rw [← HQ.out, if_neg Hn0.out], Hfin.out, hl1⟩
              · have d6 : ((4 : Int) * (nw : Int) == 32) = false := by rw [beq_eq_false_iff_ne]; omega
                clear h8
                go_wp2
                go_meet
                exact ⟨by rw [← HQ.out, if_neg Hn0.out], Hfin.out, hl1⟩
        case rest =>
          obtain ⟨rfl, ⟨gx, cx, rfl, hgx1, hgx2, hxc⟩, hlT⟩ := hcut
          have hkw : ∀ r, r < 4 → (kWord nw i ks.1 ks.2).take (r + 1) = (kWord nw i ks.1 ks.2).take r ++ [ks.2.getD (4 * (i - nw) + r) 0 ^^^ kT nw i ks.1 ks.2 r] := fun r hr => by
            unfold kWord
            rw [tab_take_succ _ hr]
          obtain ⟨f, hf⟩ : ∃ f, f = kT nw i ks.1 ks.2 := ⟨_, rfl⟩
          rw [← hf] at hxc hkw
          have hkl : (kWord nw i ks.1 ks.2).length = 4 := by simp [kWord]
          generalize hkv : kWord nw i ks.1 ks.2 = kv at hkw hkl
          have HKW := Lib.hid (And.intro hkw (And.intro hkl hkv))
          clear hf hkw hkl hkv
          have ho1 : wc.ownsRow w0.heap.size 5 1 (.slice (some ⟨gw, 0, none⟩) (4 * i) cap) (4 * i) ((ks.2 ++ kv.take 0).map B8) := by
            rw [List.take_zero, List.append_nil]
            exact own_below HO.out hlT
          have HS1 := Lib.hid (And.intro ho1 (And.intro (HS.out.1.below hlT HS.out.1.lt) (And.intro (HS.out.2.1.below hlT HS.out.2.1.lt) (And.intro HN.out.1 (And.intro HN.out.2 (HS.out.2.2.trans (hlT.mono HS.out.2.2.size)))))))
          have Hxc := Lib.hid hxc
          have hng : (Value.slice (some ⟨gw, 0, none⟩) (4 * i) cap).ownBlock ≠ some gx := by simp [Value.ownBlock]; omega
          have Hng := Lib.hid hng
          have hgx2' : w0.heap.size ≤ gx := by omega
          clear ho1 hlT hxc hng
          obtain ⟨rc, hrc⟩ : ∃ rc, rc = if i % nw = 0 then xt ks.1 else ks.1 := ⟨_, rfl⟩
          rw [← hrc]
          have Hrc := Lib.hid hrc
          clear hrc t0 t1 t2 t3 bx0 bx1 bx2 bx3 hl1
          go_wp2
          go_loopw [7, 11] (fun vw vj wx => ∃ r : Nat, r ≤ 4 ∧ vj = .int .i64 r ∧ wx.ownsRow w0.heap.size 5 1 vw (4 * i + r) ((ks.2 ++ kv.take r).map B8) ∧
            (∀ j, j < 4 → wx.cell? ⟨gx, j, none⟩ = some (B8 (f j))) ∧ vw.ownBlock ≠ some gx ∧ gx < wx.heap.size ∧
            Blk wx a 5 (brow (tab 256 sbox)) ∧ Blk wx b 5 (brow (tab 256 (tboxTo 256))) ∧ vw.ownBlock ≠ some a ∧ vw.ownBlock ≠ some b ∧ Below w0.heap.size w0 wx) (fun _ vj _ => 4 - (intOf vj).toNat)
          case atStart => exact ⟨0, by omega, rfl, HS1.out.1, Hxc.out, Hng.out, hgx2, HS1.out.2.1, HS1.out.2.2.1, HS1.out.2.2.2.1, HS1.out.2.2.2.2.1, HS1.out.2.2.2.2.2⟩
          case round =>
            obtain ⟨r, hr4, rfl, ho, hxc, hng, hgx3, hsa, htb, hna, hnb, hlow⟩ := hrel
            clear HS1 Hxc Hng HS HO
            by_cases hlr : r < 4
            · have hri : (r : Int) < 4 := by omega
              obtain ⟨gy, capx, rfl, hgy, hcapx, hgyl⟩ := own_some ho (by omega)
              have hcl := ho.cells (g := gy) rfl (4 * k + r) (B8 (ks.2.getD (4 * k + r) 0)) (by
                have h1 : 4 * k + r < ks.2.length := by have := Hi.out.1; omega
                rw [List.getElem?_map, List.getElem?_append_left h1]
                simp [h1])
              rw [addr_add, Nat.zero_add] at hcl
              have hcx := hxc r hlr
              have hx := xor_walk (ks.2.getD (4 * k + r) 0) (f r)
              have hkr := HKW.out.1 r hlr
              rw [show i - nw = k by have := Hi.out.1; omega] at hkr
              generalize ks.2.getD (4 * k + r) 0 ^^^ f r = z at hx hkr
              generalize ks.2.getD (4 * k + r) 0 = y at hcl hx
              have hk1 : (4 : Int) * i + r - 4 * nw = 4 * k + r := by have := Hi.out.1; omega
              have hw1 : IntKind.i64.wrap ((4 : Int) * i + r) = 4 * i + r := wrap_i64 (by omega) (by omega)
              have hw2 : IntKind.i64.wrap ((4 : Int) * k + r) = 4 * k + r := wrap_i64 (by omega) (by have := Hi.out.2; omega)
              have hb2 : ((4 : Int) * k + r) < 4 * i + r := by have := Hi.out.1; omega
              have hb0 : (0 : Int) ≤ 4 * k + r := by omega
              have ht : ((4 : Int) * k + r).toNat = 4 * k + r := by omega
              have HO := Lib.hid ho
              have HC := Lib.hid (And.intro hsa (And.intro htb (And.intro hna (And.intro hnb (And.intro hxc hng)))))
              have HL := Lib.hid hlow
              have Hkr := Lib.hid hkr
              have hz : Bytes (wr.drew.alloc (.cells #[B8 z] 5)) (some ⟨wr.heap.size, 0, none⟩) 1 [z] := brow_bytes (l := [z]) (Blk.new wr.drew 5 _)
              have Hz := Lib.hid hz
              clear ho hsa htb hna hnb hxc hng hlow hkr hz
              go_upto_region 19 with fail
              refine wp_region_noPanic ?_
              refine wp_region_T (fun w' => w'.cell? ⟨gy, 4 * k + r, none⟩ = some (B8 y) ∧ w'.cell? ⟨gx, r, none⟩ = some (B8 (f r))) [15, 16] (by kernel_rfl) ?_ (fun hHeld => ?_)
              · exact ⟨hcl, hcx⟩
              refine wpAnyT_take (i := 0) (v := ?_) (by simp only [List.getElem?_toArray, List.getElem?_cons_zero, List.getElem?_cons_succ]; rfl) (by kernel_rfl) (by kernel_rfl) (by kernel_rfl) (by kernel_rfl) (by kernel_rfl) (fun _ _ _ h => h) (Or.inl ⟨by rfl, ?_⟩) (by assumption) ?_
              rotate_left
              · intro w hSw; (try dsimp only at hSw); go_simp; try (with_reducible rfl)
              try simp only [Act.put, List.setIfInBounds_toArray, List.set_cons_zero, List.set_cons_succ]
              refine wpAnyT_take (i := 1) (v := ?_) (by simp only [List.getElem?_toArray, List.getElem?_cons_zero, List.getElem?_cons_succ]; rfl) (by kernel_rfl) (by kernel_rfl) (by kernel_rfl) (by kernel_rfl) (by kernel_rfl) (fun _ _ _ h => h) (Or.inl ⟨by rfl, ?_⟩) (by assumption) ?_
              rotate_left
              · intro w hSw; (try dsimp only at hSw); go_simp; try (with_reducible rfl)
              try simp only [Act.put, List.setIfInBounds_toArray, List.set_cons_zero, List.set_cons_succ]
              refine wpAnyT_take (i := 2) (v := ?_) (by simp only [List.getElem?_toArray, List.getElem?_cons_zero, List.getElem?_cons_succ]; rfl) (by kernel_rfl) (by kernel_rfl) (by kernel_rfl) (by kernel_rfl) (by kernel_rfl) (fun _ _ _ h => h) (Or.inl ⟨by rfl, ?_⟩) (by assumption) ?_
              rotate_left
              · intro w hSw; (try dsimp only at hSw); go_simp; try (with_reducible rfl)
              try simp only [Act.put, List.setIfInBounds_toArray, List.set_cons_zero, List.set_cons_succ]
              refine wpAnyT_take (i := 3) (v := ?_) (by simp only [List.getElem?_toArray, List.getElem?_cons_zero, List.getElem?_cons_succ]; rfl) (by kernel_rfl) (by kernel_rfl) (by kernel_rfl) (by kernel_rfl) (by kernel_rfl) (fun _ _ _ h => h) (Or.inl ⟨by rfl, ?_⟩) (by assumption) ?_
              rotate_left
              · intro w hSw; (try dsimp only at hSw); go_simp; try (with_reducible rfl)
              try simp only [Act.put, List.setIfInBounds_toArray, List.set_cons_zero, List.set_cons_succ]
              refine wpAnyT_take (i := 4) (v := ?_) (by simp only [List.getElem?_toArray, List.getElem?_cons_zero, List.getElem?_cons_succ]; rfl) (by kernel_rfl) (by kernel_rfl) (by kernel_rfl) (by kernel_rfl) (by kernel_rfl) (fun _ _ _ h => h) (Or.inl ⟨by rfl, ?_⟩) (by assumption) ?_
              rotate_left
              · intro w hSw; (try dsimp only at hSw); go_simp; try (with_reducible rfl)
              try simp only [Act.put, List.setIfInBounds_toArray, List.set_cons_zero, List.set_cons_succ]
              refine wpAnyT_take (i := 5) (v := ?_) (by simp only [List.getElem?_toArray, List.getElem?_cons_zero, List.getElem?_cons_succ]; rfl) (by kernel_rfl) (by kernel_rfl) (by kernel_rfl) (by kernel_rfl) (by kernel_rfl) (fun _ _ _ h => h) (Or.inl ⟨by rfl, ?_⟩) (by assumption) ?_
              rotate_left
              · intro w hSw; (try dsimp only at hSw); go_simp; try (with_reducible rfl)
              try simp only [Act.put, List.setIfInBounds_toArray, List.set_cons_zero, List.set_cons_succ]
              refine wpAnyT_take (i := 6) (v := ?_) (by simp only [List.getElem?_toArray, List.getElem?_cons_zero, List.getElem?_cons_succ]; rfl) (by kernel_rfl) (by kernel_rfl) (by kernel_rfl) (by kernel_rfl) (by kernel_rfl) (fun _ _ _ h => h) (Or.inl ⟨by rfl, ?_⟩) (by assumption) ?_
              rotate_left
              · intro w hSw; (try dsimp only at hSw); go_simp; try (with_reducible rfl)
              try simp only [Act.put, List.setIfInBounds_toArray, List.set_cons_zero, List.set_cons_succ]
              refine wpAnyT_take (i := 7) (v := ?_) (by simp only [List.getElem?_toArray, List.getElem?_cons_zero, List.getElem?_cons_succ]; rfl) (by kernel_rfl) (by kernel_rfl) (by kernel_rfl) (by kernel_rfl) (by kernel_rfl) (fun _ _ _ h => h) (Or.inl ⟨by rfl, ?_⟩) (by assumption) ?_
              rotate_left
              · intro w hSw; (try dsimp only at hSw); go_simp; try (with_reducible rfl)
              try simp only [Act.put, List.setIfInBounds_toArray, List.set_cons_zero, List.set_cons_succ]
              refine wpAnyT_take (i := 8) (v := ?_) (by simp only [List.getElem?_toArray, List.getElem?_cons_zero, List.getElem?_cons_succ]; rfl) (by kernel_rfl) (by kernel_rfl) (by kernel_rfl) (by kernel_rfl) (by kernel_rfl) (fun _ _ _ h => h) (Or.inl ⟨by rfl, ?_⟩) (by assumption) ?_
              rotate_left
              · intro w hSw; (try dsimp only at hSw); go_simp; try (with_reducible rfl)
              try simp only [Act.put, List.setIfInBounds_toArray, List.set_cons_zero, List.set_cons_succ]
              refine wpAnyT_take (i := 9) (v := ?_) (by simp only [List.getElem?_toArray, List.getElem?_cons_zero, List.getElem?_cons_succ]; rfl) (by kernel_rfl) (by kernel_rfl) (by kernel_rfl) (by kernel_rfl) (by kernel_rfl) (fun _ _ _ h => h) (Or.inl ⟨by rfl, ?_⟩) (by assumption) ?_
              rotate_left
              · intro w hSw; (try dsimp only at hSw); go_simp; try (with_reducible rfl)
              try simp only [Act.put, List.setIfInBounds_toArray, List.set_cons_zero, List.set_cons_succ]
              refine wpAnyT_take (i := 10) (v := ?_) (by simp only [List.getElem?_toArray, List.getElem?_cons_zero, List.getElem?_cons_succ]; rfl) (by kernel_rfl) (by kernel_rfl) (by kernel_rfl) (by kernel_rfl) (by kernel_rfl) (fun _ _ _ h => h) (Or.inl ⟨by rfl, ?_⟩) (by assumption) ?_
              rotate_left
              · intro w hSw; (try dsimp only at hSw); go_simp; try (with_reducible rfl)
              try simp only [Act.put, List.setIfInBounds_toArray, List.set_cons_zero, List.set_cons_succ]
              refine wpAnyT_take (i := 11) (v := ?_) (by simp only [List.getElem?_toArray, List.getElem?_cons_zero, List.getElem?_cons_succ]; rfl) (by kernel_rfl) (by kernel_rfl) (by kernel_rfl) (by kernel_rfl) (by kernel_rfl) (fun _ _ _ h => h) (Or.inl ⟨by rfl, ?_⟩) (by assumption) ?_
              rotate_left
              · intro w hSw; (try dsimp only at hSw); go_simp; try (with_reducible rfl)
              try simp only [Act.put, List.setIfInBounds_toArray, List.set_cons_zero, List.set_cons_succ]
              refine wpAnyT_take (i := 12) (v := ?_) (by simp only [List.getElem?_toArray, List.getElem?_cons_zero, List.getElem?_cons_succ]; rfl) (by kernel_rfl) (by kernel_rfl) (by kernel_rfl) (by kernel_rfl) (by kernel_rfl) (fun _ _ _ h => h) (Or.inl ⟨by rfl, ?_⟩) (by assumption) ?_
              rotate_left
              · intro w hSw; (try dsimp only at hSw); go_simp; try (with_reducible rfl)
              try simp only [Act.put, List.setIfInBounds_toArray, List.set_cons_zero, List.set_cons_succ]
              refine wpAnyT_take (i := 13) (v := ?_) (by simp only [List.getElem?_toArray, List.getElem?_cons_zero, List.getElem?_cons_succ]; rfl) (by kernel_rfl) (by kernel_rfl) (by kernel_rfl) (by kernel_rfl) (by kernel_rfl) (fun _ _ _ h => h) (Or.inl ⟨by rfl, ?_⟩) (by assumption) ?_
              rotate_left
              · intro w hSw; (try dsimp only at hSw); go_simp; try (with_reducible rfl)
              try simp only [Act.put, List.setIfInBounds_toArray, List.set_cons_zero, List.set_cons_succ]
              refine wpAnyT_ready (rs := [14]) (by kernel_rfl) (by simp) (AllReadyT.cons (by simp only [List.getElem?_toArray, List.getElem?_cons_zero, List.getElem?_cons_succ]; rfl) (fun K hK => ?_) AllReadyT.nil)
              go_simp
              refine hK.out _ _ ?_ (fun hHeld => ?_)
              · exact ⟨(World.cell?_alloc_lt _ _ _ (World.block_lt_of_cell? _ _ hHeld.1)).trans hHeld.1, (World.cell?_alloc_lt _ _ _ (World.block_lt_of_cell? _ _ hHeld.2)).trans hHeld.2⟩
              clear hK K
              try simp only [Act.put, List.setIfInBounds_toArray, List.set_cons_zero, List.set_cons_succ]
              refine wpAnyT_ready (rs := [15]) (by kernel_rfl) (by simp) (AllReadyT.store (by simp only [List.getElem?_toArray, List.getElem?_cons_zero, List.getElem?_cons_succ]; rfl) (by simp) (fun K hK => ?_) AllReadyT.nil)
              refine step_append_bytes _ rfl (.tmp 119) (.tmp 133) 22 rfl w0.heap.size 5 Try.underlying22 info5 _ (4 * i + r) _ rfl ((World.ownsRow.drew HO.out).alloc _) (some ⟨wr.heap.size, 0, none⟩) 1 1 [z] rfl Hz.out (by omega) (by have := HL.out.size; simp; omega) ?_
              intro v9 w9 hown hg hat
              refine hK.out _ _ ?_
              clear hK K
              try simp only [Act.put, List.setIfInBounds_toArray, List.set_cons_zero, List.set_cons_succ]
              refine wpAnyT_ready (rs := [16]) (by kernel_rfl) (by simp) (AllReadyT.store (by simp only [List.getElem?_toArray, List.getElem?_cons_zero, List.getElem?_cons_succ]; rfl) (by simp) (fun K hK => ?_) AllReadyT.nil)
              go_simp
              refine hK.out _ _ ?_
              clear hK K
              try simp only [Act.put, List.setIfInBounds_toArray, List.set_cons_zero, List.set_cons_succ]
              refine wpAnyT_done (by kernel_rfl) ?_ _
              refine NoPanic.normal ?_
              go_wp2
              obtain ⟨hsa, htb, hna, hnb, hxc, hng⟩ := HC.out
              have hlt' := HL.out.size
              have kb : ∀ g cs, Blk wr g 5 cs → (Value.slice (some ⟨gy, 0, none⟩) (4 * i + r) capx).ownBlock ≠ some g → Blk w9 g 5 cs ∧ v9.ownBlock ≠ some g := fun g cs h hn =>
                ⟨(hg.block g (h.drew.alloc _).lt hn.symm).trans (h.drew.alloc _), by
                  rcases hat with h' | h'
                  · rw [h']; exact hn
                  · rw [h']; have := h.lt; simp; omega⟩
              obtain ⟨p1, p2⟩ := kb a _ hsa hna
              obtain ⟨p3, p4⟩ := kb b _ htb hnb
              refine ⟨⟨r + 1, by omega, by go_num, by rw [Hkr.out, ← List.append_assoc]; exact hown, fun j hj => ?_, ?_, ?_, p1, p3, p2, p4, ?_⟩, by simp [intOf]; omega⟩
              · exact (World.cell?_of_block (hg.block gx (by simp; omega) hng.symm)).trans ((World.cell?_alloc_lt _ _ _ hgx3).trans (hxc j hj))
              · rcases hat with h' | h'
                · rw [h']; exact hng
                · rw [h']; simp; omega
              · have := hg.size; simp at this; omega
              · exact (HL.out.drew.alloc hlt' _).grown hg (by simp; omega) (own_ge HO.out)
            · obtain rfl : r = 4 := by omega
              have hke : kExp nw key (k + 1) = (rc, ks.2 ++ kv) := by
                have e1 := Hi.out.1
                have e2 := HKW.out.2.2
                rw [kExp, HW.out]
                simp only [← e1]
                rw [e2, Hrc.out]
              rw [List.take_of_length_le (by have := HKW.out.2.1; omega)] at ho
              have HE := Lib.hid (And.intro hke (And.intro ho (And.intro hsa (And.intro htb (And.intro hna (And.intro hnb hlow))))))
              clear hke ho hsa htb hna hnb hlow hxc hng
              go_wp2
              obtain ⟨e1, e2, e3⟩ := Hi.out
              go_roundg (gk - 1)
              case measure => omega
              case rel => exact ⟨k + 1, by omega, by rw [HE.out.1], by rw [HE.out.1, show 4 * (nw + (k + 1)) = 4 * i + 4 by omega]; exact HE.out.2.1, HE.out.2.2.1, HE.out.2.2.2.1, HE.out.2.2.2.2.1, HE.out.2.2.2.2.2.1, HE.out.2.2.2.2.2.2⟩
      · have hk2 : k = 3 * nw + 28 := by omega
        have hall : (kExp nw key k).2 = kAll nw key := by rw [hk2]; rfl
        rw [hall, show 4 * (nw + k) = 16 * (nw + 7) by omega] at ho
        have hln := kAll_len nw key HB.out.1
        obtain ⟨gw, cap, rfl, hgw, hcap, hgl⟩ := own_some ho (by omega)
        have hlt2 : ¬ ((16 * (nw + 7) : Nat) : Int) < 16 * ((nw : Int) + 7) := by omega
        have hlt3 : ¬ (16 : Int) * ((nw : Int) + 7) < 16 * ((nw : Int) + 7) := by omega
        generalize (kExp nw key k).1 = rc
        have HE := Lib.hid (And.intro hln (And.intro ho (And.intro hsa (And.intro htb hlow))))
        clear hall hln ho hsa htb hlow hk2 hlt hk hw
        go_wp2
        obtain ⟨g, hg⟩ : ∃ g, g = wr.heap.size := ⟨_, rfl⟩
        have HG := Lib.hid (And.intro (show a ≠ g by have := HE.out.2.2.1.lt; omega) (And.intro (show b ≠ g by have := HE.out.2.2.2.1.lt; omega) (show w0.heap.size ≤ g by have := HE.out.2.2.2.2.size; omega)))
        rw [← hg]
        have hbk : Blk (wr.alloc (.cells #[.slice none 0 0, .slice (some ⟨a, 0, none⟩) 256 256, .slice (some ⟨b, 0, none⟩) 256 256] 35)) g 35 #[.slice none 0 0, .slice (some ⟨a, 0, none⟩) 256 256, .slice (some ⟨b, 0, none⟩) 256 256] := by rw [hg]; exact Blk.new wr 35 _
        have HK := Lib.hid hbk
        clear hg hbk
        go_loopw [13] (fun vi wx => ∃ (m : Nat) (kvv : Value), m ≤ nw + 7 ∧ vi = .int .i64 m ∧ wx.ownsRow w0.heap.size 22 1 kvv m ((List.range m).map fun k => .slice (some ⟨gw, 16 * k, none⟩) 16 16) ∧
          Blk wx g 35 #[kvv, .slice (some ⟨a, 0, none⟩) 256 256, .slice (some ⟨b, 0, none⟩) 256 256] ∧ Blk wx a 5 (brow (tab 256 sbox)) ∧ Blk wx b 5 (brow (tab 256 (tboxTo 256))) ∧
          wx.ownsRow w0.heap.size 5 1 (.slice (some ⟨gw, 0, none⟩) (16 * (nw + 7)) cap) (16 * (nw + 7)) ((kAll nw key).map B8) ∧ Below w0.heap.size w0 wx) (fun vi _ => nw + 7 - (intOf vi).toNat)
        case atStart => exact ⟨0, .slice none 0 0, by omega, rfl, World.ownsRow_nil _ _ _ _, HK.out, HE.out.2.2.1.alloc _, HE.out.2.2.2.1.alloc _, HE.out.2.1.alloc _, HE.out.2.2.2.2.alloc HE.out.2.2.2.2.size _⟩
        case round =>
          obtain ⟨m, kvv, hm, rfl, hok, hc, hsa, htb, how, hlow⟩ := hrel
          by_cases hlt : m < nw + 7
          · have hi1 : (m : Int) ≤ nw + 6 := by omega
            have C0 : wr.cell? ⟨g, 0, none⟩ = some kvv := hc.cell 0
            have F0 := hc.frozen 0
            have hlc : (⟨g, 0, none⟩ : Addr).block < wr.drew.heap.size := hc.lt
            obtain ⟨i0, hi0, hz0, hz1, hz2⟩ := info_parts info22
            have hsl := fun w => slice_lhm (w := w) (b := gw) (o := 0) (n := 16 * (nw + 7)) (c := cap) (lo := 16 * m) (hi := 16 * m + 16) (mx := 16 * m + 16) (l := 16 * (m : Int)) (h := 16 * (m : Int) + 16) (m := 16 * (m : Int) + 16) (by omega) (by omega) (by omega) (by omega) (by omega) (by omega) (by omega)
            rw [Nat.zero_add, show 16 * m + 16 - 16 * m = 16 by omega] at hsl
            have hw5 : IntKind.i64.wrap (16 * (m : Int)) = 16 * m := wrap_i64 (by omega) (by omega)
            have hw6 : IntKind.i64.wrap (16 * (m : Int) + 16) = 16 * m + 16 := wrap_i64 (by omega) (by omega)
            have HH := Lib.hid (And.intro hok (And.intro hc (And.intro hsa (And.intro htb (And.intro how hlow)))))
            clear hok how hc hlow hsa htb
            go_upto_region 24 with fail
            refine wp_region_noPanic ?_
            refine wp_region_T (fun w' => w'.cell? ⟨g, 0, none⟩ = some kvv ∧ w'.frozen? ⟨g, 0, none⟩ = false) [19] (by kernel_rfl) ?_ (fun hHeld => ?_)
            · exact ⟨C0, F0⟩
            refine wpAnyT_take (i := 0) (v := ?_) (by simp only [List.getElem?_toArray, List.getElem?_cons_zero, List.getElem?_cons_succ]; rfl) (by kernel_rfl) (by kernel_rfl) (by kernel_rfl) (by kernel_rfl) (by kernel_rfl) (fun _ _ _ h => h) (Or.inl ⟨by rfl, ?_⟩) (by assumption) ?_
            rotate_left
            · intro w hSw; (try dsimp only at hSw); go_simp; try (with_reducible rfl)
            try simp only [Act.put, List.setIfInBounds_toArray, List.set_cons_zero, List.set_cons_succ]
            refine wpAnyT_take (i := 1) (v := ?_) (by simp only [List.getElem?_toArray, List.getElem?_cons_zero, List.getElem?_cons_succ]; rfl) (by kernel_rfl) (by kernel_rfl) (by kernel_rfl) (by kernel_rfl) (by kernel_rfl) (fun _ _ _ h => h) (Or.inl ⟨by rfl, ?_⟩) (by assumption) ?_
            rotate_left
            · intro w hSw; (try dsimp only at hSw); go_simp; try (with_reducible rfl)
            try simp only [Act.put, List.setIfInBounds_toArray, List.set_cons_zero, List.set_cons_succ]
            refine wpAnyT_take (i := 2) (v := ?_) (by simp only [List.getElem?_toArray, List.getElem?_cons_zero, List.getElem?_cons_succ]; rfl) (by kernel_rfl) (by kernel_rfl) (by kernel_rfl) (by kernel_rfl) (by kernel_rfl) (fun _ _ _ h => h) (Or.inl ⟨by rfl, ?_⟩) (by assumption) ?_
            rotate_left
            · intro w hSw; (try dsimp only at hSw); go_simp; try (with_reducible rfl)
            try simp only [Act.put, List.setIfInBounds_toArray, List.set_cons_zero, List.set_cons_succ]
            refine wpAnyT_take (i := 3) (v := ?_) (by simp only [List.getElem?_toArray, List.getElem?_cons_zero, List.getElem?_cons_succ]; rfl) (by kernel_rfl) (by kernel_rfl) (by kernel_rfl) (by kernel_rfl) (by kernel_rfl) (fun _ _ _ h => h) (Or.inl ⟨by rfl, ?_⟩) (by assumption) ?_
            rotate_left
            · intro w hSw; (try dsimp only at hSw); go_simp; try (with_reducible rfl)
            try simp only [Act.put, List.setIfInBounds_toArray, List.set_cons_zero, List.set_cons_succ]
            refine wpAnyT_take (i := 4) (v := ?_) (by simp only [List.getElem?_toArray, List.getElem?_cons_zero, List.getElem?_cons_succ]; rfl) (by kernel_rfl) (by kernel_rfl) (by kernel_rfl) (by kernel_rfl) (by kernel_rfl) (fun _ _ _ h => h) (Or.inl ⟨by rfl, ?_⟩) (by assumption) ?_
            rotate_left
            · intro w hSw; (try dsimp only at hSw); go_simp; try (with_reducible rfl)
            try simp only [Act.put, List.setIfInBounds_toArray, List.set_cons_zero, List.set_cons_succ]
            refine wpAnyT_take (i := 5) (v := ?_) (by simp only [List.getElem?_toArray, List.getElem?_cons_zero, List.getElem?_cons_succ]; rfl) (by kernel_rfl) (by kernel_rfl) (by kernel_rfl) (by kernel_rfl) (by kernel_rfl) (fun _ _ _ h => h) (Or.inl ⟨by rfl, ?_⟩) (by assumption) ?_
            rotate_left
            · intro w hSw; (try dsimp only at hSw); go_simp; try (with_reducible rfl)
            try simp only [Act.put, List.setIfInBounds_toArray, List.set_cons_zero, List.set_cons_succ]
            refine wpAnyT_take (i := 6) (v := ?_) (by simp only [List.getElem?_toArray, List.getElem?_cons_zero, List.getElem?_cons_succ]; rfl) (by kernel_rfl) (by kernel_rfl) (by kernel_rfl) (by kernel_rfl) (by kernel_rfl) (fun _ _ _ h => h) (Or.inl ⟨by rfl, ?_⟩) (by assumption) ?_
            rotate_left
            · intro w hSw; (try dsimp only at hSw); go_simp; try (with_reducible rfl)
            try simp only [Act.put, List.setIfInBounds_toArray, List.set_cons_zero, List.set_cons_succ]
            refine wpAnyT_take (i := 7) (v := ?_) (by simp only [List.getElem?_toArray, List.getElem?_cons_zero, List.getElem?_cons_succ]; rfl) (by kernel_rfl) (by kernel_rfl) (by kernel_rfl) (by kernel_rfl) (by kernel_rfl) (fun _ _ _ h => h) (Or.inl ⟨by rfl, ?_⟩) (by assumption) ?_
            rotate_left
            · intro w hSw; (try dsimp only at hSw); go_simp; try (with_reducible rfl)
            try simp only [Act.put, List.setIfInBounds_toArray, List.set_cons_zero, List.set_cons_succ]
            refine wpAnyT_take (i := 8) (v := ?_) (by simp only [List.getElem?_toArray, List.getElem?_cons_zero, List.getElem?_cons_succ]; rfl) (by kernel_rfl) (by kernel_rfl) (by kernel_rfl) (by kernel_rfl) (by kernel_rfl) (fun _ _ _ h => h) (Or.inl ⟨by rfl, ?_⟩) (by assumption) ?_
            rotate_left
            · intro w hSw; (try dsimp only at hSw); go_simp; try (with_reducible rfl)
            try simp only [Act.put, List.setIfInBounds_toArray, List.set_cons_zero, List.set_cons_succ]
            refine wpAnyT_take (i := 9) (v := ?_) (by simp only [List.getElem?_toArray, List.getElem?_cons_zero, List.getElem?_cons_succ]; rfl) (by kernel_rfl) (by kernel_rfl) (by kernel_rfl) (by kernel_rfl) (by kernel_rfl) (fun _ _ _ h => h) (Or.inl ⟨by rfl, ?_⟩) (by assumption) ?_
            rotate_left
            · intro w hSw; (try dsimp only at hSw); go_simp; try (with_reducible rfl)
            try simp only [Act.put, List.setIfInBounds_toArray, List.set_cons_zero, List.set_cons_succ]
            refine wpAnyT_take (i := 10) (v := ?_) (by simp only [List.getElem?_toArray, List.getElem?_cons_zero, List.getElem?_cons_succ]; rfl) (by kernel_rfl) (by kernel_rfl) (by kernel_rfl) (by kernel_rfl) (by kernel_rfl) (fun _ _ _ h => h) (Or.inl ⟨by rfl, ?_⟩) (by assumption) ?_
            rotate_left
            · intro w hSw; (try dsimp only at hSw); go_simp; try (with_reducible rfl)
            try simp only [Act.put, List.setIfInBounds_toArray, List.set_cons_zero, List.set_cons_succ]
            refine wpAnyT_take (i := 11) (v := ?_) (by simp only [List.getElem?_toArray, List.getElem?_cons_zero, List.getElem?_cons_succ]; rfl) (by kernel_rfl) (by kernel_rfl) (by kernel_rfl) (by kernel_rfl) (by kernel_rfl) (fun _ _ _ h => h) (Or.inl ⟨by rfl, ?_⟩) (by assumption) ?_
            rotate_left
            · intro w hSw; (try dsimp only at hSw); go_simp; try (with_reducible rfl)
            try simp only [Act.put, List.setIfInBounds_toArray, List.set_cons_zero, List.set_cons_succ]
            refine wpAnyT_take (i := 12) (v := ?_) (by simp only [List.getElem?_toArray, List.getElem?_cons_zero, List.getElem?_cons_succ]; rfl) (by kernel_rfl) (by kernel_rfl) (by kernel_rfl) (by kernel_rfl) (by kernel_rfl) (fun _ _ _ h => h) (Or.inl ⟨by rfl, ?_⟩) (by assumption) ?_
            rotate_left
            · intro w hSw; (try dsimp only at hSw); go_simp; try (with_reducible rfl)
            try simp only [Act.put, List.setIfInBounds_toArray, List.set_cons_zero, List.set_cons_succ]
            refine wpAnyT_take (i := 13) (v := ?_) (by simp only [List.getElem?_toArray, List.getElem?_cons_zero, List.getElem?_cons_succ]; rfl) (by kernel_rfl) (by kernel_rfl) (by kernel_rfl) (by kernel_rfl) (by kernel_rfl) (fun _ _ _ h => h) (Or.inl ⟨by rfl, ?_⟩) (by assumption) ?_
            rotate_left
            · intro w hSw; (try dsimp only at hSw); go_simp; try (with_reducible rfl)
            try simp only [Act.put, List.setIfInBounds_toArray, List.set_cons_zero, List.set_cons_succ]
            refine wpAnyT_take (i := 14) (v := ?_) (by simp only [List.getElem?_toArray, List.getElem?_cons_zero, List.getElem?_cons_succ]; rfl) (by kernel_rfl) (by kernel_rfl) (by kernel_rfl) (by kernel_rfl) (by kernel_rfl) (fun _ _ _ h => h) (Or.inl ⟨by rfl, ?_⟩) (by assumption) ?_
            rotate_left
            · intro w hSw; (try dsimp only at hSw); go_simp; try (with_reducible rfl)
            try simp only [Act.put, List.setIfInBounds_toArray, List.set_cons_zero, List.set_cons_succ]
            refine wpAnyT_ready (rs := [15]) (by kernel_rfl) (by simp) (AllReadyT.cons (by simp only [List.getElem?_toArray, List.getElem?_cons_zero, List.getElem?_cons_succ]; rfl) (fun K hK => ?_) AllReadyT.nil)
            go_simp
            refine hK.out _ _ ?_ (fun hHeld => ?_)
            · exact ⟨(World.cell?_alloc_lt _ _ _ hlc).trans hHeld.1, (World.frozen?_alloc_past _ _ _ hlc).trans hHeld.2⟩
            clear hK K
            try simp only [Act.put, List.setIfInBounds_toArray, List.set_cons_zero, List.set_cons_succ]
            refine wpAnyT_ready (rs := [16]) (by kernel_rfl) (by simp) (AllReadyT.cons (by simp only [List.getElem?_toArray, List.getElem?_cons_zero, List.getElem?_cons_succ]; rfl) (fun K hK => ?_) AllReadyT.nil)
            refine step_append_any _ rfl (.tmp 148) (.tmp 159) 33 rfl w0.heap.size 22 i0 _ 1 24 Try.underlying33 hi0 hz0 hz1 hz2 rfl (by omega) kvv m _ rfl ((World.ownsRow.drew HH.out.1).alloc _) _ (some ⟨wr.heap.size, 0, none⟩) 1 1 [.slice (some ⟨gw, 16 * m, none⟩) 16 16] rfl (reads_blk (Blk.new _ 22 _) rfl) (fun u hu => by rw [List.mem_singleton.1 hu]; rfl) (by unfold maxLen; omega) (by omega) (by have := HH.out.2.2.2.2.2.size; simp; omega) ?_
            intro v9 w9 hown hg hat
            obtain ⟨hc9, hl9⟩ := keep_app (wx := wr.drew) (World.ownsRow.drew HH.out.1) HH.out.2.1.drew (by decide) HH.out.2.2.2.2.2.drew hg
            have hsa9 := (keep_app (wx := wr.drew) (World.ownsRow.drew HH.out.1) HH.out.2.2.1.drew (by decide) HH.out.2.2.2.2.2.drew hg).1
            have htb9 := (keep_app (wx := wr.drew) (World.ownsRow.drew HH.out.1) HH.out.2.2.2.1.drew (by decide) HH.out.2.2.2.2.2.drew hg).1
            have how9 := ((World.ownsRow.drew HH.out.2.2.2.2.1).alloc (.cells #[.slice (some ⟨gw, 16 * m, none⟩) 16 16] 22)).kept hg (own_ne HH.out.2.2.2.2.1 HH.out.1 (by decide))
            obtain ⟨g9, c9, rfl, hg9, hc9l, -⟩ := own_some hown (by omega)
            have C9 := hc9.cell 0
            have F9 := hc9.frozen 0
            have C9 : w9.cell? ⟨g, 0, none⟩ = some kvv := C9
            have H9 := Lib.hid (And.intro hown (And.intro hc9 (And.intro hsa9 (And.intro htb9 (And.intro how9 hl9)))))
            clear hown how9 hc9 hsa9 htb9 hl9 hg hat
            refine hK.out _ _ ?_ (fun hHeld => ?_)
            · exact ⟨C9, F9⟩
            clear hK K
            try simp only [Act.put, List.setIfInBounds_toArray, List.set_cons_zero, List.set_cons_succ]
            refine wpAnyT_take (i := 17) (v := ?_) (by simp only [List.getElem?_toArray, List.getElem?_cons_zero, List.getElem?_cons_succ]; rfl) (by kernel_rfl) (by kernel_rfl) (by kernel_rfl) (by kernel_rfl) (by kernel_rfl) (fun _ _ _ h => h) (Or.inl ⟨by rfl, ?_⟩) (by assumption) ?_
            rotate_left
            · intro w hSw; (try dsimp only at hSw); go_simp; try (with_reducible rfl)
            try simp only [Act.put, List.setIfInBounds_toArray, List.set_cons_zero, List.set_cons_succ]
            refine wpAnyT_take (i := 18) (v := ?_) (by simp only [List.getElem?_toArray, List.getElem?_cons_zero, List.getElem?_cons_succ]; rfl) (by kernel_rfl) (by kernel_rfl) (by kernel_rfl) (by kernel_rfl) (by kernel_rfl) (fun _ _ _ h => h) (Or.inl ⟨by rfl, ?_⟩) (by assumption) ?_
            rotate_left
            · intro w hSw; (try dsimp only at hSw); go_simp; try (with_reducible rfl)
            try simp only [Act.put, List.setIfInBounds_toArray, List.set_cons_zero, List.set_cons_succ]
            refine wpAnyT_ready (rs := [19]) (by kernel_rfl) (by simp) (AllReadyT.store (by simp only [List.getElem?_toArray, List.getElem?_cons_zero, List.getElem?_cons_succ]; rfl) (by simp) (fun K hK => ?_) AllReadyT.nil)
            go_simp
            refine hK.out _ _ ?_
            clear hK K
            try simp only [Act.put, List.setIfInBounds_toArray, List.set_cons_zero, List.set_cons_succ]
            refine wpAnyT_done (by kernel_rfl) ?_ _
            refine NoPanic.normal ?_
            clear hHeld C9 F9 C0 F0
            go_wp2
            obtain ⟨hown, hc9, hsa9, htb9, how9, hl9⟩ := H9.out
            refine ⟨⟨m + 1, .slice (some ⟨g9, 0, none⟩) (m + 1) c9, by omega, by go_num, ?_, ?_, hsa9.far (p := ⟨g, 0, none⟩) HG.out.1 _, htb9.far (p := ⟨g, 0, none⟩) HG.out.2.1 _, own_set how9 hc9 (by decide) 0 _, hl9.setCell (p := ⟨g, 0, none⟩) HG.out.2.2 _⟩, by simp [intOf]; omega⟩
            · rw [List.range_succ, List.map_append]
              exact own_set hown hc9 (by decide) 0 _
            · have h9 := hc9.set_ 0 (.slice (some ⟨g9, 0, none⟩) (m + 1) c9)
              exact h9
          · obtain rfl : m = nw + 7 := by omega
            have hnl : ¬ ((nw + 7 : Nat) : Int) ≤ nw + 6 := by omega
            have hnl2 : ¬ ((nw : Int) + 7) ≤ nw + 6 := by omega
            obtain ⟨gk, kc, rfl, hgk, hkc, -⟩ := own_some hok (by omega)
            have hkeys : ∀ k, k < nw + 7 → wr.cell? ⟨gk, k, none⟩ = some (.slice (some ⟨gw, 16 * k, none⟩) 16 16) := fun k hk => by
              have h1 := hok.cells (g := gk) rfl k (.slice (some ⟨gw, 16 * k, none⟩) 16 16) (by simp [hk])
              rwa [addr_add, Nat.zero_add] at h1
            have hcl := how.cells (g := gw) rfl
            have HH := Lib.hid (And.intro hcl (And.intro hc (And.intro hsa (And.intro htb (And.intro hkeys hlow)))))
            clear hcl hok how hc hlow hsa htb hkeys hlt hm
            go_wp2
            go_ret
            have hln := HE.out.1
            have hkey : ∀ k j, k < nw + 7 → j < 16 → wr.cell? ⟨gw, 16 * k + j, none⟩ = some (B8 (rkey nw key k j)) := fun k j hk hj => by
              have h1 := HH.out.1 (16 * k + j) (B8 (rkey nw key k j)) (by
                have h2 : 16 * k + j < (kAll nw key).length := by omega
                rw [List.getElem?_map, List.getElem?_eq_getElem h2, rkey]
                simp [h2])
              rwa [addr_add, Nat.zero_add] at h1
            exact ⟨g, gk, gw, rfl, HG.out.2.2, hgk, hgw, ⟨kc, a, b, hkc, HH.out.2.1, HH.out.2.2.1, HH.out.2.2.2.1, HH.out.2.2.2.2.1, hkey⟩, HH.out.2.2.2.2.2⟩
end Go.Proofs.Ytmilanicedjhmaa
