/- Contracts: elements of the field of GHASH, read and written. No condition beyond each theorem's own. -/
import Derived.Test.YtmilanicedjhmaaF15
namespace Go.Proofs.Ytmilanicedjhmaa
open Go.RowKit
set_option linter.unusedSimpArgs false

/-- An element's two numbers. -/
def elem (f : Nat → UInt8) : Array Value := #[.int .u64 (g64 f : Nat), .int .u64 (g64 (fun j => f (8 + j)) : Nat)]
set_option maxRecDepth 100000 in
set_option maxHeartbeats 2000000 in
theorem read_any {w : World} (A : Option Addr) (c : Nat) (f : Nat → UInt8) (hA : At w A 16 f) (hc : 16 ≤ c) : Calls Try.prog 54 #[.slice A 16 c] w fun e w' => e = .returned (.agg (elem f)) ∧ Below w.heap.size w w' := by
  obtain ⟨b, o, rfl, q⟩ := hA (by omega)
  have hb : b < w.heap.size := World.block_lt_of_cell? w _ (q 0 (by omega))
  have A1 : At (w.alloc (.cells #[.int .u64 0, .int .u64 0] 75)) (some ⟨b, o, none⟩) 8 f := fun _ => ⟨b, o, rfl, fun j hj => (World.cell?_alloc_lt _ _ _ hb).trans (q j (by omega))⟩
  have A2 : At (w.alloc (.cells #[.int .u64 0, .int .u64 0] 75)) (some ⟨b, o + 8, none⟩) 8 (fun j => f (8 + j)) := fun _ => ⟨b, o + 8, rfl, fun j hj => by
    rw [Nat.add_assoc]
    exact (World.cell?_alloc_lt _ _ _ hb).trans (q (8 + j) (by omega))⟩
  have hsl := fun w => slice_l (w := w) (b := b) (o := o) (n := 16) (c := c) (lo := 8) (l := 8) (by omega) (by omega) (by omega)
  rw [show 16 - 8 = 8 from rfl] at hsl
  clear q hA
  go_enter Try.func54, Try.ntmps54
  go_upto_region 1 with fail
  refine wp_region_noPanic ?_
  refine wp_region_T (fun w' => At w' (some ⟨b, o, none⟩) 8 f ∧ At w' (some ⟨b, o + 8, none⟩) 8 (fun j => f (8 + j))) [6] (by kernel_rfl) ?_ (fun hHeld => ?_)
  · exact ⟨A1, A2⟩
  refine wpAnyT_take (i := 0) (v := ?_) (by simp only [List.getElem?_toArray, List.getElem?_cons_zero, List.getElem?_cons_succ]; rfl) (by kernel_rfl) (by kernel_rfl) (by kernel_rfl) (by kernel_rfl) (by kernel_rfl) (fun _ _ _ h => h) (Or.inl ⟨by rfl, ?_⟩) (by assumption) ?_
  rotate_left
  · intro w hSw; (try dsimp only at hSw); go_simp; try (with_reducible rfl)
  try simp only [Act.put, List.setIfInBounds_toArray, List.set_cons_zero, List.set_cons_succ]
  refine wpAnyT_take (i := 2) (v := ?_) (by simp only [List.getElem?_toArray, List.getElem?_cons_zero, List.getElem?_cons_succ]; rfl) (by kernel_rfl) (by kernel_rfl) (by kernel_rfl) (by kernel_rfl) (by kernel_rfl) (fun _ _ _ h => h) (Or.inl ⟨by rfl, ?_⟩) (by assumption) ?_
  rotate_left
  · intro w hSw; (try dsimp only at hSw); go_simp; try (with_reducible rfl)
  try simp only [Act.put, List.setIfInBounds_toArray, List.set_cons_zero, List.set_cons_succ]
  refine wpAnyT_take (i := 3) (v := ?_) (by simp only [List.getElem?_toArray, List.getElem?_cons_zero, List.getElem?_cons_succ]; rfl) (by kernel_rfl) (by kernel_rfl) (by kernel_rfl) (by kernel_rfl) (by kernel_rfl) (fun _ _ _ h => h) (Or.inl ⟨by rfl, ?_⟩) (by assumption) ?_
  rotate_left
  · intro w hSw; (try dsimp only at hSw); go_simp; try (with_reducible rfl)
  try simp only [Act.put, List.setIfInBounds_toArray, List.set_cons_zero, List.set_cons_succ]
  refine wpAnyT_ready (rs := [1]) (by kernel_rfl) (by simp) (AllReadyT.cons (by simp only [List.getElem?_toArray, List.getElem?_cons_zero, List.getElem?_cons_succ]; rfl) (fun K hK => ?_) AllReadyT.nil)
  go_simp
  go_at_call 81
  refine (get64_any _ _ _ f hHeld.1 (by omega)).mono ?_
  rintro e w' ⟨rfl, rfl⟩
  refine hK.out _ _ ?_ (fun hHeld => ?_)
  · exact hHeld
  clear hK K
  try simp only [Act.put, List.setIfInBounds_toArray, List.set_cons_zero, List.set_cons_succ]
  refine wpAnyT_ready (rs := [4]) (by kernel_rfl) (by simp) (AllReadyT.cons (by simp only [List.getElem?_toArray, List.getElem?_cons_zero, List.getElem?_cons_succ]; rfl) (fun K hK => ?_) AllReadyT.nil)
  go_simp
  go_at_call 81
  refine (get64_any _ _ _ (fun j => f (8 + j)) hHeld.2 (by omega)).mono ?_
  rintro e w' ⟨rfl, rfl⟩
  refine hK.out _ _ ?_ (fun hHeld => ?_)
  · exact hHeld
  clear hK K
  try simp only [Act.put, List.setIfInBounds_toArray, List.set_cons_zero, List.set_cons_succ]
  refine wpAnyT_ready (rs := [5]) (by kernel_rfl) (by simp) (AllReadyT.cons (by simp only [List.getElem?_toArray, List.getElem?_cons_zero, List.getElem?_cons_succ]; rfl) (fun K hK => ?_) AllReadyT.nil)
  go_simp
  refine hK.out _ _ ?_ (fun hHeld => ?_)
  · exact ⟨A1, A2⟩
  clear hK K
  try simp only [Act.put, List.setIfInBounds_toArray, List.set_cons_zero, List.set_cons_succ]
  refine wpAnyT_ready (rs := [6]) (by kernel_rfl) (by simp) (AllReadyT.store (by simp only [List.getElem?_toArray, List.getElem?_cons_zero, List.getElem?_cons_succ]; rfl) (by simp) (fun K hK => ?_) AllReadyT.nil)
  go_simp
  refine hK.out _ _ ?_
  clear hK K
  try simp only [Act.put, List.setIfInBounds_toArray, List.set_cons_zero, List.set_cons_succ]
  refine wpAnyT_done (by kernel_rfl) ?_ _
  refine NoPanic.normal ?_
  go_wp2
  exact bodyPost_ret (v := .agg (elem f)) (by simp [results, Try.results54, go_sem, elem]) rfl ⟨rfl, ((below_drewN ((Below.refl _ w).alloc (Nat.le_refl _) (.cells #[.int .u64 0, .int .u64 0] 75)) 3).setCell (p := ⟨w.heap.size, 0, none⟩) (Nat.le_refl _) _).setCell (p := ⟨w.heap.size, 1, none⟩) (Nat.le_refl _) _⟩

/-- A slice of 16 bytes that a call has made. -/
def Out16 (w : World) (l : List UInt8) (e : Ending) (w' : World) : Prop := ∃ v, e = .returned v ∧ w'.ownsRow w.heap.size 5 1 v 16 (l.map B8) ∧ Below w.heap.size w w'
set_option maxRecDepth 100000 in
set_option maxHeartbeats 2000000 in
theorem write_any (w : World) (hi lo : Nat) (hhi : hi < 18446744073709551616) (hlo : lo < 18446744073709551616) : Calls Try.prog 56 #[.agg #[.int .u64 (hi : Int), .int .u64 (lo : Int)]] w (Out16 w (be64 hi ++ be64 lo)) := by
  have K1 : (w.alloc (.cells #[.int .u64 (hi : Int), .int .u64 (lo : Int)] 75)).cell? ⟨w.heap.size, 0, none⟩ = some (.int .u64 (hi : Int)) := (Blk.new w 75 _).cell 0
  have K2 : (w.alloc (.cells #[.int .u64 (hi : Int), .int .u64 (lo : Int)] 75)).cell? ⟨w.heap.size, 1, none⟩ = some (.int .u64 (lo : Int)) := (Blk.new w 75 _).cell 1
  have hlz : w.heap.size ≤ (w.alloc (.cells #[.int .u64 (hi : Int), .int .u64 (lo : Int)] 75)).drew.heap.size := by simp
  have hlz' : w.heap.size < (w.alloc (.cells #[.int .u64 (hi : Int), .int .u64 (lo : Int)] 75)).drew.heap.size := by simp
  go_enter Try.func56, Try.ntmps56
  go_upto_region 1 with fail
  refine wp_region_noPanic ?_
  refine wp_region_T (fun w' => w'.cell? ⟨w.heap.size, 0, none⟩ = some (.int .u64 (hi : Int)) ∧ w'.cell? ⟨w.heap.size, 1, none⟩ = some (.int .u64 (lo : Int))) [5, 6] (by kernel_rfl) ?_ (fun hHeld => ?_)
  · exact ⟨K1, K2⟩
  refine wpAnyT_take (i := 0) (v := ?_) (by simp only [List.getElem?_toArray, List.getElem?_cons_zero, List.getElem?_cons_succ]; rfl) (by kernel_rfl) (by kernel_rfl) (by kernel_rfl) (by kernel_rfl) (by kernel_rfl) (fun _ _ _ h => h) (Or.inl ⟨by rfl, ?_⟩) (by assumption) ?_
  rotate_left
  · intro w hSw; (try dsimp only at hSw); go_simp; try (with_reducible rfl)
  try simp only [Act.put, List.setIfInBounds_toArray, List.set_cons_zero, List.set_cons_succ]
  refine wpAnyT_take (i := 1) (v := ?_) (by simp only [List.getElem?_toArray, List.getElem?_cons_zero, List.getElem?_cons_succ]; rfl) (by kernel_rfl) (by kernel_rfl) (by kernel_rfl) (by kernel_rfl) (by kernel_rfl) (fun _ _ _ h => h) (Or.inl ⟨by rfl, ?_⟩) (by assumption) ?_
  rotate_left
  · intro w hSw; (try dsimp only at hSw); go_simp; try (with_reducible rfl)
  try simp only [Act.put, List.setIfInBounds_toArray, List.set_cons_zero, List.set_cons_succ]
  refine wpAnyT_take (i := 3) (v := ?_) (by simp only [List.getElem?_toArray, List.getElem?_cons_zero, List.getElem?_cons_succ]; rfl) (by kernel_rfl) (by kernel_rfl) (by kernel_rfl) (by kernel_rfl) (by kernel_rfl) (fun _ _ _ h => h) (Or.inl ⟨by rfl, ?_⟩) (by assumption) ?_
  rotate_left
  · intro w hSw; (try dsimp only at hSw); go_simp; try (with_reducible rfl)
  try simp only [Act.put, List.setIfInBounds_toArray, List.set_cons_zero, List.set_cons_succ]
  refine wpAnyT_take (i := 4) (v := ?_) (by simp only [List.getElem?_toArray, List.getElem?_cons_zero, List.getElem?_cons_succ]; rfl) (by kernel_rfl) (by kernel_rfl) (by kernel_rfl) (by kernel_rfl) (by kernel_rfl) (fun _ _ _ h => h) (Or.inl ⟨by rfl, ?_⟩) (by assumption) ?_
  rotate_left
  · intro w hSw; (try dsimp only at hSw); go_simp; try (with_reducible rfl)
  try simp only [Act.put, List.setIfInBounds_toArray, List.set_cons_zero, List.set_cons_succ]
  refine wpAnyT_ready (rs := [2]) (by kernel_rfl) (by simp) (AllReadyT.cons (by simp only [List.getElem?_toArray, List.getElem?_cons_zero, List.getElem?_cons_succ]; rfl) (fun K hK => ?_) AllReadyT.nil)
  go_simp
  go_at_call 76
  refine (app64_any (base := w.heap.size) (v := .slice none 0 0) (k := 0) (l := []) (World.ownsRow_nil _ _ _ _) hlz (by omega) hi hhi).mono ?_
  rintro e w5 ⟨v5, rfl, hown5, hg5, hat5⟩
  have hlz5 : w.heap.size ≤ w5.heap.size := Nat.le_trans hlz hg5.size
  have K5 := (hg5.cell_far ⟨w.heap.size, 0, none⟩ hlz' (by simp [Value.ownBlock])).trans hHeld.1
  have K6 := (hg5.cell_far ⟨w.heap.size, 1, none⟩ hlz' (by simp [Value.ownBlock])).trans hHeld.2
  refine hK.out _ _ ?_ (fun hHeld => ?_)
  · exact ⟨K5, K6⟩
  clear hK K
  try simp only [Act.put, List.setIfInBounds_toArray, List.set_cons_zero, List.set_cons_succ]
  refine wpAnyT_ready (rs := [5]) (by kernel_rfl) (by simp) (AllReadyT.store (by simp only [List.getElem?_toArray, List.getElem?_cons_zero, List.getElem?_cons_succ]; rfl) (by simp) (fun K hK => ?_) AllReadyT.nil)
  go_simp
  go_at_call 76
  refine (app64_any hown5 hlz5 (by omega) lo hlo).mono ?_
  rintro e w6 ⟨v6, rfl, hown6, hg6, hat6⟩
  refine hK.out _ _ ?_
  clear hK K
  try simp only [Act.put, List.setIfInBounds_toArray, List.set_cons_zero, List.set_cons_succ]
  refine wpAnyT_ready (rs := [6]) (by kernel_rfl) (by simp) (AllReadyT.store (by simp only [List.getElem?_toArray, List.getElem?_cons_zero, List.getElem?_cons_succ]; rfl) (by simp) (fun K hK => ?_) AllReadyT.nil)
  go_simp
  refine hK.out _ _ ?_
  clear hK K
  try simp only [Act.put, List.setIfInBounds_toArray, List.set_cons_zero, List.set_cons_succ]
  refine wpAnyT_done (by kernel_rfl) ?_ _
  refine NoPanic.normal ?_
  go_wp2
  go_ret
  have hb5 : Below w.heap.size w w5 := (((Below.refl _ w).alloc (Nat.le_refl _) (.cells #[.int .u64 (hi : Int), .int .u64 (lo : Int)] 75)).drew).grown hg5 hlz (fun k e => by simp [Value.ownBlock] at e)
  exact ⟨v6, rfl, by simpa using hown6, hb5.grown hg6 hlz5 (own_ge hown5)⟩
end Go.Proofs.Ytmilanicedjhmaa
