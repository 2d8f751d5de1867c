/- Contract: bytes filled up to whole blocks, the reference's. No condition beyond each theorem's own. -/
import Derived.Test.YtmilanicedjhmaaF22
import Derived.Sort.LoopGhostIn
namespace Go.Proofs.Ytmilanicedjhmaa
open Go.RowKit
set_option linter.unusedSimpArgs false

/-- How many zeros fill n bytes up to whole blocks. -/
def padN (n : Nat) : Nat := (16 - n % 16) % 16
def fillL (l : List UInt8) : List UInt8 := l ++ List.replicate (padN l.length) 0
theorem fillL_len (l : List UInt8) : (fillL l).length = 16 * ((l.length + 15) / 16) := by
  unfold fillL padN
  rw [List.length_append, List.length_replicate]
  omega
theorem fillL_get (l : List UInt8) (j : Nat) : (fillL l).getD j 0 = l.getD j 0 := by
  unfold fillL
  rw [List.getD_eq_getElem?_getD, List.getD_eq_getElem?_getD]
  by_cases h : j < l.length
  · rw [List.getElem?_append_left h]
  · rw [List.getElem?_append_right (by omega), List.getElem?_eq_none (l := l) (by omega), List.getElem?_replicate]
    split <;> rfl
/-- A slice of its own, of these bytes. -/
def OwnOut (w : World) (l : List UInt8) (e : Ending) (w' : World) : Prop := ∃ v, e = .returned v ∧ w'.ownsRow w.heap.size 5 1 v l.length (l.map B8) ∧ Below w.heap.size w w'
theorem own_form0 {w : World} {base : Nat} {e : TypeId} {size : Nat} {v : Value} {n : Nat} {xs : List Value} (h : w.ownsRow base e size v n xs) : ∃ A c, v = .slice A n c ∧ n ≤ c := by
  rcases h.2 with ⟨rfl, rfl⟩ | ⟨g, cap, cur, rfl, hb, hh, hnc, _⟩
  · exact ⟨none, 0, rfl, Nat.le_refl _⟩
  · exact ⟨_, cap, rfl, hnc⟩

set_option maxRecDepth 100000 in
set_option maxHeartbeats 4000000 in
theorem fill_any {w : World} {A : Option Addr} {n c : Nat} {l : List UInt8} (hB : Bytes w A n l) (hn : n ≤ 1000000000) : Calls Try.prog 57 #[.slice A n c] w (OwnOut w (fillL l)) := by
  have hln := hB.1
  go_enter Try.func57, Try.ntmps57
  go_upto_region 1 with fail
  refine wp_region_lit ?_
  iterate 3 go_step
  refine wpList_append_bytes _ rfl (.const (.slice none 0 0)) (.tmp 4) 22 rfl w.heap.size 5 Try.underlying22 info5 (.slice none 0 0) 0 [] rfl (World.ownsRow_nil _ _ 5 1) A n c l rfl hB (by omega) (Nat.le_refl _) ?_
  intro v1 w1 hown hg hat
  rw [Nat.zero_add, List.nil_append] at hown
  have hlow : Below w.heap.size w w1 := (Below.refl _ _).grown hg (Nat.le_refl _) (fun k hk => by cases hk)
  have hlz := hlow.size
  obtain ⟨P, hP⟩ : ∃ P, P = padN n := ⟨_, rfl⟩
  have hP2 : P ≤ 15 := by rw [hP]; unfold padN; omega
  have hfl : fillL l = l ++ List.replicate P 0 := by rw [hP, ← hln]; rfl
  have hPn : P = (16 - n % 16) % 16 := hP
  clear hP
  have H1 := Lib.hid (And.intro hown hlow)
  clear hown hlow hg hat hB
  go_wp2
  go_loopg [3] P (fun m v wr => ∃ j, m + j = P ∧ wr.ownsRow w.heap.size 5 1 v (n + j) ((l ++ List.replicate j 0).map B8) ∧ Below w.heap.size w wr)
  case atStart => exact ⟨0, by omega, by simpa using H1.out.1, H1.out.2⟩
  case round =>
    obtain ⟨j, hj, ho, hlow⟩ := hrel
    obtain ⟨A', c', rfl, hc'⟩ := own_form0 ho
    clear H1
    have Ho := Lib.hid (And.intro ho hlow)
    have hlz2 := hlow.size
    clear ho hlow
    by_cases h0 : 0 < gk
    · have ht : (((n + j : Nat) : Int).tmod 16 != 0) = true := by
        rw [Int.tmod_eq_emod_of_nonneg (by omega)]; simp; omega
      go_wp2_with (first
        | (at_builtin; refine wpList_append_bytes _ rfl (.tmp 10) (.tmp 11) 22 rfl w.heap.size 5 Try.underlying22 info5 _ (n + j) (l ++ List.replicate j 0) rfl (Ho.out.1.alloc _) (some ⟨wr.heap.size, 0, none⟩) 1 1 [0] rfl (brow_bytes (l := [0]) (Blk.new wr 5 _)) (by omega) (by simp; omega) ?_; intro v9 w9 hown hg hat))
      go_roundg (gk - 1)
      case measure => omega
      case rel =>
        refine ⟨j + 1, by omega, ?_, ?_⟩
        · have e : (l ++ List.replicate j 0) ++ [0] = l ++ List.replicate (j + 1) (0 : UInt8) := by rw [List.append_assoc, ← List.replicate_succ']
          rw [← e]
          exact hown
        · exact ((Ho.out.2.alloc hlz2 _).grown hg (by simp; omega) (own_ge Ho.out.1))
    · obtain rfl : gk = 0 := by omega
      obtain rfl : j = P := by omega
      have ht : (((n + j : Nat) : Int).tmod 16 != 0) = false := by
        rw [Int.tmod_eq_emod_of_nonneg (by omega)]; simp; omega
      go_wp2
      go_ret
      refine ⟨_, rfl, ?_, Ho.out.2⟩
      rw [hfl, List.length_append, List.length_replicate, hln]
      exact Ho.out.1
end Go.Proofs.Ytmilanicedjhmaa
