/- Contracts of the functions of disk and of the law's own, part 1. No condition beyond each theorem's own. -/
import Derived.Test.YtadmccbminiadaaM2
namespace Go.Proofs.Ytadmccbminiadaa
open Go.RowKit

theorem info5 : (Try.prog.info? 5).map (fun i => (i.zero, i.size, i.bytes)) = some (some (.int .u8 0), 1, 1) := by kernel_rfl
theorem eqlNil (w : World) (a : Option Addr) (n c : Nat) : (binOp .eql 31 (.slice a n c) (.slice none 0 0)).run Try.prog w = .ok (.bool a.isNone) w :=
  Lib.run_eql_slice_nil (P := Try.prog) w 31 5 a n c 0 0 Try.underlying31

theorem clone_nil (w : World) : Calls Try.prog 30 #[.slice none 0 0] w fun e w' => e = .returned (.slice none 0 0) ∧ w = w' := by
  have heq := eqlNil
  go_enter Try.func30, Try.ntmps30
  go_wp2
  go_ret
  exact ⟨rfl, rfl⟩

def CloneSome (w : World) (n : Nat) (l : List UInt8) (e : Ending) (w' : World) : Prop :=
  ∃ a' c', e = .returned (.slice (some a') n c') ∧ w'.ownsRow w.heap.size 5 1 (.slice (some a') n c') n (l.map B8) ∧ Below w.heap.size w w'

theorem clone_some (a : Addr) (n c : Nat) (l : List UInt8) (w : World) (h : Bytes w (some a) n l) (hn : n ≤ 140737488351232) :
    Calls Try.prog 30 #[.slice (some a) n c] w (CloneSome w n l) := by
  have heq := eqlNil
  have ho := World.ownsRow_made (base := w.heap.size) (e := 5) (size := 1) w #[] 0 (Nat.le_refl _) (by unfold maxLen; omega) rfl
  have hb := h.below ((Below.refl _ w).alloc (Nat.le_refl _) (.cells #[] 5))
  go_enter Try.func30, Try.ntmps30
  go_wp2_with (at_builtin; refine wpList_append_bytes _ rfl (.tmp 5) (.tmp 6) 31 rfl w.heap.size 5 Try.underlying31 info5 (.slice (some ⟨w.heap.size, 0, none⟩) 0 0) 0 [] rfl ho (some a) n c l rfl hb (by omega) (by simp) ?_; intro v' w1 hown hg hat)
  rw [Nat.zero_add, List.nil_append] at hown
  have hex : ∃ g c', v' = .slice (some ⟨g, 0, none⟩) n c' := by
    rcases hat with hat | hat
    · obtain ⟨cap, h, _⟩ := own_form (g := w.heap.size) hown hat; exact ⟨_, cap, h⟩
    · obtain ⟨cap, h, _⟩ := own_form hown hat; exact ⟨_, cap, h⟩
  obtain ⟨g, c', rfl⟩ := hex
  clear hat
  go_wp2
  go_ret
  refine ⟨⟨g, 0, none⟩, c', rfl, hown, ((Below.refl _ w).alloc (Nat.le_refl _) (.cells #[] 5)).grown hg (by simp) (fun k hk => ?_)⟩
  simp [Value.ownBlock] at hk; omega

/-- The zero sector. -/
def zero256 : List UInt8 := List.replicate 256 0
def DataAt (w : World) (A : Option Addr) (n : Nat) (l : List UInt8) : Prop := (A = none ∧ n = 0 ∧ l = zero256) ∨ (∃ a, A = some a ∧ n = 256 ∧ Bytes w A n l ∧ Ty5 w A)
def Made (w : World) (n : Nat) (l : List UInt8) (e : Ending) (w' : World) : Prop :=
  ∃ a' c', e = .returned (.slice (some a') n c') ∧ Bytes w' (some a') n l ∧ Ty5 w' (some a') ∧ Below w.heap.size w w'

/-- A row of n zero bytes. -/
def zrow (n : Nat) : Array Value := ((List.replicate n (0 : UInt8)).map B8).toArray
theorem madeCells_zero (n : Nat) : madeCells (Value.cells (.int .u8 0)) (n * 1) = zrow n := by
  unfold madeCells zrow
  apply Array.ext
  · simp
  · intro i h1 h2
    simp [Value.cells, Nat.mod_one]
theorem madeRow (w : World) (n : Nat) (hn : n ≤ 140737488351232) :
    (Instr.makeSlice 31 (.int .i64 (n : Int)) (.int .i64 (n : Int))).run Try.prog w = .ok (.slice (some ⟨w.heap.size, 0, none⟩) n n) (w.alloc (.cells (zrow n) 5)) := by
  obtain ⟨i0, hi, hz0, hz1, hz2⟩ := info_parts info5
  have h := run_make (P := Try.prog) w 31 5 i0 _ Try.underlying31 hi hz0 .i64 .i64 n n (by omega) (by omega) (by rw [hz2]; omega) (by omega)
  rw [h]
  simp only [Int.toNat_natCast, hz1, madeCells_zero]
theorem zrow_bytes {w : World} {b n : Nat} (h : Blk w b 5 (zrow n)) : Bytes w (some ⟨b, 0, none⟩) n (List.replicate n 0) :=
  ⟨by simp, fun _ => ⟨b, 0, rfl, fun j x hx => by
    rw [h.cell]
    unfold zrow
    rw [List.getElem?_replicate] at hx
    split at hx
    · rename_i hlt
      cases hx
      simp [hlt]
    · cases hx⟩⟩

theorem zeros_any (A : Option Addr) (n c : Nat) (l : List UInt8) (w : World) (h : DataAt w A n l) (hc : A = none → c = 0) :
    Calls Try.prog 35 #[.slice A n c] w (Made w 256 l) := by
  have heq := eqlNil
  rcases h with ⟨rfl, rfl, rfl⟩ | ⟨a, rfl, rfl, h, -⟩
  · have hmk : ∀ w : World, (Instr.makeSlice 31 (.int .i64 256) (.int .i64 256)).run Try.prog w = .ok (.slice (some ⟨w.heap.size, 0, none⟩) 256 256) (w.alloc (.cells (zrow 256) 5)) := fun w => madeRow w 256 (by omega)
    have hb := Blk.new w 5 (zrow 256)
    obtain rfl := hc rfl
    go_enter Try.func35, Try.ntmps35
    go_wp2
    go_ret
    exact ⟨⟨w.heap.size, 0, none⟩, 256, rfl, zrow_bytes hb, hb.ty5, (Below.refl _ w).alloc (Nat.le_refl _) _⟩
  · go_enter Try.func35, Try.ntmps35
    go_wp2_with (go_at_call 30; refine (clone_some a 256 c l w h (by omega)).mono ?_; rintro e w1 ⟨a', c', rfl, hown, hb⟩)
    go_ret
    exact ⟨a', c', rfl, Bytes.of_own hown, Ty5.of_own hown, hb⟩
end Go.Proofs.Ytadmccbminiadaa
