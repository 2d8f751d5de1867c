/- Contracts: numbers as bytes. No condition beyond each theorem's own. -/
import Derived.Test.YtmilanicedjhmaaF14
namespace Go.Proofs.Ytmilanicedjhmaa
open Go.RowKit
set_option linter.unusedSimpArgs false

/-- A number's eight bytes. -/
def b64 (x i : Nat) : UInt8 := UInt8.ofNat (x / 256 ^ (7 - i) % 256)
theorem b64_val (x i : Nat) : (b64 x i).toNat = x / 256 ^ (7 - i) % 256 := by
  unfold b64
  rw [UInt8.toNat_ofNat']
  omega
def be64 (x : Nat) : List UInt8 := tab 8 (b64 x)
/-- Eight bytes more. -/
def App8 (w : World) (base k : Nat) (v : Value) (l l2 : List UInt8) (e : Ending) (w' : World) : Prop :=
  ∃ v', e = .returned v' ∧ w'.ownsRow base 5 1 v' (k + 8) ((l ++ l2).map B8) ∧ w.grownBy w' v.ownBlock ∧ (v'.ownBlock = v.ownBlock ∨ ∃ g, v'.ownBlock = some g ∧ w.heap.size ≤ g)
set_option maxRecDepth 100000 in
set_option maxHeartbeats 2000000 in
theorem app64_any {w : World} {base : Nat} {v : Value} {k : Nat} {l : List UInt8} (ho : w.ownsRow base 5 1 v k (l.map B8)) (hb : base ≤ w.heap.size) (hk : k ≤ 1000000000000) (x : Nat) (hx : x < 18446744073709551616) : Calls Try.prog 76 #[v, .int .u64 (x : Int)] w (App8 w base k v l (be64 x)) := by
  obtain ⟨y0, hy0⟩ : ∃ y, y = b64 x 0 := ⟨_, rfl⟩
  have e0 : (x : Int) / 72057594037927936 = (y0.toNat : Int) := by rw [hy0, b64_val]; show _ = ((x / 72057594037927936 % 256 : Nat) : Int); omega
  obtain ⟨y1, hy1⟩ : ∃ y, y = b64 x 1 := ⟨_, rfl⟩
  have e1 : (x : Int) / 281474976710656 % 256 = (y1.toNat : Int) := by rw [hy1, b64_val]; show _ = ((x / 281474976710656 % 256 : Nat) : Int); omega
  obtain ⟨y2, hy2⟩ : ∃ y, y = b64 x 2 := ⟨_, rfl⟩
  have e2 : (x : Int) / 1099511627776 % 256 = (y2.toNat : Int) := by rw [hy2, b64_val]; show _ = ((x / 1099511627776 % 256 : Nat) : Int); omega
  obtain ⟨y3, hy3⟩ : ∃ y, y = b64 x 3 := ⟨_, rfl⟩
  have e3 : (x : Int) / 4294967296 % 256 = (y3.toNat : Int) := by rw [hy3, b64_val]; show _ = ((x / 4294967296 % 256 : Nat) : Int); omega
  obtain ⟨y4, hy4⟩ : ∃ y, y = b64 x 4 := ⟨_, rfl⟩
  have e4 : (x : Int) / 16777216 % 256 = (y4.toNat : Int) := by rw [hy4, b64_val]; show _ = ((x / 16777216 % 256 : Nat) : Int); omega
  obtain ⟨y5, hy5⟩ : ∃ y, y = b64 x 5 := ⟨_, rfl⟩
  have e5 : (x : Int) / 65536 % 256 = (y5.toNat : Int) := by rw [hy5, b64_val]; show _ = ((x / 65536 % 256 : Nat) : Int); omega
  obtain ⟨y6, hy6⟩ : ∃ y, y = b64 x 6 := ⟨_, rfl⟩
  have e6 : (x : Int) / 256 % 256 = (y6.toNat : Int) := by rw [hy6, b64_val]; show _ = ((x / 256 % 256 : Nat) : Int); omega
  obtain ⟨y7, hy7⟩ : ∃ y, y = b64 x 7 := ⟨_, rfl⟩
  have e7 : (x : Int) % 256 = (y7.toNat : Int) := by rw [hy7, b64_val]; show _ = ((x / 1 % 256 : Nat) : Int); omega
  have hl : be64 x = [y0, y1, y2, y3, y4, y5, y6, y7] := by rw [hy0, hy1, hy2, hy3, hy4, hy5, hy6, hy7]; rfl
  have Hl := Lib.hid hl
  have hz : Bytes (w.alloc (.cells #[B8 y0, B8 y1, B8 y2, B8 y3, B8 y4, B8 y5, B8 y6, B8 y7] 5)) (some ⟨w.heap.size, 0, none⟩) 8 [y0, y1, y2, y3, y4, y5, y6, y7] := brow_bytes (l := [y0, y1, y2, y3, y4, y5, y6, y7]) (Blk.new w 5 _)
  have Hz := Lib.hid hz
  have Ho := Lib.hid ho
  clear hl hy0 hy1 hy2 hy3 hy4 hy5 hy6 hy7 hz ho
  go_enter Try.func76, Try.ntmps76
  go_wp2_with (first
    | (at_builtin; refine wpList_append_bytes _ rfl (.tmp 5) (.tmp 29) 22 rfl base 5 Try.underlying22 info5 v k l rfl (Ho.out.alloc _) (some ⟨w.heap.size, 0, none⟩) 8 8 [y0, y1, y2, y3, y4, y5, y6, y7] rfl Hz.out (by omega) (by simp; omega) ?_; intro v9 w9 hown hg hat))
  go_ret
  refine ⟨v9, rfl, by rw [Hl.out]; exact hown, (World.grownBy_alloc w _ _).trans hg, ?_⟩
  rcases hat with h | h
  · exact .inl h
  · exact .inr ⟨_, h, by simp⟩
end Go.Proofs.Ytmilanicedjhmaa
