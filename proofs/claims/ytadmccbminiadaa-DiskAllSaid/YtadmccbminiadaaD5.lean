/- Contracts of the functions of disk and of the law's own, part 5. No condition beyond each theorem's own. -/
import Derived.Test.YtadmccbminiadaaD4
namespace Go.Proofs.Ytadmccbminiadaa
open Go.RowKit

theorem info58 : (Try.prog.info? 58).map (fun i => (i.zero, i.size, i.bytes)) = some (some (.agg #[.slice none 0 0, .slice none 0 0, .bool false]), 3, 56) := by kernel_rfl
/-- The cells of n new sectors. -/
def srow (n : Nat) : Array Value := madeCells #[.slice none 0 0, .slice none 0 0, .bool false] (n * 3)
theorem madeSecs (w : World) (n : Nat) (hn : n ≤ 65536) :
    (Instr.makeSlice 53 (.int .i64 (n : Int)) (.int .i64 (n : Int))).run Try.prog w = .ok (.slice (some ⟨w.heap.size, 0, none⟩) n n) (w.alloc (.cells (srow n) 58)) := by
  obtain ⟨i0, hi, hz0, hz1, hz2⟩ := info_parts info58
  have h := run_make (P := Try.prog) w 53 58 i0 _ Try.underlying53 hi hz0 .i64 .i64 n n (by omega) (by omega) (by rw [hz2]; omega) (by omega)
  rw [h]
  simp only [Int.toNat_natCast, hz1]
  rfl
def DS.new (n : Nat) : DS := { n, now := fun _ => zero256, safe := fun _ => zero256, wet := fun _ => false, fused := false, left := 0, dead := false, count := 0 }
theorem srow_secs {w : World} {gl n : Nat} (h : Blk w gl 58 (srow n)) : Secs w gl n (fun _ => ⟨none, 0, 0⟩) (fun _ => ⟨none, 0, 0⟩) (fun _ => false) := by
  refine ⟨_, h, by simp [srow, madeCells], fun i hi => ?_⟩
  unfold srow madeCells
  have a0 : i * 3 % 3 = 0 := by omega
  have a1 : (i * 3 + 1) % 3 = 1 := by omega
  have a2 : (i * 3 + 2) % 3 = 2 := by omega
  refine ⟨?_, ?_, ?_⟩
  · simp [show i * 3 < n * 3 by omega]
  · simp [a1, show i * 3 + 1 < n * 3 by omega]
  · simp [a2, show i * 3 + 2 < n * 3 by omega]

def NewOk (w : World) (n : Nat) (e : Ending) (w' : World) : Prop :=
  ∃ g gl, e = .returned (.pointer (some ⟨g, 0, none⟩)) ∧ w.heap.size ≤ g ∧ w.heap.size ≤ gl ∧ PD w' g gl (DS.new n) ∧ Below w.heap.size w w'
theorem new_ok (n : Nat) (w : World) (h1 : 1 ≤ n) (h2 : n ≤ 65536) : Calls Try.prog 8 #[.int .i64 n] w (NewOk w n) := by
  have hmk := fun w => madeSecs w n h2
  have hp : ¬ (n : Int) < 1 := by omega
  have hq : ¬ (65536 : Int) < n := by omega
  go_enter Try.func8, Try.ntmps8
  go_wp2
  go_ret
  refine ⟨w.heap.size + 1, w.heap.size, rfl, by omega, by omega, ?_, ((Below.refl _ w).alloc (Nat.le_refl _) _).alloc (by simp) _⟩
  exact ⟨heap_alloc2_new w _ _, _, _, srow_secs (heap_alloc2_old w _ _), fun i _ => ⟨⟨.inl ⟨rfl, rfl, rfl⟩, fun _ => rfl⟩, ⟨.inl ⟨rfl, rfl, rfl⟩, fun _ => rfl⟩⟩⟩
theorem new_no (n : Int) (w : World) (h : n < 1 ∨ 65536 < n) : Calls Try.prog 8 #[.int .i64 n] w fun e w' => e = .returned (.pointer none) ∧ w = w' := by
  by_cases h1 : n < 1
  · go_enter Try.func8, Try.ntmps8
    go_wp2
    go_ret
    exact ⟨rfl, rfl⟩
  · have h2 : 65536 < n := by omega
    go_enter Try.func8, Try.ntmps8
    go_wp2
    go_ret
    exact ⟨rfl, rfl⟩

/-- The image: the sectors one behind the other. -/
def image (f : Nat → List UInt8) (n : Nat) : List UInt8 := (List.range n).flatMap f
theorem image_succ (f : Nat → List UInt8) (n : Nat) : image f (n + 1) = image f n ++ f n := by simp [image, List.range_succ]
theorem image_length (f : Nat → List UInt8) (n : Nat) (h : ∀ i, i < n → (f i).length = 256) : (image f n).length = n * 256 := by
  induction n with
  | zero => rfl
  | succ n ih => rw [image_succ, List.length_append, ih (fun i hi => h i (by omega)), h n (by omega)]; omega

theorem own_below {w w' : World} {base : Nat} {e : TypeId} {size : Nat} {v : Value} {n : Nat} {xs : List Value} (h : w.ownsRow base e size v n xs) (hb : Below w.heap.size w w') : w'.ownsRow base e size v n xs :=
  h.kept (row := none) ⟨hb.os, hb.tape, hb.output, hb.size, fun j hj _ => hb.block j hj⟩ (by cases v.ownBlock <;> simp)
/-- What is new in a row that the call grows. -/
theorem below_grown {w0 w w' : World} {base : Nat} {e : TypeId} {size : Nat} {v : Value} {n : Nat} {xs : List Value} (h : w.ownsRow base e size v n xs) (hb : Below base w0 w) (hg : w.grownBy w' v.ownBlock) (hbase : base ≤ w.heap.size) : Below base w0 w' :=
  hb.grown hg hbase (fun k hk => (h.lt k hk).1)

def ImgOk (w : World) (l : List UInt8) (e : Ending) (w' : World) : Prop :=
  ∃ A c, e = .returned (.slice A l.length c) ∧ l.length ≤ c ∧ Bytes w' A l.length l ∧ Below w.heap.size w w'
theorem image_nil (w : World) : Calls Try.prog 21 #[.pointer none] w fun e w' => e = .returned (.slice none 0 0) ∧ w = w' := by
  go_enter Try.func21, Try.ntmps21
  go_wp2_with (go_at_call 24; refine (sectors_nil _).mono ?_; rintro e w' ⟨rfl, rfl⟩)
  go_loop [3, 4, 7] (fun v _ i => v = .slice none 0 0 ∧ i = .int .i64 0) (fun _ _ _ => 0)
  case atStart => exact ⟨rfl, rfl⟩
  case round =>
    obtain ⟨rfl, rfl⟩ := hrel
    go_wp2
    go_ret
    exact ⟨rfl, rfl⟩

theorem data_len {w : World} {h : SH} {l : List UInt8} (hd : DataH w h l) : l.length = 256 := by
  rcases hd.1 with ⟨_, _, rfl⟩ | ⟨_, _, e, hb, _⟩
  · exact List.length_replicate
  · rw [hb.1, e]

set_option maxHeartbeats 1000000 in
theorem image_any {w : World} {g gl : Nat} {s : DS} (h : PD w g gl s) (hn : s.n ≤ 65536) :
    Calls Try.prog 21 #[.pointer (some ⟨g, 0, none⟩)] w (ImgOk w (image s.now s.n)) := by
  have H := Lib.hid h
  have Hlen : Hid (∀ i, i < s.n → (s.now i).length = 256) := by
    obtain ⟨nv, sv, _, hd⟩ := h.2
    exact fun i hi => data_len (hd i hi).1
  clear h
  go_enter Try.func21, Try.ntmps21
  go_wp2_with (go_at_call 24; refine (sectors_any H.out).mono ?_; rintro e w' ⟨rfl, rfl⟩)
  go_loopw [3, 4, 7] (fun v _ i wr => ∃ k : Nat, k ≤ s.n ∧ i = .int .i64 k ∧ wr.ownsRow w.heap.size 5 1 v (k * 256) ((image s.now k).map B8) ∧ Below w.heap.size w wr) (fun _ _ i _ => s.n - (intOf i).toNat)
  case atStart => exact ⟨0, by omega, rfl, World.ownsRow_nil _ _ _ _, Below.refl _ _⟩
  case round =>
    obtain ⟨k, hk, rfl, ho, hb⟩ := hrel
    by_cases hlt : k < s.n
    · have hp := H.out.below hb
      have hbs := hb.size
      have Hb := Lib.hid hb
      clear hb
      go_wp2_with (first
        | (go_at_call 25; refine (read_in hp k hlt).mono ?_; rintro e w1 ⟨a', c', rfl, hB, -, hb1⟩; have ho1 := own_below ho hb1)
        | (at_builtin; refine wpList_append_bytes _ rfl (.tmp 10) (.tmp 13) 31 rfl w.heap.size 5 Try.underlying31 info5 u3 (k * 256) _ rfl ho1 (some a') 256 c' _ rfl hB (by omega) (by have := hb1.size; omega) ?_; intro v' w2 hown hg hat))
      refine ⟨⟨k + 1, by omega, by go_num, ?_, ?_⟩, by simp [intOf]; omega⟩
      · rw [image_succ, show (k + 1) * 256 = k * 256 + 256 by omega]; exact hown
      · exact below_grown ho1 (Hb.out.trans (hb1.mono hbs)) hg (Nat.le_trans hbs hb1.size)
    · have hkn : k = s.n := by omega
      subst hkn
      go_wp2
      go_ret
      have hl := image_length s.now s.n Hlen.out
      rw [← hl] at ho
      rcases ho.2 with ⟨rfl, hx⟩ | ⟨g', cap, cur, rfl, _, _, hcap, _⟩
      · have hx : image s.now s.n = [] := by simpa using hx
        rw [hx]
        exact ⟨none, 0, rfl, Nat.le_refl _, Bytes.nil _ _, hb⟩
      · exact ⟨_, _, rfl, hcap, Bytes.of_own ho, hb⟩

def DS.val (s : DS) (κ : Nat → Bool) (i : Nat) : List UInt8 := if s.wet i && κ i then s.now i else s.safe i
def DS.crash (s : DS) (κ : Nat → Bool) : DS := { DS.new s.n with now := s.val κ, safe := s.val κ }
/-- A crash that has come as far as sector k. -/
def DS.crashTo (s : DS) (κ : Nat → Bool) (k : Nat) : DS := { DS.new s.n with now := fun i => if i < k then s.val κ i else zero256, safe := fun i => if i < k then s.val κ i else zero256 }
end Go.Proofs.Ytadmccbminiadaa
