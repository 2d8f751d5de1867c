/- Contracts of the functions of disk and of the law's own, part 2. No condition beyond each theorem's own. -/
import Derived.Test.YtadmccbminiadaaD1
namespace Go.Proofs.Ytadmccbminiadaa
open Go.RowKit

/-- A slice's header. -/
structure SH where
  a : Option Addr
  n : Nat
  c : Nat
/-- What a device is. -/
structure DS where
  n : Nat
  now : Nat → List UInt8
  safe : Nat → List UInt8
  wet : Nat → Bool
  fused : Bool
  left : Int
  dead : Bool
  count : Int

def upd {α : Type} (f : Nat → α) (i : Nat) (x : α) : Nat → α := fun j => if j = i then x else f j

def DS.done (s : DS) : DS := { s with count := s.count + 1, left := if s.fused then s.left - 1 else s.left, dead := if s.fused then decide (s.left - 1 < 1) else s.dead }

def Head (w : World) (g gl n : Nat) (fused : Bool) (left : Int) (dead : Bool) (count : Int) : Prop :=
  Blk w g 55 #[.slice (some ⟨gl, 0, none⟩) n n, .bool fused, .int .i64 left, .bool dead, .int .i64 count]
theorem Head.facts {w : World} {g gl n : Nat} {fused : Bool} {left : Int} {dead : Bool} {count : Int} (h : Head w g gl n fused left dead count) :
    w.cell? ⟨g, 0, none⟩ = some (.slice (some ⟨gl, 0, none⟩) n n) ∧ w.cell? ⟨g, 1, none⟩ = some (.bool fused) ∧ w.cell? ⟨g, 2, none⟩ = some (.int .i64 left) ∧ w.cell? ⟨g, 3, none⟩ = some (.bool dead) ∧
    w.cell? ⟨g, 4, none⟩ = some (.int .i64 count) ∧ (∀ j, w.frozen? ⟨g, j, none⟩ = false) :=
  ⟨Blk.cell h 0, Blk.cell h 1, Blk.cell h 2, Blk.cell h 3, Blk.cell h 4, Blk.frozen h⟩

/-- The device's sectors as they lie in memory. -/
def Secs (w : World) (gl n : Nat) (nv sv : Nat → SH) (wet : Nat → Bool) : Prop :=
  ∃ cs, Blk w gl 58 cs ∧ cs.size = n * 3 ∧ ∀ i, i < n → cs[i * 3]? = some (.slice (nv i).a (nv i).n (nv i).c) ∧ cs[i * 3 + 1]? = some (.slice (sv i).a (sv i).n (sv i).c) ∧ cs[i * 3 + 2]? = some (.bool (wet i))
def DataH (w : World) (h : SH) (l : List UInt8) : Prop := DataAt w h.a h.n l ∧ (h.a = none → h.c = 0)

def PD (w : World) (g gl : Nat) (s : DS) : Prop :=
  Head w g gl s.n s.fused s.left s.dead s.count ∧ ∃ nv sv, Secs w gl s.n nv sv s.wet ∧ ∀ i, i < s.n → DataH w (nv i) (s.now i) ∧ DataH w (sv i) (s.safe i)

theorem sectors_nil (w : World) : Calls Try.prog 24 #[.pointer none] w fun e w' => e = .returned (.int .i64 0) ∧ w = w' := by
  go_enter Try.func24, Try.ntmps24
  go_wp2
  go_ret
  exact ⟨rfl, rfl⟩
theorem sectors_any {w : World} {g gl : Nat} {s : DS} (h : PD w g gl s) : Calls Try.prog 24 #[.pointer (some ⟨g, 0, none⟩)] w fun e w' => e = .returned (.int .i64 s.n) ∧ w = w' := by
  obtain ⟨h0, -⟩ := h.1.facts
  go_enter Try.func24, Try.ntmps24
  go_wp2
  go_ret
  exact ⟨rfl, rfl⟩
theorem dead_nil (w : World) : Calls Try.prog 26 #[.pointer none] w fun e w' => e = .returned (.bool true) ∧ w = w' := by
  go_enter Try.func26, Try.ntmps26
  go_wp2
  go_ret
  exact ⟨rfl, rfl⟩
theorem dead_any {w : World} {g gl : Nat} {s : DS} (h : PD w g gl s) : Calls Try.prog 26 #[.pointer (some ⟨g, 0, none⟩)] w fun e w' => e = .returned (.bool s.dead) ∧ w = w' := by
  obtain ⟨h0, h1, h2, h3, h4, hf⟩ := h.1.facts
  go_enter Try.func26, Try.ntmps26
  go_wp2
  go_ret
  exact ⟨rfl, rfl⟩
theorem count_nil (w : World) : Calls Try.prog 27 #[.pointer none] w fun e w' => e = .returned (.int .i64 0) ∧ w = w' := by
  go_enter Try.func27, Try.ntmps27
  go_wp2
  go_ret
  exact ⟨rfl, rfl⟩
theorem count_any {w : World} {g gl : Nat} {s : DS} (h : PD w g gl s) : Calls Try.prog 27 #[.pointer (some ⟨g, 0, none⟩)] w fun e w' => e = .returned (.int .i64 s.count) ∧ w = w' := by
  obtain ⟨h0, h1, h2, h3, h4, hf⟩ := h.1.facts
  go_enter Try.func27, Try.ntmps27
  go_wp2
  go_ret
  exact ⟨rfl, rfl⟩

theorem read_nil (i : Int) (w : World) (hi : 0 ≤ i) : Calls Try.prog 25 #[.pointer none, .int .i64 i] w fun e w' => e = .returned (.slice none 0 0) ∧ w = w' := by
  go_enter Try.func25, Try.ntmps25
  go_wp2_with (go_at_call 24; refine (sectors_nil _).mono ?_; rintro e w' ⟨rfl, rfl⟩)
  go_ret
  exact ⟨rfl, rfl⟩
theorem read_out {w : World} {g gl : Nat} {s : DS} (h : PD w g gl s) (i : Int) (hi : i < 0 ∨ (s.n : Int) ≤ i) :
    Calls Try.prog 25 #[.pointer (some ⟨g, 0, none⟩), .int .i64 i] w fun e w' => e = .returned (.slice none 0 0) ∧ w = w' := by
  by_cases h0 : i < 0
  · go_enter Try.func25, Try.ntmps25
    go_wp2
    go_ret
    exact ⟨rfl, rfl⟩
  · have h1 : (s.n : Int) ≤ i := by omega
    go_enter Try.func25, Try.ntmps25
    go_wp2_with (go_at_call 24; refine (sectors_any h).mono ?_; rintro e w' ⟨rfl, rfl⟩)
    go_ret
    exact ⟨rfl, rfl⟩
theorem read_in {w : World} {g gl : Nat} {s : DS} (h : PD w g gl s) (i : Nat) (hi : i < s.n) :
    Calls Try.prog 25 #[.pointer (some ⟨g, 0, none⟩), .int .i64 i] w (Made w 256 (s.now i)) := by
  obtain ⟨h0, -⟩ := h.1.facts
  obtain ⟨nv, sv, ⟨cs, hcs, hsz, hc⟩, hd⟩ := h.2
  obtain ⟨c0, c1, c2⟩ := hc i hi
  rw [← hcs.cell] at c0
  have hda := (hd i hi).1
  clear hc hd hsz c1 c2
  have hlt : (i : Int) < s.n := by omega
  have hp : ¬ (i : Int) < 0 := by omega
  go_enter Try.func25, Try.ntmps25
  go_wp2_with (first | (go_at_call 24; refine (sectors_any h).mono ?_; rintro e w' ⟨rfl, rfl⟩) | (go_at_call 35; refine (zeros_any _ _ _ _ _ hda.1 hda.2).mono ?_; rintro e w1 ⟨a', c', rfl, hB, hT, hb⟩))
  go_ret
  exact ⟨a', c', rfl, hB, hT, hb⟩

section
variable {w w' : World} {g gl : Nat} {s : DS} {S : Nat → Obj → Prop}
theorem DataH.fr {h : SH} {l : List UInt8} (hd : DataH w h l) (hf : Fr S w w') (hS : ∀ k c f, ¬ S k (.cells c 5 f)) : DataH w' h l := by
  refine ⟨?_, hd.2⟩
  rcases hd.1 with h0 | ⟨a, h1, h2, h3, h4⟩
  · exact .inl h0
  · exact .inr ⟨a, h1, h2, bytes_fr h3 h4 hf hS, h4.fr hf hS⟩
theorem Secs.fr {n : Nat} {nv sv : Nat → SH} {wet : Nat → Bool} (h : Secs w gl n nv sv wet) (hf : Fr S w w') (hS : ∀ c f, ¬ S gl (.cells c 58 f)) : Secs w' gl n nv sv wet := by
  obtain ⟨cs, h1, h2⟩ := h
  exact ⟨cs, h1.fr hf (hS _ _), h2⟩
/-- The head turns, all else stays. -/
theorem PD.head {s' : DS} (h : PD w g gl s) (hf : Fr S w w') (hS : ∀ c f, ¬ S gl (.cells c 58 f)) (hS5 : ∀ k c f, ¬ S k (.cells c 5 f))
    (hh : Head w' g gl s'.n s'.fused s'.left s'.dead s'.count) (hn : s'.n = s.n) (h1 : s'.now = s.now) (h2 : s'.safe = s.safe) (h3 : s'.wet = s.wet) : PD w' g gl s' := by
  obtain ⟨_, nv, sv, hs, hd⟩ := h
  refine ⟨hh, nv, sv, by rw [hn, h3]; exact hs.fr hf hS, fun i hi => ?_⟩
  rw [hn] at hi
  rw [h1, h2]
  exact ⟨(hd i hi).1.fr hf hS5, (hd i hi).2.fr hf hS5⟩
theorem PD.fr (h : PD w g gl s) (hf : Fr S w w') (h0 : ∀ c f, ¬ S g (.cells c 55 f)) (hS : ∀ c f, ¬ S gl (.cells c 58 f)) (hS5 : ∀ k c f, ¬ S k (.cells c 5 f)) : PD w' g gl s :=
  h.head hf hS hS5 (Blk.fr h.1 hf (h0 _ _)) rfl rfl rfl rfl
theorem PD.below (h : PD w g gl s) (hb : Below w.heap.size w w') : PD w' g gl s := h.fr (S := No) (Fr.of_below hb) (fun _ _ => id) (fun _ _ => id) (fun _ _ _ => id)
theorem ty_not {T : List TypeId} {k : Nat} {c : Array Value} {t : TypeId} {f : Nat × Nat} (h : t ∉ T) : ¬ Ty T k (.cells c t f) := by
  rintro ⟨_, _, _, e, ht⟩
  cases e
  exact h ht
end

def Quiet (S : Nat → Obj → Prop) (w : World) (v : Value) (Q : World → Prop) (e : Ending) (w' : World) : Prop := e = .returned v ∧ Fr S w w' ∧ Q w'

/-- What a step turns of a device: its head; its head and its sectors. -/
def Hd (g : Nat) (k : Nat) (o : Obj) : Prop := k = g ∧ Ty [55] k o
def Dk (g gl : Nat) (k : Nat) (o : Obj) : Prop := Hd g k o ∨ (k = gl ∧ Ty [58] k o)
theorem hd_not {g k : Nat} {c : Array Value} {t : TypeId} {f : Nat × Nat} (h : t ≠ 55) : ¬ Hd g k (.cells c t f) := fun x => ty_not (by simp [h]) x.2
theorem dk_not {g gl k : Nat} {c : Array Value} {t : TypeId} {f : Nat × Nat} (h : t ≠ 55) (h' : t ≠ 58) : ¬ Dk g gl k (.cells c t f) := by
  rintro (x | x)
  · exact hd_not h x
  · exact ty_not (by simp [h']) x.2
theorem head_in {w : World} {g gl n : Nat} {fused : Bool} {left : Int} {dead : Bool} {count : Int} (h : Head w g gl n fused left dead count) {j : Nat} :
    ∀ o, w.heap[(⟨g, j, none⟩ : Addr).block]? = some o → Hd g (⟨g, j, none⟩ : Addr).block o := by
  intro o ho
  rw [show w.heap[(⟨g, j, none⟩ : Addr).block]? = _ from h] at ho
  cases ho
  exact ⟨rfl, _, _, _, rfl, by simp⟩

/-- A store into the head is a turn of the head alone. -/
theorem PD.put {w w' : World} {g gl : Nat} {s s' : DS} (h : PD w g gl s) (hf : Fr (Hd g) w w') (hh : Head w' g gl s'.n s'.fused s'.left s'.dead s'.count)
    (hn : s'.n = s.n) (h1 : s'.now = s.now) (h2 : s'.safe = s.safe) (h3 : s'.wet = s.wet) : PD w' g gl s' :=
  h.head hf (fun _ _ => hd_not (by decide)) (fun _ _ _ => hd_not (by decide)) hh hn h1 h2 h3

theorem done_any {w : World} {g gl : Nat} {s : DS} (h : PD w g gl s) (hc : 0 ≤ s.count ∧ s.count < 1000000) (hl : s.fused = true → 0 < s.left ∧ s.left ≤ 9223372036854775807) :
    Calls Try.prog 31 #[.pointer (some ⟨g, 0, none⟩)] w (Quiet (Hd g) w (.tuple #[]) fun w' => PD w' g gl s.done) := by
  obtain ⟨h0, h1, h2, h3, h4, hf⟩ := h.1.facts
  obtain ⟨hc0, hc1⟩ := hc
  have hH := Lib.hid h.1
  cases hfu : s.fused
  · rw [hfu] at h1
    have hfin : s.done = { s with count := s.count + 1 } := by simp [DS.done, hfu]
    have Hfin := Lib.hid hfin
    clear hl hfu hfin
    go_enter Try.func31, Try.ntmps31
    go_wp2
    go_end0
    have hF : Fr (Hd g) w (w.setCell ⟨g, 4, none⟩ (.int .i64 (s.count + 1))) := (Fr.refl _ w).setIn (head_in hH.out) _
    refine ⟨rfl, hF, ?_⟩
    rw [Hfin.out]
    exact h.put hF (Blk.set_ hH.out 4 _) rfl rfl rfl rfl
  · obtain ⟨hl0, hl1⟩ := hl hfu
    rw [hfu] at h1
    have hfin : s.done = { s with count := s.count + 1, left := s.left - 1, dead := decide (s.left - 1 < 1) } := by simp [DS.done, hfu]
    have Hfin := Lib.hid hfin
    clear hl hfu hfin
    go_enter Try.func31, Try.ntmps31
    go_wp2
    go_end0
    have hF : ∀ a b c, Fr (Hd g) w (((w.setCell ⟨g, 4, none⟩ a).setCell ⟨g, 2, none⟩ b).setCell ⟨g, 3, none⟩ c) := fun _ _ _ =>
      (((Fr.refl _ w).setIn (head_in hH.out) _).setIn (head_in hH.out) _).setIn (head_in hH.out) _
    refine ⟨rfl, hF _ _ _, ?_⟩
    rw [Hfin.out]
    exact h.put (hF _ _ _) (Blk.set_ (Blk.set_ (Blk.set_ hH.out 4 _) 2 _) 3 _) rfl rfl rfl rfl
end Go.Proofs.Ytadmccbminiadaa
