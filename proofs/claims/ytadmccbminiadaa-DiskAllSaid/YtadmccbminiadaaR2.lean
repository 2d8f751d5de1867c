/- Contracts of the reference's device: writes and syncs. No condition beyond each theorem's own. -/
import Derived.Test.YtadmccbminiadaaR1
namespace Go.Proofs.Ytadmccbminiadaa
open Go.RowKit

section
variable {w : World} {g n i : Nat} {f : Nat → SH} {wet : Nat → Bool}
theorem Spine.set_ (h : Spine w g n f) (hi : i < n) (a : Option Addr) (m c : Nat) : Spine (w.setCell ⟨g, i, none⟩ (.slice a m c)) g n (upd f i ⟨a, m, c⟩) := by
  obtain ⟨cs, h1, h2⟩ := h
  refine ⟨_, h1.set_ _ _, fun j hj => ?_⟩
  by_cases e : j = i
  · subst e
    have := (Array.getElem?_eq_some_iff.1 (h2 j hj)).1
    rw [Array.getElem?_setIfInBounds_self_of_lt this]; simp [upd]
  · rw [Array.getElem?_setIfInBounds_ne (by omega)]; simp [upd, e]; exact h2 j hj
theorem Wets.set_ (h : Wets w g n wet) (hi : i < n) (b : Bool) : Wets (w.setCell ⟨g, i, none⟩ (.bool b)) g n (upd wet i b) := by
  obtain ⟨cs, h1, h2⟩ := h
  refine ⟨_, h1.set_ _ _, fun j hj => ?_⟩
  by_cases e : j = i
  · subst e
    have := (Array.getElem?_eq_some_iff.1 (h2 j hj)).1
    rw [Array.getElem?_setIfInBounds_self_of_lt this]; simp [upd]
  · rw [Array.getElem?_setIfInBounds_ne (by omega)]; simp [upd, e]; exact h2 j hj
theorem Spine.cell (h : Spine w g n f) (hi : i < n) : w.cell? ⟨g, i, none⟩ = some (.slice (f i).a (f i).n (f i).c) ∧ g < w.heap.size ∧ (∀ j, w.frozen? ⟨g, j, none⟩ = false) := by
  obtain ⟨cs, h1, h2⟩ := h
  exact ⟨by rw [h1.cell]; exact h2 i hi, h1.lt, h1.frozen⟩
theorem Wets.cell (h : Wets w g n wet) (hi : i < n) : w.cell? ⟨g, i, none⟩ = some (.bool (wet i)) ∧ g < w.heap.size ∧ (∀ j, w.frozen? ⟨g, j, none⟩ = false) := by
  obtain ⟨cs, h1, h2⟩ := h
  exact ⟨by rw [h1.cell]; exact h2 i hi, h1.lt, h1.frozen⟩
theorem Spine.in_ {S : Nat → Obj → Prop} (h : Spine w g n f) (hS : ∀ c f, S g (.cells c 31 f)) : ∀ o, w.heap[g]? = some o → S g o := by
  obtain ⟨cs, h1, _⟩ := h
  intro o ho
  rw [show w.heap[g]? = _ from h1] at ho
  cases ho
  exact hS _ _
theorem Wets.in_ {S : Nat → Obj → Prop} (h : Wets w g n wet) (hS : ∀ c f, S g (.cells c 4 f)) : ∀ o, w.heap[g]? = some o → S g o := by
  obtain ⟨cs, h1, _⟩ := h
  intro o ho
  rw [show w.heap[g]? = _ from h1] at ho
  cases ho
  exact hS _ _
end
/-- One block of one type. -/
def On (g : Nat) (t : TypeId) (k : Nat) (o : Obj) : Prop := k = g ∧ Ty [t] k o
theorem on_mk {g : Nat} {t : TypeId} : ∀ c f, On g t g (.cells c t f) := fun c f => ⟨rfl, c, t, f, rfl, by simp⟩
theorem on_not {g k : Nat} {t t' : TypeId} {c : Array Value} {f : Nat × Nat} (h : t' ≠ t) : ¬ On g t k (.cells c t' f) := fun x => ty_not (by simp [h]) x.2
theorem on_ne {g k : Nat} {t : TypeId} {o : Obj} (h : k ≠ g) : ¬ On g t k o := fun x => h x.1
theorem new_form {w : World} {base : Nat} {e : TypeId} {v : Value} {m : Nat} {xs : List Value} (h : w.ownsRow base e 1 v (0 + m) xs) (hm : 0 < m) : ∃ g c, v = .slice (some ⟨g, 0, none⟩) m c := by
  obtain ⟨g, cap, hv, _, _⟩ := h.form (by omega)
  exact ⟨g, cap, by rw [hv, Nat.zero_add]⟩
theorem rk_gs {h gs gn gw : Nat} : ∀ c f, Rk h gs gn gw gs (.cells c 31 f) := fun c f => .inr (.inl ⟨rfl, c, 31, f, rfl, by simp⟩)
theorem rk_gn {h gs gn gw : Nat} : ∀ c f, Rk h gs gn gw gn (.cells c 31 f) := fun c f => .inr (.inr (.inl ⟨rfl, c, 31, f, rfl, by simp⟩))
theorem rk_gw {h gs gn gw : Nat} : ∀ c f, Rk h gs gn gw gw (.cells c 4 f) := fun c f => .inr (.inr (.inr ⟨rfl, c, 4, f, rfl, by simp⟩))

theorem rwrite_out {w : World} {h gs gn gw : Nat} {s : DS} (hr : RD w h gs gn gw s) (i : Int) (A : Option Addr) (n c : Nat) (hb : s.dead = true ∨ i < 0 ∨ (s.n : Int) ≤ i ∨ n ≠ 256) :
    Calls Try.prog 12 #[.pointer (some ⟨h, 0, none⟩), .int .i64 i, .slice A n c] w fun e w' => e = .returned (.bool false) ∧ w = w' := by
  obtain ⟨cs, cn, l1, l2, hh⟩ := hr.head
  obtain ⟨h0, h1, h2, h3, h4, hf⟩ := hh.facts
  cases hd : s.dead
  · rw [hd] at hb
    by_cases h1 : i < 0
    · go_enter Try.func12, Try.ntmps12
      go_wp2_with (go_at_call 32; refine (rdead_any hr).mono ?_; rw [hd]; rintro e w' ⟨rfl, rfl⟩)
      go_ret
      exact ⟨rfl, rfl⟩
    · by_cases h2 : (s.n : Int) ≤ i
      · go_enter Try.func12, Try.ntmps12
        go_wp2_with (go_at_call 32; refine (rdead_any hr).mono ?_; rw [hd]; rintro e w' ⟨rfl, rfl⟩)
        go_ret
        exact ⟨rfl, rfl⟩
      · have h3 : ((n : Int) != 256) = true := by
          simp at hb ⊢; omega
        go_enter Try.func12, Try.ntmps12
        go_wp2_with (go_at_call 32; refine (rdead_any hr).mono ?_; rw [hd]; rintro e w' ⟨rfl, rfl⟩)
        go_ret
        exact ⟨rfl, rfl⟩
  · clear hb
    go_enter Try.func12, Try.ntmps12
    go_wp2_with (go_at_call 32; refine (rdead_any hr).mono ?_; rw [hd]; rintro e w' ⟨rfl, rfl⟩)
    go_ret
    exact ⟨rfl, rfl⟩

set_option maxRecDepth 100000 in
set_option maxHeartbeats 1000000 in
theorem rwrite_in {w : World} {h gs gn gw : Nat} {s : DS} (hr : RD w h gs gn gw s) (i : Nat) (hi : i < s.n) (hd : s.dead = false) (a : Addr) (c : Nat) (l : List UInt8) (hB : Bytes w (some a) 256 l)
    (hc : 0 ≤ s.count ∧ s.count < 1000000) (hl : s.fuseOf ≤ 9223372036854775807) :
    Calls Try.prog 12 #[.pointer (some ⟨h, 0, none⟩), .int .i64 i, .slice (some a) 256 c] w (Quiet (Rk h gs gn gw) w (.bool true) fun w' => RD w' h gs gn gw (s.write i l)) := by
  obtain ⟨cs, cn, l1, l2, hh⟩ := hr.head
  obtain ⟨h0, h1, h2, h3, h4, hf⟩ := hh.facts
  obtain ⟨nv, sv, d1, d2, d3⟩ := hr.data
  obtain ⟨c0, hln, fn⟩ := d1.cell hi
  have hlh : h < w.heap.size := Blk.lt hh
  have hne : gn ≠ h := by obtain ⟨x, h1, _⟩ := d1; exact Blk.ne_ h1 hh (by decide)
  have HR := Lib.hid hr
  have Hd := Lib.hid hd
  have D1 := Lib.hid d1
  have D2 := Lib.hid d2
  have D3 := Lib.hid d3
  have hlt : (i : Int) < s.n := by omega
  have hp : ¬ (i : Int) < 0 := by omega
  clear hr hh d1 d2 d3 hd
  go_enter Try.func12, Try.ntmps12
  go_wp2_with (go_at_call 32; refine (rdead_any HR.out).mono ?_; rw [Hd.out]; rintro e w' ⟨rfl, rfl⟩)
  go_region_held3 (fun w' => w'.cell? ⟨h, 1, none⟩ = some (.slice (some ⟨gn, 0, none⟩) s.n cn))
    (first | exact h1 | exact hk1 | exact cell_far1 hne hk1)
    ((refine step_append_bytes w.drew (by rfl) _ _ 31 (by rfl) w.heap.size 5 Try.underlying31 info5 (.slice none 0 0) 0 [] (by rfl) (World.ownsRow_nil _ _ _ _) (some a) 256 c l (by rfl) hB (by omega) (Nat.le_refl _) ?_; intro v' w1 hown hg hat; have hb1 : Below w.heap.size w w1 := ⟨hg.os, hg.tape, hg.output, hg.size, fun k hk => hg.block k hk (by simp [Value.ownBlock])⟩; have hk1 := below_cell hb1 h1; have hk2 := below_cell hb1 c0; obtain ⟨gv, cv, rfl⟩ := new_form hown (by omega); have hk4 := ((D1.out.fr (S := No) (Fr.of_below hb1) (fun _ _ => id)).cell hi).2.2; clear fn hf))
  have hR1 := HR.out.below hb1
  have hs1 := Bytes.of_own hown
  have ht1 := Ty5.of_own hown
  rw [Nat.zero_add, List.nil_append] at hown
  have hW1 : RD (w1.setCell ⟨gn, i, none⟩ (.slice (some ⟨gv, 0, none⟩) 256 cv)) h gs gn gw { s with now := upd s.now i l } ∧ Fr (Rk h gs gn gw) w1 (w1.setCell ⟨gn, i, none⟩ (.slice (some ⟨gv, 0, none⟩) 256 cv)) := by
    obtain ⟨⟨xs, xn, y1, y2, hh⟩, ne, ok, ⟨nv, sv, e1, e2, e3⟩, hwt⟩ := hR1
    have hF : Fr (Rk h gs gn gw) w1 (w1.setCell ⟨gn, i, none⟩ (.slice (some ⟨gv, 0, none⟩) 256 cv)) := (Fr.refl _ w1).setIn (e1.in_ rk_gn) _
    have hF' : Fr (On gn 31) w1 (w1.setCell ⟨gn, i, none⟩ (.slice (some ⟨gv, 0, none⟩) 256 cv)) := (Fr.refl _ w1).setIn (e1.in_ on_mk) _
    refine ⟨⟨⟨xs, xn, y1, y2, Blk.fr hh hF' (on_not (by decide))⟩, ne, ok, ⟨_, sv, e1.set_ hi _ _ _, e2.fr hF' (fun _ _ => on_ne ne), fun j hj => ⟨?_, (e3 j hj).2.fr hF' (fun _ _ _ => on_not (by decide))⟩⟩, hwt.fr hF' (fun _ _ => on_not (by decide))⟩, hF⟩
    by_cases e : j = i
    · subst e
      simp only [upd, if_pos]
      refine ⟨rfl, rfl, bytes_fr ?_ ht1 hF' (fun _ _ _ => on_not (by decide)), ht1.fr hF' (fun _ _ _ => on_not (by decide))⟩
      exact Bytes.of_own hown
    · simp only [upd, if_neg e]
      exact (e3 j hj).1.fr hF' (fun _ _ _ => on_not (by decide))
  obtain ⟨hR2, hF2⟩ := hW1
  obtain ⟨W1, hW1⟩ : ∃ W1, W1 = w1.setCell ⟨gn, i, none⟩ (.slice (some ⟨gv, 0, none⟩) 256 cv) := ⟨_, rfl⟩
  rw [← hW1] at hR2 hF2 ⊢
  have hF1 : Fr (Rk h gs gn gw) w W1 := (Fr.of_below hb1).trans hF2
  clear hW1 hR1 hs1 ht1 hown hF2 hk1 hk2 hk4 hb1 h0 h1 h2 h3 h4 c0
  obtain ⟨xs, xn, y1, y2, hh⟩ := hR2.head
  obtain ⟨h0, h1, h2, h3, h4, hf⟩ := hh.facts
  obtain ⟨e0, hle, fe⟩ := hR2.wets.cell (i := i) hi
  have hW2 : RD (W1.setCell ⟨gw, i, none⟩ (.bool true)) h gs gn gw { s with now := upd s.now i l, wet := upd s.wet i true } ∧ Fr (Rk h gs gn gw) w (W1.setCell ⟨gw, i, none⟩ (.bool true)) := by
    obtain ⟨⟨xs, xn, y1, y2, hh⟩, ne, ok, ⟨nv, sv, e1, e2, e3⟩, hwt⟩ := hR2
    have hF' : Fr (On gw 4) W1 (W1.setCell ⟨gw, i, none⟩ (.bool true)) := (Fr.refl _ W1).setIn (hwt.in_ on_mk) _
    exact ⟨⟨⟨xs, xn, y1, y2, Blk.fr hh hF' (on_not (by decide))⟩, ne, ok, ⟨nv, sv, e1.fr hF' (fun _ _ => on_not (by decide)), e2.fr hF' (fun _ _ => on_not (by decide)),
      fun j hj => ⟨(e3 j hj).1.fr hF' (fun _ _ _ => on_not (by decide)), (e3 j hj).2.fr hF' (fun _ _ _ => on_not (by decide))⟩⟩, hwt.set_ hi _⟩, hF1.trans (hF'.mono fun _ _ x => .inr (.inr (.inr x)))⟩
  have HW2 := Lib.hid hW2
  clear hR2 hF1 hh hW2
  go_wp2_with (go_at_call 33; refine (step_any HW2.out.1 Hd.out hc hl).mono ?_; rintro e w2 ⟨rfl, hF2, hP2⟩)
  go_ret
  exact ⟨rfl, HW2.out.2.trans (hF2.mono fun _ _ x => .inl x), hP2⟩
end Go.Proofs.Ytadmccbminiadaa
