/- Contracts of the functions of the reference's device. No condition beyond each theorem's own. -/
import Derived.Test.YtadmccbminiadaaD11
namespace Go.Proofs.Ytadmccbminiadaa
open Go.RowKit

def DS.fuseOf (s : DS) : Int := if s.fused then (if s.left < 1 then 0 else s.left) else -1
def DS.ok (s : DS) : Prop := s.dead = (s.fused && decide (s.left < 1))

def RHead (w : World) (h gs gn gw n cs cn : Nat) (fuse count : Int) : Prop :=
  Blk w h 41 #[.slice (some ⟨gs, 0, none⟩) n cs, .slice (some ⟨gn, 0, none⟩) n cn, .slice (some ⟨gw, 0, none⟩) n n, .int .i64 fuse, .int .i64 count]
theorem RHead.facts {w : World} {h gs gn gw n cs cn : Nat} {fuse count : Int} (hh : RHead w h gs gn gw n cs cn fuse count) :
    w.cell? ⟨h, 0, none⟩ = some (.slice (some ⟨gs, 0, none⟩) n cs) ∧ w.cell? ⟨h, 1, none⟩ = some (.slice (some ⟨gn, 0, none⟩) n cn) ∧ w.cell? ⟨h, 2, none⟩ = some (.slice (some ⟨gw, 0, none⟩) n n) ∧
    w.cell? ⟨h, 3, none⟩ = some (.int .i64 fuse) ∧ w.cell? ⟨h, 4, none⟩ = some (.int .i64 count) ∧ (∀ j, w.frozen? ⟨h, j, none⟩ = false) :=
  ⟨Blk.cell hh 0, Blk.cell hh 1, Blk.cell hh 2, Blk.cell hh 3, Blk.cell hh 4, Blk.frozen hh⟩
/-- A spine of slices. -/
def Spine (w : World) (g n : Nat) (f : Nat → SH) : Prop := ∃ cs, Blk w g 31 cs ∧ ∀ i, i < n → cs[i]? = some (.slice (f i).a (f i).n (f i).c)
def Wets (w : World) (g n : Nat) (wet : Nat → Bool) : Prop := ∃ cs, Blk w g 4 cs ∧ ∀ i, i < n → cs[i]? = some (.bool (wet i))
def Sect (w : World) (h : SH) (l : List UInt8) : Prop := h.a.isSome = true ∧ h.n = 256 ∧ Bytes w h.a 256 l ∧ Ty5 w h.a

structure RD (w : World) (h gs gn gw : Nat) (s : DS) : Prop where
  head : ∃ cs cn, s.n ≤ cs ∧ s.n ≤ cn ∧ RHead w h gs gn gw s.n cs cn s.fuseOf s.count
  ne : gs ≠ gn
  ok : s.ok
  data : ∃ nv sv, Spine w gn s.n nv ∧ Spine w gs s.n sv ∧ ∀ i, i < s.n → Sect w (nv i) (s.now i) ∧ Sect w (sv i) (s.safe i)
  wets : Wets w gw s.n s.wet

section
variable {w w' : World} {h gs gn gw g n : Nat} {s : DS} {S : Nat → Obj → Prop}
theorem Spine.fr {f : Nat → SH} (hs : Spine w g n f) (hf : Fr S w w') (hS : ∀ c fr, ¬ S g (.cells c 31 fr)) : Spine w' g n f := by
  obtain ⟨cs, h1, h2⟩ := hs
  exact ⟨cs, h1.fr hf (hS _ _), h2⟩
theorem Wets.fr {f : Nat → Bool} (hs : Wets w g n f) (hf : Fr S w w') (hS : ∀ c fr, ¬ S g (.cells c 4 fr)) : Wets w' g n f := by
  obtain ⟨cs, h1, h2⟩ := hs
  exact ⟨cs, h1.fr hf (hS _ _), h2⟩
theorem Sect.fr {hv : SH} {l : List UInt8} (hd : Sect w hv l) (hf : Fr S w w') (hS : ∀ k c f, ¬ S k (.cells c 5 f)) : Sect w' hv l :=
  ⟨hd.1, hd.2.1, bytes_fr hd.2.2.1 hd.2.2.2 hf hS, hd.2.2.2.fr hf hS⟩
/-- The head turns, all else stays. -/
theorem RD.putHead {s' : DS} (hr : RD w h gs gn gw s) (hf : Fr S w w') (hn : ∀ c fr, ¬ S gn (.cells c 31 fr)) (hs : ∀ c fr, ¬ S gs (.cells c 31 fr)) (hw : ∀ c fr, ¬ S gw (.cells c 4 fr)) (h5 : ∀ k c f, ¬ S k (.cells c 5 f))
    (hh : ∀ cs cn, RHead w h gs gn gw s.n cs cn s.fuseOf s.count → RHead w' h gs gn gw s.n cs cn s'.fuseOf s'.count) (e0 : s'.n = s.n) (e1 : s'.now = s.now) (e2 : s'.safe = s.safe) (e3 : s'.wet = s.wet) (hok : s'.ok) : RD w' h gs gn gw s' := by
  obtain ⟨⟨cs, cn, l1, l2, hd⟩, ne, _, ⟨nv, sv, d1, d2, d3⟩, hwt⟩ := hr
  exact ⟨⟨cs, cn, by rw [e0]; exact l1, by rw [e0]; exact l2, by rw [e0]; exact hh cs cn hd⟩, ne, hok,
    ⟨nv, sv, by rw [e0]; exact d1.fr hf hn, by rw [e0]; exact d2.fr hf hs, fun i hi => by rw [e0] at hi; rw [e1, e2]; exact ⟨(d3 i hi).1.fr hf h5, (d3 i hi).2.fr hf h5⟩⟩, by rw [e0, e3]; exact hwt.fr hf hw⟩
theorem RD.fr (hr : RD w h gs gn gw s) (hf : Fr S w w') (h0 : ∀ c fr, ¬ S h (.cells c 41 fr)) (hn : ∀ c fr, ¬ S gn (.cells c 31 fr)) (hs : ∀ c fr, ¬ S gs (.cells c 31 fr)) (hw : ∀ c fr, ¬ S gw (.cells c 4 fr)) (h5 : ∀ k c f, ¬ S k (.cells c 5 f)) : RD w' h gs gn gw s :=
  hr.putHead hf hn hs hw h5 (fun _ _ hh => Blk.fr hh hf (h0 _ _)) rfl rfl rfl rfl hr.ok
theorem RD.below (hr : RD w h gs gn gw s) (hb : Below w.heap.size w w') : RD w' h gs gn gw s :=
  hr.fr (S := No) (Fr.of_below hb) (fun _ _ => id) (fun _ _ => id) (fun _ _ => id) (fun _ _ => id) (fun _ _ _ => id)
end

/-- What a step turns of it: its head; all. -/
def Rh (h : Nat) (k : Nat) (o : Obj) : Prop := k = h ∧ Ty [41] k o
def Rk (h gs gn gw : Nat) (k : Nat) (o : Obj) : Prop := Rh h k o ∨ (k = gs ∧ Ty [31] k o) ∨ (k = gn ∧ Ty [31] k o) ∨ (k = gw ∧ Ty [4] k o)
theorem rh_not {h k : Nat} {c : Array Value} {t : TypeId} {f : Nat × Nat} (e : t ≠ 41) : ¬ Rh h k (.cells c t f) := fun x => ty_not (by simp [e]) x.2
theorem rk_not {h gs gn gw k : Nat} {c : Array Value} {t : TypeId} {f : Nat × Nat} (e : t ≠ 41) (e1 : t ≠ 31) (e2 : t ≠ 4) : ¬ Rk h gs gn gw k (.cells c t f) := by
  rintro (x | x | x | x)
  · exact rh_not e x
  · exact ty_not (by simp [e1]) x.2
  · exact ty_not (by simp [e1]) x.2
  · exact ty_not (by simp [e2]) x.2
theorem rh_in {w : World} {h gs gn gw n cs cn : Nat} {fuse count : Int} (hh : RHead w h gs gn gw n cs cn fuse count) : ∀ o, w.heap[h]? = some o → Rh h h o := by
  intro o ho
  rw [show w.heap[h]? = _ from hh] at ho
  cases ho
  exact ⟨rfl, _, _, _, rfl, by simp⟩
theorem RD.in_ {w : World} {h gs gn gw : Nat} {s : DS} (hr : RD w h gs gn gw s) : ∀ o, w.heap[h]? = some o → Rh h h o := by
  obtain ⟨_, _, _, _, hh⟩ := hr.head
  exact rh_in hh

theorem beq_dead (s : DS) (hok : s.ok) : (s.fuseOf == 0) = s.dead := by
  rw [hok]
  unfold DS.fuseOf
  cases s.fused
  · rfl
  · simp only [if_true, Bool.true_and]
    by_cases h : s.left < 1
    · simp [h]
    · simp only [h, decide_false]
      simp; omega

theorem rdead_any {w : World} {h gs gn gw : Nat} {s : DS} (hr : RD w h gs gn gw s) : Calls Try.prog 32 #[.pointer (some ⟨h, 0, none⟩)] w fun e w' => e = .returned (.bool s.dead) ∧ w = w' := by
  obtain ⟨cs, cn, _, _, hh⟩ := hr.head
  obtain ⟨h0, h1, h2, h3, h4, hf⟩ := hh.facts
  rw [← beq_dead s hr.ok]
  go_enter Try.func32, Try.ntmps32
  go_wp2
  go_ret
  exact ⟨rfl, rfl⟩

theorem done_ok (s : DS) (hok : s.ok) : s.done.ok := by
  unfold DS.ok DS.done at *
  cases hf : s.fused
  · simp [hf] at hok ⊢; exact hok
  · simp
theorem fuseOf_done (s : DS) (hok : s.ok) (hd : s.dead = false) : s.done.fuseOf = if 0 < s.fuseOf then s.fuseOf - 1 else s.fuseOf := by
  unfold DS.ok at hok
  unfold DS.fuseOf DS.done
  cases hf : s.fused
  · simp
  · rw [hf, hd] at hok
    have : ¬ s.left < 1 := by simpa using hok.symm
    simp only [if_true, if_neg this]
    (repeat' split) <;> omega

theorem step_any {w : World} {h gs gn gw : Nat} {s : DS} (hr : RD w h gs gn gw s) (hd : s.dead = false) (hc : 0 ≤ s.count ∧ s.count < 1000000) (hl : s.fuseOf ≤ 9223372036854775807) :
    Calls Try.prog 33 #[.pointer (some ⟨h, 0, none⟩)] w (Quiet (Rh h) w (.tuple #[]) fun w' => RD w' h gs gn gw s.done) := by
  obtain ⟨cs, cn, l1, l2, hh⟩ := hr.head
  obtain ⟨h0, h1, h2, h3, h4, hf⟩ := hh.facts
  obtain ⟨hc0, hc1⟩ := hc
  have hfd := fuseOf_done s hr.ok hd
  have HR := Lib.hid hr
  by_cases hz : 0 < s.fuseOf
  · rw [if_pos hz] at hfd
    have Hfd := Lib.hid hfd
    clear hr hh hfd hd
    go_enter Try.func33, Try.ntmps33
    go_wp2
    go_end0
    have hF : ∀ a b, Fr (Rh h) w ((w.setCell ⟨h, 4, none⟩ a).setCell ⟨h, 3, none⟩ b) := fun a b => ((Fr.refl _ w).setIn HR.out.in_ _).setIn HR.out.in_ _
    refine ⟨rfl, hF _ _, HR.out.putHead (hF _ _) (fun _ _ => rh_not (by decide)) (fun _ _ => rh_not (by decide)) (fun _ _ => rh_not (by decide)) (fun _ _ _ => rh_not (by decide)) (fun cs cn x => ?_) rfl rfl rfl rfl (done_ok s HR.out.ok)⟩
    rw [Hfd.out]
    exact Blk.set_ (Blk.set_ x 4 _) 3 _
  · rw [if_neg hz] at hfd
    have Hfd := Lib.hid hfd
    clear hr hh hfd hd
    go_enter Try.func33, Try.ntmps33
    go_wp2
    go_end0
    have hF : ∀ a, Fr (Rh h) w (w.setCell ⟨h, 4, none⟩ a) := fun a => (Fr.refl _ w).setIn HR.out.in_ _
    refine ⟨rfl, hF _, HR.out.putHead (hF _) (fun _ _ => rh_not (by decide)) (fun _ _ => rh_not (by decide)) (fun _ _ => rh_not (by decide)) (fun _ _ _ => rh_not (by decide)) (fun cs cn x => ?_) rfl rfl rfl rfl (done_ok s HR.out.ok)⟩
    rw [Hfd.out]
    exact Blk.set_ x 4 _

theorem fuse_ok (s : DS) (n : Int) (hok : s.ok) : (s.fuse n).ok := by
  unfold DS.fuse
  split
  · exact hok
  · simp [DS.ok]
theorem setFuse_any {w : World} {h gs gn gw : Nat} {s : DS} (hr : RD w h gs gn gw s) (n : Int) :
    Calls Try.prog 16 #[.pointer (some ⟨h, 0, none⟩), .int .i64 n] w (Quiet (Rh h) w (.tuple #[]) fun w' => RD w' h gs gn gw (s.fuse n)) := by
  obtain ⟨cs, cn, l1, l2, hh⟩ := hr.head
  obtain ⟨h0, h1, h2, h3, h4, hf⟩ := hh.facts
  have HR := Lib.hid hr
  cases hd : s.dead
  · have hfu : (s.fuse n).fuseOf = if n < 1 then 0 else n := by simp [DS.fuse, hd, DS.fuseOf]
    have hsame : (s.fuse n).n = s.n ∧ (s.fuse n).now = s.now ∧ (s.fuse n).safe = s.safe ∧ (s.fuse n).wet = s.wet ∧ (s.fuse n).count = s.count := by simp [DS.fuse, hd]
    have Hd := Lib.hid hd
    have Hsame := Lib.hid hsame
    have hF : ∀ a, Fr (Rh h) w (w.setCell ⟨h, 3, none⟩ a) := fun a => (Fr.refl _ w).setIn HR.out.in_ _
    have HF := Lib.hid hF
    by_cases hn : n < 0
    · have hfu2 : (s.fuse n).fuseOf = 0 := by rw [hfu, if_pos (by omega)]
      have Hfu := Lib.hid hfu2
      clear hr hh hfu hfu2 hd hsame hF
      go_enter Try.func16, Try.ntmps16
      go_wp2_with (go_at_call 32; refine (rdead_any HR.out).mono ?_; rw [Hd.out]; rintro e w' ⟨rfl, rfl⟩)
      go_end0
      refine ⟨rfl, HF.out _, HR.out.putHead (HF.out _) (fun _ _ => rh_not (by decide)) (fun _ _ => rh_not (by decide)) (fun _ _ => rh_not (by decide)) (fun _ _ _ => rh_not (by decide)) (fun cs cn x => ?_) Hsame.out.1 Hsame.out.2.1 Hsame.out.2.2.1 Hsame.out.2.2.2.1 (fuse_ok s n HR.out.ok)⟩
      rw [Hfu.out, Hsame.out.2.2.2.2]
      exact Blk.set_ x 3 _
    · have hfu2 : (s.fuse n).fuseOf = n := by rw [hfu]; split <;> omega
      have Hfu := Lib.hid hfu2
      clear hr hh hfu hfu2 hd hsame hF
      go_enter Try.func16, Try.ntmps16
      go_wp2_with (go_at_call 32; refine (rdead_any HR.out).mono ?_; rw [Hd.out]; rintro e w' ⟨rfl, rfl⟩)
      go_end0
      refine ⟨rfl, HF.out _, HR.out.putHead (HF.out _) (fun _ _ => rh_not (by decide)) (fun _ _ => rh_not (by decide)) (fun _ _ => rh_not (by decide)) (fun _ _ _ => rh_not (by decide)) (fun cs cn x => ?_) Hsame.out.1 Hsame.out.2.1 Hsame.out.2.2.1 Hsame.out.2.2.2.1 (fuse_ok s n HR.out.ok)⟩
      rw [Hfu.out, Hsame.out.2.2.2.2]
      exact Blk.set_ x 3 _
  · have hfin : s.fuse n = s := by simp [DS.fuse, hd]
    go_enter Try.func16, Try.ntmps16
    go_wp2_with (go_at_call 32; refine (rdead_any hr).mono ?_; rw [hd]; rintro e w' ⟨rfl, rfl⟩)
    refine bodyPost_ret (results_none rfl _ _ _) rfl ?_
    exact ⟨rfl, Fr.refl _ _, by rw [hfin]; exact hr⟩
end Go.Proofs.Ytadmccbminiadaa
