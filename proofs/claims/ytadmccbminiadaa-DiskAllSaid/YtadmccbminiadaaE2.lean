/- Contracts of the law's own functions, part 13: what a crash is told to keep. No condition beyond each theorem's own. -/
import Derived.Test.YtadmccbminiadaaR5
namespace Go.Proofs.Ytadmccbminiadaa
open Go.RowKit

theorem Bools.fr {S : Nat → Obj → Prop} {w w' : World} {A : Option Addr} {n : Nat} {l : List Bool} (h : Bools w A n l) (hf : Fr S w w') (hS : ∀ a o, A = some a → 0 < n → ¬ S a.block o) : Bools w' A n l :=
  ⟨h.1, fun hn => by
    obtain ⟨b, o, rfl, hr⟩ := h.2 hn
    exact ⟨b, o, rfl, fun j x hx => hf.cell (hr j x hx) (fun ob _ => hS ⟨b, o, none⟩ ob rfl hn)⟩⟩

/-- The boxes of what a crash asks. -/
def Kp (bf ba : Nat) (k : Nat) (o : Obj) : Prop := On bf 4 k o ∨ On ba 3 k o
theorem kp_not {bf ba k : Nat} {c : Array Value} {t : TypeId} {f : Nat × Nat} (h4 : t ≠ 4) (h3 : t ≠ 3) : ¬ Kp bf ba k (.cells c t f) := by
  rintro (h | h)
  · exact on_not h4 h
  · exact on_not h3 h

structure KJ (h gs gn gw : Nat) (s : DS) (bf ba br bo : Nat) (q0 q1 q2 q3 : Value) (A : Option Addr) (n c : Nat) (l : List Bool) (k : Nat) (w : World) : Prop where
  fine : Blk w bf 4 #[.bool true]
  asked : ∃ a : Int, a < k ∧ -1 ≤ a ∧ Blk w ba 3 #[.int .i64 a]
  r : Blk w br 29 #[.pointer (some ⟨h, 0, none⟩)]
  o : Blk w bo 34 #[q0, q1, q2, q3, .slice A n c]
  rd : RD w h gs gn gw s
  keep : Bools w A n l
  ne : gw ≠ bf
  far : ∀ a, A = some a → 0 < n → a.block ≠ bf ∧ a.block ≠ ba

section
variable {h gs gn gw : Nat} {s : DS} {bf ba br bo : Nat} {q0 q1 q2 q3 : Value} {A : Option Addr} {n c : Nat} {l : List Bool} {k : Nat} {w w' : World}
theorem KJ.below (hj : KJ h gs gn gw s bf ba br bo q0 q1 q2 q3 A n c l k w) (hb : Below w.heap.size w w') : KJ h gs gn gw s bf ba br bo q0 q1 q2 q3 A n c l k w' := by
  obtain ⟨f, ⟨a, a1, a2, a3⟩, r, o, rd, kp, ne, far⟩ := hj
  exact ⟨f.below hb f.lt, ⟨a, a1, a2, a3.below hb a3.lt⟩, r.below hb r.lt, o.below hb o.lt, rd.below hb, kp.below hb, ne, far⟩
theorem KJ.more (hj : KJ h gs gn gw s bf ba br bo q0 q1 q2 q3 A n c l k w) : KJ h gs gn gw s bf ba br bo q0 q1 q2 q3 A n c l (k + 1) w := by
  obtain ⟨f, ⟨a, a1, a2, a3⟩, r, o, rd, kp, ne, far⟩ := hj
  exact ⟨f, ⟨a, by omega, a2, a3⟩, r, o, rd, kp, ne, far⟩
theorem KJ.ba_bf (hj : KJ h gs gn gw s bf ba br bo q0 q1 q2 q3 A n c l k w) : bf ≠ ba := by
  obtain ⟨a, _, _, a3⟩ := hj.asked
  exact Blk.ne_ hj.fine a3 (by decide)

/-- One question more. -/
theorem KJ.next (hj : KJ h gs gn gw s bf ba br bo q0 q1 q2 q3 A n c l k w) :
    KJ h gs gn gw s bf ba br bo q0 q1 q2 q3 A n c l (k + 1) ((w.setCell ⟨bf, 0, none⟩ (.bool true)).setCell ⟨ba, 0, none⟩ (.int .i64 (k : Int))) ∧
    Fr (Kp bf ba) w ((w.setCell ⟨bf, 0, none⟩ (.bool true)).setCell ⟨ba, 0, none⟩ (.int .i64 (k : Int))) := by
  have hne := hj.ba_bf
  obtain ⟨f, ⟨a, a1, a2, a3⟩, r, o, rd, kp, ne, far⟩ := hj
  have hF1 : Fr (Kp bf ba) w (w.setCell ⟨bf, 0, none⟩ (.bool true)) := (Fr.refl _ w).setIn (fun o ho => by
    rw [show w.heap[bf]? = _ from f] at ho; cases ho; exact .inl (on_mk _ _)) _
  have a3' := Blk.far (p := ⟨bf, 0, none⟩) a3 hne.symm (.bool true)
  have hF2 : Fr (Kp bf ba) (w.setCell ⟨bf, 0, none⟩ (.bool true)) ((w.setCell ⟨bf, 0, none⟩ (.bool true)).setCell ⟨ba, 0, none⟩ (.int .i64 (k : Int))) := (Fr.refl _ _).setIn (fun o ho => by
    rw [show (w.setCell ⟨bf, 0, none⟩ (.bool true)).heap[ba]? = _ from a3'] at ho; cases ho; exact .inr (on_mk _ _)) _
  have hF := hF1.trans hF2
  refine ⟨⟨?_, ⟨k, by omega, by omega, ?_⟩, r.fr hF (kp_not (by decide) (by decide)), o.fr hF (kp_not (by decide) (by decide)), ?_, kp.fr hF (fun a o e hn => ?_), ne, far⟩, hF⟩
  · have := Blk.far (p := ⟨ba, 0, none⟩) (f.set_ 0 (.bool true)) hne (.int .i64 (k : Int))
    simpa using this
  · have := a3'.set_ 0 (.int .i64 (k : Int))
    simpa using this
  · refine rd.fr hF (fun _ _ => kp_not (by decide) (by decide)) (fun _ _ => kp_not (by decide) (by decide)) (fun _ _ => kp_not (by decide) (by decide)) (fun c f => ?_) (fun _ _ _ => kp_not (by decide) (by decide))
    rintro (x | x)
    · exact ne x.1
    · exact on_not (by decide) x
  · obtain ⟨f1, f2⟩ := far a e hn
    rintro (x | x)
    · exact f1 x.1
    · exact f2 x.1
end

set_option maxHeartbeats 1000000 in
theorem keep_any {h gs gn gw : Nat} {s : DS} {bf ba br bo : Nat} {q0 q1 q2 q3 : Value} {A : Option Addr} {n c : Nat} {l : List Bool} {k : Nat} {w : World}
    (hj : KJ h gs gn gw s bf ba br bo q0 q1 q2 q3 A n c l k w) (hk : k < s.n) (hw : s.wet k = true) :
    Calls Try.prog 18 #[.int .i64 k, .pointer (some ⟨bf, 0, none⟩), .pointer (some ⟨ba, 0, none⟩), .pointer (some ⟨br, 0, none⟩), .pointer (some ⟨bo, 0, none⟩)] w
      (fun e w2 => e = .returned (.bool (keepOf l k)) ∧ KJ h gs gn gw s bf ba br bo q0 q1 q2 q3 A n c l (k + 1) w2 ∧ Fr (Kp bf ba) w w2) := by
  have hnx := hj.next
  have hne := hj.ba_bf
  obtain ⟨f, ⟨a, a1, a2, a3⟩, r, o, rd, kp, ne, far⟩ := hj
  obtain ⟨cs1, cn1, m1, m2, hh1⟩ := rd.head
  obtain ⟨-, -, y2, -, -, -⟩ := hh1.facts
  obtain ⟨v0, hlw, fw⟩ := rd.wets.cell hk
  rw [hw] at v0
  have f0 := f.cell 0
  have f1 := f.frozen 0
  have g0 := a3.cell 0
  have g1 := a3.frozen 0
  have r0 := r.cell 0
  have o4 := o.cell 4
  simp only [List.getElem?_toArray, List.getElem?_cons_zero, List.getElem?_cons_succ] at f0 g0 r0 o4
  have hobf : bo ≠ bf := Blk.ne_ o f (by decide)
  have hoba : bo ≠ ba := Blk.ne_ o a3 (by decide)
  have o4' : ((w.setCell ⟨bf, 0, none⟩ (.bool true)).setCell ⟨ba, 0, none⟩ (.int .i64 (k : Int))).cell? ⟨bo, 4, none⟩ = some (.slice A n c) := by
    have := hnx.1.o.cell 4
    simpa using this
  have g1' : (w.setCell ⟨bf, 0, none⟩ (.bool true)).frozen? ⟨ba, 0, none⟩ = false := (Blk.far (p := ⟨bf, 0, none⟩) a3 hne.symm (.bool true)).frozen 0
  have g0' : (w.setCell ⟨bf, 0, none⟩ (.bool true)).cell? ⟨ba, 0, none⟩ = some (.int .i64 a) := by
    have := (Blk.far (p := ⟨bf, 0, none⟩) a3 hne.symm (.bool true)).cell 0
    simpa using this
  have lf := f.lt
  have la := a3.lt
  have hi1 : a < (k : Int) := by omega
  have hi2 : (k : Int) < s.n := by omega
  have hi3 : (0 : Int) ≤ (k : Int) := by omega
  have kp2 := hnx.1.keep
  have Hnx := Lib.hid hnx
  clear rd hh1 f a3 r o hnx
  by_cases hkn : k < n
  · obtain ⟨b, of, rfl, hc⟩ := kp2.at_ hkn
    have hkl : l.getD k false = keepOf l k := rfl
    rw [hkl] at hc
    have hi4 : (k : Int) < n := by omega
    clear kp kp2 hkl
    go_enter Try.func18, Try.ntmps18
    go_wp2
    go_ret
    exact ⟨rfl, Hnx.out⟩
  · have hkl : keepOf l k = false := by unfold keepOf; rw [List.getD_eq_getElem?_getD, List.getElem?_eq_none (by rw [kp.1]; omega)]; rfl
    rw [hkl]
    have hi4 : ¬ (k : Int) < n := by omega
    clear kp kp2 hkl
    go_enter Try.func18, Try.ntmps18
    go_wp2
    go_ret
    exact ⟨rfl, Hnx.out⟩
end Go.Proofs.Ytadmccbminiadaa
