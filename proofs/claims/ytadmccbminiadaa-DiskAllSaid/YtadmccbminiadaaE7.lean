/- What is asked of a device, opened from the argument. No condition. -/
import Derived.Test.YtadmccbminiadaaE4
import Derived.Deep.Slices
import Derived.Deep.Fields
import Derived.ChangeSame
namespace Go.Proofs.Ytadmccbminiadaa
open Go.RowKit Go.ChangeShapes Go.WideShapes Go.Deep

section
variable {H : Type} {enc : TypeId × Value → H} {w : World} {spare : Nat → Bool} {held : Bool}
theorem one_of {cs : List Value} {j : Nat} (h : j < cs.length) : (cs.drop j).take 1 = [cs[j]] := by
  rw [List.drop_eq_getElem_cons h]
  rfl
theorem bytes_of {v : Value} {fuel : Nat} {x : DataW H × List MemPlace} (hA : ∀ b, spare b = true) (h : DataW.trod enc Try.prog w 0 spare held fuel 31 [v] = some x) :
    ∃ A n c l, v = .slice A n c ∧ Bytes w A n l ∧ n ≤ 9223372036854775807 := by
  rcases open_ints Try.underlying31 Try.underlying5 (by kernel_rfl) h with ⟨hcs, _⟩ | ⟨a, len, cap, zs, hcs, _, hl, hm, hz, _, hcell, hwz⟩
  · exact ⟨none, 0, 0, [], by simpa using hcs, Bytes.nil w none, by omega⟩
  · refine ⟨some a, len, cap, (zs.take len).map fun z => UInt8.ofNat z.toNat, by simpa using hcs, ⟨by simp [hz, hA, hl], fun hn => ?_⟩, by unfold maxLen at hm; omega⟩
    have hzl : zs.length = cap := by rw [hz, hA]; rfl
    have h0 := hcell 0 (by omega)
    obtain ⟨b, o, sp⟩ := a
    have hs : sp = none := by simpa [Addr.add] using World.cell?_spot h0
    subst hs
    refine ⟨b, o, rfl, fun j x hx => ?_⟩
    rw [List.getElem?_map, Option.map_eq_some_iff] at hx
    obtain ⟨z, hz1, rfl⟩ := hx
    rw [List.getElem?_take] at hz1
    split at hz1
    · rename_i hj
      have hc := hcell j (by omega)
      rw [addr_add] at hc
      have hzz : zs.getD j 0 = z := by rw [List.getD_eq_getElem?_getD, hz1]; rfl
      rw [hzz] at hc
      have hwf := hwz z (List.mem_of_getElem? hz1)
      rw [hc]
      obtain ⟨z0, z1⟩ : 0 ≤ z ∧ z ≤ 255 := by simpa [Lit.wf, IntKind.min, IntKind.max, IntKind.signed, IntKind.bits] using hwf
      have e : ((UInt8.ofNat z.toNat).toNat : Int) = z := by
        simp only [UInt8.toNat_ofNat']
        omega
      simp only [B8, e]
    · cases hz1
theorem bools_of {v : Value} {fuel : Nat} {x : DataW H × List MemPlace} (h : DataW.trod enc Try.prog w 0 spare held fuel 32 [v] = some x) :
    ∃ A n c l, v = .slice A n c ∧ Bools w A n l ∧ ∀ a, A = some a → 0 < n → a.block < w.heap.size := by
  rcases open_slice1 Try.underlying32 (by kernel_rfl) h with ⟨hcs, _⟩ | ⟨a, len, cap, m, k, V, D, Pl, hcs, _, hl, hm, hmm, _, hx⟩
  · exact ⟨none, 0, 0, [], by simpa using hcs, ⟨rfl, fun h => absurd h (by omega)⟩, fun _ e _ => by cases e⟩
  · have hlm : len ≤ m := by rw [hmm]; split <;> omega
    obtain ⟨B, hB⟩ := choose_lt (α := Bool) (p := fun i b => i < len → V i = .bool b) (n := len) (fun i hi => by
      obtain ⟨b, hb, _⟩ := DataW.trod_bool Try.underlying4 (hx i (by omega)).2
      exact ⟨b, fun _ => by simpa using hb⟩)
    refine ⟨some a, len, cap, (List.range len).map B, by simpa using hcs, ⟨by simp, fun hn => ?_⟩, fun a' e hn => ?_⟩
    · have h0 := (hx 0 (by omega)).1
      obtain ⟨b, o, sp⟩ := a
      have hs : sp = none := by simpa [Addr.add] using World.cell?_spot h0
      subst hs
      refine ⟨b, o, rfl, fun j x hj => ?_⟩
      have hjl : j < len := by
        rcases Nat.lt_or_ge j len with h | h
        · exact h
        · simp [List.getElem?_eq_none (show ((List.range len).map B).length ≤ j by simpa using h)] at hj
      have hc := (hx j (by omega)).1
      rw [addr_add] at hc
      rw [hc, hB j hjl hjl]
      simp [hjl] at hj
      rw [hj]
    · cases e
      have h0 := World.block_lt_of_cell? w _ (hx 0 (by omega)).1
      rw [block_of_add] at h0
      exact h0

theorem i64_top {n : Int} (h : (Lit.int .i64 n).wf = true) : n ≤ 9223372036854775807 := by
  have : -9223372036854775808 ≤ n ∧ n ≤ 9223372036854775807 := by simpa [Lit.wf, IntKind.min, IntKind.max, IntKind.signed, IntKind.bits] using h
  exact this.2
instance : Inhabited OpR := ⟨⟨0, 0, 0, none, 0, 0, [], none, 0, 0, []⟩⟩
/-- One element. -/
theorem op_of {a : Addr} {cs : List Value} {fuel : Nat} {x : DataW H × List MemPlace} (hA : ∀ b, spare b = true) (hc : w.cells? 0 a 5 = some cs) (h : DataW.trod enc Try.prog w 0 spare held fuel 34 cs = some x) :
    ∃ b o r, a = ⟨b, o, none⟩ ∧ OpOk w b o r := by
  obtain ⟨ys, n', _, _, _, hyl, hf⟩ := DataW.trod_struct Try.underlying34 h
  obtain ⟨_, hcl, hat⟩ := World.cells?_some hc
  have k3 : Try.prog.cellsOf 3 = 1 := by kernel_rfl
  have k31 : Try.prog.cellsOf 31 = 1 := by kernel_rfl
  have k32 : Try.prog.cellsOf 32 = 1 := by kernel_rfl
  match cs, hcl, ys, hyl with
  | [c0, c1, c2, c3, c4], _, [y0, y1, y2, y3, y4], _ =>
    have h0 := hf 0 _ rfl
    have h1 := hf 1 _ rfl
    have h2 := hf 2 _ rfl
    have h3 := hf 3 _ rfl
    have h4 := hf 4 _ rfl
    simp [k3, k31, k32] at h0 h1 h2 h3 h4
    obtain ⟨z0, e0, _, w0⟩ := DataW.trod_int Try.underlying3 h0
    obtain ⟨z1, e1, _, w1⟩ := DataW.trod_int Try.underlying3 h1
    obtain ⟨z2, e2, _, w2⟩ := DataW.trod_int Try.underlying3 h2
    obtain ⟨ba, bn, bc, bl, e3, hb, hbn⟩ := bytes_of hA h3
    obtain ⟨ka, kn, kc, kl, e4, hk, hkf⟩ := bools_of h4
    simp only [List.cons.injEq, and_true] at e0 e1 e2
    subst e0 e1 e2 e3 e4
    have ha := hat 0 (by omega)
    obtain ⟨b, o, sp⟩ := a
    have hs : sp = none := by simpa [Addr.add] using World.cell?_spot ha
    subst hs
    refine ⟨b, o, ⟨z0, z1, z2, ba, bn, bc, bl, ka, kn, kc, kl⟩, rfl, fun j v hv => ?_, hb, hbn, hk, hkf, i64_top w2⟩
    have hj : j < 5 := (List.getElem?_eq_some_iff.1 hv).1
    have := hat j hj
    rw [addr_add] at this
    rw [this]
    exact hv
theorem ops_of {a : Option Addr} {len cap fuel : Nat} {x : DataW H × List MemPlace} (hA : ∀ b, spare b = true) (h : DataW.trod enc Try.prog w 0 spare held fuel 26 [.slice a len cap] = some x) : ∃ f, OpsIn w a len f := by
  rcases open_slice Try.underlying26 h with ⟨hcs, _⟩ | ⟨ad, l, c, m, n, D, Pl, hcs, _, hl, hm, hmm, _, hi⟩
  · simp at hcs
    obtain ⟨rfl, rfl, rfl⟩ := hcs
    exact ⟨fun _ => default, fun h => absurd h (by omega)⟩
  · simp at hcs
    obtain ⟨rfl, rfl, rfl⟩ := hcs
    have k34 : Try.prog.cellsOf 34 = 5 := by kernel_rfl
    rw [k34] at hi
    have hlm : len ≤ m := by rw [hmm]; split <;> omega
    rcases Nat.eq_zero_or_pos len with h0 | h0
    · exact ⟨fun _ => default, fun h => absurd h (by omega)⟩
    · obtain ⟨cs0, hc0, ht0⟩ := hi 0 (by omega)
      obtain ⟨b, o, r, ha, _⟩ := op_of hA hc0 ht0
      have ha' : ad = ⟨b, o, none⟩ := by simpa [Addr.add] using ha
      subst ha'
      obtain ⟨f, hf⟩ := choose_lt (α := OpR) (p := fun k r => OpOk w b (o + k * 5) r) (n := len) (fun k hk => by
        obtain ⟨cs1, hc1, ht1⟩ := hi k (by omega)
        obtain ⟨b1, o1, r1, e1, hr⟩ := op_of hA hc1 ht1
        rw [addr_add] at e1
        cases e1
        exact ⟨r1, hr⟩)
      exact ⟨f, fun _ => ⟨b, o, rfl, hf⟩⟩
end
end Go.Proofs.Ytadmccbminiadaa
