/- A slice of bytes, opened from an argument. No condition. -/
import Derived.Test.YtmilanicedjhmaaF20
import Derived.Deep.Slices
import Derived.Deep.Fields
import Derived.ChangeSame
namespace Go.Proofs.Ytmilanicedjhmaa
open Go.RowKit Go.ChangeShapes Go.WideShapes Go.Deep

section
variable {H : Type} {enc : TypeId × Value → H} {w : World} {spare : Nat → Bool} {held : Bool}
theorem bytes_of {v : Value} {fuel : Nat} {x : DataW H × List MemPlace} (hA : ∀ b, spare b = true) (h : DataW.trod enc Try.prog w 0 spare held fuel 22 [v] = some x) :
    ∃ A n c l, v = .slice A n c ∧ Bytes w A n l ∧ n ≤ c ∧ c ≤ 9223372036854775807 := by
  rcases open_ints Try.underlying22 Try.underlying5 (by kernel_rfl) h with ⟨hcs, _⟩ | ⟨a, len, cap, zs, hcs, _, hl, hm, hz, _, hcell, hwz⟩
  · exact ⟨none, 0, 0, [], by simpa using hcs, Bytes.nil w none, by omega, by omega⟩
  · refine ⟨some a, len, cap, (zs.take len).map fun z => UInt8.ofNat z.toNat, by simpa using hcs, ⟨by simp [hz, hA, hl], fun hn => ?_⟩, hl, by unfold maxLen at hm; omega⟩
    have hzl : zs.length = cap := by rw [hz, hA]; rfl
    have h0 := hcell 0 (by omega)
    obtain ⟨b, o, sp⟩ := a
    have hs : sp = none := by simpa [Addr.add] using World.cell?_spot h0
    subst hs
    refine ⟨b, o, rfl, fun j x hx => ?_⟩
    rw [List.getElem?_map, Option.map_eq_some_iff] at hx
    obtain ⟨z, hz1, rfl⟩ := hx
    rw [List.getElem?_take] at hz1
    split at hz1
    · rename_i hj
      have hc := hcell j (by omega)
      rw [addr_add] at hc
      have hzz : zs.getD j 0 = z := by rw [List.getD_eq_getElem?_getD, hz1]; rfl
      rw [hzz] at hc
      have hwf := hwz z (List.mem_of_getElem? hz1)
      rw [hc]
      obtain ⟨z0, z1⟩ : 0 ≤ z ∧ z ≤ 255 := by simpa [Lit.wf, IntKind.min, IntKind.max, IntKind.signed, IntKind.bits] using hwf
      have e : ((UInt8.ofNat z.toNat).toNat : Int) = z := by
        simp only [UInt8.toNat_ofNat']
        omega
      simp only [B8, e]
    · cases hz1
end
/-- What a law of two slices of bytes answers. -/
def LawOk (w : World) (e : Ending) (w' : World) : Prop := e = .returned (.bool true) ∧ Below w.heap.size w w'
end Go.Proofs.Ytmilanicedjhmaa
