/- A device keeps what was synced: the law DiskAll returns true. No condition. -/
import Derived.Test.YtadmccbminiadaaE5
import Derived.Test.YtadmccbminiadaaE6
import Derived.Test.YtadmccbminiadaaE7
import Derived.Test.YtadmccbminiadaaRows
import Derived.WalkKit
import Derived.ProofKit
import Derived.OpenShut
import Derived.ChangeOld
import Derived.Below
namespace Go.Proofs.Ytadmccbminiadaa.diskAll
open Go.ChangeShapes Go.WideShapes Go.ChangeAt Go.RowKit
set_option linter.unusedVariables false

theorem own : ownKnob Try.prog.godebug = none := by kernel_rfl
theorem laidOut : laidOutB Try.prog = true := by kernel_rfl

/-- THE WALK, whatever the number of sectors. -/
theorem walk (M : Int) (A : Option Addr) (n c : Nat) (f : Nat → OpR) (w : World) (ho : OpsIn w A n f) : Calls Try.prog 4 #[.int .i64 M, .slice A n c] w (AllOk w) := by
  by_cases h1 : M < 1
  · exact all_none M (.inl h1) A n c
  · by_cases h2 : M ≤ 40
    · exact all_some (N := M.toNat) M (.inl (by omega)) (by omega) (by omega) A n c f ho
    · by_cases h3 : 65536 < M
      · exact all_none M (.inr (.inl h3)) A n c
      · by_cases h4 : M % 41 = 0
        · exact all_none M (.inr (.inr ⟨by omega, by omega, by rw [Int.tmod_eq_emod_of_nonneg (by omega)]; exact h4⟩)) A n c
        · exact all_some (N := (M % 41).toNat) M (.inr ⟨by omega, by omega, by omega⟩) (by omega) (by omega) A n c f ho

/-! ### THE ROW's STEP -/
set_option maxRecDepth 100000 in
theorem lifted (os : Os) (started : os.Started) (H : Type) (enc : TypeId × Value → H) :
    ReturnsInHanded {} Try.checked os 4 .any (Rows.diskAllSpec.pre6 enc Try.prog Try.f4 Rows.diskAllRow.domain false) (Rows.diskAllSpec.post enc Try.prog Try.f4 false true false false) := by
  refine returnsInHanded_of_change (C := Try.checked) own started (by kernel_rfl) Try.func4
    (ChangeSpec.witness6 (enc := enc) (C := Try.checked) false ⟨#[], #[.int .i64 0, .slice none 0 0], []⟩ 8 (by kernel_rfl) (by kernel_rfl) (by kernel_rfl) (by kernel_rfl)) ?_
  intro W base args ds gs before hval0 hW hcnd _
  have hval : ∀ (j : Nat) t v, Try.f4.params[j]? = some t → args[j]? = some v → Value.okWide Try.prog W .any base t v := hval0
  have hW' := hW
  obtain ⟨p, q, hA0, hV, rfl, hfz, hnd⟩ := hW
  have hA : DataW.TrodAll enc Try.prog W 0 (fun _ => true) true Try.f4.params.toList args.toList ds p := hA0
  rw [Try.params4] at hA hval
  obtain ⟨v0, vs0, d0, ds0, p0, q0, hargs, rfl, rfl, h0, r0⟩ := trodAll_cons hA
  obtain ⟨v1, vs1, d1, ds1, p1, q1, rfl, rfl, rfl, h1, r1⟩ := trodAll_cons r0
  obtain ⟨rfl, rfl, rfl⟩ := trodAll_nil r1
  obtain rfl : args = #[v0, v1] := by cases args; simp_all
  obtain ⟨rfl, rfl⟩ := trodVars_none hV
  obtain ⟨a0, rfl, rfl, rfl, w0⟩ := open_int Try.underlying3 (hval 0 3 v0 rfl rfl) h0
  obtain ⟨a1, len1, cap1, rfl⟩ := okWide_slice Try.underlying26 (hval 1 26 v1 rfl rfl)
  have k1 := h1
  have lt1 : ∀ x ∈ p1, x.block < W.heap.size := by obtain ⟨m, hm⟩ := k1; exact DataW.trod_lt m _ _ _ hm
  obtain ⟨f1, o1⟩ : ∃ f, OpsIn W a1 len1 f := by
    obtain ⟨fuel, hf⟩ := h1
    exact ops_of (fun _ => rfl) hf
  clear hA0 hval0 hargs
  refine (walk a0 a1 len1 cap1 f1 W o1).mono fun e W' ⟨he, bel⟩ => ?_
  subst he
  exact ⟨_, rfl, _, _, _, [], _, [], hW', trodAll_mk1 (shut_bool Try.underlying4 _), (trodAll_cons_mk (shut_int Try.underlying3 w0) (trodAll_cons_mk (Below.trod laidOut (by kernel_rfl) (of_decide_eq_true (by kernel_rfl)) k1 bel lt1) trodAll_mk0)), rfl, bel.frame _, fun h => by cases h⟩

theorem over : Rows.diskAllRow.holds Try.pinned (OpenSpec.ofChange Rows.diskAllSpec) :=
  OpenClaim.holds_of_wide 4 Try.f4 rfl rfl rfl rfl rfl rfl rfl ⟨rfl, rfl, rfl, rfl, rfl⟩ rfl rfl rfl rfl rfl (by kernel_rfl) Try.func4 (by kernel_rfl)
    (of_decide_eq_true (by kernel_rfl)) (by unfold Func.isWrapper; first | (rw [if_pos (by decide +kernel)]; kernel_rfl) | (rw [if_neg (by decide +kernel)]; exact ⟨rfl, rfl⟩))
    (fun os started H enc _ => lifted os started H enc)

/-- ████ THE STATEMENT ████ -/
theorem proved : Rows.DiskAllSaid := over
#print axioms proved
end Go.Proofs.Ytadmccbminiadaa.diskAll
