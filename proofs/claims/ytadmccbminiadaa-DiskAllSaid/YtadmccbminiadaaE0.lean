/- A region that draws and only reads, in a round of a range over a function: the quiet theorem inside a round. No condition. -/
import Derived.Sort.QuietIn
import Derived.RangeFuncCalls
namespace Go.Proofs.Ytadmccbminiadaa
open Go.RowKit

def noDefer (o : Oper) : Bool := match o.op with | .defer _ => false | _ => true
theorem noDefer_ne {o : Oper} (h : noDefer o = true) : ∀ c, o.op ≠ .defer c := fun c e => by
  unfold noDefer at h
  rw [e] at h
  cases h
section
variable {F : Fence} {n : Nat} {P : Program} {md : Region.Mode} {ops : Array Oper} {Q : Exit → Act → World → Prop}
theorem wpIn_toRound (l0 : Nat) (hro : F.round = none) {o : Oper} (hd : noDefer o = true) {a : Act} {w : World} {K : Act → World → Prop} (h : o.wpIn F n P a w K Q) : o.wpIn (F.inRound l0) n P a w K Q := by
  obtain ⟨h1, h2⟩ := h
  refine ⟨h1, ?_⟩
  rw [hro, Oper.semAt_none] at h2
  rw [Oper.semAt_eq _ _ _ (noDefer_ne hd)]
  exact h2
theorem wpAnyIn_toRound (l0 : Nat) (hro : F.round = none) (hd : ∀ (i : Nat) (o : Oper), ops[i]? = some o → noDefer o = true) :
    ∀ (fuel : Nat) (listed : Array Bool) (a : Act) (w : World), wpAnyIn F n P md ops Q fuel listed a w → wpAnyIn (F.inRound l0) n P md ops Q fuel listed a w
  | 0, _, _, _, h => h
  | fuel + 1, _, _, _, h => ⟨h.1, fun i hi => by
    have h2 := h.2 i hi
    unfold wpOpIn at h2 ⊢
    split at h2
    · exact wpAnyIn_toRound l0 hro hd fuel _ _ _ h2
    · rename_i o ho
      split at h2
      · rename_i hw
        rw [if_pos hw]
        exact wpIn_toRound l0 hro (hd i o ho) (Oper.wpIn_mono (fun a w => wpAnyIn_toRound l0 hro hd fuel _ a w) h2)
      · rename_i hw
        rw [if_neg hw]
        exact ⟨h2.1, wpAnyIn_toRound l0 hro hd fuel _ _ _ h2.2⟩⟩
end
theorem region_quiet_round {F : Fence} {n : Nat} {P : Program} {id l0 : Nat} {Q : Exit → Act → World → Prop} {a : Act} {w : World} {l : List Oper} (hro : F.round = none) (hm : P.follows .mixedOrders = true) (hB : Region.lexB .any l.toArray = true)
    (hd : l.all noDefer = true)
    (h : wpQuietIn F n P l.toArray (fun w' => ∃ n, w' = w.drewN n) (fun a' => ∀ w', (∃ n, w' = w.drewN n) → Q .normal a' w') l a) : (Code.region id l.toArray true).wpIn (F.inRound l0) n P Q a w := by
  simp only [Region.lexB, Bool.and_eq_true] at hB
  refine wpIn_region_any hm (wpAnyIn_toRound l0 hro (fun i o ho => ?_) _ _ _ _ (wpAnyIn_of_quiet (C := fun w' => ∃ n, w' = w.drewN n) (Q := fun a' => ∀ w', (∃ n, w' = w.drewN n) → Q .normal a' w') hro (fun _ w' hw' h => h w' hw') _ _ _ _ ⟨1, rfl⟩ ?_))
  · have ho' : l[i]? = some o := by simpa using ho
    exact List.all_eq_true.1 hd o (List.mem_of_getElem? ho')
  · have := wpAnyQIn_lex (F := F) (n := n) (C := fun w' => ∃ n, w' = w.drewN n) (md := .any) hB.1 l.toArray.toList 0 (Array.replicate l.toArray.size false) a (by simp) (by simpa using hB.2) (by simpa using h)
    simpa using this
end Go.Proofs.Ytadmccbminiadaa
