/- Plain laws: the way back undoes the way there, and the other way round. No program in sight. -/
import Derived.Test.YtmilanicedjhmaaP6
import Derived.Test.YtmilanicedjhmaaF11
namespace Go.Proofs.Ytmilanicedjhmaa
open Go.RowKit

def isb : List UInt8 := [82, 9, 106, 213, 48, 54, 165, 56, 191, 64, 163, 158, 129, 243, 215, 251, 124, 227, 57, 130, 155, 47, 255, 135, 52, 142, 67, 68, 196, 222, 233, 203, 84, 123, 148, 50, 166, 194, 35, 61, 238, 76, 149, 11, 66, 250, 195, 78, 8, 46, 161, 102, 40, 217, 36, 178, 118, 91, 162, 73, 109, 139, 209, 37, 114, 248, 246, 100, 134, 104, 152, 22, 212, 164, 92, 204, 93, 101, 182, 146, 108, 112, 72, 80, 253, 237, 185, 218, 94, 21, 70, 87, 167, 141, 157, 132, 144, 216, 171, 0, 140, 188, 211, 10, 247, 228, 88, 5, 184, 179, 69, 6, 208, 44, 30, 143, 202, 63, 15, 2, 193, 175, 189, 3, 1, 19, 138, 107, 58, 145, 17, 65, 79, 103, 220, 234, 151, 242, 207, 206, 240, 180, 230, 115, 150, 172, 116, 34, 231, 173, 53, 133, 226, 249, 55, 232, 28, 117, 223, 110, 71, 241, 26, 113, 29, 41, 197, 137, 111, 183, 98, 14, 170, 24, 190, 27, 252, 86, 62, 75, 198, 210, 121, 32, 154, 219, 192, 254, 120, 205, 90, 244, 31, 221, 168, 51, 136, 7, 199, 49, 177, 18, 16, 89, 39, 128, 236, 95, 96, 81, 127, 169, 25, 181, 74, 13, 45, 229, 122, 159, 147, 201, 156, 239, 160, 224, 59, 77, 174, 42, 245, 176, 200, 235, 187, 60, 131, 83, 153, 97, 23, 43, 4, 126, 186, 119, 214, 38, 225, 105, 20, 99, 85, 33, 12, 125]
theorem isb_S8 : ∀ x : UInt8, isb.getD (S8 x).toNat 0 = x := all8 (by decide +kernel)
theorem S8_isb : ∀ y : UInt8, S8 (isb.getD y.toNat 0) = y := all8 (by decide +kernel)
theorem S8_inj {x y : UInt8} (h : S8 x = S8 y) : x = y := by rw [← isb_S8 x, h, isb_S8]
theorem sbox_S8 {i : Nat} (h : i < 256) : sbox i = S8 (UInt8.ofNat i) := by
  unfold S8
  congr 1
  simp [UInt8.toNat_ofNat']
  omega
theorem sbox_inj {i k : Nat} (hi : i < 256) (hk : k < 256) (h : sbox i = sbox k) : i = k := by
  rw [sbox_S8 hi, sbox_S8 hk] at h
  have := congrArg UInt8.toNat (S8_inj h)
  simp [UInt8.toNat_ofNat'] at this
  omega
theorem tbox_at : ∀ n, n ≤ 256 → ∀ i, i < n → tboxTo n (sbox i).toNat = UInt8.ofNat i
  | 0, _, _, h => absurd h (by omega)
  | n + 1, hn, i, h => by
    unfold tboxTo upd
    by_cases e : i = n
    · subst e; simp
    · rw [if_neg (fun e2 => e (sbox_inj (by omega) (by omega) (UInt8.toNat_inj.1 e2)))]
      exact tbox_at n (by omega) i (by omega)
theorem T8_S8 (x : UInt8) : T8 (S8 x) = x := by
  have h := tbox_at 256 (Nat.le_refl _) x.toNat x.toNat_lt
  unfold T8
  rw [show S8 x = sbox x.toNat from rfl, h]
  simp
theorem S8_T8 (y : UInt8) : S8 (T8 y) = y := by
  have h := T8_S8 (isb.getD y.toNat 0)
  rw [S8_isb] at h
  rw [h, S8_isb]

/-- Alike on a block. -/
def E16 (f g : Nat → UInt8) : Prop := ∀ j, j < 16 → f j = g j
theorem E16.tab {f g : Nat → UInt8} (h : E16 f g) : tab 16 f = tab 16 g := tab_congr h
theorem E16.sym {f g : Nat → UInt8} (h : E16 f g) : E16 g f := fun j hj => (h j hj).symm
theorem E16.trans {f g k : Nat → UInt8} (h : E16 f g) (h' : E16 g k) : E16 f k := fun j hj => (h j hj).trans (h' j hj)
theorem E16.sub {f g : Nat → UInt8} (h : E16 f g) : E16 (subF f) (subF g) := fun j _ => by unfold subF; rw [h _ (by omega)]
theorem E16.subB {f g : Nat → UInt8} (h : E16 f g) : E16 (subB f) (subB g) := fun j _ => by unfold Ytmilanicedjhmaa.subB; rw [h _ (by unfold backAt; omega)]
theorem E16.mix {f g : Nat → UInt8} (h : E16 f g) (m : Nat → UInt8) : E16 (mixF f m) (mixF g m) := fun j hj => by
  unfold mixF
  simp only [mixAcc]
  rw [h (4 * (j / 4) + 0) (by omega), h (4 * (j / 4) + 1) (by omega), h (4 * (j / 4) + 2) (by omega), h (4 * (j / 4) + 3) (by omega)]
theorem E16.xor {f g : Nat → UInt8} (h : E16 f g) (k : Nat → UInt8) : E16 (fun j => f j ^^^ k j) (fun j => g j ^^^ k j) := fun j hj => by simp only [h j hj]
theorem perm1 : ∀ j, j < 16 → (backAt j + backAt j % 4 * 4) % 16 = j := by decide
theorem perm2 : ∀ j, j < 16 → backAt ((j + j % 4 * 4) % 16) = j := by decide
theorem subB_subF (s : Nat → UInt8) : E16 (subB (subF s)) s := fun j hj => by
  unfold Ytmilanicedjhmaa.subB subF
  rw [T8_S8, perm1 j hj]
theorem back_perm : ∀ j, j < 16 → backAt ((j + j % 4 * 4) % 16) = j := by decide
theorem subF_subB (s : Nat → UInt8) : E16 (subF (subB s)) s := fun j hj => by
  unfold subF Ytmilanicedjhmaa.subB
  rw [S8_T8, back_perm j hj]

theorem mix_fb_at (s : Nat → UInt8) (c : Nat) : ∀ r, r < 4 → mixAcc (mixF s mFwd) mBwd c r 4 = s (4 * c + r) := fun r hr => by
  have hm : ∀ k, k < 4 → mixF s mFwd (4 * c + k) = mixAcc s mFwd c k 4 := fun k hk => mixF_at s mFwd hk
  simp only [mixAcc]
  rw [hm 0 (by omega), hm 1 (by omega), hm 2 (by omega), hm 3 (by omega)]
  simp only [mixAcc]
  clear hm
  match r, hr with
  | 0, _ => refine Eq.trans ?_ (col_fb (s (4 * c + 0)) (s (4 * c + 1)) (s (4 * c + 2)) (s (4 * c + 3))); simp [mFwd, mBwd]
  | 1, _ => refine Eq.trans ?_ (col_fb (s (4 * c + 1)) (s (4 * c + 2)) (s (4 * c + 3)) (s (4 * c + 0))); simp [mFwd, mBwd]; ac_rfl
  | 2, _ => refine Eq.trans ?_ (col_fb (s (4 * c + 2)) (s (4 * c + 3)) (s (4 * c + 0)) (s (4 * c + 1))); simp [mFwd, mBwd]; ac_rfl
  | 3, _ => refine Eq.trans ?_ (col_fb (s (4 * c + 3)) (s (4 * c + 0)) (s (4 * c + 1)) (s (4 * c + 2))); simp [mFwd, mBwd]; ac_rfl
theorem mix_fb (s : Nat → UInt8) : E16 (mixF (mixF s mFwd) mBwd) s := fun j _ => by
  show mixAcc (mixF s mFwd) mBwd (j / 4) (j % 4) 4 = s j
  rw [mix_fb_at s (j / 4) (j % 4) (by omega), show 4 * (j / 4) + j % 4 = j by omega]
theorem mix_bf_at (s : Nat → UInt8) (c : Nat) : ∀ r, r < 4 → mixAcc (mixF s mBwd) mFwd c r 4 = s (4 * c + r) := fun r hr => by
  have hm : ∀ k, k < 4 → mixF s mBwd (4 * c + k) = mixAcc s mBwd c k 4 := fun k hk => mixF_at s mBwd hk
  simp only [mixAcc]
  rw [hm 0 (by omega), hm 1 (by omega), hm 2 (by omega), hm 3 (by omega)]
  simp only [mixAcc]
  clear hm
  match r, hr with
  | 0, _ => refine Eq.trans ?_ (col_bf (s (4 * c + 0)) (s (4 * c + 1)) (s (4 * c + 2)) (s (4 * c + 3))); simp [mFwd, mBwd]
  | 1, _ => refine Eq.trans ?_ (col_bf (s (4 * c + 1)) (s (4 * c + 2)) (s (4 * c + 3)) (s (4 * c + 0))); simp [mFwd, mBwd]; ac_rfl
  | 2, _ => refine Eq.trans ?_ (col_bf (s (4 * c + 2)) (s (4 * c + 3)) (s (4 * c + 0)) (s (4 * c + 1))); simp [mFwd, mBwd]; ac_rfl
  | 3, _ => refine Eq.trans ?_ (col_bf (s (4 * c + 3)) (s (4 * c + 0)) (s (4 * c + 1)) (s (4 * c + 2))); simp [mFwd, mBwd]; ac_rfl
theorem mix_bf (s : Nat → UInt8) : E16 (mixF (mixF s mBwd) mFwd) s := fun j _ => by
  show mixAcc (mixF s mBwd) mFwd (j / 4) (j % 4) 4 = s j
  rw [mix_bf_at s (j / 4) (j % 4) (by omega), show 4 * (j / 4) + j % 4 = j by omega]

theorem xor_back (a b : UInt8) : a ^^^ b ^^^ b = a := by rw [UInt8.xor_assoc]; simp
variable (nw : Nat) (key : List UInt8) (b : Nat → UInt8)
theorem dec_enc_to : ∀ k, k ≤ nw + 6 → E16 (decTo nw key (encF nw key b) k) (encTo nw key b (nw + 7 - k))
  | 0, _ => fun _ _ => rfl
  | k + 1, hk => by
    have ih := dec_enc_to k (by omega)
    obtain ⟨m, hm⟩ : ∃ m, nw + 7 - k = m + 2 := ⟨nw + 5 - k, by omega⟩
    rw [hm] at ih
    rw [show nw + 7 - (k + 1) = m + 1 by omega]
    have hx : E16 (fun j => decTo nw key (encF nw key b) k j ^^^ rkey nw key (nw + 6 - k) j) (if m + 1 < nw + 6 then mixF (subF (encTo nw key b (m + 1))) mFwd else subF (encTo nw key b (m + 1))) := fun j hj => by
      simp only [ih j hj, encTo]
      rw [show nw + 6 - k = m + 1 by omega, xor_back]
    rw [decTo]
    by_cases h0 : k = 0
    · rw [if_neg (by omega)] at hx
      simp only [h0, if_true] at hx ⊢
      exact hx.subB.trans (subB_subF _)
    · rw [if_pos (by omega)] at hx
      simp only [h0, if_false]
      exact (hx.mix mBwd).subB.trans ((mix_fb _).subB.trans (subB_subF _))
theorem dec_enc : E16 (decF nw key (encF nw key b)) b := fun j hj => by
  unfold decF
  rw [dec_enc_to nw key b (nw + 6) (Nat.le_refl _) j hj, show nw + 7 - (nw + 6) = 1 by omega]
  simp only [encTo]
  rw [xor_back]
theorem enc_dec_to : ∀ i, i ≤ nw + 6 → E16 (encTo nw key (decF nw key b) (i + 1)) (decTo nw key b (nw + 6 - i))
  | 0, _ => fun j _ => by
    simp only [encTo, decF]
    rw [xor_back]
    rfl
  | i + 1, hi => by
    have ih := enc_dec_to i (by omega)
    obtain ⟨k, hk⟩ : ∃ k, nw + 6 - i = k + 1 := ⟨nw + 5 - i, by omega⟩
    rw [hk] at ih
    rw [show nw + 6 - (i + 1) = k by omega]
    have hd : decTo nw key b (k + 1) = subB (if k = 0 then (fun j => decTo nw key b k j ^^^ rkey nw key (i + 1) j) else mixF (fun j => decTo nw key b k j ^^^ rkey nw key (i + 1) j) mBwd) := by
      rw [decTo, show nw + 6 - k = i + 1 by omega]
      congr 1
      funext j
      by_cases h0 : k = 0 <;> simp [h0]
    rw [hd] at ih
    have hs := ih.sub.trans (subF_subB _)
    intro j hj
    simp only [encTo]
    by_cases h0 : k = 0
    · rw [if_neg (by omega)]
      rw [if_pos h0] at hs
      rw [hs j hj, xor_back]
    · rw [if_pos (by omega)]
      rw [if_neg h0] at hs
      rw [((hs.mix mFwd).trans (mix_bf _)) j hj, xor_back]
theorem enc_dec : E16 (encF nw key (decF nw key b)) b := fun j hj => by
  unfold encF
  rw [enc_dec_to nw key b (nw + 6) (Nat.le_refl _) j hj, Nat.sub_self]
  rfl
end Go.Proofs.Ytmilanicedjhmaa
