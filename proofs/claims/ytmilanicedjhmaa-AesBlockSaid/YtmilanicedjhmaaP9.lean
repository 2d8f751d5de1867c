/- Plain laws: the cipher's example. No program in sight. -/
import Derived.Test.YtmilanicedjhmaaP7
namespace Go.Proofs.Ytmilanicedjhmaa
open Go.RowKit

def exKey : List UInt8 := [0, 1, 2, 3, 4, 5, 6, 7, 8, 9, 10, 11, 12, 13, 14, 15]
def exIn : List UInt8 := [0, 17, 34, 51, 68, 85, 102, 119, 136, 153, 170, 187, 204, 221, 238, 255]
def exOut : List UInt8 := [105, 196, 224, 216, 106, 123, 4, 48, 216, 205, 183, 128, 112, 180, 197, 90]
def exAll : List UInt8 := [0, 1, 2, 3, 4, 5, 6, 7, 8, 9, 10, 11, 12, 13, 14, 15, 214, 170, 116, 253, 210, 175, 114, 250, 218, 166, 120, 241, 214, 171, 118, 254, 182, 146, 207, 11, 100, 61, 189, 241, 190, 155, 197, 0, 104, 48, 179, 254, 182, 255, 116, 78, 210, 194, 201, 191, 108, 89, 12, 191, 4, 105, 191, 65, 71, 247, 247, 188, 149, 53, 62, 3, 249, 108, 50, 188, 253, 5, 141, 253, 60, 170, 163, 232, 169, 159, 157, 235, 80, 243, 175, 87, 173, 246, 34, 170, 94, 57, 15, 125, 247, 166, 146, 150, 167, 85, 61, 193, 10, 163, 31, 107, 20, 249, 112, 26, 227, 95, 226, 140, 68, 10, 223, 77, 78, 169, 192, 38, 71, 67, 135, 53, 164, 28, 101, 185, 224, 22, 186, 244, 174, 191, 122, 210, 84, 153, 50, 209, 240, 133, 87, 104, 16, 147, 237, 156, 190, 44, 151, 78, 19, 17, 29, 127, 227, 148, 74, 23, 243, 7, 167, 139, 77, 43, 48, 197]
theorem ex0 : kExp 4 exKey 0 = (1, exAll.take 16) := by decide
theorem ex1 : kExp 4 exKey 1 = (2, exAll.take 20) := by
  rw [kExp, ex0]
  decide +kernel
theorem ex2 : kExp 4 exKey 2 = (2, exAll.take 24) := by
  rw [kExp, ex1]
  decide +kernel
theorem ex3 : kExp 4 exKey 3 = (2, exAll.take 28) := by
  rw [kExp, ex2]
  decide +kernel
theorem ex4 : kExp 4 exKey 4 = (2, exAll.take 32) := by
  rw [kExp, ex3]
  decide +kernel
theorem ex5 : kExp 4 exKey 5 = (4, exAll.take 36) := by
  rw [kExp, ex4]
  decide +kernel
theorem ex6 : kExp 4 exKey 6 = (4, exAll.take 40) := by
  rw [kExp, ex5]
  decide +kernel
theorem ex7 : kExp 4 exKey 7 = (4, exAll.take 44) := by
  rw [kExp, ex6]
  decide +kernel
theorem ex8 : kExp 4 exKey 8 = (4, exAll.take 48) := by
  rw [kExp, ex7]
  decide +kernel
theorem ex9 : kExp 4 exKey 9 = (8, exAll.take 52) := by
  rw [kExp, ex8]
  decide +kernel
theorem ex10 : kExp 4 exKey 10 = (8, exAll.take 56) := by
  rw [kExp, ex9]
  decide +kernel
theorem ex11 : kExp 4 exKey 11 = (8, exAll.take 60) := by
  rw [kExp, ex10]
  decide +kernel
theorem ex12 : kExp 4 exKey 12 = (8, exAll.take 64) := by
  rw [kExp, ex11]
  decide +kernel
theorem ex13 : kExp 4 exKey 13 = (16, exAll.take 68) := by
  rw [kExp, ex12]
  decide +kernel
theorem ex14 : kExp 4 exKey 14 = (16, exAll.take 72) := by
  rw [kExp, ex13]
  decide +kernel
theorem ex15 : kExp 4 exKey 15 = (16, exAll.take 76) := by
  rw [kExp, ex14]
  decide +kernel
theorem ex16 : kExp 4 exKey 16 = (16, exAll.take 80) := by
  rw [kExp, ex15]
  decide +kernel
theorem ex17 : kExp 4 exKey 17 = (32, exAll.take 84) := by
  rw [kExp, ex16]
  decide +kernel
theorem ex18 : kExp 4 exKey 18 = (32, exAll.take 88) := by
  rw [kExp, ex17]
  decide +kernel
theorem ex19 : kExp 4 exKey 19 = (32, exAll.take 92) := by
  rw [kExp, ex18]
  decide +kernel
theorem ex20 : kExp 4 exKey 20 = (32, exAll.take 96) := by
  rw [kExp, ex19]
  decide +kernel
theorem ex21 : kExp 4 exKey 21 = (64, exAll.take 100) := by
  rw [kExp, ex20]
  decide +kernel
theorem ex22 : kExp 4 exKey 22 = (64, exAll.take 104) := by
  rw [kExp, ex21]
  decide +kernel
theorem ex23 : kExp 4 exKey 23 = (64, exAll.take 108) := by
  rw [kExp, ex22]
  decide +kernel
theorem ex24 : kExp 4 exKey 24 = (64, exAll.take 112) := by
  rw [kExp, ex23]
  decide +kernel
theorem ex25 : kExp 4 exKey 25 = (128, exAll.take 116) := by
  rw [kExp, ex24]
  decide +kernel
theorem ex26 : kExp 4 exKey 26 = (128, exAll.take 120) := by
  rw [kExp, ex25]
  decide +kernel
theorem ex27 : kExp 4 exKey 27 = (128, exAll.take 124) := by
  rw [kExp, ex26]
  decide +kernel
theorem ex28 : kExp 4 exKey 28 = (128, exAll.take 128) := by
  rw [kExp, ex27]
  decide +kernel
theorem ex29 : kExp 4 exKey 29 = (27, exAll.take 132) := by
  rw [kExp, ex28]
  decide +kernel
theorem ex30 : kExp 4 exKey 30 = (27, exAll.take 136) := by
  rw [kExp, ex29]
  decide +kernel
theorem ex31 : kExp 4 exKey 31 = (27, exAll.take 140) := by
  rw [kExp, ex30]
  decide +kernel
theorem ex32 : kExp 4 exKey 32 = (27, exAll.take 144) := by
  rw [kExp, ex31]
  decide +kernel
theorem ex33 : kExp 4 exKey 33 = (54, exAll.take 148) := by
  rw [kExp, ex32]
  decide +kernel
theorem ex34 : kExp 4 exKey 34 = (54, exAll.take 152) := by
  rw [kExp, ex33]
  decide +kernel
theorem ex35 : kExp 4 exKey 35 = (54, exAll.take 156) := by
  rw [kExp, ex34]
  decide +kernel
theorem ex36 : kExp 4 exKey 36 = (54, exAll.take 160) := by
  rw [kExp, ex35]
  decide +kernel
theorem ex37 : kExp 4 exKey 37 = (108, exAll.take 164) := by
  rw [kExp, ex36]
  decide +kernel
theorem ex38 : kExp 4 exKey 38 = (108, exAll.take 168) := by
  rw [kExp, ex37]
  decide +kernel
theorem ex39 : kExp 4 exKey 39 = (108, exAll.take 172) := by
  rw [kExp, ex38]
  decide +kernel
theorem ex40 : kExp 4 exKey 40 = (108, exAll.take 176) := by
  rw [kExp, ex39]
  decide +kernel
theorem exAll_is : kAll 4 exKey = exAll := by
  rw [kAll, show 3 * 4 + 28 = 40 from rfl, ex40]
  rfl
theorem exKeyAt (k j : Nat) : rkey 4 exKey k j = exAll.getD (16 * k + j) 0 := by rw [rkey, exAll_is]
theorem enc_step (L : List UInt8) (k : Nat) (b : Nat → UInt8) (h : tab 16 (encTo 4 exKey b (k + 1)) = L) :
    tab 16 (encTo 4 exKey b (k + 2)) = tab 16 (fun j => (if k + 1 < 10 then mixF (subF fun j => L.getD j 0) mFwd else subF fun j => L.getD j 0) j ^^^ exAll.getD (16 * (k + 1) + j) 0) := by
  have he : E16 (encTo 4 exKey b (k + 1)) (fun j => L.getD j 0) := fun j hj => by
    rw [← h]
    exact (tab_getD _ hj).symm
  apply tab_congr
  intro j hj
  simp only [encTo, exKeyAt]
  by_cases h0 : k + 1 < 4 + 6
  · rw [if_pos h0, if_pos (by omega), (he.sub.mix mFwd) j hj]
  · rw [if_neg h0, if_neg (by omega), he.sub j hj]
theorem exS0 : tab 16 (encTo 4 exKey (fun j => exIn.getD j 0) 1) = [0, 16, 32, 48, 64, 80, 96, 112, 128, 144, 160, 176, 192, 208, 224, 240] := by
  have h : tab 16 (encTo 4 exKey (fun j => exIn.getD j 0) 1) = tab 16 (fun j => exIn.getD j 0 ^^^ exAll.getD (16 * 0 + j) 0) := tab_congr fun j _ => by
    simp only [encTo, exKeyAt]
  rw [h]
  decide +kernel
theorem exS1 : tab 16 (encTo 4 exKey (fun j => exIn.getD j 0) 2) = [137, 216, 16, 232, 133, 90, 206, 104, 45, 24, 67, 216, 203, 18, 143, 228] := by
  rw [enc_step _ 0 _ exS0]
  decide +kernel
theorem exS2 : tab 16 (encTo 4 exKey (fun j => exIn.getD j 0) 3) = [73, 21, 89, 143, 85, 229, 215, 160, 218, 202, 148, 250, 31, 10, 99, 247] := by
  rw [enc_step _ 1 _ exS1]
  decide +kernel
theorem exS3 : tab 16 (encTo 4 exKey (fun j => exIn.getD j 0) 4) = [250, 99, 106, 40, 37, 179, 57, 201, 64, 102, 138, 49, 87, 36, 77, 23] := by
  rw [enc_step _ 2 _ exS2]
  decide +kernel
theorem exS4 : tab 16 (encTo 4 exKey (fun j => exIn.getD j 0) 5) = [36, 114, 64, 35, 105, 102, 179, 250, 110, 210, 117, 50, 136, 66, 91, 108] := by
  rw [enc_step _ 3 _ exS3]
  decide +kernel
theorem exS5 : tab 16 (encTo 4 exKey (fun j => exIn.getD j 0) 6) = [200, 22, 119, 188, 155, 122, 201, 59, 37, 2, 121, 146, 176, 38, 25, 150] := by
  rw [enc_step _ 4 _ exS4]
  decide +kernel
theorem exS6 : tab 16 (encTo 4 exKey (fun j => exIn.getD j 0) 7) = [198, 47, 225, 9, 247, 94, 237, 195, 204, 121, 57, 93, 132, 249, 207, 93] := by
  rw [enc_step _ 5 _ exS5]
  decide +kernel
theorem exS7 : tab 16 (encTo 4 exKey (fun j => exIn.getD j 0) 8) = [209, 135, 108, 15, 121, 196, 48, 10, 180, 85, 148, 173, 214, 111, 244, 31] := by
  rw [enc_step _ 6 _ exS6]
  decide +kernel
theorem exS8 : tab 16 (encTo 4 exKey (fun j => exIn.getD j 0) 9) = [253, 227, 186, 210, 5, 229, 208, 215, 53, 71, 150, 78, 241, 254, 55, 241] := by
  rw [enc_step _ 7 _ exS7]
  decide +kernel
theorem exS9 : tab 16 (encTo 4 exKey (fun j => exIn.getD j 0) 10) = [189, 110, 124, 61, 242, 181, 119, 158, 11, 97, 33, 110, 139, 16, 182, 137] := by
  rw [enc_step _ 8 _ exS8]
  decide +kernel
theorem exS10 : tab 16 (encTo 4 exKey (fun j => exIn.getD j 0) 11) = [105, 196, 224, 216, 106, 123, 4, 48, 216, 205, 183, 128, 112, 180, 197, 90] := by
  rw [enc_step _ 9 _ exS9]
  decide +kernel
theorem ex_enc : tab 16 (encF 4 exKey (fun j => exIn.getD j 0)) = exOut := exS10
end Go.Proofs.Ytmilanicedjhmaa
