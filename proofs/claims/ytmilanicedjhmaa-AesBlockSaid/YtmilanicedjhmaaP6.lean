/- Plain words: a block through the cipher. No program in sight. -/
import Derived.Test.YtmilanicedjhmaaP5
namespace Go.Proofs.Ytmilanicedjhmaa
open Go.RowKit

def subF (s : Nat → UInt8) (j : Nat) : UInt8 := S8 (s ((j + j % 4 * 4) % 16))
/-- What has become of a block when k round keys have come. -/
def encTo (nw : Nat) (key : List UInt8) (b : Nat → UInt8) : Nat → (Nat → UInt8)
  | 0 => b
  | 1 => fun j => b j ^^^ rkey nw key 0 j
  | k + 2 => fun j => (if k + 1 < nw + 6 then mixF (subF (encTo nw key b (k + 1))) mFwd else subF (encTo nw key b (k + 1))) j ^^^ rkey nw key (k + 1) j
def encF (nw : Nat) (key : List UInt8) (b : Nat → UInt8) : Nat → UInt8 := encTo nw key b (nw + 7)
/-- The table's inverse, of a byte. -/
def T8 (x : UInt8) : UInt8 := tboxTo 256 x.toNat
/-- Where a byte comes from on the way back. -/
def backAt (j : Nat) : Nat := (j + 12 * (j % 4)) % 16
def subB (s : Nat → UInt8) (j : Nat) : UInt8 := T8 (s (backAt j))
/-- What has become of a block when the k last round keys have come. -/
def decTo (nw : Nat) (key : List UInt8) (b : Nat → UInt8) : Nat → (Nat → UInt8)
  | 0 => b
  | k + 1 => subB (fun j => if k = 0 then decTo nw key b k j ^^^ rkey nw key (nw + 6 - k) j else mixF (fun j => decTo nw key b k j ^^^ rkey nw key (nw + 6 - k) j) mBwd j)
def decF (nw : Nat) (key : List UInt8) (b : Nat → UInt8) (j : Nat) : UInt8 := decTo nw key b (nw + 6) j ^^^ rkey nw key 0 j
end Go.Proofs.Ytmilanicedjhmaa
