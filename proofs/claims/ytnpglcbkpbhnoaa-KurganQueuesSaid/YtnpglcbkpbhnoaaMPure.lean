/- The plain model of a mound. -/
import Derived.Test.YtnpglcbkpbhnoaaHPure
namespace Go.Proofs.Ytnpglcbkpbhnoaa.Kq

abbrev Itm := Int × Int
abbrev ML := List (List Itm)

def at1 (ls : ML) (i : Nat) : List Itm := ls.getD i []
def fitsL : List Itm → Int → Bool
  | [], _ => true
  | x :: _, key => decide (key ≤ x.1)
def lessL : List Itm → List Itm → Bool
  | [], _ => false
  | _ :: _, [] => true
  | x :: _, y :: _ => decide (x.1 < y.1)

/-- The first drawn leaf that fits; else the first leaf that does; 0: none. -/
def drawLeaf (d : Int) : Nat := 32 + (d % 32).toNat
def leafD (ls : ML) (key : Int) : List Int → Option Nat
  | [] => none
  | d :: ds => if fitsL (at1 ls (drawLeaf d)) key = true then some (drawLeaf d) else leafD ls key ds
/-- From leaf i on, k leaves. -/
def leafS (ls : ML) (key : Int) (i : Nat) : Nat → Nat
  | 0 => 0
  | k + 1 => if fitsL (at1 ls i) key = true then i else leafS ls key (i + 1) k
def mLeaf (ls : ML) (key : Int) (ds : List Int) : Nat := (leafD ls key (ds.take 4)).getD (leafS ls key 32 32)

def wayN (leaf : Nat) (k : Nat) : Nat := leaf / 2 ^ (5 - k)
/-- One round of the search by halves. -/
def mHalf (ls : ML) (key : Int) (leaf : Nat) (lh : Nat × Nat) : Nat × Nat :=
  if fitsL (at1 ls (wayN leaf ((lh.1 + lh.2) / 2))) key = true then (lh.1, (lh.1 + lh.2) / 2) else ((lh.1 + lh.2) / 2 + 1, lh.2)
def mHalves (ls : ML) (key : Int) (leaf : Nat) (lh : Nat × Nat) : Nat → Nat × Nat
  | 0 => lh
  | k + 1 => if lh.1 < lh.2 then mHalves ls key leaf (mHalf ls key leaf lh) k else lh
def mPlace (ls : ML) (key : Int) (leaf : Nat) : Nat := wayN leaf (mHalves ls key leaf (0, 5) 6).2
def mInsert (ls : ML) (x : Itm) (i : Nat) : ML := ls.set i (x :: at1 ls i)

def mKid (ls : ML) (i : Nat) : Nat := if lessL (at1 ls (2 * i + 1)) (at1 ls (2 * i)) = true then 2 * i + 1 else 2 * i
def mSwap (ls : ML) (i k : Nat) : ML := (ls.set i (at1 ls k)).set k (at1 ls i)
/-- The way down, at most so many rounds. -/
def mSink (ls : ML) (i : Nat) : Nat → ML
  | 0 => ls
  | f + 1 => if i < 32 then (if lessL (at1 ls (mKid ls i)) (at1 ls i) = true then mSink (mSwap ls i (mKid ls i)) (mKid ls i) f else ls) else ls
def mPop (ls : ML) : ML := mSink (ls.set 1 (at1 ls 1).tail) 1 6
end Go.Proofs.Ytnpglcbkpbhnoaa.Kq
