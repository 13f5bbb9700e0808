/- The plain model of a heap's acts, alone upon the memory: each swap is taken to succeed. -/
import Derived.Test.YtnpglcbkpbhnoaaPure
namespace Go.Proofs.Ytnpglcbkpbhnoaa.Kq

structure HS where
  cs : List Int
  ph : Int
  slot : Int
  push : Bool
  owner : Bool
  fits : Bool
  draws : List Int
  probe : Int
  way : List Int
  heads : List Int
  low : Int
  high : Int
  at_ : Int
  head : Int
  next : Int
  lh : Int
  rh : Int
  ch : Int
  chh : Int
  tidied : Bool
  held : Bool
  bare : Bool

def belowB (bds : List Int) (h key : Int) : Bool := decide (0 ≤ upl h ∧ gt bds (upl h) < key)
def lessB (bds : List Int) (a b : Int) : Bool := decide (0 ≤ upl a ∧ (upl b < 0 ∨ gt bds (upl a) < gt bds (upl b)))

/-- The places from the top down to a leaf of the sixth level. -/
def wayTo (leaf : Int) : List Int := [leaf / 32, leaf / 16, leaf / 8, leaf / 4, leaf / 2, leaf]

/-- The end of a search among halves. -/
def halved (s : HS) : HS := if s.low = s.high then { s with at_ := gt s.way s.high, head := gt s.heads s.high, ph := 2 } else s
def tidy (s : HS) : HS := { s with at_ := 1, ph := if 0 ≤ s.slot then 15 else 4 }

def leafOf (s : HS) : Int := 32 + gt s.draws s.probe % 32

def hProbe (bds : List Int) (hb : Int) (s : HS) : HS :=
  if (s.draws.length : Int) ≤ s.probe then { s with ph := 15 }
  else if belowB bds (gt s.cs (hb + leafOf s - 1)) (gt bds s.slot) = true then { s with probe := s.probe + 1 }
  else { s with way := wayTo (leafOf s), heads := [0, 0, 0, 0, 0, gt s.cs (hb + leafOf s - 1)], low := 0, high := 5, ph := 1 }
def hHalf (bds : List Int) (hb : Int) (s : HS) : HS :=
  if belowB bds (gt s.cs (hb + gt s.way ((s.low + s.high) / 2) - 1)) (gt bds s.slot) = true then halved { s with low := (s.low + s.high) / 2 + 1 }
  else halved { s with high := (s.low + s.high) / 2, heads := stt s.heads ((s.low + s.high) / 2) (gt s.cs (hb + gt s.way ((s.low + s.high) / 2) - 1)) }
def hJoin (hb : Int) (s : HS) : HS := { s with cs := stt s.cs (hb + 63 + s.slot) (upl s.head), ph := 3 }
def hPut (hb : Int) (s : HS) : HS := { s with cs := csw s.cs (hb + s.at_ - 1) s.head (up s.head s.slot), fits := true, ph := 15 }
def hFirst (hb : Int) (s : HS) : HS := { s with head := gt s.cs (hb + s.at_ - 1), ph := 5 }
def hSecond (hb : Int) (s : HS) : HS := { s with next := gt s.cs (hb + 63 + upl s.head), ph := 6 }
def hTake (hb : Int) (s : HS) : HS := { s with cs := csw s.cs (hb + s.at_ - 1) s.head (up s.head s.next), slot := upl s.head, ph := 7 }
def hNode (hb : Int) (s : HS) : HS := if 63 < 2 * s.at_ then tidy { s with head := gt s.cs (hb + s.at_ - 1), ph := 8 } else { s with head := gt s.cs (hb + s.at_ - 1), ph := 8 }
def hLeft (hb : Int) (s : HS) : HS := { s with lh := gt s.cs (hb + 2 * s.at_ - 1), ph := 9 }
def hRight (bds : List Int) (hb : Int) (s : HS) : HS :=
  if lessB bds (gt s.cs (hb + (2 * s.at_ + 1) - 1)) s.lh = true then
    (if lessB bds (gt s.cs (hb + (2 * s.at_ + 1) - 1)) s.head = true then { s with rh := gt s.cs (hb + (2 * s.at_ + 1) - 1), ch := 2 * s.at_ + 1, chh := gt s.cs (hb + (2 * s.at_ + 1) - 1), ph := 10 }
     else tidy { s with rh := gt s.cs (hb + (2 * s.at_ + 1) - 1), ch := 2 * s.at_ + 1, chh := gt s.cs (hb + (2 * s.at_ + 1) - 1) })
  else
    (if lessB bds s.lh s.head = true then { s with rh := gt s.cs (hb + (2 * s.at_ + 1) - 1), ch := 2 * s.at_, chh := s.lh, ph := 10 }
     else tidy { s with rh := gt s.cs (hb + (2 * s.at_ + 1) - 1), ch := 2 * s.at_, chh := s.lh })
def hLift (hb : Int) (s : HS) : HS := { s with cs := csw s.cs (hb + s.ch - 1) s.chh (up s.chh (-1)), held := true, ph := 12 }
def hDrop (hb : Int) (s : HS) : HS := { s with cs := csw s.cs (hb + s.at_ - 1) s.head (up s.head (-1)), bare := true, ph := 13 }
def hPlace (hb : Int) (s : HS) : HS := { s with cs := csw s.cs (hb + s.at_ - 1) (up s.head (-1)) (up (up s.head (-1)) (upl s.chh)), held := false, ph := 14 }
def hSink (hb : Int) (s : HS) : HS := { s with cs := csw s.cs (hb + s.ch - 1) (up s.chh (-1)) (up (up s.chh (-1)) (upl s.head)), bare := false, at_ := s.ch, ph := 7 }

/-- One step of an act. -/
def hstep (bds : List Int) (hb : Int) (s : HS) : HS :=
  if s.ph = 0 then hProbe bds hb s else if s.ph = 1 then hHalf bds hb s else if s.ph = 2 then hJoin hb s else if s.ph = 3 then hPut hb s
  else if s.ph = 4 then hFirst hb s else if s.ph = 5 then hSecond hb s else if s.ph = 6 then hTake hb s else if s.ph = 7 then hNode hb s
  else if s.ph = 8 then hLeft hb s else if s.ph = 9 then hRight bds hb s else if s.ph = 10 then hLift hb s else if s.ph = 12 then hDrop hb s
  else if s.ph = 13 then hPlace hb s else if s.ph = 14 then hSink hb s else s

/-- What a step asks: numbers in their ranges, and that each swap meets what it had read. -/
def HGood (hb : Int) (s : HS) : Prop :=
  (-1 ≤ s.slot ∧ s.slot ≤ 4096) ∧
  ((s.ph = 0 ∧ 0 ≤ s.probe ∧ s.probe ≤ 4 ∧ s.draws.length ≤ 4) ∨
   (s.ph = 1 ∧ 0 ≤ s.low ∧ s.low < s.high ∧ s.high ≤ 5 ∧ s.way.length = 6 ∧ s.heads.length = 6 ∧ (∀ a ∈ s.way, 0 ≤ a ∧ a ≤ 63)) ∨
   (s.ph = 2) ∨
   (s.ph = 3 ∧ 0 ≤ s.at_ ∧ s.at_ ≤ 63 ∧ casB s.cs (hb + s.at_ - 1) s.head = true) ∨
   (s.ph = 4 ∧ 0 ≤ s.at_ ∧ s.at_ ≤ 63 ∧ 0 ≤ upl (gt s.cs (hb + s.at_ - 1))) ∨
   (s.ph = 5) ∨
   (s.ph = 6 ∧ 0 ≤ s.at_ ∧ s.at_ ≤ 63 ∧ s.owner = true ∧ casB s.cs (hb + s.at_ - 1) s.head = true) ∨
   (s.ph = 7 ∧ 0 ≤ s.at_ ∧ s.at_ ≤ 63) ∨
   (s.ph = 8 ∧ 0 ≤ s.at_ ∧ s.at_ ≤ 63) ∨
   (s.ph = 9 ∧ 0 ≤ s.at_ ∧ s.at_ ≤ 63) ∨
   (s.ph = 10 ∧ 0 ≤ s.ch ∧ s.ch ≤ 127 ∧ casB s.cs (hb + s.ch - 1) s.chh = true) ∨
   (s.ph = 12 ∧ 0 ≤ s.at_ ∧ s.at_ ≤ 63 ∧ casB s.cs (hb + s.at_ - 1) s.head = true) ∨
   (s.ph = 13 ∧ 0 ≤ s.at_ ∧ s.at_ ≤ 63 ∧ casB s.cs (hb + s.at_ - 1) (up s.head (-1)) = true) ∨
   (s.ph = 14 ∧ 0 ≤ s.ch ∧ s.ch ≤ 127 ∧ casB s.cs (hb + s.ch - 1) (up s.chh (-1)) = true))

def hsteps (bds : List Int) (hb : Int) (s : HS) : Nat → HS
  | 0 => s
  | k + 1 => hstep bds hb (hsteps bds hb s k)
theorem hsteps_succ (bds : List Int) (hb : Int) (s : HS) (k : Nat) : hsteps bds hb s (k + 1) = hstep bds hb (hsteps bds hb s k) := rfl
end Go.Proofs.Ytnpglcbkpbhnoaa.Kq
