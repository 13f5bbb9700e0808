/- The plain model of cells, packed numbers, pools and heaps: what the Go functions compute, as Lean functions on lists. -/
namespace Go.Proofs.Ytnpglcbkpbhnoaa.Kq

/-- A cell's number (0: there is none), another one, and a swap. -/
def gt (xs : List Int) (i : Int) : Int := if 0 ≤ i ∧ i < (xs.length : Int) then xs.getD i.toNat 0 else 0
def stt (xs : List Int) (i n : Int) : List Int := if 0 ≤ i ∧ i < (xs.length : Int) then xs.set i.toNat n else xs
def casB (xs : List Int) (i old : Int) : Bool := decide (0 ≤ i ∧ i < (xs.length : Int) ∧ xs.getD i.toNat 0 = old)
def csw (xs : List Int) (i old n : Int) : List Int := if casB xs i old = true then stt xs i n else xs

theorem stt_length (xs : List Int) (i n : Int) : (stt xs i n).length = xs.length := by unfold stt; split <;> simp
theorem csw_length (xs : List Int) (i o n : Int) : (csw xs i o n).length = xs.length := by unfold csw; split <;> simp [stt_length]

/-- Packed numbers. -/
def pk (v p : Int) : Int := v % 1073741824 * 4294967296 + (if p < 0 ∨ 2147483646 < p then -1 else p) + 1
def upl (n : Int) : Int := n % 4294967296 - 1
def uver (n : Int) : Int := n / 4294967296 % 1073741824
def up (n p : Int) : Int := pk (uver n + 1) p

theorem pk_bd (v p : Int) : 0 ≤ pk v p ∧ pk v p < 4611686018427387904 := by unfold pk; split <;> omega
theorem upl_bd (n : Int) : -1 ≤ upl n ∧ upl n ≤ 4294967294 := by unfold upl; omega
theorem uver_bd (n : Int) : 0 ≤ uver n ∧ uver n < 1073741824 := by unfold uver; omega
theorem upl_pk (v p : Int) (h : -1 ≤ p ∧ p ≤ 2147483646) : upl (pk v p) = p := by unfold upl pk; split <;> omega
theorem uver_pk (v p : Int) : uver (pk v p) = v % 1073741824 := by unfold uver pk; split <;> omega

/-- A pool of one worker, and an act upon it. -/
structure PS where
  cs : List Int
  own : List Int
  give : Bool
  slot : Int
  ph : Int
  top : Int
  next : Int

/-- One step of an act. -/
def pstep (pb : Int) (s : PS) : PS :=
  if s.ph = 0 then
    if s.give = true then
      if s.own.length < 2 then { s with own := s.own ++ [s.slot], ph := 3 } else { s with top := gt s.cs pb, ph := 1 }
    else if s.own = [] then { s with top := gt s.cs pb, ph := if upl (gt s.cs pb) < 0 then 3 else 1 }
    else { s with own := s.own.dropLast, slot := s.own.getLastD 0, ph := 3 }
  else if s.ph = 1 then
    if s.give = true then { s with cs := stt s.cs (pb + 1 + s.slot) (upl s.top), ph := 2 } else { s with next := gt s.cs (pb + 1 + upl s.top), ph := 2 }
  else if s.ph = 2 then
    if s.give = true then { s with cs := csw s.cs pb s.top (up s.top s.slot), ph := if casB s.cs pb s.top = true then 3 else 0 }
    else { s with cs := csw s.cs pb s.top (up s.top s.next), slot := if casB s.cs pb s.top = true then upl s.top else s.slot, ph := if casB s.cs pb s.top = true then 3 else 0 }
  else s

def psteps (pb : Int) (s : PS) : Nat → PS
  | 0 => s
  | k + 1 => pstep pb (psteps pb s k)

theorem psteps_succ (pb : Int) (s : PS) (k : Nat) : psteps pb s (k + 1) = pstep pb (psteps pb s k) := rfl
end Go.Proofs.Ytnpglcbkpbhnoaa.Kq
