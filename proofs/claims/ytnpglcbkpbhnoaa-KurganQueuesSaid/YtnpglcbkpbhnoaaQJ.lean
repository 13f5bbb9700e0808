/- The plain law, tenth part: the start. -/
import Derived.Test.YtnpglcbkpbhnoaaQI
import Derived.Test.YtnpglcbkpbhnoaaHeapL
namespace Go.Proofs.Ytnpglcbkpbhnoaa.Kq

theorem laid_length (cs : List Int) (pb n k : Nat) : (laid cs pb n k).length = cs.length := by
  induction k with
  | zero => exact stt_length _ _ _
  | succ k ih => show (stt _ _ _).length = _; rw [stt_length, ih]
theorem gt_laid (cs : List Int) (n k : Nat) (hk : k ≤ n) (hl : n + 1 ≤ cs.length) (i : Int) : gt (laid cs 0 n k) i = if i = 0 then pk 0 0 else if 1 ≤ i ∧ i ≤ (k : Int) then (if i = (n : Int) then -1 else i) else gt cs i := by
  induction k with
  | zero =>
    show gt (stt cs ((0 : Nat) : Int) (pk 0 0)) i = _
    rw [gt_stt (by omega) (by omega)]
    by_cases h : i = 0
    · rw [if_pos h, if_pos (by omega)]
    · rw [if_neg h, if_neg (by omega), if_neg (by omega)]
  | succ k ih =>
    show gt (stt (laid cs 0 n k) (((0 : Nat) : Int) + 1 + k) (if k + 1 = n then -1 else (k : Int) + 1)) i = _
    rw [gt_stt (by omega) (by rw [laid_length]; omega), ih (by omega)]
    by_cases h : i = 0
    · rw [if_pos h, if_neg (by omega), if_pos h]
    · rw [if_neg h, if_neg h]
      by_cases h2 : i = ((0 : Nat) : Int) + 1 + k
      · rw [if_pos h2, if_pos (show 1 ≤ i ∧ i ≤ ((k + 1 : Nat) : Int) by omega)]
        by_cases h3 : k + 1 = n
        · rw [if_pos h3, if_pos (show i = (n : Int) by omega)]
        · rw [if_neg h3, if_neg (show ¬ i = (n : Int) by omega)]; omega
      · rw [if_neg h2]
        by_cases h3 : 1 ≤ i ∧ i ≤ (k : Int)
        · rw [if_pos h3, if_pos (show 1 ≤ i ∧ i ≤ ((k + 1 : Nat) : Int) by omega)]
        · rw [if_neg h3, if_neg (show ¬ (1 ≤ i ∧ i ≤ ((k + 1 : Nat) : Int)) by omega)]
theorem topped_length (cs : List Int) (hb k : Nat) : (topped cs hb k).length = cs.length := by
  induction k with
  | zero => rfl
  | succ k ih => show (stt _ _ _).length = _; rw [stt_length, ih]
theorem gt_topped (cs : List Int) (hb k : Nat) (hk : k ≤ 63) (hl : hb + 63 ≤ cs.length) (i : Int) : gt (topped cs hb k) i = if (hb : Int) ≤ i ∧ i < (hb : Int) + k then pk 0 (-1) else gt cs i := by
  induction k with
  | zero => rw [if_neg (by omega)]; rfl
  | succ k ih =>
    show gt (stt (topped cs hb k) ((hb : Int) + k) (pk 0 (-1))) i = _
    rw [gt_stt (by omega) (by rw [topped_length]; omega), ih (by omega)]
    by_cases h : i = (hb : Int) + k
    · rw [if_pos h, if_pos (by omega)]
    · rw [if_neg h]
      by_cases h2 : (hb : Int) ≤ i ∧ i < (hb : Int) + k
      · rw [if_pos h2, if_pos (by omega)]
      · rw [if_neg h2, if_neg (by omega)]

/-- From slot j on. -/
def upTo (n j : Nat) : List Int := (List.range (n - j)).map fun k => ((j + k : Nat) : Int)
theorem upTo_end (n : Nat) : upTo n n = [] := by simp [upTo]
theorem upTo_cons (n j : Nat) (h : j < n) : upTo n j = (j : Int) :: upTo n (j + 1) := by
  unfold upTo
  rw [show n - j = (n - (j + 1)) + 1 by omega, List.range_succ_eq_map, List.map_cons, List.map_map]
  congr 1
  apply List.map_congr_left
  intro k _
  show ((j + (k + 1) : Nat) : Int) = ((j + 1 + k : Nat) : Int)
  omega
theorem upTo_mem (n j : Nat) : ∀ a ∈ upTo n j, 0 ≤ a ∧ (a < (n : Int)) := by
  intro a ha
  obtain ⟨k, hk, rfl⟩ := List.mem_map.1 ha
  have := List.mem_range.1 hk
  omega

def startCells (n : Nat) : List Int := topped (laid (List.replicate (n + 1 + (63 + n)) 0) 0 n n) (n + 1) 63
theorem gt_start (n : Nat) (i : Int) : gt (startCells n) i = if ((n + 1 : Nat) : Int) ≤ i ∧ i < ((n + 1 : Nat) : Int) + 63 then pk 0 (-1) else if i = 0 then pk 0 0 else if 1 ≤ i ∧ i ≤ (n : Int) then (if i = (n : Int) then -1 else i) else gt (List.replicate (n + 1 + (63 + n)) 0) i := by
  unfold startCells
  rw [gt_topped _ _ _ (Nat.le_refl _) (by rw [laid_length, List.length_replicate]; omega), gt_laid _ _ _ (Nat.le_refl _) (by rw [List.length_replicate]; omega)]
  rfl

theorem start_chain (n : Nat) (d : Nat) : ∀ j, n - j = d → j ≤ n → Chain (startCells n) 1 (if j = n then -1 else (j : Int)) (upTo n j) := by
  induction d with
  | zero =>
    intro j hd hj
    have : j = n := by omega
    subst this
    rw [upTo_end, if_pos rfl]
    show (-1 : Int) < 0
    omega
  | succ d ih =>
    intro j hd hj
    rw [upTo_cons n j (by omega), if_neg (by omega)]
    refine ⟨rfl, by omega, ?_⟩
    have h := ih (j + 1) (by omega) (by omega)
    have e : gt (startCells n) (1 + (j : Int)) = if j + 1 = n then -1 else ((j + 1 : Nat) : Int) := by
      rw [gt_start, if_neg (by omega), if_neg (by omega), if_pos (by omega)]
      by_cases hn : j + 1 = n
      · rw [if_pos hn, if_pos (by omega)]
      · rw [if_neg hn, if_neg (by omega)]; omega
    rw [e]
    exact h

theorem inv_start (n : Nat) (h1 : 1 ≤ n) (hn : n ≤ 4096) : Inv n (startCells n) (List.replicate n 0) [] (upTo n 0) (List.replicate 64 []) [] := by
  have hnil : ∀ i, at1 (List.replicate 64 ([] : List Itm)) i = [] := by
    intro i
    unfold at1
    rw [List.getD_eq_getElem?_getD, List.getElem?_replicate]
    split <;> rfl
  have hq : queued (List.replicate 64 []) = [] := by
    have : (List.replicate 64 ([] : List Itm)).flatten = [] := by
      rw [List.flatten_eq_nil_iff]
      intro l hl
      exact (List.mem_replicate.1 hl).2
    unfold queued
    rw [this]; rfl
  have hlen : (startCells n).length = n + 1 + (63 + n) := by unfold startCells; rw [topped_length, laid_length, List.length_replicate]
  refine ⟨⟨hn, by rw [hlen]; omega, by simp, by simp, fun i i1 i2 => ?_, fun i _ _ x hx => by rw [hnil] at hx; cases hx⟩, ⟨?_, by simp, by rw [hlen]; omega, hn, upTo_mem n 0⟩, ?_, ?_, ?_, ?_, hnil 0⟩
  · rw [hnil]
    show upl (gt (startCells n) _) < 0
    rw [gt_start, if_pos (by omega), upl_neg _ _ (by omega)]
    omega
  · have h := start_chain n n 0 (by omega) (by omega)
    rw [if_neg (by omega)] at h
    rw [gt_start, if_neg (by omega), if_pos (by omega), upl_pk 0 0 (by omega)]
    exact h
  · show (([] ++ upTo n 0) ++ queued (List.replicate 64 [])).Nodup
    rw [hq, List.append_nil, List.nil_append]
    unfold upTo
    unfold List.Nodup
    rw [List.pairwise_map]
    refine List.Pairwise.imp (fun {a b} hne e => hne ?_) (List.nodup_range (n := n - 0))
    have e' : ((0 + a : Nat) : Int) = ((0 + b : Nat) : Int) := e
    omega
  · show (([] ++ upTo n 0) ++ queued (List.replicate 64 [])).length = n
    rw [hq, List.append_nil, List.nil_append]
    simp [upTo]
  · intro a ha
    have ha' : a ∈ ([] ++ upTo n 0) ++ queued (List.replicate 64 []) := ha
    rw [hq, List.append_nil, List.nil_append] at ha'
    exact upTo_mem n 0 a ha'
  · intro p _ _
    rw [hnil, hnil, hnil]
    exact ⟨rfl, rfl⟩
end Go.Proofs.Ytnpglcbkpbhnoaa.Kq
