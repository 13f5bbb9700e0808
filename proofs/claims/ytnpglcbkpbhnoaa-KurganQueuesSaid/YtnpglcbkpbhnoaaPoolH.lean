/- The walks over package pool, eighth part: any step; an act taken to its end. -/
import Derived.Test.YtnpglcbkpbhnoaaPoolG
import Derived.Deep.LoopGhost
namespace Go.Proofs.Ytnpglcbkpbhnoaa
open Go.RowKit Kq

section
variable {w : World} {c : Cfg} {bA : Nat}

/-- A pool and an act upon it, as one state. -/
def PSR (w : World) (bA : Nat) (c : Cfg) (bds : List Int) (s : PS) : Prop := PoolR w c s.cs bds s.own ∧ ActR w bA c s.give s.slot s.ph s.top s.next

def PSPost (w : World) (bA : Nat) (c : Cfg) (bds : List Int) (s : PS) (e : Ending) (w' : World) : Prop := e = .returned (.bool (s.ph == 3)) ∧ PSR w' bA c bds s ∧ Keeps c.lo TP w w'

theorem PSPost.of {bds : List Int} {s : PS} {e : Ending} {w' : World} (h : PStep w bA c s.cs bds s.own s.give s.slot s.ph s.top s.next e w') : PSPost w bA c bds s e w' := ⟨h.1, ⟨h.2.1, h.2.2.1⟩, h.2.2.2⟩

theorem pb_le {cs bds own : List Int} (h : PoolR w c cs bds own) : c.pb ≤ 4194304 := by
  obtain ⟨⟨s, k0, k1, k2, k3, b4, _, _, _, hN⟩, _, _, _, _, h3, _⟩ := h
  omega

theorem step_any {bds : List Int} (s : PS) (hlA : c.lo ≤ bA) (h : PSR w bA c bds s) (hph : s.ph = 0 ∨ s.ph = 1 ∨ s.ph = 2) (hs : -1 ≤ s.slot ∧ s.slot ≤ 4294967296) :
    Calls Try.prog 34 #[.pointer (some ⟨bA, 0, none⟩)] w (PSPost w bA c bds (pstep c.pb s)) := by
  obtain ⟨cs, own, give, slot, ph, top, next⟩ := s
  obtain ⟨hR, hA⟩ := h
  simp only at hR hA hph hs
  have hpb := pb_le hR
  have hP := hR.2.1
  have hM := hR.1
  rcases hph with rfl | rfl | rfl
  · cases give with
    | true =>
      by_cases hl : own.length < 2
      · have e : pstep c.pb ⟨cs, own, true, slot, 0, top, next⟩ = ⟨cs, own ++ [slot], true, slot, 3, top, next⟩ := by simp [pstep, hl]
        rw [e]
        exact (step_first hA (first_push slot top next cs bds own hlA hA hR hl)).mono fun _ _ h => PSPost.of h
      · have e : pstep c.pb ⟨cs, own, true, slot, 0, top, next⟩ = ⟨cs, own, true, slot, 1, gt cs c.pb, next⟩ := by simp [pstep, hl]
        rw [e]
        exact (step_first hA (first_read true slot top next cs bds own hlA hA hR (by simp; omega) 1 (by simp))).mono fun _ _ h => PSPost.of h
    | false =>
      by_cases hl : own = []
      · subst hl
        have e : pstep c.pb ⟨cs, [], false, slot, 0, top, next⟩ = ⟨cs, [], false, slot, if upl (gt cs c.pb) < 0 then 3 else 1, gt cs c.pb, next⟩ := by simp [pstep]
        rw [e]
        exact (step_first hA (first_read false slot top next cs bds [] hlA hA hR (by simp) _ (by simp))).mono fun _ _ h => PSPost.of h
      · obtain ⟨o, last, rfl⟩ : ∃ o last, own = o ++ [last] := ⟨own.dropLast, own.getLast hl, (List.dropLast_concat_getLast hl).symm⟩
        have e : pstep c.pb ⟨cs, o ++ [last], false, slot, 0, top, next⟩ = ⟨cs, o, false, last, 3, top, next⟩ := by simp [pstep]
        rw [e]
        exact (step_first hA (first_pop slot top next last cs bds o hlA hA hR)).mono fun _ _ h => PSPost.of h
  · cases give with
    | true =>
      have e : pstep c.pb ⟨cs, own, true, slot, 1, top, next⟩ = ⟨stt cs (c.pb + 1 + slot) (upl top), own, true, slot, 2, top, next⟩ := by simp [pstep]
      rw [e]
      exact (step_second hA ((second_give slot top next cs hA hM hP hpb hs.1 hs.2).mono fun _ _ h => fpost_of_step hlA hA hR h)).mono fun _ _ h => PSPost.of h
    | false =>
      have e : pstep c.pb ⟨cs, own, false, slot, 1, top, next⟩ = ⟨cs, own, false, slot, 2, top, gt cs (c.pb + 1 + upl top)⟩ := by simp [pstep]
      rw [e]
      exact (step_second hA ((second_take slot top next cs hA hM hP hpb).mono fun _ _ h => fpost_of_step hlA hA hR h)).mono fun _ _ h => PSPost.of h
  · cases give with
    | true =>
      have e : pstep c.pb ⟨cs, own, true, slot, 2, top, next⟩ = ⟨csw cs c.pb top (up top slot), own, true, slot, if casB cs c.pb top = true then 3 else 0, top, next⟩ := by simp [pstep]
      rw [e]
      exact (step_third hA ((third_give slot top next cs hA hM hP hpb).mono fun _ _ h => fpost_of_step hlA hA hR h)).mono fun _ _ h => PSPost.of h
    | false =>
      have e : pstep c.pb ⟨cs, own, false, slot, 2, top, next⟩ = ⟨csw cs c.pb top (up top next), own, false, if casB cs c.pb top = true then upl top else slot, if casB cs c.pb top = true then 3 else 0, top, next⟩ := by simp [pstep]
      rw [e]
      exact (step_third hA ((third_take slot top next cs hA hM hP hpb).mono fun _ _ h => fpost_of_step hlA hA hR h)).mono fun _ _ h => PSPost.of h

def PEnd (w : World) (bA : Nat) (c : Cfg) (bds : List Int) (s : PS) (e : Ending) (w' : World) : Prop := (∃ v, e = .returned v) ∧ PSR w' bA c bds s ∧ Keeps c.lo TP w w'
def PRun (w : World) (bA : Nat) (c : Cfg) (bds : List Int) (s : PS) (m : Nat) (n : Value) (wr : World) : Prop := ∃ k : Nat, k < m ∧ n = .int .i64 k ∧ PSR wr bA c bds (psteps c.pb s k) ∧ Keeps c.lo TP w wr

set_option maxRecDepth 100000 in
set_option maxHeartbeats 400000 in
/-- An act taken to its end: m steps. -/
theorem pools_any {bds : List Int} (s : PS) (m : Nat) (hm0 : 0 < m) (hm : m < 100) (hlA : c.lo ≤ bA) (h : PSR w bA c bds s)
    (hend : (psteps c.pb s m).ph = 3) (hgo : ∀ k, k < m → ((psteps c.pb s k).ph = 0 ∨ (psteps c.pb s k).ph = 1 ∨ (psteps c.pb s k).ph = 2) ∧ -1 ≤ (psteps c.pb s k).slot ∧ (psteps c.pb s k).slot ≤ 4294967296) :
    Calls Try.prog 12 #[.pointer (some ⟨bA, 0, none⟩)] w (PEnd w bA c bds (psteps c.pb s m)) := by
  have HG := Lib.hid hgo
  have HE := Lib.hid hend
  clear hgo hend
  go_enter Try.func12, Try.ntmps12
  go_wp2_with fail
  go_loopw [2] (fun n wr => PRun w bA c bds s m n wr) (fun n _ => m - (intOf n).toNat)
  case atStart => exact ⟨0, hm0, rfl, h, Keeps.refl _⟩
  case round =>
    obtain ⟨k, hk, rfl, hs, hK⟩ := hrel
    have HST := Lib.hid (step_any _ hlA hs (HG.out k hk).1 (HG.out k hk).2)
    have hd : decide ((k : Int) < 100) = true := by simp; omega
    have hk100 : k < 100 := by omega
    by_cases hl : k + 1 = m
    · have HB : Hid (((pstep c.pb (psteps c.pb s k)).ph == 3) = true ∧ pstep c.pb (psteps c.pb s k) = psteps c.pb s m) := Lib.hid ⟨by rw [← psteps_succ, hl, HE.out]; rfl, by rw [← psteps_succ, hl]⟩
      clear hl hs
      go_wp2_with fail
      refine HST.out.mono ?_
      rintro e w1 ⟨rfl, hs1, hK1⟩
      rw [HB.out.1]
      go_wp2_with fail
      go_end0
      exact ⟨⟨_, rfl⟩, by rw [← HB.out.2]; exact hs1, hK.trans hK1⟩
    · have HB : Hid (((pstep c.pb (psteps c.pb s k)).ph == 3) = false ∧ k + 1 < m) := Lib.hid ⟨by
        have h1 := (HG.out (k + 1) (by omega)).1
        rw [psteps_succ] at h1
        simp only [beq_eq_false_iff_ne, ne_eq]
        omega, by omega⟩
      clear hl hs
      go_wp2_with fail
      refine HST.out.mono ?_
      rintro e w1 ⟨rfl, hs1, hK1⟩
      rw [HB.out.1]
      go_wp2_with fail
      go_roundw
      case rel => exact ⟨k + 1, HB.out.2, by go_num, hs1, hK.trans hK1⟩
      case measure => simp [intOf]; omega
end
end Go.Proofs.Ytnpglcbkpbhnoaa
