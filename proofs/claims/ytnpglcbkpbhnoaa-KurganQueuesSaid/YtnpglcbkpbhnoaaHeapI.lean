/- The walks over package heap, ninth part: any step; an act taken to its end. -/
import Derived.Test.YtnpglcbkpbhnoaaHeapH
namespace Go.Proofs.Ytnpglcbkpbhnoaa
open Go.RowKit Kq

section
variable {w : World} {H : HCfg} {bA : Nat} {bds own : List Int}

theorem hstep_any (s : HS) (h : HR w bA H bds own s) (hg : HGood H.hb s) :
    Calls Try.prog 38 #[.pointer (some ⟨bA, 0, none⟩)] w (HSPost w bA H bds own (hstep bds H.hb s)) := by
  obtain ⟨vd, vw, vh, hR⟩ := h.named
  obtain ⟨⟨hs0, hs1⟩, hc⟩ := hg
  rcases hc with ⟨p, h0, h1, h2⟩ | ⟨p, h0, h1, h2, h3, h4, h5⟩ | p | ⟨p, h0, h1, h2⟩ | ⟨p, h0, h1, h2⟩ | p | ⟨p, h0, h1, h2, h3⟩ | ⟨p, h0, h1⟩ | ⟨p, h0, h1⟩ | ⟨p, h0, h1⟩ | ⟨p, h0, h1, h2⟩ | ⟨p, h0, h1, h2⟩ | ⟨p, h0, h1, h2⟩ | ⟨p, h0, h1, h2⟩
  · have e : hstep bds H.hb s = hProbe bds H.hb s := by unfold hstep; rw [if_pos p]
    rw [e]
    by_cases hp : (s.draws.length : Int) ≤ s.probe
    · have e2 : hProbe bds H.hb s = { s with ph := 15 } := by unfold hProbe; rw [if_pos hp]
      rw [e2]
      exact hstep_doProbe hR p (doProbe_end hR hp)
    · obtain ⟨j, hj⟩ : ∃ j : Nat, s.probe = j := ⟨s.probe.toNat, by omega⟩
      by_cases hl : belowB bds (gt s.cs (H.hb + leafOf s - 1)) (gt bds s.slot) = true
      · have e2 : hProbe bds H.hb s = { s with probe := s.probe + 1 } := by unfold hProbe; rw [if_neg hp, if_pos hl]
        rw [e2]
        exact hstep_doProbe hR p (doProbe_next hR j hj (by omega) h2 hl)
      · have e2 : hProbe bds H.hb s = { s with way := wayTo (leafOf s), heads := [0, 0, 0, 0, 0, gt s.cs (H.hb + leafOf s - 1)], low := 0, high := 5, ph := 1 } := by unfold hProbe; rw [if_neg hp, if_neg hl]
        rw [e2]
        exact hstep_doProbe hR p (doProbe_found hR j hj (by omega) h2 (by simpa using hl))
  · have e : hstep bds H.hb s = hHalf bds H.hb s := by unfold hstep; rw [p]; rfl
    rw [e]
    unfold hHalf
    obtain ⟨mid, hmid⟩ : ∃ m : Nat, (s.low + s.high) / 2 = m := ⟨((s.low + s.high) / 2).toNat, by omega⟩
    rw [hmid]
    by_cases hl : belowB bds (gt s.cs (H.hb + gt s.way (mid : Int) - 1)) (gt bds s.slot) = true
    · rw [if_pos hl]
      exact hstep_doHalf hR p (doHalf_up hR h0 h1 h2 h3 h4 h5 mid hmid hl)
    · rw [if_neg hl]
      exact hstep_doHalf hR p (doHalf_down hR h0 h1 h2 h3 h4 h5 mid hmid (by simpa using hl))
  · have e : hstep bds H.hb s = hJoin H.hb s := by unfold hstep; rw [p]; rfl
    rw [e]
    exact hstep_doJoin hR p (doJoin_any hR hs0 hs1)
  · have e : hstep bds H.hb s = hPut H.hb s := by unfold hstep; rw [p]; rfl
    rw [e]
    exact hstep_doPut hR p (doPut_any hR h0 h1 h2)
  · have e : hstep bds H.hb s = hFirst H.hb s := by unfold hstep; rw [p]; rfl
    rw [e]
    exact hstep_doFirst hR p (doFirst_in hR h0 h1 h2)
  · have e : hstep bds H.hb s = hSecond H.hb s := by unfold hstep; rw [p]; rfl
    rw [e]
    exact hstep_doSecond hR p (doSecond_any hR)
  · have e : hstep bds H.hb s = hTake H.hb s := by unfold hstep; rw [p]; rfl
    rw [e]
    exact hstep_doTake hR p (doTake_any hR h0 h1 h3 h2)
  · have e : hstep bds H.hb s = hNode H.hb s := by unfold hstep; rw [p]; rfl
    rw [e]
    by_cases hd : 63 < 2 * s.at_
    · have e2 : hNode H.hb s = tidy { s with head := gt s.cs (H.hb + s.at_ - 1), ph := 8 } := by unfold hNode; rw [if_pos hd]
      rw [e2]
      exact hstep_doNode hR p (doNode_deep hR h0 h1 hd)
    · have e2 : hNode H.hb s = { s with head := gt s.cs (H.hb + s.at_ - 1), ph := 8 } := by unfold hNode; rw [if_neg hd]
      rw [e2]
      exact hstep_doNode hR p (doNode_more hR h0 h1 (by omega))
  · have e : hstep bds H.hb s = hLeft H.hb s := by unfold hstep; rw [p]; rfl
    rw [e]
    exact hstep_doLeft hR p (doLeft_any hR h0 h1)
  · have e : hstep bds H.hb s = hRight bds H.hb s := by unfold hstep; rw [p]; rfl
    rw [e]
    unfold hRight
    by_cases hl : lessB bds (gt s.cs (H.hb + (2 * s.at_ + 1) - 1)) s.lh = true
    · rw [if_pos hl]
      by_cases hl2 : lessB bds (gt s.cs (H.hb + (2 * s.at_ + 1) - 1)) s.head = true
      · rw [if_pos hl2]
        exact hstep_doRight hR p (doRight_true_true hR h0 h1 hl hl2)
      · rw [if_neg hl2]
        exact hstep_doRight hR p (doRight_true_false hR h0 h1 hl (by simpa using hl2))
    · rw [if_neg hl]
      by_cases hl2 : lessB bds s.lh s.head = true
      · rw [if_pos hl2]
        exact hstep_doRight hR p (doRight_false_true hR h0 h1 (by simpa using hl) hl2)
      · rw [if_neg hl2]
        exact hstep_doRight hR p (doRight_false_false hR h0 h1 (by simpa using hl) (by simpa using hl2))
  · have e : hstep bds H.hb s = hLift H.hb s := by unfold hstep; rw [p]; rfl
    rw [e]
    exact hstep_doLift hR p (doLift_any hR h0 h1 h2)
  · have e : hstep bds H.hb s = hDrop H.hb s := by unfold hstep; rw [p]; rfl
    rw [e]
    exact hstep_doDrop hR p (doDrop_any hR h0 h1 h2)
  · have e : hstep bds H.hb s = hPlace H.hb s := by unfold hstep; rw [p]; rfl
    rw [e]
    exact hstep_doPlace hR p (doPlace_any hR h0 h1 h2)
  · have e : hstep bds H.hb s = hSink H.hb s := by unfold hstep; rw [p]; rfl
    rw [e]
    exact hstep_doSink hR p (doSink_any hR h0 h1 h2)

def HRun (w : World) (bA : Nat) (H : HCfg) (bds own : List Int) (s : HS) (m : Nat) (n : Value) (wr : World) : Prop := ∃ k : Nat, k < m ∧ n = .int .i64 k ∧ HR wr bA H bds own (hsteps bds H.hb s k) ∧ HK H w wr

set_option maxRecDepth 100000 in
set_option maxHeartbeats 400000 in
/-- An act taken to its end: m steps. -/
theorem heaps_any (s : HS) (m : Nat) (hm0 : 0 < m) (hm : m < 100) (h : HR w bA H bds own s)
    (hend : (hsteps bds H.hb s m).ph = 15) (hgo : ∀ k, k < m → HGood H.hb (hsteps bds H.hb s k)) :
    Calls Try.prog 16 #[.pointer (some ⟨bA, 0, none⟩)] w (HPost w bA H bds own (hsteps bds H.hb s m)) := by
  have HG := Lib.hid hgo
  have HE := Lib.hid hend
  clear hgo hend
  go_enter Try.func16, Try.ntmps16
  go_wp2_with fail
  go_loopw [2] (fun n wr => HRun w bA H bds own s m n wr) (fun n _ => m - (intOf n).toNat)
  case atStart => exact ⟨0, hm0, rfl, h, HK.refl _⟩
  case round =>
    obtain ⟨k, hk, rfl, hs, hK⟩ := hrel
    have HST := Lib.hid (hstep_any _ hs (HG.out k hk))
    have hd : decide ((k : Int) < 100) = true := by simp; omega
    have hk100 : k < 100 := by omega
    by_cases hl : k + 1 = m
    · have HB : Hid (((hstep bds H.hb (hsteps bds H.hb s k)).ph == 15) = true ∧ hstep bds H.hb (hsteps bds H.hb s k) = hsteps bds H.hb s m) := Lib.hid ⟨by rw [← hsteps_succ, hl, HE.out]; rfl, by rw [← hsteps_succ, hl]⟩
      clear hl hs
      go_wp2_with fail
      refine HST.out.mono ?_
      rintro e w1 ⟨rfl, hs1, hK1⟩
      rw [HB.out.1]
      go_wp2_with fail
      go_end0
      exact ⟨⟨_, rfl⟩, by rw [← HB.out.2]; exact hs1, hK.trans hK1⟩
    · have HB : Hid (((hstep bds H.hb (hsteps bds H.hb s k)).ph == 15) = false ∧ k + 1 < m) := Lib.hid ⟨by
        have h1 := (HG.out (k + 1) (by omega)).2
        rw [hsteps_succ] at h1
        simp only [beq_eq_false_iff_ne, ne_eq]
        omega, by omega⟩
      clear hl hs
      go_wp2_with fail
      refine HST.out.mono ?_
      rintro e w1 ⟨rfl, hs1, hK1⟩
      rw [HB.out.1]
      go_wp2_with fail
      go_roundw
      case rel => exact ⟨k + 1, HB.out.2, by go_num, hs1, hK.trans hK1⟩
      case measure => simp [intOf]; omega
end
end Go.Proofs.Ytnpglcbkpbhnoaa
