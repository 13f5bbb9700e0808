/- The walks over package heap, sixth part: doProbe where no draw is left, and where a leaf does not fit. -/
import Derived.Test.YtnpglcbkpbhnoaaHeapE
namespace Go.Proofs.Ytnpglcbkpbhnoaa
open Go.RowKit Kq

theorem leaf_eq (x : Int) : wrap64 (32 + wrap64 ((IntKind.u64.wrap x).tmod 32)) = 32 + x % 32 := by
  have h : IntKind.u64.wrap x = x % 18446744073709551616 := by simp [IntKind.wrap, IntKind.bits, IntKind.signed]
  rw [h, Int.tmod_eq_emod_of_nonneg (Int.emod_nonneg _ (by decide))]
  unfold wrap64
  omega

section
variable {w : World} {H : HCfg} {bA : Nat} {bds own : List Int}

set_option maxRecDepth 100000 in
set_option maxHeartbeats 400000 in
theorem doProbe_end {s : HS} {vd vw vh : Value} (hR : HRv w bA H bds own s vd vw vh) (hp : (s.draws.length : Int) ≤ s.probe) :
    Calls Try.prog 51 #[.pointer (some ⟨bA, 0, none⟩)] w (HPost w bA H bds own { s with ph := 15 }) := by
  have hA := hR.2.2.2.1
  have hD := hR.2.2.2.2.1
  obtain ⟨A, cap, ev⟩ := owns_len hD
  have a1 : w.cell? ⟨bA, 1, none⟩ = some (.int .i64 s.ph) := hA.cell 1
  have a6 : w.cell? ⟨bA, 6, none⟩ = some (.slice A s.draws.length cap) := by rw [← ev]; exact hA.cell 6
  have a7 : w.cell? ⟨bA, 7, none⟩ = some (.int .i64 s.probe) := hA.cell 7
  have kf : ∀ i, w.frozen? ⟨bA, i, none⟩ = false := hA.frozen
  have hd : decide ((s.draws.length : Int) ≤ s.probe) = true := by simpa using hp
  go_enter Try.func51, Try.ntmps51
  go_wp2_with fail
  go_quiet (fail)
  try rw [hd]
  go_wp2_with fail
  refine bodyPost_ret (results_none rfl _ _ _) rfl ?_
  refine hr_close (s' := { s with ph := 15 }) hR hR.1 (Only.refl _ _) ?_ ?_ rfl rfl rfl rfl _
  · repeat (first | refine Only.setCell ?_ (by simp) _ | refine Only.drewN ?_ _ | refine Only.drew ?_)
    exact Only.refl _ _
  · apply Blk.eqs
    · repeat (with_reducible first | exact hA | apply Blk.set_ | apply Blk.drewN | apply Blk.drew)
    · rfl

set_option maxRecDepth 100000 in
set_option maxHeartbeats 800000 in
theorem doProbe_next {s : HS} {vd vw vh : Value} (hR : HRv w bA H bds own s vd vw vh) (j : Nat) (hj : s.probe = j) (hp : j < s.draws.length) (hd4 : s.draws.length ≤ 4)
    (hl : belowB bds (gt s.cs (H.hb + leafOf s - 1)) (gt bds s.slot) = true) :
    Calls Try.prog 51 #[.pointer (some ⟨bA, 0, none⟩)] w (HPost w bA H bds own { s with probe := s.probe + 1 }) := by
  have hM := hR.1
  have hF := hR.2.1
  have hA := hR.2.2.2.1
  have hD := hR.2.2.2.2.1
  have hHH := hF.2.2.2.2.2.1
  have hAM := hM.apart hA (by decide) (by decide)
  have hHM := hM.apart hHH (by decide) (by decide)
  have hb4 := hR.hb_le
  have hAt : AtHeap w bA H := ⟨hA.cell 0, hHH, hb4⟩
  obtain ⟨gd, cap, ev, _, dd, _⟩ := owns_at hD (by omega)
  have a0 : w.cell? ⟨bA, 0, none⟩ = some (.pointer (some ⟨H.bH, 0, none⟩)) := hA.cell 0
  have a6 : w.cell? ⟨bA, 6, none⟩ = some (.slice (some ⟨gd, 0, none⟩) s.draws.length cap) := by rw [← ev]; exact hA.cell 6
  have a7 : w.cell? ⟨bA, 7, none⟩ = some (.int .i64 (j : Int)) := by rw [← hj]; exact hA.cell 7
  have c2 : w.cell? ⟨H.bH, 2, none⟩ = some (.int .i64 6) := hHH.cell 2
  have xd := dd j hp
  have hd : decide ((s.draws.length : Int) ≤ (j : Int)) = false := by simpa using hp
  have hd' : decide (s.draws.length ≤ j) = false := by simpa using hp
  have hjl : (j : Int) < (s.draws.length : Int) := by omega
  clear dd
  go_enter Try.func51, Try.ntmps51
  go_wp2_with fail
  go_quiet (fail)
  go_wp2_with fail
  go_quiet (fail)
  go_wp2_with fail
  rw [leaf_eq]
  have hlf : leafOf s = 32 + gt s.draws j % 32 := by unfold leafOf; rw [hj]
  rw [← hlf]
  have hlb : 32 ≤ leafOf s ∧ leafOf s ≤ 63 := by rw [hlf]; omega
  refine (read_any _ (by exact hAt) (by exact hM) (by omega) (by omega) hAM).mono ?_
  rintro e w1 ⟨rfl, hM1, hO1⟩
  have hp1 : HPost w bA H bds own s (.returned (.tuple #[])) w1 := hr_close (s' := s) hR hM1 (Only.un hO1) (Only.refl _ _) (Blk.only (by exact hA) hO1 hAM) rfl rfl rfl rfl _
  obtain ⟨_, hr1, hK1⟩ := hp1
  obtain ⟨vd1, vw1, vh1, hR1⟩ := hr1.named
  have hA1 := hR1.2.2.2.1
  have hHH1 := hR1.2.1.2.2.2.2.2.1
  have hPool1 := hR1.2.1.pool hR1.1
  have g13 : w1.cell? ⟨H.bH, 3, none⟩ = some (.pointer (some ⟨H.c.bP, 0, none⟩)) := hHH1.cell 3
  have b0 : w1.cell? ⟨bA, 0, none⟩ = some (.pointer (some ⟨H.bH, 0, none⟩)) := hA1.cell 0
  have b2 : w1.cell? ⟨bA, 2, none⟩ = some (.int .i64 s.slot) := hA1.cell 2
  have b7 : w1.cell? ⟨bA, 7, none⟩ = some (.int .i64 (j : Int)) := by rw [← hj]; exact hA1.cell 7
  have kf1 : ∀ i, w1.frozen? ⟨bA, i, none⟩ = false := hA1.frozen
  clear hlf
  go_wp2_with fail
  go_quiet ((first | (go_at_call 75; exact Calls.quiet_of (key_any _ (by exact hPool1) (by exact b0) (by exact b2) (by exact g13))) | (go_at_call 74; exact Calls.quiet_of_same (flip_same (below_any _ _ (by exact hPool1) (by exact g13))))))
  rw [hl]
  go_wp2_with fail
  refine bodyPost_ret (results_none rfl _ _ _) rfl ?_
  refine HPost.after hK1 (hr_close (s' := { s with probe := s.probe + 1 }) hR1 hR1.1 (Only.refl _ _) ?_ ?_ rfl rfl rfl rfl _)
  · repeat (first | refine Only.setCell ?_ (by simp) _ | refine Only.drewN ?_ _ | refine Only.drew ?_)
    exact Only.refl _ _
  · rw [hj]
    apply Blk.eqs
    · repeat (with_reducible first | exact hA1 | apply Blk.set_ | apply Blk.drewN | apply Blk.drew)
    · rfl
end
end Go.Proofs.Ytnpglcbkpbhnoaa
