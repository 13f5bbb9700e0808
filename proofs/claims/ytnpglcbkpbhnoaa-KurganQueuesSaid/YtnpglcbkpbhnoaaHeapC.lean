/- The walks over package heap, third part: doRight. Printed by gen_heap.py. -/
import Derived.Test.YtnpglcbkpbhnoaaHeapB
namespace Go.Proofs.Ytnpglcbkpbhnoaa
open Go.RowKit Kq
theorem HPost.after {w w2 w' : World} {bA : Nat} {H : HCfg} {bds own : List Int} {s : HS} {e : Ending} (k : HK H w w2) (h : HPost w2 bA H bds own s e w') : HPost w bA H bds own s e w' := ⟨h.1, h.2.1, k.trans h.2.2⟩

section
variable {w : World} {H : HCfg} {bA : Nat} {bds own : List Int}

set_option maxRecDepth 100000 in
set_option maxHeartbeats 400000 in
theorem doRight_true_true {s : HS} {vd vw vh : Value} (hR : HRv w bA H bds own s vd vw vh) (h0 : 0 ≤ s.at_) (h1 : s.at_ ≤ 63) (hl : lessB bds (gt s.cs (H.hb + (2 * s.at_ + 1) - 1)) s.lh = true) (hl2 : lessB bds (gt s.cs (H.hb + (2 * s.at_ + 1) - 1)) s.head = true) :
    Calls Try.prog 60 #[.pointer (some ⟨bA, 0, none⟩)] w (HPost w bA H bds own ({ s with rh := (gt s.cs (H.hb + (2 * s.at_ + 1) - 1)), ch := 2 * s.at_ + 1, chh := (gt s.cs (H.hb + (2 * s.at_ + 1) - 1)), ph := 10 })) := by
  have hM := hR.1
  have hF := hR.2.1
  have hA := hR.2.2.2.1
  have hHH := hF.2.2.2.2.2.1
  have hAM := hM.apart hA (by decide) (by decide)
  have hHM := hM.apart hHH (by decide) (by decide)
  have hb4 := hR.hb_le
  have hAt : AtHeap w bA H := ⟨hA.cell 0, hHH, hb4⟩
  have hPool := hF.pool hM
  have a0 : w.cell? ⟨bA, 0, none⟩ = some (.pointer (some ⟨H.bH, 0, none⟩)) := hA.cell 0
  have a12 : w.cell? ⟨bA, 12, none⟩ = some (.int .i64 s.at_) := hA.cell 12
  have c0 : w.cell? ⟨H.bH, 0, none⟩ = some (.pointer (some ⟨H.c.bM, 0, none⟩)) := hHH.cell 0
  have c1 : w.cell? ⟨H.bH, 1, none⟩ = some (.int .i64 H.hb) := hHH.cell 1
  have c2 : w.cell? ⟨H.bH, 2, none⟩ = some (.int .i64 6) := hHH.cell 2
  have c3 : w.cell? ⟨H.bH, 3, none⟩ = some (.pointer (some ⟨H.c.bP, 0, none⟩)) := hHH.cell 3
  have e1 : IntKind.i64.wrap (2 * s.at_) = 2 * s.at_ := by simp only [IntKind.wrap_i64]; omega
  have e2 : IntKind.i64.wrap (2 * s.at_ + 1) = 2 * s.at_ + 1 := by simp only [IntKind.wrap_i64]; omega
  go_enter Try.func60, Try.ntmps60
  go_wp2_with fail
  refine (read_any _ (by exact hAt) (by exact hM) (by omega) (by omega) hAM).mono ?_
  rintro e w1 ⟨rfl, hM1, hO1⟩
  have hA1 := Blk.only (by exact hA) hO1 hAM
  have hH1 := Blk.only (by exact hHH) hO1 hHM
  have k0 : w1.cell? ⟨bA, 0, none⟩ = some (.pointer (some ⟨H.bH, 0, none⟩)) := hA1.cell 0
  have k12 : w1.cell? ⟨bA, 12, none⟩ = some (.int .i64 s.at_) := hA1.cell 12
  have k13 : w1.cell? ⟨bA, 13, none⟩ = some (.int .i64 s.head) := hA1.cell 13
  have k15 : w1.cell? ⟨bA, 15, none⟩ = some (.int .i64 s.lh) := hA1.cell 15
  have k16 : w1.cell? ⟨bA, 16, none⟩ = some (.int .i64 s.rh) := hA1.cell 16
  have k17 : w1.cell? ⟨bA, 17, none⟩ = some (.int .i64 s.ch) := hA1.cell 17
  have k18 : w1.cell? ⟨bA, 18, none⟩ = some (.int .i64 s.chh) := hA1.cell 18
  have kf : ∀ i, w1.frozen? ⟨bA, i, none⟩ = false := hA1.frozen
  go_wp2_with fail
  go_region
  go_wp2_with fail
  have hp2 : HPost w bA H bds own { s with rh := (gt s.cs (H.hb + (2 * s.at_ + 1) - 1)), ch := 2 * s.at_, chh := s.lh } (.returned (.tuple #[])) ((((w1.setCell ⟨bA, 16, none⟩ (.int .i64 (gt s.cs (H.hb + (2 * s.at_ + 1) - 1)))).setCell ⟨bA, 17, none⟩ (.int .i64 (2 * s.at_))).setCell ⟨bA, 18, none⟩ (.int .i64 s.lh)).drew) := by
    refine hr_close (s' := { s with rh := (gt s.cs (H.hb + (2 * s.at_ + 1) - 1)), ch := 2 * s.at_, chh := s.lh }) hR hM1 (by first | exact hO1 | exact Only.un hO1) ?_ ?_ rfl rfl rfl rfl _
    · repeat (first | refine Only.setCell ?_ (by simp) _ | refine Only.drewN ?_ _ | refine Only.drew ?_)
      exact Only.refl _ _
    · apply Blk.eqs
      · repeat (with_reducible first | exact hA1 | apply Blk.set_ | apply Blk.drewN | apply Blk.drew)
      · rfl
  generalize ((((w1.setCell ⟨bA, 16, none⟩ (.int .i64 (gt s.cs (H.hb + (2 * s.at_ + 1) - 1)))).setCell ⟨bA, 17, none⟩ (.int .i64 (2 * s.at_))).setCell ⟨bA, 18, none⟩ (.int .i64 s.lh)).drew) = w2 at hp2 ⊢
  clear hA1 hH1 k0 k12 k13 k15 k16 k17 k18 kf hM1 hO1
  obtain ⟨_, hr2, hK2⟩ := hp2
  obtain ⟨vd2, vw2, vh2, hR2⟩ := hr2.named
  have hA2 := hR2.2.2.2.1
  have hHH2 := hR2.2.1.2.2.2.2.2.1
  have hPool2 := hR2.2.1.pool hR2.1
  have g23 : w2.cell? ⟨H.bH, 3, none⟩ = some (.pointer (some ⟨H.c.bP, 0, none⟩)) := hHH2.cell 3
  have kf2 : ∀ i, w2.frozen? ⟨bA, i, none⟩ = false := hA2.frozen
  have m0 : w2.cell? ⟨bA, 0, none⟩ = some (.pointer (some ⟨H.bH, 0, none⟩)) := hA2.cell 0
  have m12 : w2.cell? ⟨bA, 12, none⟩ = some (.int .i64 s.at_) := hA2.cell 12
  have m13 : w2.cell? ⟨bA, 13, none⟩ = some (.int .i64 s.head) := hA2.cell 13
  have m15 : w2.cell? ⟨bA, 15, none⟩ = some (.int .i64 s.lh) := hA2.cell 15
  have m16 : w2.cell? ⟨bA, 16, none⟩ = some (.int .i64 (gt s.cs (H.hb + (2 * s.at_ + 1) - 1))) := hA2.cell 16
  have m17 : w2.cell? ⟨bA, 17, none⟩ = some (.int .i64 (2 * s.at_)) := hA2.cell 17
  have m18 : w2.cell? ⟨bA, 18, none⟩ = some (.int .i64 s.lh) := hA2.cell 18
  go_quiet ((go_at_call 80; exact Calls.quiet_of (less_any _ _ (by exact hPool2) (by exact g23))))
  rw [hl]
  go_wp2_with fail
  have hp3 : HPost w2 bA H bds own { s with rh := (gt s.cs (H.hb + (2 * s.at_ + 1) - 1)), ch := 2 * s.at_, chh := s.lh } (.returned (.tuple #[])) (w2.drewN nq) := by
    refine hr_close (s' := { s with rh := (gt s.cs (H.hb + (2 * s.at_ + 1) - 1)), ch := 2 * s.at_, chh := s.lh }) hR2 hR2.1 (Only.refl _ _) ?_ ?_ rfl rfl rfl rfl _
    · repeat (first | refine Only.setCell ?_ (by simp) _ | refine Only.drewN ?_ _ | refine Only.drew ?_)
      exact Only.refl _ _
    · apply Blk.eqs
      · repeat (with_reducible first | exact hA2 | apply Blk.set_ | apply Blk.drewN | apply Blk.drew)
      · rfl
  generalize hw3 : (w2.drewN nq) = w3 at *
  clear hw3 hA2 kf2 hPool2 g23 hHH2
  obtain ⟨_, hr3, hK3⟩ := hp3
  obtain ⟨vd3, vw3, vh3, hR3⟩ := hr3.named
  have hA3 := hR3.2.2.2.1
  have hHH3 := hR3.2.1.2.2.2.2.2.1
  have hPool3 := hR3.2.1.pool hR3.1
  have g33 : w3.cell? ⟨H.bH, 3, none⟩ = some (.pointer (some ⟨H.c.bP, 0, none⟩)) := hHH3.cell 3
  have kf3 : ∀ i, w3.frozen? ⟨bA, i, none⟩ = false := hA3.frozen
  have n3_0 : w3.cell? ⟨bA, 0, none⟩ = some (.pointer (some ⟨H.bH, 0, none⟩)) := hA3.cell 0
  have n3_1 : w3.cell? ⟨bA, 1, none⟩ = some (.int .i64 s.ph) := hA3.cell 1
  have n3_12 : w3.cell? ⟨bA, 12, none⟩ = some (.int .i64 s.at_) := hA3.cell 12
  have n3_13 : w3.cell? ⟨bA, 13, none⟩ = some (.int .i64 s.head) := hA3.cell 13
  have n3_16 : w3.cell? ⟨bA, 16, none⟩ = some (.int .i64 (gt s.cs (H.hb + (2 * s.at_ + 1) - 1))) := hA3.cell 16
  have n3_17 : w3.cell? ⟨bA, 17, none⟩ = some (.int .i64 (2 * s.at_)) := hA3.cell 17
  have n3_18 : w3.cell? ⟨bA, 18, none⟩ = some (.int .i64 s.lh) := hA3.cell 18
  go_region
  go_wp2_with fail
  have hp4 : HPost w3 bA H bds own { s with rh := (gt s.cs (H.hb + (2 * s.at_ + 1) - 1)), ch := 2 * s.at_ + 1, chh := (gt s.cs (H.hb + (2 * s.at_ + 1) - 1)) } (.returned (.tuple #[])) (((w3.setCell ⟨bA, 17, none⟩ (.int .i64 (2 * s.at_ + 1))).setCell ⟨bA, 18, none⟩ (.int .i64 (gt s.cs (H.hb + (2 * s.at_ + 1) - 1)))).drew) := by
    refine hr_close (s' := { s with rh := (gt s.cs (H.hb + (2 * s.at_ + 1) - 1)), ch := 2 * s.at_ + 1, chh := (gt s.cs (H.hb + (2 * s.at_ + 1) - 1)) }) hR3 hR3.1 (Only.refl _ _) ?_ ?_ rfl rfl rfl rfl _
    · repeat (first | refine Only.setCell ?_ (by simp) _ | refine Only.drewN ?_ _ | refine Only.drew ?_)
      exact Only.refl _ _
    · apply Blk.eqs
      · repeat (with_reducible first | exact hA3 | apply Blk.set_ | apply Blk.drewN | apply Blk.drew)
      · rfl
  generalize hw4 : (((w3.setCell ⟨bA, 17, none⟩ (.int .i64 (2 * s.at_ + 1))).setCell ⟨bA, 18, none⟩ (.int .i64 (gt s.cs (H.hb + (2 * s.at_ + 1) - 1)))).drew) = w4 at *
  clear hw4 hA3 kf3 hPool3 g33 hHH3
  obtain ⟨_, hr4, hK4⟩ := hp4
  obtain ⟨vd4, vw4, vh4, hR4⟩ := hr4.named
  have hA4 := hR4.2.2.2.1
  have hHH4 := hR4.2.1.2.2.2.2.2.1
  have hPool4 := hR4.2.1.pool hR4.1
  have g43 : w4.cell? ⟨H.bH, 3, none⟩ = some (.pointer (some ⟨H.c.bP, 0, none⟩)) := hHH4.cell 3
  have kf4 : ∀ i, w4.frozen? ⟨bA, i, none⟩ = false := hA4.frozen
  have n4_0 : w4.cell? ⟨bA, 0, none⟩ = some (.pointer (some ⟨H.bH, 0, none⟩)) := hA4.cell 0
  have n4_1 : w4.cell? ⟨bA, 1, none⟩ = some (.int .i64 s.ph) := hA4.cell 1
  have n4_13 : w4.cell? ⟨bA, 13, none⟩ = some (.int .i64 s.head) := hA4.cell 13
  have n4_18 : w4.cell? ⟨bA, 18, none⟩ = some (.int .i64 (gt s.cs (H.hb + (2 * s.at_ + 1) - 1))) := hA4.cell 18
  clear n3_0 n3_1 n3_12 n3_13 n3_16 n3_17 n3_18
  go_quiet ((go_at_call 80; exact Calls.quiet_of (less_any _ _ (by exact hPool4) (by exact g43))))
  try rw [hl2]
  go_wp2_with fail
  go_end0
  refine HPost.after hK2 (HPost.after hK3 (HPost.after hK4 ?_))
  refine hr_close (s' := { s with rh := (gt s.cs (H.hb + (2 * s.at_ + 1) - 1)), ch := 2 * s.at_ + 1, chh := (gt s.cs (H.hb + (2 * s.at_ + 1) - 1)), ph := 10 }) hR4 hR4.1 (Only.refl _ _) ?_ ?_ rfl rfl rfl rfl _
  · repeat (first | refine Only.setCell ?_ (by simp) _ | refine Only.drewN ?_ _ | refine Only.drew ?_)
    exact Only.refl _ _
  · apply Blk.eqs
    · repeat (with_reducible first | exact hA4 | apply Blk.set_ | apply Blk.drewN | apply Blk.drew)
    · rfl
set_option maxRecDepth 100000 in
set_option maxHeartbeats 400000 in
theorem doRight_true_false {s : HS} {vd vw vh : Value} (hR : HRv w bA H bds own s vd vw vh) (h0 : 0 ≤ s.at_) (h1 : s.at_ ≤ 63) (hl : lessB bds (gt s.cs (H.hb + (2 * s.at_ + 1) - 1)) s.lh = true) (hl2 : lessB bds (gt s.cs (H.hb + (2 * s.at_ + 1) - 1)) s.head = false) :
    Calls Try.prog 60 #[.pointer (some ⟨bA, 0, none⟩)] w (HPost w bA H bds own (tidy { s with rh := (gt s.cs (H.hb + (2 * s.at_ + 1) - 1)), ch := 2 * s.at_ + 1, chh := (gt s.cs (H.hb + (2 * s.at_ + 1) - 1)) })) := by
  have hM := hR.1
  have hF := hR.2.1
  have hA := hR.2.2.2.1
  have hHH := hF.2.2.2.2.2.1
  have hAM := hM.apart hA (by decide) (by decide)
  have hHM := hM.apart hHH (by decide) (by decide)
  have hb4 := hR.hb_le
  have hAt : AtHeap w bA H := ⟨hA.cell 0, hHH, hb4⟩
  have hPool := hF.pool hM
  have a0 : w.cell? ⟨bA, 0, none⟩ = some (.pointer (some ⟨H.bH, 0, none⟩)) := hA.cell 0
  have a12 : w.cell? ⟨bA, 12, none⟩ = some (.int .i64 s.at_) := hA.cell 12
  have c0 : w.cell? ⟨H.bH, 0, none⟩ = some (.pointer (some ⟨H.c.bM, 0, none⟩)) := hHH.cell 0
  have c1 : w.cell? ⟨H.bH, 1, none⟩ = some (.int .i64 H.hb) := hHH.cell 1
  have c2 : w.cell? ⟨H.bH, 2, none⟩ = some (.int .i64 6) := hHH.cell 2
  have c3 : w.cell? ⟨H.bH, 3, none⟩ = some (.pointer (some ⟨H.c.bP, 0, none⟩)) := hHH.cell 3
  have e1 : IntKind.i64.wrap (2 * s.at_) = 2 * s.at_ := by simp only [IntKind.wrap_i64]; omega
  have e2 : IntKind.i64.wrap (2 * s.at_ + 1) = 2 * s.at_ + 1 := by simp only [IntKind.wrap_i64]; omega
  go_enter Try.func60, Try.ntmps60
  go_wp2_with fail
  refine (read_any _ (by exact hAt) (by exact hM) (by omega) (by omega) hAM).mono ?_
  rintro e w1 ⟨rfl, hM1, hO1⟩
  have hA1 := Blk.only (by exact hA) hO1 hAM
  have hH1 := Blk.only (by exact hHH) hO1 hHM
  have k0 : w1.cell? ⟨bA, 0, none⟩ = some (.pointer (some ⟨H.bH, 0, none⟩)) := hA1.cell 0
  have k12 : w1.cell? ⟨bA, 12, none⟩ = some (.int .i64 s.at_) := hA1.cell 12
  have k13 : w1.cell? ⟨bA, 13, none⟩ = some (.int .i64 s.head) := hA1.cell 13
  have k15 : w1.cell? ⟨bA, 15, none⟩ = some (.int .i64 s.lh) := hA1.cell 15
  have k16 : w1.cell? ⟨bA, 16, none⟩ = some (.int .i64 s.rh) := hA1.cell 16
  have k17 : w1.cell? ⟨bA, 17, none⟩ = some (.int .i64 s.ch) := hA1.cell 17
  have k18 : w1.cell? ⟨bA, 18, none⟩ = some (.int .i64 s.chh) := hA1.cell 18
  have kf : ∀ i, w1.frozen? ⟨bA, i, none⟩ = false := hA1.frozen
  go_wp2_with fail
  go_region
  go_wp2_with fail
  have hp2 : HPost w bA H bds own { s with rh := (gt s.cs (H.hb + (2 * s.at_ + 1) - 1)), ch := 2 * s.at_, chh := s.lh } (.returned (.tuple #[])) ((((w1.setCell ⟨bA, 16, none⟩ (.int .i64 (gt s.cs (H.hb + (2 * s.at_ + 1) - 1)))).setCell ⟨bA, 17, none⟩ (.int .i64 (2 * s.at_))).setCell ⟨bA, 18, none⟩ (.int .i64 s.lh)).drew) := by
    refine hr_close (s' := { s with rh := (gt s.cs (H.hb + (2 * s.at_ + 1) - 1)), ch := 2 * s.at_, chh := s.lh }) hR hM1 (by first | exact hO1 | exact Only.un hO1) ?_ ?_ rfl rfl rfl rfl _
    · repeat (first | refine Only.setCell ?_ (by simp) _ | refine Only.drewN ?_ _ | refine Only.drew ?_)
      exact Only.refl _ _
    · apply Blk.eqs
      · repeat (with_reducible first | exact hA1 | apply Blk.set_ | apply Blk.drewN | apply Blk.drew)
      · rfl
  generalize ((((w1.setCell ⟨bA, 16, none⟩ (.int .i64 (gt s.cs (H.hb + (2 * s.at_ + 1) - 1)))).setCell ⟨bA, 17, none⟩ (.int .i64 (2 * s.at_))).setCell ⟨bA, 18, none⟩ (.int .i64 s.lh)).drew) = w2 at hp2 ⊢
  clear hA1 hH1 k0 k12 k13 k15 k16 k17 k18 kf hM1 hO1
  obtain ⟨_, hr2, hK2⟩ := hp2
  obtain ⟨vd2, vw2, vh2, hR2⟩ := hr2.named
  have hA2 := hR2.2.2.2.1
  have hHH2 := hR2.2.1.2.2.2.2.2.1
  have hPool2 := hR2.2.1.pool hR2.1
  have g23 : w2.cell? ⟨H.bH, 3, none⟩ = some (.pointer (some ⟨H.c.bP, 0, none⟩)) := hHH2.cell 3
  have kf2 : ∀ i, w2.frozen? ⟨bA, i, none⟩ = false := hA2.frozen
  have m0 : w2.cell? ⟨bA, 0, none⟩ = some (.pointer (some ⟨H.bH, 0, none⟩)) := hA2.cell 0
  have m12 : w2.cell? ⟨bA, 12, none⟩ = some (.int .i64 s.at_) := hA2.cell 12
  have m13 : w2.cell? ⟨bA, 13, none⟩ = some (.int .i64 s.head) := hA2.cell 13
  have m15 : w2.cell? ⟨bA, 15, none⟩ = some (.int .i64 s.lh) := hA2.cell 15
  have m16 : w2.cell? ⟨bA, 16, none⟩ = some (.int .i64 (gt s.cs (H.hb + (2 * s.at_ + 1) - 1))) := hA2.cell 16
  have m17 : w2.cell? ⟨bA, 17, none⟩ = some (.int .i64 (2 * s.at_)) := hA2.cell 17
  have m18 : w2.cell? ⟨bA, 18, none⟩ = some (.int .i64 s.lh) := hA2.cell 18
  go_quiet ((go_at_call 80; exact Calls.quiet_of (less_any _ _ (by exact hPool2) (by exact g23))))
  rw [hl]
  go_wp2_with fail
  have hp3 : HPost w2 bA H bds own { s with rh := (gt s.cs (H.hb + (2 * s.at_ + 1) - 1)), ch := 2 * s.at_, chh := s.lh } (.returned (.tuple #[])) (w2.drewN nq) := by
    refine hr_close (s' := { s with rh := (gt s.cs (H.hb + (2 * s.at_ + 1) - 1)), ch := 2 * s.at_, chh := s.lh }) hR2 hR2.1 (Only.refl _ _) ?_ ?_ rfl rfl rfl rfl _
    · repeat (first | refine Only.setCell ?_ (by simp) _ | refine Only.drewN ?_ _ | refine Only.drew ?_)
      exact Only.refl _ _
    · apply Blk.eqs
      · repeat (with_reducible first | exact hA2 | apply Blk.set_ | apply Blk.drewN | apply Blk.drew)
      · rfl
  generalize hw3 : (w2.drewN nq) = w3 at *
  clear hw3 hA2 kf2 hPool2 g23 hHH2
  obtain ⟨_, hr3, hK3⟩ := hp3
  obtain ⟨vd3, vw3, vh3, hR3⟩ := hr3.named
  have hA3 := hR3.2.2.2.1
  have hHH3 := hR3.2.1.2.2.2.2.2.1
  have hPool3 := hR3.2.1.pool hR3.1
  have g33 : w3.cell? ⟨H.bH, 3, none⟩ = some (.pointer (some ⟨H.c.bP, 0, none⟩)) := hHH3.cell 3
  have kf3 : ∀ i, w3.frozen? ⟨bA, i, none⟩ = false := hA3.frozen
  have n3_0 : w3.cell? ⟨bA, 0, none⟩ = some (.pointer (some ⟨H.bH, 0, none⟩)) := hA3.cell 0
  have n3_1 : w3.cell? ⟨bA, 1, none⟩ = some (.int .i64 s.ph) := hA3.cell 1
  have n3_12 : w3.cell? ⟨bA, 12, none⟩ = some (.int .i64 s.at_) := hA3.cell 12
  have n3_13 : w3.cell? ⟨bA, 13, none⟩ = some (.int .i64 s.head) := hA3.cell 13
  have n3_16 : w3.cell? ⟨bA, 16, none⟩ = some (.int .i64 (gt s.cs (H.hb + (2 * s.at_ + 1) - 1))) := hA3.cell 16
  have n3_17 : w3.cell? ⟨bA, 17, none⟩ = some (.int .i64 (2 * s.at_)) := hA3.cell 17
  have n3_18 : w3.cell? ⟨bA, 18, none⟩ = some (.int .i64 s.lh) := hA3.cell 18
  go_region
  go_wp2_with fail
  have hp4 : HPost w3 bA H bds own { s with rh := (gt s.cs (H.hb + (2 * s.at_ + 1) - 1)), ch := 2 * s.at_ + 1, chh := (gt s.cs (H.hb + (2 * s.at_ + 1) - 1)) } (.returned (.tuple #[])) (((w3.setCell ⟨bA, 17, none⟩ (.int .i64 (2 * s.at_ + 1))).setCell ⟨bA, 18, none⟩ (.int .i64 (gt s.cs (H.hb + (2 * s.at_ + 1) - 1)))).drew) := by
    refine hr_close (s' := { s with rh := (gt s.cs (H.hb + (2 * s.at_ + 1) - 1)), ch := 2 * s.at_ + 1, chh := (gt s.cs (H.hb + (2 * s.at_ + 1) - 1)) }) hR3 hR3.1 (Only.refl _ _) ?_ ?_ rfl rfl rfl rfl _
    · repeat (first | refine Only.setCell ?_ (by simp) _ | refine Only.drewN ?_ _ | refine Only.drew ?_)
      exact Only.refl _ _
    · apply Blk.eqs
      · repeat (with_reducible first | exact hA3 | apply Blk.set_ | apply Blk.drewN | apply Blk.drew)
      · rfl
  generalize hw4 : (((w3.setCell ⟨bA, 17, none⟩ (.int .i64 (2 * s.at_ + 1))).setCell ⟨bA, 18, none⟩ (.int .i64 (gt s.cs (H.hb + (2 * s.at_ + 1) - 1)))).drew) = w4 at *
  clear hw4 hA3 kf3 hPool3 g33 hHH3
  obtain ⟨_, hr4, hK4⟩ := hp4
  obtain ⟨vd4, vw4, vh4, hR4⟩ := hr4.named
  have hA4 := hR4.2.2.2.1
  have hHH4 := hR4.2.1.2.2.2.2.2.1
  have hPool4 := hR4.2.1.pool hR4.1
  have g43 : w4.cell? ⟨H.bH, 3, none⟩ = some (.pointer (some ⟨H.c.bP, 0, none⟩)) := hHH4.cell 3
  have kf4 : ∀ i, w4.frozen? ⟨bA, i, none⟩ = false := hA4.frozen
  have n4_0 : w4.cell? ⟨bA, 0, none⟩ = some (.pointer (some ⟨H.bH, 0, none⟩)) := hA4.cell 0
  have n4_1 : w4.cell? ⟨bA, 1, none⟩ = some (.int .i64 s.ph) := hA4.cell 1
  have n4_13 : w4.cell? ⟨bA, 13, none⟩ = some (.int .i64 s.head) := hA4.cell 13
  have n4_18 : w4.cell? ⟨bA, 18, none⟩ = some (.int .i64 (gt s.cs (H.hb + (2 * s.at_ + 1) - 1))) := hA4.cell 18
  clear n3_0 n3_1 n3_12 n3_13 n3_16 n3_17 n3_18
  go_quiet ((go_at_call 80; exact Calls.quiet_of (less_any _ _ (by exact hPool4) (by exact g43))))
  try rw [hl2]
  go_wp2_with fail
  refine (tidy_any (H := H) (s := { s with rh := (gt s.cs (H.hb + (2 * s.at_ + 1) - 1)), ch := 2 * s.at_ + 1, chh := (gt s.cs (H.hb + (2 * s.at_ + 1) - 1)) }) (vd := vd4) (vw := vw4) (vh := vh4) ?ha).mono ?_
  case ha =>
    apply Blk.eqs
    · repeat (with_reducible first | exact hA4 | apply Blk.set_ | apply Blk.drewN | apply Blk.drew)
    · rfl
  rintro e w5 ⟨⟨v, rfl⟩, hA5, hO5⟩
  go_wp2_with fail
  refine bodyPost_ret (results_none rfl _ _ _) rfl ?_
  refine HPost.after hK2 (HPost.after hK3 (HPost.after hK4 ?_))
  refine hr_close (s' := tidy { s with rh := (gt s.cs (H.hb + (2 * s.at_ + 1) - 1)), ch := 2 * s.at_ + 1, chh := (gt s.cs (H.hb + (2 * s.at_ + 1) - 1)) }) hR4 hR4.1 (Only.refl _ _) ?_ hA5 rfl rfl rfl rfl _
  refine Only.trans' ?_ hO5 (by simp)
  repeat (first | refine Only.setCell ?_ (by simp) _ | refine Only.drewN ?_ _ | refine Only.drew ?_)
  exact Only.refl _ _
set_option maxRecDepth 100000 in
set_option maxHeartbeats 400000 in
theorem doRight_false_true {s : HS} {vd vw vh : Value} (hR : HRv w bA H bds own s vd vw vh) (h0 : 0 ≤ s.at_) (h1 : s.at_ ≤ 63) (hl : lessB bds (gt s.cs (H.hb + (2 * s.at_ + 1) - 1)) s.lh = false) (hl2 : lessB bds s.lh s.head = true) :
    Calls Try.prog 60 #[.pointer (some ⟨bA, 0, none⟩)] w (HPost w bA H bds own ({ s with rh := (gt s.cs (H.hb + (2 * s.at_ + 1) - 1)), ch := 2 * s.at_, chh := s.lh, ph := 10 })) := by
  have hM := hR.1
  have hF := hR.2.1
  have hA := hR.2.2.2.1
  have hHH := hF.2.2.2.2.2.1
  have hAM := hM.apart hA (by decide) (by decide)
  have hHM := hM.apart hHH (by decide) (by decide)
  have hb4 := hR.hb_le
  have hAt : AtHeap w bA H := ⟨hA.cell 0, hHH, hb4⟩
  have hPool := hF.pool hM
  have a0 : w.cell? ⟨bA, 0, none⟩ = some (.pointer (some ⟨H.bH, 0, none⟩)) := hA.cell 0
  have a12 : w.cell? ⟨bA, 12, none⟩ = some (.int .i64 s.at_) := hA.cell 12
  have c0 : w.cell? ⟨H.bH, 0, none⟩ = some (.pointer (some ⟨H.c.bM, 0, none⟩)) := hHH.cell 0
  have c1 : w.cell? ⟨H.bH, 1, none⟩ = some (.int .i64 H.hb) := hHH.cell 1
  have c2 : w.cell? ⟨H.bH, 2, none⟩ = some (.int .i64 6) := hHH.cell 2
  have c3 : w.cell? ⟨H.bH, 3, none⟩ = some (.pointer (some ⟨H.c.bP, 0, none⟩)) := hHH.cell 3
  have e1 : IntKind.i64.wrap (2 * s.at_) = 2 * s.at_ := by simp only [IntKind.wrap_i64]; omega
  have e2 : IntKind.i64.wrap (2 * s.at_ + 1) = 2 * s.at_ + 1 := by simp only [IntKind.wrap_i64]; omega
  go_enter Try.func60, Try.ntmps60
  go_wp2_with fail
  refine (read_any _ (by exact hAt) (by exact hM) (by omega) (by omega) hAM).mono ?_
  rintro e w1 ⟨rfl, hM1, hO1⟩
  have hA1 := Blk.only (by exact hA) hO1 hAM
  have hH1 := Blk.only (by exact hHH) hO1 hHM
  have k0 : w1.cell? ⟨bA, 0, none⟩ = some (.pointer (some ⟨H.bH, 0, none⟩)) := hA1.cell 0
  have k12 : w1.cell? ⟨bA, 12, none⟩ = some (.int .i64 s.at_) := hA1.cell 12
  have k13 : w1.cell? ⟨bA, 13, none⟩ = some (.int .i64 s.head) := hA1.cell 13
  have k15 : w1.cell? ⟨bA, 15, none⟩ = some (.int .i64 s.lh) := hA1.cell 15
  have k16 : w1.cell? ⟨bA, 16, none⟩ = some (.int .i64 s.rh) := hA1.cell 16
  have k17 : w1.cell? ⟨bA, 17, none⟩ = some (.int .i64 s.ch) := hA1.cell 17
  have k18 : w1.cell? ⟨bA, 18, none⟩ = some (.int .i64 s.chh) := hA1.cell 18
  have kf : ∀ i, w1.frozen? ⟨bA, i, none⟩ = false := hA1.frozen
  go_wp2_with fail
  go_region
  go_wp2_with fail
  have hp2 : HPost w bA H bds own { s with rh := (gt s.cs (H.hb + (2 * s.at_ + 1) - 1)), ch := 2 * s.at_, chh := s.lh } (.returned (.tuple #[])) ((((w1.setCell ⟨bA, 16, none⟩ (.int .i64 (gt s.cs (H.hb + (2 * s.at_ + 1) - 1)))).setCell ⟨bA, 17, none⟩ (.int .i64 (2 * s.at_))).setCell ⟨bA, 18, none⟩ (.int .i64 s.lh)).drew) := by
    refine hr_close (s' := { s with rh := (gt s.cs (H.hb + (2 * s.at_ + 1) - 1)), ch := 2 * s.at_, chh := s.lh }) hR hM1 (by first | exact hO1 | exact Only.un hO1) ?_ ?_ rfl rfl rfl rfl _
    · repeat (first | refine Only.setCell ?_ (by simp) _ | refine Only.drewN ?_ _ | refine Only.drew ?_)
      exact Only.refl _ _
    · apply Blk.eqs
      · repeat (with_reducible first | exact hA1 | apply Blk.set_ | apply Blk.drewN | apply Blk.drew)
      · rfl
  generalize ((((w1.setCell ⟨bA, 16, none⟩ (.int .i64 (gt s.cs (H.hb + (2 * s.at_ + 1) - 1)))).setCell ⟨bA, 17, none⟩ (.int .i64 (2 * s.at_))).setCell ⟨bA, 18, none⟩ (.int .i64 s.lh)).drew) = w2 at hp2 ⊢
  clear hA1 hH1 k0 k12 k13 k15 k16 k17 k18 kf hM1 hO1
  obtain ⟨_, hr2, hK2⟩ := hp2
  obtain ⟨vd2, vw2, vh2, hR2⟩ := hr2.named
  have hA2 := hR2.2.2.2.1
  have hHH2 := hR2.2.1.2.2.2.2.2.1
  have hPool2 := hR2.2.1.pool hR2.1
  have g23 : w2.cell? ⟨H.bH, 3, none⟩ = some (.pointer (some ⟨H.c.bP, 0, none⟩)) := hHH2.cell 3
  have kf2 : ∀ i, w2.frozen? ⟨bA, i, none⟩ = false := hA2.frozen
  have m0 : w2.cell? ⟨bA, 0, none⟩ = some (.pointer (some ⟨H.bH, 0, none⟩)) := hA2.cell 0
  have m12 : w2.cell? ⟨bA, 12, none⟩ = some (.int .i64 s.at_) := hA2.cell 12
  have m13 : w2.cell? ⟨bA, 13, none⟩ = some (.int .i64 s.head) := hA2.cell 13
  have m15 : w2.cell? ⟨bA, 15, none⟩ = some (.int .i64 s.lh) := hA2.cell 15
  have m16 : w2.cell? ⟨bA, 16, none⟩ = some (.int .i64 (gt s.cs (H.hb + (2 * s.at_ + 1) - 1))) := hA2.cell 16
  have m17 : w2.cell? ⟨bA, 17, none⟩ = some (.int .i64 (2 * s.at_)) := hA2.cell 17
  have m18 : w2.cell? ⟨bA, 18, none⟩ = some (.int .i64 s.lh) := hA2.cell 18
  go_quiet ((go_at_call 80; exact Calls.quiet_of (less_any _ _ (by exact hPool2) (by exact g23))))
  rw [hl]
  go_wp2_with fail
  have hp3 : HPost w2 bA H bds own { s with rh := (gt s.cs (H.hb + (2 * s.at_ + 1) - 1)), ch := 2 * s.at_, chh := s.lh } (.returned (.tuple #[])) (w2.drewN nq) := by
    refine hr_close (s' := { s with rh := (gt s.cs (H.hb + (2 * s.at_ + 1) - 1)), ch := 2 * s.at_, chh := s.lh }) hR2 hR2.1 (Only.refl _ _) ?_ ?_ rfl rfl rfl rfl _
    · repeat (first | refine Only.setCell ?_ (by simp) _ | refine Only.drewN ?_ _ | refine Only.drew ?_)
      exact Only.refl _ _
    · apply Blk.eqs
      · repeat (with_reducible first | exact hA2 | apply Blk.set_ | apply Blk.drewN | apply Blk.drew)
      · rfl
  generalize hw3 : (w2.drewN nq) = w3 at *
  clear hw3 hA2 kf2 hPool2 g23 hHH2
  obtain ⟨_, hr3, hK3⟩ := hp3
  obtain ⟨vd3, vw3, vh3, hR3⟩ := hr3.named
  have hA3 := hR3.2.2.2.1
  have hHH3 := hR3.2.1.2.2.2.2.2.1
  have hPool3 := hR3.2.1.pool hR3.1
  have g33 : w3.cell? ⟨H.bH, 3, none⟩ = some (.pointer (some ⟨H.c.bP, 0, none⟩)) := hHH3.cell 3
  have kf3 : ∀ i, w3.frozen? ⟨bA, i, none⟩ = false := hA3.frozen
  have n3_0 : w3.cell? ⟨bA, 0, none⟩ = some (.pointer (some ⟨H.bH, 0, none⟩)) := hA3.cell 0
  have n3_1 : w3.cell? ⟨bA, 1, none⟩ = some (.int .i64 s.ph) := hA3.cell 1
  have n3_12 : w3.cell? ⟨bA, 12, none⟩ = some (.int .i64 s.at_) := hA3.cell 12
  have n3_13 : w3.cell? ⟨bA, 13, none⟩ = some (.int .i64 s.head) := hA3.cell 13
  have n3_16 : w3.cell? ⟨bA, 16, none⟩ = some (.int .i64 (gt s.cs (H.hb + (2 * s.at_ + 1) - 1))) := hA3.cell 16
  have n3_17 : w3.cell? ⟨bA, 17, none⟩ = some (.int .i64 (2 * s.at_)) := hA3.cell 17
  have n3_18 : w3.cell? ⟨bA, 18, none⟩ = some (.int .i64 s.lh) := hA3.cell 18
  go_quiet ((go_at_call 80; exact Calls.quiet_of (less_any _ _ (by exact hPool3) (by exact g33))))
  try rw [hl2]
  go_wp2_with fail
  go_end0
  refine HPost.after hK2 (HPost.after hK3 ?_)
  refine hr_close (s' := { s with rh := (gt s.cs (H.hb + (2 * s.at_ + 1) - 1)), ch := 2 * s.at_, chh := s.lh, ph := 10 }) hR3 hR3.1 (Only.refl _ _) ?_ ?_ rfl rfl rfl rfl _
  · repeat (first | refine Only.setCell ?_ (by simp) _ | refine Only.drewN ?_ _ | refine Only.drew ?_)
    exact Only.refl _ _
  · apply Blk.eqs
    · repeat (with_reducible first | exact hA3 | apply Blk.set_ | apply Blk.drewN | apply Blk.drew)
    · rfl
set_option maxRecDepth 100000 in
set_option maxHeartbeats 400000 in
theorem doRight_false_false {s : HS} {vd vw vh : Value} (hR : HRv w bA H bds own s vd vw vh) (h0 : 0 ≤ s.at_) (h1 : s.at_ ≤ 63) (hl : lessB bds (gt s.cs (H.hb + (2 * s.at_ + 1) - 1)) s.lh = false) (hl2 : lessB bds s.lh s.head = false) :
    Calls Try.prog 60 #[.pointer (some ⟨bA, 0, none⟩)] w (HPost w bA H bds own (tidy { s with rh := (gt s.cs (H.hb + (2 * s.at_ + 1) - 1)), ch := 2 * s.at_, chh := s.lh })) := by
  have hM := hR.1
  have hF := hR.2.1
  have hA := hR.2.2.2.1
  have hHH := hF.2.2.2.2.2.1
  have hAM := hM.apart hA (by decide) (by decide)
  have hHM := hM.apart hHH (by decide) (by decide)
  have hb4 := hR.hb_le
  have hAt : AtHeap w bA H := ⟨hA.cell 0, hHH, hb4⟩
  have hPool := hF.pool hM
  have a0 : w.cell? ⟨bA, 0, none⟩ = some (.pointer (some ⟨H.bH, 0, none⟩)) := hA.cell 0
  have a12 : w.cell? ⟨bA, 12, none⟩ = some (.int .i64 s.at_) := hA.cell 12
  have c0 : w.cell? ⟨H.bH, 0, none⟩ = some (.pointer (some ⟨H.c.bM, 0, none⟩)) := hHH.cell 0
  have c1 : w.cell? ⟨H.bH, 1, none⟩ = some (.int .i64 H.hb) := hHH.cell 1
  have c2 : w.cell? ⟨H.bH, 2, none⟩ = some (.int .i64 6) := hHH.cell 2
  have c3 : w.cell? ⟨H.bH, 3, none⟩ = some (.pointer (some ⟨H.c.bP, 0, none⟩)) := hHH.cell 3
  have e1 : IntKind.i64.wrap (2 * s.at_) = 2 * s.at_ := by simp only [IntKind.wrap_i64]; omega
  have e2 : IntKind.i64.wrap (2 * s.at_ + 1) = 2 * s.at_ + 1 := by simp only [IntKind.wrap_i64]; omega
  go_enter Try.func60, Try.ntmps60
  go_wp2_with fail
  refine (read_any _ (by exact hAt) (by exact hM) (by omega) (by omega) hAM).mono ?_
  rintro e w1 ⟨rfl, hM1, hO1⟩
  have hA1 := Blk.only (by exact hA) hO1 hAM
  have hH1 := Blk.only (by exact hHH) hO1 hHM
  have k0 : w1.cell? ⟨bA, 0, none⟩ = some (.pointer (some ⟨H.bH, 0, none⟩)) := hA1.cell 0
  have k12 : w1.cell? ⟨bA, 12, none⟩ = some (.int .i64 s.at_) := hA1.cell 12
  have k13 : w1.cell? ⟨bA, 13, none⟩ = some (.int .i64 s.head) := hA1.cell 13
  have k15 : w1.cell? ⟨bA, 15, none⟩ = some (.int .i64 s.lh) := hA1.cell 15
  have k16 : w1.cell? ⟨bA, 16, none⟩ = some (.int .i64 s.rh) := hA1.cell 16
  have k17 : w1.cell? ⟨bA, 17, none⟩ = some (.int .i64 s.ch) := hA1.cell 17
  have k18 : w1.cell? ⟨bA, 18, none⟩ = some (.int .i64 s.chh) := hA1.cell 18
  have kf : ∀ i, w1.frozen? ⟨bA, i, none⟩ = false := hA1.frozen
  go_wp2_with fail
  go_region
  go_wp2_with fail
  have hp2 : HPost w bA H bds own { s with rh := (gt s.cs (H.hb + (2 * s.at_ + 1) - 1)), ch := 2 * s.at_, chh := s.lh } (.returned (.tuple #[])) ((((w1.setCell ⟨bA, 16, none⟩ (.int .i64 (gt s.cs (H.hb + (2 * s.at_ + 1) - 1)))).setCell ⟨bA, 17, none⟩ (.int .i64 (2 * s.at_))).setCell ⟨bA, 18, none⟩ (.int .i64 s.lh)).drew) := by
    refine hr_close (s' := { s with rh := (gt s.cs (H.hb + (2 * s.at_ + 1) - 1)), ch := 2 * s.at_, chh := s.lh }) hR hM1 (by first | exact hO1 | exact Only.un hO1) ?_ ?_ rfl rfl rfl rfl _
    · repeat (first | refine Only.setCell ?_ (by simp) _ | refine Only.drewN ?_ _ | refine Only.drew ?_)
      exact Only.refl _ _
    · apply Blk.eqs
      · repeat (with_reducible first | exact hA1 | apply Blk.set_ | apply Blk.drewN | apply Blk.drew)
      · rfl
  generalize ((((w1.setCell ⟨bA, 16, none⟩ (.int .i64 (gt s.cs (H.hb + (2 * s.at_ + 1) - 1)))).setCell ⟨bA, 17, none⟩ (.int .i64 (2 * s.at_))).setCell ⟨bA, 18, none⟩ (.int .i64 s.lh)).drew) = w2 at hp2 ⊢
  clear hA1 hH1 k0 k12 k13 k15 k16 k17 k18 kf hM1 hO1
  obtain ⟨_, hr2, hK2⟩ := hp2
  obtain ⟨vd2, vw2, vh2, hR2⟩ := hr2.named
  have hA2 := hR2.2.2.2.1
  have hHH2 := hR2.2.1.2.2.2.2.2.1
  have hPool2 := hR2.2.1.pool hR2.1
  have g23 : w2.cell? ⟨H.bH, 3, none⟩ = some (.pointer (some ⟨H.c.bP, 0, none⟩)) := hHH2.cell 3
  have kf2 : ∀ i, w2.frozen? ⟨bA, i, none⟩ = false := hA2.frozen
  have m0 : w2.cell? ⟨bA, 0, none⟩ = some (.pointer (some ⟨H.bH, 0, none⟩)) := hA2.cell 0
  have m12 : w2.cell? ⟨bA, 12, none⟩ = some (.int .i64 s.at_) := hA2.cell 12
  have m13 : w2.cell? ⟨bA, 13, none⟩ = some (.int .i64 s.head) := hA2.cell 13
  have m15 : w2.cell? ⟨bA, 15, none⟩ = some (.int .i64 s.lh) := hA2.cell 15
  have m16 : w2.cell? ⟨bA, 16, none⟩ = some (.int .i64 (gt s.cs (H.hb + (2 * s.at_ + 1) - 1))) := hA2.cell 16
  have m17 : w2.cell? ⟨bA, 17, none⟩ = some (.int .i64 (2 * s.at_)) := hA2.cell 17
  have m18 : w2.cell? ⟨bA, 18, none⟩ = some (.int .i64 s.lh) := hA2.cell 18
  go_quiet ((go_at_call 80; exact Calls.quiet_of (less_any _ _ (by exact hPool2) (by exact g23))))
  rw [hl]
  go_wp2_with fail
  have hp3 : HPost w2 bA H bds own { s with rh := (gt s.cs (H.hb + (2 * s.at_ + 1) - 1)), ch := 2 * s.at_, chh := s.lh } (.returned (.tuple #[])) (w2.drewN nq) := by
    refine hr_close (s' := { s with rh := (gt s.cs (H.hb + (2 * s.at_ + 1) - 1)), ch := 2 * s.at_, chh := s.lh }) hR2 hR2.1 (Only.refl _ _) ?_ ?_ rfl rfl rfl rfl _
    · repeat (first | refine Only.setCell ?_ (by simp) _ | refine Only.drewN ?_ _ | refine Only.drew ?_)
      exact Only.refl _ _
    · apply Blk.eqs
      · repeat (with_reducible first | exact hA2 | apply Blk.set_ | apply Blk.drewN | apply Blk.drew)
      · rfl
  generalize hw3 : (w2.drewN nq) = w3 at *
  clear hw3 hA2 kf2 hPool2 g23 hHH2
  obtain ⟨_, hr3, hK3⟩ := hp3
  obtain ⟨vd3, vw3, vh3, hR3⟩ := hr3.named
  have hA3 := hR3.2.2.2.1
  have hHH3 := hR3.2.1.2.2.2.2.2.1
  have hPool3 := hR3.2.1.pool hR3.1
  have g33 : w3.cell? ⟨H.bH, 3, none⟩ = some (.pointer (some ⟨H.c.bP, 0, none⟩)) := hHH3.cell 3
  have kf3 : ∀ i, w3.frozen? ⟨bA, i, none⟩ = false := hA3.frozen
  have n3_0 : w3.cell? ⟨bA, 0, none⟩ = some (.pointer (some ⟨H.bH, 0, none⟩)) := hA3.cell 0
  have n3_1 : w3.cell? ⟨bA, 1, none⟩ = some (.int .i64 s.ph) := hA3.cell 1
  have n3_12 : w3.cell? ⟨bA, 12, none⟩ = some (.int .i64 s.at_) := hA3.cell 12
  have n3_13 : w3.cell? ⟨bA, 13, none⟩ = some (.int .i64 s.head) := hA3.cell 13
  have n3_16 : w3.cell? ⟨bA, 16, none⟩ = some (.int .i64 (gt s.cs (H.hb + (2 * s.at_ + 1) - 1))) := hA3.cell 16
  have n3_17 : w3.cell? ⟨bA, 17, none⟩ = some (.int .i64 (2 * s.at_)) := hA3.cell 17
  have n3_18 : w3.cell? ⟨bA, 18, none⟩ = some (.int .i64 s.lh) := hA3.cell 18
  go_quiet ((go_at_call 80; exact Calls.quiet_of (less_any _ _ (by exact hPool3) (by exact g33))))
  try rw [hl2]
  go_wp2_with fail
  refine (tidy_any (H := H) (s := { s with rh := (gt s.cs (H.hb + (2 * s.at_ + 1) - 1)), ch := 2 * s.at_, chh := s.lh }) (vd := vd3) (vw := vw3) (vh := vh3) ?ha).mono ?_
  case ha =>
    apply Blk.eqs
    · repeat (with_reducible first | exact hA3 | apply Blk.set_ | apply Blk.drewN | apply Blk.drew)
    · rfl
  rintro e w5 ⟨⟨v, rfl⟩, hA5, hO5⟩
  go_wp2_with fail
  refine bodyPost_ret (results_none rfl _ _ _) rfl ?_
  refine HPost.after hK2 (HPost.after hK3 ?_)
  refine hr_close (s' := tidy { s with rh := (gt s.cs (H.hb + (2 * s.at_ + 1) - 1)), ch := 2 * s.at_, chh := s.lh }) hR3 hR3.1 (Only.refl _ _) ?_ hA5 rfl rfl rfl rfl _
  refine Only.trans' ?_ hO5 (by simp)
  repeat (first | refine Only.setCell ?_ (by simp) _ | refine Only.drewN ?_ _ | refine Only.drew ?_)
  exact Only.refl _ _
end
end Go.Proofs.Ytnpglcbkpbhnoaa
