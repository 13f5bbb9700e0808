/- The walks over package heap, second part: the phases that read and swap. Printed by gen_heap.py. -/
import Derived.Test.YtnpglcbkpbhnoaaHeapA
namespace Go.Proofs.Ytnpglcbkpbhnoaa
open Go.RowKit Kq

/-- All together, the lists' values named. -/
def HRv (w : World) (bA : Nat) (H : HCfg) (bds own : List Int) (s : HS) (vd vw vh : Value) : Prop :=
  MemR w H.c.bM H.c.bC H.c.N s.cs ∧ HFix w H bds own ∧ H.h0 ≤ bA ∧ Blk w bA 85 (actCells H s vd vw vh) ∧ w.ownsRow H.h0 3 1 vd s.draws.length (ints s.draws) ∧ w.ownsRow H.h0 3 1 vw s.way.length (ints s.way) ∧
    w.ownsRow H.h0 3 1 vh s.heads.length (ints s.heads) ∧ ∀ g, vh.ownBlock = some g → vd.ownBlock ≠ some g ∧ vw.ownBlock ≠ some g
theorem HR.named {w : World} {bA : Nat} {H : HCfg} {bds own : List Int} {s : HS} (h : HR w bA H bds own s) : ∃ vd vw vh, HRv w bA H bds own s vd vw vh := by
  obtain ⟨hM, hF, h0, vd, vw, vh, h1⟩ := h
  exact ⟨vd, vw, vh, hM, hF, h0, h1⟩
theorem HRv.all {w : World} {bA : Nat} {H : HCfg} {bds own : List Int} {s : HS} {vd vw vh : Value} (h : HRv w bA H bds own s vd vw vh) : HR w bA H bds own s := ⟨h.1, h.2.1, h.2.2.1, vd, vw, vh, h.2.2.2⟩
theorem HRv.hb_le {w : World} {bA : Nat} {H : HCfg} {bds own : List Int} {s : HS} {vd vw vh : Value} (h : HRv w bA H bds own s vd vw vh) : H.hb ≤ 4194304 := by
  obtain ⟨⟨_, _, _, _, _, _, _, _, _, hN⟩, ⟨_, _, _, _, _, _, h3, _⟩, _⟩ := h
  omega

def HPost (w : World) (bA : Nat) (H : HCfg) (bds own : List Int) (s : HS) (e : Ending) (w' : World) : Prop := (∃ v, e = .returned v) ∧ HR w' bA H bds own s ∧ HK H w w'

theorem Only.un {S : List Nat} {w w1 : World} {k : Nat} (h : Only S (w.drewN k) w1) : Only S w w1 := ⟨h.os, h.tape, h.output, h.size, h.block⟩
theorem hr_close {w w1 w2 : World} {bA : Nat} {H : HCfg} {bds own cs' : List Int} {s s' : HS} {vd vw vh : Value} (hR : HRv w bA H bds own s vd vw vh)
    (hM1 : MemR w1 H.c.bM H.c.bC H.c.N cs') (hO1 : Only [H.c.bM, H.c.bC] w w1) (hon : Only [bA] w1 w2) (hA2 : Blk w2 bA 85 (actCells H s' vd vw vh))
    (e1 : s'.cs = cs') (e2 : s'.draws = s.draws) (e3 : s'.way = s.way) (e4 : s'.heads = s.heads) (u : Value) : HPost w bA H bds own s' (.returned u) w2 := by
  obtain ⟨hM, hF, h0, hA, hD, hW, hHd, hne⟩ := hR
  have hAM := hM.apart hA (by decide) (by decide)
  have hall : Only [bA, H.c.bM, H.c.bC] w w2 := (Only.trans' (Only.refl _ _) hO1 (by simp)).trans' hon (by simp)
  have hS : ∀ g, g ∈ [bA, H.c.bM, H.c.bC] → g = H.c.bM ∨ g = H.c.bC ∨ H.h0 ≤ g := by
    intro g hg
    simp only [List.mem_cons, List.not_mem_nil, or_false] at hg
    rcases hg with rfl | rfl | rfl
    · exact .inr (.inr h0)
    · exact .inl rfl
    · exact .inr (.inl rfl)
  have hlt := hF.2.2.2.2.2.2.2
  have hrow : ∀ {v : Value} {xs : List Int}, w.ownsRow H.h0 3 1 v xs.length (ints xs) → w2.ownsRow H.h0 3 1 v xs.length (ints xs) := by
    intro v xs h
    refine owns_only h hall ?_
    intro g hg he
    have hge := (h.lt g he).1
    simp only [List.mem_cons, List.not_mem_nil, or_false] at hg
    rcases hg with rfl | rfl | rfl
    · exact owns_ne h hA (by decide) he
    · omega
    · omega
  have hM2 : MemR w2 H.c.bM H.c.bC H.c.N s'.cs := by rw [e1]; exact hM1.only hon (by simp at hAM ⊢; exact Ne.symm hAM.1) (by simp at hAM ⊢; exact Ne.symm hAM.2)
  refine ⟨⟨_, rfl⟩, ⟨hM2, hF.only hM hall hS, h0, vd, vw, vh, hA2, by rw [e2]; exact hrow hD, by rw [e3]; exact hrow hW, by rw [e4]; exact hrow hHd, hne⟩, HK.of_only hall hS⟩

section
variable {w : World} {H : HCfg} {bA : Nat} {bds own : List Int}

theorem tidy_any {s : HS} {vd vw vh : Value} (hA : Blk w bA 85 (actCells H s vd vw vh)) :
    Calls Try.prog 79 #[.pointer (some ⟨bA, 0, none⟩)] w fun e w' => (∃ v, e = .returned v) ∧ Blk w' bA 85 (actCells H (tidy s) vd vw vh) ∧ Only [bA] w w' := by
  have a1 : w.cell? ⟨bA, 1, none⟩ = some (.int .i64 s.ph) := hA.cell 1
  have a2 : w.cell? ⟨bA, 2, none⟩ = some (.int .i64 s.slot) := hA.cell 2
  have a12 : w.cell? ⟨bA, 12, none⟩ = some (.int .i64 s.at_) := hA.cell 12
  have kf : ∀ i, w.frozen? ⟨bA, i, none⟩ = false := hA.frozen
  by_cases hq : 0 ≤ s.slot
  · have e : tidy s = { s with at_ := 1, ph := 15 } := by unfold tidy; rw [if_pos hq]
    rw [e]
    have HA := Lib.hid hA
    clear hA e
    go_enter Try.func79, Try.ntmps79
    go_wp2
    go_end0
    exact ⟨⟨_, rfl⟩, Blk.eqs (((HA.out.set_ 12 _).set_ 1 _).set_ 1 _) rfl, (((Only.refl _ _).setCell (by simp) _).setCell (by simp) _).setCell (by simp) _⟩
  · have hq2 : s.slot < 0 := by omega
    have e : tidy s = { s with at_ := 1, ph := 4 } := by unfold tidy; rw [if_neg hq]
    rw [e]
    have HA := Lib.hid hA
    clear hA e hq
    go_enter Try.func79, Try.ntmps79
    go_wp2
    go_end0
    exact ⟨⟨_, rfl⟩, Blk.eqs ((HA.out.set_ 12 _).set_ 1 _) rfl, ((Only.refl _ _).setCell (by simp) _).setCell (by simp) _⟩

set_option maxRecDepth 100000 in
set_option maxHeartbeats 400000 in
theorem doFirst_in {s : HS} {vd vw vh : Value} (hR : HRv w bA H bds own s vd vw vh) (h0 : 0 ≤ s.at_) (h1 : s.at_ ≤ 63) (hs : 0 ≤ upl (gt s.cs (H.hb + s.at_ - 1))) :
    Calls Try.prog 55 #[.pointer (some ⟨bA, 0, none⟩)] w (HPost w bA H bds own (hFirst H.hb s)) := by
  have hM := hR.1
  have hF := hR.2.1
  have hA := hR.2.2.2.1
  have hHH := hF.2.2.2.2.2.1
  have hAM := hM.apart hA (by decide) (by decide)
  have hHM := hM.apart hHH (by decide) (by decide)
  have hb4 := hR.hb_le
  have hAt : AtHeap w bA H := ⟨hA.cell 0, hHH, hb4⟩
  have hPool := hF.pool hM
  have a0 : w.cell? ⟨bA, 0, none⟩ = some (.pointer (some ⟨H.bH, 0, none⟩)) := hA.cell 0
  have a12 : w.cell? ⟨bA, 12, none⟩ = some (.int .i64 s.at_) := hA.cell 12
  have c0 : w.cell? ⟨H.bH, 0, none⟩ = some (.pointer (some ⟨H.c.bM, 0, none⟩)) := hHH.cell 0
  have c1 : w.cell? ⟨H.bH, 1, none⟩ = some (.int .i64 H.hb) := hHH.cell 1
  have c2 : w.cell? ⟨H.bH, 2, none⟩ = some (.int .i64 6) := hHH.cell 2
  have c3 : w.cell? ⟨H.bH, 3, none⟩ = some (.pointer (some ⟨H.c.bP, 0, none⟩)) := hHH.cell 3
  go_enter Try.func55, Try.ntmps55
  go_wp2_with fail
  refine (read_any _ (by exact hAt) (by exact hM) (by omega) (by omega) hAM).mono ?_
  rintro e w1 ⟨rfl, hM1, hO1⟩
  have hA1 := Blk.only (by exact hA) hO1 hAM
  have hH1 := Blk.only (by exact hHH) hO1 hHM
  have k1 : w1.cell? ⟨bA, 1, none⟩ = some (.int .i64 s.ph) := hA1.cell 1
  have k13 : w1.cell? ⟨bA, 13, none⟩ = some (.int .i64 s.head) := hA1.cell 13
  have kf : ∀ i, w1.frozen? ⟨bA, i, none⟩ = false := hA1.frozen
  go_wp2_with (go_at_call 44; refine (unpack_any _ _).mono ?_; rintro e w' ⟨rfl, rfl⟩)
  go_end0
  refine hr_close (s' := hFirst H.hb s) hR hM1 (by first | exact hO1 | exact Only.un hO1) ?_ ?_ rfl rfl rfl rfl _
  · repeat (first | refine Only.setCell ?_ (by simp) _ | refine Only.drewN ?_ _ | refine Only.drew ?_)
    exact Only.refl _ _
  · apply Blk.eqs
    · repeat (with_reducible first | exact hA1 | apply Blk.set_ | apply Blk.drewN | apply Blk.drew)
    · rfl

set_option maxRecDepth 100000 in
set_option maxHeartbeats 400000 in
theorem doNode_deep {s : HS} {vd vw vh : Value} (hR : HRv w bA H bds own s vd vw vh) (h0 : 0 ≤ s.at_) (h1 : s.at_ ≤ 63) (hd : 63 < 2 * s.at_) :
    Calls Try.prog 58 #[.pointer (some ⟨bA, 0, none⟩)] w (HPost w bA H bds own (tidy { s with head := gt s.cs (H.hb + s.at_ - 1), ph := 8 })) := by
  have hM := hR.1
  have hF := hR.2.1
  have hA := hR.2.2.2.1
  have hHH := hF.2.2.2.2.2.1
  have hAM := hM.apart hA (by decide) (by decide)
  have hHM := hM.apart hHH (by decide) (by decide)
  have hb4 := hR.hb_le
  have hAt : AtHeap w bA H := ⟨hA.cell 0, hHH, hb4⟩
  have hPool := hF.pool hM
  have a0 : w.cell? ⟨bA, 0, none⟩ = some (.pointer (some ⟨H.bH, 0, none⟩)) := hA.cell 0
  have a12 : w.cell? ⟨bA, 12, none⟩ = some (.int .i64 s.at_) := hA.cell 12
  have c0 : w.cell? ⟨H.bH, 0, none⟩ = some (.pointer (some ⟨H.c.bM, 0, none⟩)) := hHH.cell 0
  have c1 : w.cell? ⟨H.bH, 1, none⟩ = some (.int .i64 H.hb) := hHH.cell 1
  have c2 : w.cell? ⟨H.bH, 2, none⟩ = some (.int .i64 6) := hHH.cell 2
  have c3 : w.cell? ⟨H.bH, 3, none⟩ = some (.pointer (some ⟨H.c.bP, 0, none⟩)) := hHH.cell 3
  go_enter Try.func58, Try.ntmps58
  go_wp2_with fail
  refine (read_any _ (by exact hAt) (by exact hM) (by omega) (by omega) hAM).mono ?_
  rintro e w1 ⟨rfl, hM1, hO1⟩
  have hA1 := Blk.only (by exact hA) hO1 hAM
  have hH1 := Blk.only (by exact hHH) hO1 hHM
  have k0 : w1.cell? ⟨bA, 0, none⟩ = some (.pointer (some ⟨H.bH, 0, none⟩)) := hA1.cell 0
  have k1 : w1.cell? ⟨bA, 1, none⟩ = some (.int .i64 s.ph) := hA1.cell 1
  have k12 : w1.cell? ⟨bA, 12, none⟩ = some (.int .i64 s.at_) := hA1.cell 12
  have k13 : w1.cell? ⟨bA, 13, none⟩ = some (.int .i64 s.head) := hA1.cell 13
  have h2 : w1.cell? ⟨H.bH, 2, none⟩ = some (.int .i64 6) := hH1.cell 2
  have kf : ∀ i, w1.frozen? ⟨bA, i, none⟩ = false := hA1.frozen
  go_wp2_with fail
  have hHA : H.bH ≠ bA := Blk.ne_ hHH hA (by decide)
  have e2 : IntKind.i64.wrap (2 * s.at_) = 2 * s.at_ := by simp only [IntKind.wrap_i64]; omega
  have h2' := (Blk.far (Blk.far hH1 (p := ⟨bA, 13, none⟩) hHA (.int .i64 (gt s.cs (H.hb + s.at_ - 1)))) (p := ⟨bA, 1, none⟩) hHA (.int .i64 8)).cell 2
  go_quiet ((go_at_call 31; exact Calls.quiet_of_same (flip_same (places_any (by exact h2')))))
  clear h2'
  go_wp2_with fail
  refine (tidy_any (H := H) (s := { s with head := gt s.cs (H.hb + s.at_ - 1), ph := 8 }) (vd := vd) (vw := vw) (vh := vh) ?ha).mono ?_
  case ha =>
    apply Blk.eqs
    · repeat (with_reducible first | exact hA1 | apply Blk.set_ | apply Blk.drewN | apply Blk.drew)
    · rfl
  rintro e w2 ⟨⟨v, rfl⟩, hA2, hO2⟩
  go_wp2_with fail
  go_end0
  refine hr_close (s' := tidy { s with head := gt s.cs (H.hb + s.at_ - 1), ph := 8 }) hR hM1 (by first | exact hO1 | exact Only.un hO1) ?_ hA2 rfl rfl rfl rfl _
  refine Only.trans' ?_ hO2 (by simp)
  repeat (first | refine Only.setCell ?_ (by simp) _ | refine Only.drewN ?_ _ | refine Only.drew ?_)
  exact Only.refl _ _

set_option maxRecDepth 100000 in
set_option maxHeartbeats 400000 in
theorem doNode_more {s : HS} {vd vw vh : Value} (hR : HRv w bA H bds own s vd vw vh) (h0 : 0 ≤ s.at_) (h1 : s.at_ ≤ 63) (hd : 2 * s.at_ ≤ 63) :
    Calls Try.prog 58 #[.pointer (some ⟨bA, 0, none⟩)] w (HPost w bA H bds own ({ s with head := gt s.cs (H.hb + s.at_ - 1), ph := 8 })) := by
  have hM := hR.1
  have hF := hR.2.1
  have hA := hR.2.2.2.1
  have hHH := hF.2.2.2.2.2.1
  have hAM := hM.apart hA (by decide) (by decide)
  have hHM := hM.apart hHH (by decide) (by decide)
  have hb4 := hR.hb_le
  have hAt : AtHeap w bA H := ⟨hA.cell 0, hHH, hb4⟩
  have hPool := hF.pool hM
  have a0 : w.cell? ⟨bA, 0, none⟩ = some (.pointer (some ⟨H.bH, 0, none⟩)) := hA.cell 0
  have a12 : w.cell? ⟨bA, 12, none⟩ = some (.int .i64 s.at_) := hA.cell 12
  have c0 : w.cell? ⟨H.bH, 0, none⟩ = some (.pointer (some ⟨H.c.bM, 0, none⟩)) := hHH.cell 0
  have c1 : w.cell? ⟨H.bH, 1, none⟩ = some (.int .i64 H.hb) := hHH.cell 1
  have c2 : w.cell? ⟨H.bH, 2, none⟩ = some (.int .i64 6) := hHH.cell 2
  have c3 : w.cell? ⟨H.bH, 3, none⟩ = some (.pointer (some ⟨H.c.bP, 0, none⟩)) := hHH.cell 3
  go_enter Try.func58, Try.ntmps58
  go_wp2_with fail
  refine (read_any _ (by exact hAt) (by exact hM) (by omega) (by omega) hAM).mono ?_
  rintro e w1 ⟨rfl, hM1, hO1⟩
  have hA1 := Blk.only (by exact hA) hO1 hAM
  have hH1 := Blk.only (by exact hHH) hO1 hHM
  have k0 : w1.cell? ⟨bA, 0, none⟩ = some (.pointer (some ⟨H.bH, 0, none⟩)) := hA1.cell 0
  have k1 : w1.cell? ⟨bA, 1, none⟩ = some (.int .i64 s.ph) := hA1.cell 1
  have k12 : w1.cell? ⟨bA, 12, none⟩ = some (.int .i64 s.at_) := hA1.cell 12
  have k13 : w1.cell? ⟨bA, 13, none⟩ = some (.int .i64 s.head) := hA1.cell 13
  have h2 : w1.cell? ⟨H.bH, 2, none⟩ = some (.int .i64 6) := hH1.cell 2
  have kf : ∀ i, w1.frozen? ⟨bA, i, none⟩ = false := hA1.frozen
  go_wp2_with fail
  have hHA : H.bH ≠ bA := Blk.ne_ hHH hA (by decide)
  have e2 : IntKind.i64.wrap (2 * s.at_) = 2 * s.at_ := by simp only [IntKind.wrap_i64]; omega
  have h2' := (Blk.far (Blk.far hH1 (p := ⟨bA, 13, none⟩) hHA (.int .i64 (gt s.cs (H.hb + s.at_ - 1)))) (p := ⟨bA, 1, none⟩) hHA (.int .i64 8)).cell 2
  go_quiet ((go_at_call 31; exact Calls.quiet_of_same (flip_same (places_any (by exact h2')))))
  clear h2'
  go_wp2_with fail
  go_end0
  refine hr_close (s' := { s with head := gt s.cs (H.hb + s.at_ - 1), ph := 8 }) hR hM1 (by first | exact hO1 | exact Only.un hO1) ?_ ?_ rfl rfl rfl rfl _
  · repeat (first | refine Only.setCell ?_ (by simp) _ | refine Only.drewN ?_ _ | refine Only.drew ?_)
    exact Only.refl _ _
  · apply Blk.eqs
    · repeat (with_reducible first | exact hA1 | apply Blk.set_ | apply Blk.drewN | apply Blk.drew)
    · rfl

set_option maxRecDepth 100000 in
set_option maxHeartbeats 400000 in
theorem doLeft_any {s : HS} {vd vw vh : Value} (hR : HRv w bA H bds own s vd vw vh) (h0 : 0 ≤ s.at_) (h1 : s.at_ ≤ 63) :
    Calls Try.prog 59 #[.pointer (some ⟨bA, 0, none⟩)] w (HPost w bA H bds own (hLeft H.hb s)) := by
  have hM := hR.1
  have hF := hR.2.1
  have hA := hR.2.2.2.1
  have hHH := hF.2.2.2.2.2.1
  have hAM := hM.apart hA (by decide) (by decide)
  have hHM := hM.apart hHH (by decide) (by decide)
  have hb4 := hR.hb_le
  have hAt : AtHeap w bA H := ⟨hA.cell 0, hHH, hb4⟩
  have hPool := hF.pool hM
  have a0 : w.cell? ⟨bA, 0, none⟩ = some (.pointer (some ⟨H.bH, 0, none⟩)) := hA.cell 0
  have a12 : w.cell? ⟨bA, 12, none⟩ = some (.int .i64 s.at_) := hA.cell 12
  have c0 : w.cell? ⟨H.bH, 0, none⟩ = some (.pointer (some ⟨H.c.bM, 0, none⟩)) := hHH.cell 0
  have c1 : w.cell? ⟨H.bH, 1, none⟩ = some (.int .i64 H.hb) := hHH.cell 1
  have c2 : w.cell? ⟨H.bH, 2, none⟩ = some (.int .i64 6) := hHH.cell 2
  have c3 : w.cell? ⟨H.bH, 3, none⟩ = some (.pointer (some ⟨H.c.bP, 0, none⟩)) := hHH.cell 3
  go_enter Try.func59, Try.ntmps59
  go_wp2_with fail
  refine (read_any _ (by exact hAt) (by exact hM) (by omega) (by omega) hAM).mono ?_
  rintro e w1 ⟨rfl, hM1, hO1⟩
  have hA1 := Blk.only (by exact hA) hO1 hAM
  have hH1 := Blk.only (by exact hHH) hO1 hHM
  have k1 : w1.cell? ⟨bA, 1, none⟩ = some (.int .i64 s.ph) := hA1.cell 1
  have k15 : w1.cell? ⟨bA, 15, none⟩ = some (.int .i64 s.lh) := hA1.cell 15
  have kf : ∀ i, w1.frozen? ⟨bA, i, none⟩ = false := hA1.frozen
  go_wp2_with fail
  go_end0
  refine hr_close (s' := hLeft H.hb s) hR hM1 (by first | exact hO1 | exact Only.un hO1) ?_ ?_ rfl rfl rfl rfl _
  · repeat (first | refine Only.setCell ?_ (by simp) _ | refine Only.drewN ?_ _ | refine Only.drew ?_)
    exact Only.refl _ _
  · apply Blk.eqs
    · repeat (with_reducible first | exact hA1 | apply Blk.set_ | apply Blk.drewN | apply Blk.drew)
    · rfl

set_option maxRecDepth 100000 in
set_option maxHeartbeats 400000 in
theorem doJoin_any {s : HS} {vd vw vh : Value} (hR : HRv w bA H bds own s vd vw vh) (hs0 : -1 ≤ s.slot) (hs1 : s.slot ≤ 4096) :
    Calls Try.prog 53 #[.pointer (some ⟨bA, 0, none⟩)] w (HPost w bA H bds own (hJoin H.hb s)) := by
  have hM := hR.1
  have hF := hR.2.1
  have hA := hR.2.2.2.1
  have hHH := hF.2.2.2.2.2.1
  have hAM := hM.apart hA (by decide) (by decide)
  have hHM := hM.apart hHH (by decide) (by decide)
  have hb4 := hR.hb_le
  have hAt : AtHeap w bA H := ⟨hA.cell 0, hHH, hb4⟩
  have hPool := hF.pool hM
  have a0 : w.cell? ⟨bA, 0, none⟩ = some (.pointer (some ⟨H.bH, 0, none⟩)) := hA.cell 0
  have a2 : w.cell? ⟨bA, 2, none⟩ = some (.int .i64 s.slot) := hA.cell 2
  have a13 : w.cell? ⟨bA, 13, none⟩ = some (.int .i64 s.head) := hA.cell 13
  have c0 : w.cell? ⟨H.bH, 0, none⟩ = some (.pointer (some ⟨H.c.bM, 0, none⟩)) := hHH.cell 0
  have c1 : w.cell? ⟨H.bH, 1, none⟩ = some (.int .i64 H.hb) := hHH.cell 1
  have c2 : w.cell? ⟨H.bH, 2, none⟩ = some (.int .i64 6) := hHH.cell 2
  have c3 : w.cell? ⟨H.bH, 3, none⟩ = some (.pointer (some ⟨H.c.bP, 0, none⟩)) := hHH.cell 3
  go_enter Try.func53, Try.ntmps53
  go_wp2_with fail
  refine (unpack_any _ _).mono ?_
  rintro e w' ⟨rfl, rfl⟩
  go_wp2_with fail
  go_region_held3 (fun w' => w'.cell? ⟨bA, 0, none⟩ = some (.pointer (some ⟨H.bH, 0, none⟩)) ∧ w'.cell? ⟨bA, 2, none⟩ = some (.int .i64 s.slot) ∧ w'.cell? ⟨H.bH, 0, none⟩ = some (.pointer (some ⟨H.c.bM, 0, none⟩))) (first | exact ⟨k0, k2, h0⟩ | go_keep)
    (first | (go_at_call 77; refine (hlink_any _ (by exact c1) (by exact c2) (by omega) (by omega) hb4).mono ?_; rintro e w' ⟨rfl, nl, rfl⟩) | (go_at_call 27; refine (set_any _ _ (by exact hM)).mono ?_; rintro e w1 ⟨er, rfl, hM1, hO1⟩; have hA1 := Blk.only (by exact hA) hO1 hAM; have hH1 := Blk.only (by exact hHH) hO1 hHM; have k0 : w1.cell? ⟨bA, 0, none⟩ = some (.pointer (some ⟨H.bH, 0, none⟩)) := hA1.cell 0; have k2 : w1.cell? ⟨bA, 2, none⟩ = some (.int .i64 s.slot) := hA1.cell 2; have h0 : w1.cell? ⟨H.bH, 0, none⟩ = some (.pointer (some ⟨H.c.bM, 0, none⟩)) := hH1.cell 0))
  have k1 : w1.cell? ⟨bA, 1, none⟩ = some (.int .i64 s.ph) := hA1.cell 1
  have kf : ∀ i, w1.frozen? ⟨bA, i, none⟩ = false := hA1.frozen
  go_wp2
  go_end0
  refine hr_close (s' := hJoin H.hb s) hR hM1 (by first | exact hO1 | exact Only.un hO1) ?_ ?_ rfl rfl rfl rfl _
  · repeat (first | refine Only.setCell ?_ (by simp) _ | refine Only.drewN ?_ _ | refine Only.drew ?_)
    exact Only.refl _ _
  · apply Blk.eqs
    · repeat (with_reducible first | exact hA1 | apply Blk.set_ | apply Blk.drewN | apply Blk.drew)
    · rfl

set_option maxRecDepth 100000 in
set_option maxHeartbeats 400000 in
theorem doSecond_any {s : HS} {vd vw vh : Value} (hR : HRv w bA H bds own s vd vw vh) :
    Calls Try.prog 56 #[.pointer (some ⟨bA, 0, none⟩)] w (HPost w bA H bds own (hSecond H.hb s)) := by
  have hM := hR.1
  have hF := hR.2.1
  have hA := hR.2.2.2.1
  have hHH := hF.2.2.2.2.2.1
  have hAM := hM.apart hA (by decide) (by decide)
  have hHM := hM.apart hHH (by decide) (by decide)
  have hb4 := hR.hb_le
  have hAt : AtHeap w bA H := ⟨hA.cell 0, hHH, hb4⟩
  have hPool := hF.pool hM
  have a0 : w.cell? ⟨bA, 0, none⟩ = some (.pointer (some ⟨H.bH, 0, none⟩)) := hA.cell 0
  have a13 : w.cell? ⟨bA, 13, none⟩ = some (.int .i64 s.head) := hA.cell 13
  have c0 : w.cell? ⟨H.bH, 0, none⟩ = some (.pointer (some ⟨H.c.bM, 0, none⟩)) := hHH.cell 0
  have c1 : w.cell? ⟨H.bH, 1, none⟩ = some (.int .i64 H.hb) := hHH.cell 1
  have c2 : w.cell? ⟨H.bH, 2, none⟩ = some (.int .i64 6) := hHH.cell 2
  have c3 : w.cell? ⟨H.bH, 3, none⟩ = some (.pointer (some ⟨H.c.bP, 0, none⟩)) := hHH.cell 3
  have hup := upl_bd s.head
  have hHA : ¬ bA = H.bH := Blk.ne_ hA hHH (by decide)
  go_enter Try.func56, Try.ntmps56
  go_wp2_with fail
  refine (unpack_any _ _).mono ?_
  rintro e w' ⟨rfl, rfl⟩
  go_wp2_with fail
  go_region_held3 (fun w' => w'.cell? ⟨bA, 0, none⟩ = some (.pointer (some ⟨H.bH, 0, none⟩)) ∧ w'.cell? ⟨H.bH, 0, none⟩ = some (.pointer (some ⟨H.c.bM, 0, none⟩))) (first | exact ⟨k0, h0⟩ | exact ⟨(World.cell?_setCell_other _ _ _ _ (by simp)).trans k0, (World.cell?_setCell_other _ _ _ _ (by simp [hHA])).trans h0⟩ | go_keep)
    (first | (go_at_call 77; refine (hlink_any _ (by exact c1) (by exact c2) (by omega) (by omega) hb4).mono ?_; rintro e w' ⟨rfl, nl, rfl⟩) | (go_at_call 70; refine (get_any _ (by exact hM)).mono ?_; rintro e w1 ⟨er, rfl, hM1, hO1⟩; have hA1 := Blk.only (by exact hA) hO1 hAM; have hH1 := Blk.only (by exact hHH) hO1 hHM; have k0 : w1.cell? ⟨bA, 0, none⟩ = some (.pointer (some ⟨H.bH, 0, none⟩)) := hA1.cell 0; have k14 : w1.cell? ⟨bA, 14, none⟩ = some (.int .i64 s.next) := hA1.cell 14; have h0 : w1.cell? ⟨H.bH, 0, none⟩ = some (.pointer (some ⟨H.c.bM, 0, none⟩)) := hH1.cell 0; have kf14 := hA1.frozen 14))
  have k1 := (World.cell?_setCell_other w1 ⟨bA, 14, none⟩ ⟨bA, 1, none⟩ (.int .i64 (gt s.cs (H.hb + 63 + upl s.head))) (by simp)).trans (hA1.cell 1)
  have kf : ∀ i, w1.frozen? ⟨bA, i, none⟩ = false := hA1.frozen
  go_wp2
  go_end0
  refine hr_close (s' := hSecond H.hb s) hR hM1 (by first | exact hO1 | exact Only.un hO1) ?_ ?_ rfl rfl rfl rfl _
  · repeat (first | refine Only.setCell ?_ (by simp) _ | refine Only.drewN ?_ _ | refine Only.drew ?_)
    exact Only.refl _ _
  · apply Blk.eqs
    · repeat (with_reducible first | exact hA1 | apply Blk.set_ | apply Blk.drewN | apply Blk.drew)
    · rfl

set_option maxRecDepth 100000 in
set_option maxHeartbeats 400000 in
theorem doPut_any {s : HS} {vd vw vh : Value} (hR : HRv w bA H bds own s vd vw vh) (h0 : 0 ≤ s.at_) (h1 : s.at_ ≤ 63) (hc : casB s.cs (H.hb + s.at_ - 1) s.head = true) :
    Calls Try.prog 54 #[.pointer (some ⟨bA, 0, none⟩)] w (HPost w bA H bds own (hPut H.hb s)) := by
  have hM := hR.1
  have hF := hR.2.1
  have hA := hR.2.2.2.1
  have hHH := hF.2.2.2.2.2.1
  have hAM := hM.apart hA (by decide) (by decide)
  have hHM := hM.apart hHH (by decide) (by decide)
  have hb4 := hR.hb_le
  have hAt : AtHeap w bA H := ⟨hA.cell 0, hHH, hb4⟩
  have hPool := hF.pool hM
  have a0 : w.cell? ⟨bA, 0, none⟩ = some (.pointer (some ⟨H.bH, 0, none⟩)) := hA.cell 0
  have a2 : w.cell? ⟨bA, 2, none⟩ = some (.int .i64 s.slot) := hA.cell 2
  have a12 : w.cell? ⟨bA, 12, none⟩ = some (.int .i64 s.at_) := hA.cell 12
  have a13 : w.cell? ⟨bA, 13, none⟩ = some (.int .i64 s.head) := hA.cell 13
  have a1 : w.cell? ⟨bA, 1, none⟩ = some (.int .i64 s.ph) := hA.cell 1
  have a5 : w.cell? ⟨bA, 5, none⟩ = some (.bool s.fits) := hA.cell 5
  have c0 : w.cell? ⟨H.bH, 0, none⟩ = some (.pointer (some ⟨H.c.bM, 0, none⟩)) := hHH.cell 0
  have c1 : w.cell? ⟨H.bH, 1, none⟩ = some (.int .i64 H.hb) := hHH.cell 1
  have c2 : w.cell? ⟨H.bH, 2, none⟩ = some (.int .i64 6) := hHH.cell 2
  have c3 : w.cell? ⟨H.bH, 3, none⟩ = some (.pointer (some ⟨H.c.bP, 0, none⟩)) := hHH.cell 3
  go_enter Try.func54, Try.ntmps54
  go_wp2_with fail
  go_region_held3 (fun w' => w'.cell? ⟨bA, 0, none⟩ = some (.pointer (some ⟨H.bH, 0, none⟩)) ∧ w'.cell? ⟨bA, 2, none⟩ = some (.int .i64 s.slot) ∧ w'.cell? ⟨bA, 12, none⟩ = some (.int .i64 s.at_) ∧ w'.cell? ⟨bA, 13, none⟩ = some (.int .i64 s.head)) (first | exact ⟨k0, k2, k12, k13⟩ | go_keep)
    (first | (go_at_call 78; refine (swap_any _ _ _ (by exact hAt) (by exact hM) (by omega) (by omega) hAM).mono ?_; rintro e w1 ⟨rfl, hM1, hO1⟩; have hA1 := Blk.only (by exact hA) hO1 hAM; have hH1 := Blk.only (by exact hHH) hO1 hHM; have k0 : w1.cell? ⟨bA, 0, none⟩ = some (.pointer (some ⟨H.bH, 0, none⟩)) := hA1.cell 0; have k2 : w1.cell? ⟨bA, 2, none⟩ = some (.int .i64 s.slot) := hA1.cell 2; have k12 : w1.cell? ⟨bA, 12, none⟩ = some (.int .i64 s.at_) := hA1.cell 12; have k13 : w1.cell? ⟨bA, 13, none⟩ = some (.int .i64 s.head) := hA1.cell 13))
  have k1 : w1.cell? ⟨bA, 1, none⟩ = some (.int .i64 s.ph) := hA1.cell 1
  have k5 : w1.cell? ⟨bA, 5, none⟩ = some (.bool s.fits) := hA1.cell 5
  have kf : ∀ i, w1.frozen? ⟨bA, i, none⟩ = false := hA1.frozen
  go_wp2
  refine bodyPost_ret (results_none rfl _ _ _) rfl ?_
  refine hr_close (s' := hPut H.hb s) hR hM1 (by first | exact hO1 | exact Only.un hO1) ?_ ?_ rfl rfl rfl rfl _
  · repeat (first | refine Only.setCell ?_ (by simp) _ | refine Only.drewN ?_ _ | refine Only.drew ?_)
    exact Only.refl _ _
  · apply Blk.eqs
    · repeat (with_reducible first | exact hA1 | apply Blk.set_ | apply Blk.drewN | apply Blk.drew)
    · rfl

set_option maxRecDepth 100000 in
set_option maxHeartbeats 400000 in
theorem doTake_any {s : HS} {vd vw vh : Value} (hR : HRv w bA H bds own s vd vw vh) (h0 : 0 ≤ s.at_) (h1 : s.at_ ≤ 63) (hc : casB s.cs (H.hb + s.at_ - 1) s.head = true) (ho : s.owner = true) :
    Calls Try.prog 57 #[.pointer (some ⟨bA, 0, none⟩)] w (HPost w bA H bds own (hTake H.hb s)) := by
  have hM := hR.1
  have hF := hR.2.1
  have hA := hR.2.2.2.1
  have hHH := hF.2.2.2.2.2.1
  have hAM := hM.apart hA (by decide) (by decide)
  have hHM := hM.apart hHH (by decide) (by decide)
  have hb4 := hR.hb_le
  have hAt : AtHeap w bA H := ⟨hA.cell 0, hHH, hb4⟩
  have hPool := hF.pool hM
  have a0 : w.cell? ⟨bA, 0, none⟩ = some (.pointer (some ⟨H.bH, 0, none⟩)) := hA.cell 0
  have a12 : w.cell? ⟨bA, 12, none⟩ = some (.int .i64 s.at_) := hA.cell 12
  have a13 : w.cell? ⟨bA, 13, none⟩ = some (.int .i64 s.head) := hA.cell 13
  have a14 : w.cell? ⟨bA, 14, none⟩ = some (.int .i64 s.next) := hA.cell 14
  have a1 : w.cell? ⟨bA, 1, none⟩ = some (.int .i64 s.ph) := hA.cell 1
  have a2 : w.cell? ⟨bA, 2, none⟩ = some (.int .i64 s.slot) := hA.cell 2
  have a4 : w.cell? ⟨bA, 4, none⟩ = some (.bool s.owner) := hA.cell 4
  have c0 : w.cell? ⟨H.bH, 0, none⟩ = some (.pointer (some ⟨H.c.bM, 0, none⟩)) := hHH.cell 0
  have c1 : w.cell? ⟨H.bH, 1, none⟩ = some (.int .i64 H.hb) := hHH.cell 1
  have c2 : w.cell? ⟨H.bH, 2, none⟩ = some (.int .i64 6) := hHH.cell 2
  have c3 : w.cell? ⟨H.bH, 3, none⟩ = some (.pointer (some ⟨H.c.bP, 0, none⟩)) := hHH.cell 3
  go_enter Try.func57, Try.ntmps57
  go_wp2_with fail
  go_region_held3 (fun w' => w'.cell? ⟨bA, 0, none⟩ = some (.pointer (some ⟨H.bH, 0, none⟩)) ∧ w'.cell? ⟨bA, 12, none⟩ = some (.int .i64 s.at_) ∧ w'.cell? ⟨bA, 13, none⟩ = some (.int .i64 s.head) ∧ w'.cell? ⟨bA, 14, none⟩ = some (.int .i64 s.next)) (first | exact ⟨k0, k12, k13, k14⟩ | go_keep)
    (first | (go_at_call 78; refine (swap_any _ _ _ (by exact hAt) (by exact hM) (by omega) (by omega) hAM).mono ?_; rintro e w1 ⟨rfl, hM1, hO1⟩; have hA1 := Blk.only (by exact hA) hO1 hAM; have hH1 := Blk.only (by exact hHH) hO1 hHM; have k0 : w1.cell? ⟨bA, 0, none⟩ = some (.pointer (some ⟨H.bH, 0, none⟩)) := hA1.cell 0; have k12 : w1.cell? ⟨bA, 12, none⟩ = some (.int .i64 s.at_) := hA1.cell 12; have k13 : w1.cell? ⟨bA, 13, none⟩ = some (.int .i64 s.head) := hA1.cell 13; have k14 : w1.cell? ⟨bA, 14, none⟩ = some (.int .i64 s.next) := hA1.cell 14))
  have k1 : w1.cell? ⟨bA, 1, none⟩ = some (.int .i64 s.ph) := hA1.cell 1
  have k2 : w1.cell? ⟨bA, 2, none⟩ = some (.int .i64 s.slot) := hA1.cell 2
  have k4 : w1.cell? ⟨bA, 4, none⟩ = some (.bool s.owner) := hA1.cell 4
  have kf : ∀ i, w1.frozen? ⟨bA, i, none⟩ = false := hA1.frozen
  go_wp2_with (go_at_call 44; refine (unpack_any _ _).mono ?_; rintro e w' ⟨rfl, rfl⟩)
  go_end0
  refine hr_close (s' := hTake H.hb s) hR hM1 (by first | exact hO1 | exact Only.un hO1) ?_ ?_ rfl rfl rfl rfl _
  · repeat (first | refine Only.setCell ?_ (by simp) _ | refine Only.drewN ?_ _ | refine Only.drew ?_)
    exact Only.refl _ _
  · apply Blk.eqs
    · repeat (with_reducible first | exact hA1 | apply Blk.set_ | apply Blk.drewN | apply Blk.drew)
    · rfl

set_option maxRecDepth 100000 in
set_option maxHeartbeats 400000 in
theorem doLift_any {s : HS} {vd vw vh : Value} (hR : HRv w bA H bds own s vd vw vh) (h0 : 0 ≤ s.ch) (h1 : s.ch ≤ 127) (hc : casB s.cs (H.hb + s.ch - 1) s.chh = true) :
    Calls Try.prog 61 #[.pointer (some ⟨bA, 0, none⟩)] w (HPost w bA H bds own (hLift H.hb s)) := by
  have hM := hR.1
  have hF := hR.2.1
  have hA := hR.2.2.2.1
  have hHH := hF.2.2.2.2.2.1
  have hAM := hM.apart hA (by decide) (by decide)
  have hHM := hM.apart hHH (by decide) (by decide)
  have hb4 := hR.hb_le
  have hAt : AtHeap w bA H := ⟨hA.cell 0, hHH, hb4⟩
  have hPool := hF.pool hM
  have a0 : w.cell? ⟨bA, 0, none⟩ = some (.pointer (some ⟨H.bH, 0, none⟩)) := hA.cell 0
  have a17 : w.cell? ⟨bA, 17, none⟩ = some (.int .i64 s.ch) := hA.cell 17
  have a18 : w.cell? ⟨bA, 18, none⟩ = some (.int .i64 s.chh) := hA.cell 18
  have a1 : w.cell? ⟨bA, 1, none⟩ = some (.int .i64 s.ph) := hA.cell 1
  have a20 : w.cell? ⟨bA, 20, none⟩ = some (.bool s.held) := hA.cell 20
  have c0 : w.cell? ⟨H.bH, 0, none⟩ = some (.pointer (some ⟨H.c.bM, 0, none⟩)) := hHH.cell 0
  have c1 : w.cell? ⟨H.bH, 1, none⟩ = some (.int .i64 H.hb) := hHH.cell 1
  have c2 : w.cell? ⟨H.bH, 2, none⟩ = some (.int .i64 6) := hHH.cell 2
  have c3 : w.cell? ⟨H.bH, 3, none⟩ = some (.pointer (some ⟨H.c.bP, 0, none⟩)) := hHH.cell 3
  go_enter Try.func61, Try.ntmps61
  go_wp2_with fail
  go_region_held3 (fun w' => w'.cell? ⟨bA, 0, none⟩ = some (.pointer (some ⟨H.bH, 0, none⟩)) ∧ w'.cell? ⟨bA, 17, none⟩ = some (.int .i64 s.ch) ∧ w'.cell? ⟨bA, 18, none⟩ = some (.int .i64 s.chh)) (first | exact ⟨k0, k17, k18⟩ | go_keep)
    (first | (go_at_call 78; refine (swap_any _ _ _ (by exact hAt) (by exact hM) (by omega) (by omega) hAM).mono ?_; rintro e w1 ⟨rfl, hM1, hO1⟩; have hA1 := Blk.only (by exact hA) hO1 hAM; have hH1 := Blk.only (by exact hHH) hO1 hHM; have k0 : w1.cell? ⟨bA, 0, none⟩ = some (.pointer (some ⟨H.bH, 0, none⟩)) := hA1.cell 0; have k17 : w1.cell? ⟨bA, 17, none⟩ = some (.int .i64 s.ch) := hA1.cell 17; have k18 : w1.cell? ⟨bA, 18, none⟩ = some (.int .i64 s.chh) := hA1.cell 18))
  have k1 : w1.cell? ⟨bA, 1, none⟩ = some (.int .i64 s.ph) := hA1.cell 1
  have k20 : w1.cell? ⟨bA, 20, none⟩ = some (.bool s.held) := hA1.cell 20
  have kf : ∀ i, w1.frozen? ⟨bA, i, none⟩ = false := hA1.frozen
  go_wp2
  go_end0
  refine hr_close (s' := hLift H.hb s) hR hM1 (by first | exact hO1 | exact Only.un hO1) ?_ ?_ rfl rfl rfl rfl _
  · repeat (first | refine Only.setCell ?_ (by simp) _ | refine Only.drewN ?_ _ | refine Only.drew ?_)
    exact Only.refl _ _
  · apply Blk.eqs
    · repeat (with_reducible first | exact hA1 | apply Blk.set_ | apply Blk.drewN | apply Blk.drew)
    · rfl

set_option maxRecDepth 100000 in
set_option maxHeartbeats 400000 in
theorem doDrop_any {s : HS} {vd vw vh : Value} (hR : HRv w bA H bds own s vd vw vh) (h0 : 0 ≤ s.at_) (h1 : s.at_ ≤ 63) (hc : casB s.cs (H.hb + s.at_ - 1) s.head = true) :
    Calls Try.prog 63 #[.pointer (some ⟨bA, 0, none⟩)] w (HPost w bA H bds own (hDrop H.hb s)) := by
  have hM := hR.1
  have hF := hR.2.1
  have hA := hR.2.2.2.1
  have hHH := hF.2.2.2.2.2.1
  have hAM := hM.apart hA (by decide) (by decide)
  have hHM := hM.apart hHH (by decide) (by decide)
  have hb4 := hR.hb_le
  have hAt : AtHeap w bA H := ⟨hA.cell 0, hHH, hb4⟩
  have hPool := hF.pool hM
  have a0 : w.cell? ⟨bA, 0, none⟩ = some (.pointer (some ⟨H.bH, 0, none⟩)) := hA.cell 0
  have a12 : w.cell? ⟨bA, 12, none⟩ = some (.int .i64 s.at_) := hA.cell 12
  have a13 : w.cell? ⟨bA, 13, none⟩ = some (.int .i64 s.head) := hA.cell 13
  have a1 : w.cell? ⟨bA, 1, none⟩ = some (.int .i64 s.ph) := hA.cell 1
  have a21 : w.cell? ⟨bA, 21, none⟩ = some (.bool s.bare) := hA.cell 21
  have c0 : w.cell? ⟨H.bH, 0, none⟩ = some (.pointer (some ⟨H.c.bM, 0, none⟩)) := hHH.cell 0
  have c1 : w.cell? ⟨H.bH, 1, none⟩ = some (.int .i64 H.hb) := hHH.cell 1
  have c2 : w.cell? ⟨H.bH, 2, none⟩ = some (.int .i64 6) := hHH.cell 2
  have c3 : w.cell? ⟨H.bH, 3, none⟩ = some (.pointer (some ⟨H.c.bP, 0, none⟩)) := hHH.cell 3
  go_enter Try.func63, Try.ntmps63
  go_wp2_with fail
  go_region_held3 (fun w' => w'.cell? ⟨bA, 0, none⟩ = some (.pointer (some ⟨H.bH, 0, none⟩)) ∧ w'.cell? ⟨bA, 12, none⟩ = some (.int .i64 s.at_) ∧ w'.cell? ⟨bA, 13, none⟩ = some (.int .i64 s.head)) (first | exact ⟨k0, k12, k13⟩ | go_keep)
    (first | (go_at_call 78; refine (swap_any _ _ _ (by exact hAt) (by exact hM) (by omega) (by omega) hAM).mono ?_; rintro e w1 ⟨rfl, hM1, hO1⟩; have hA1 := Blk.only (by exact hA) hO1 hAM; have hH1 := Blk.only (by exact hHH) hO1 hHM; have k0 : w1.cell? ⟨bA, 0, none⟩ = some (.pointer (some ⟨H.bH, 0, none⟩)) := hA1.cell 0; have k12 : w1.cell? ⟨bA, 12, none⟩ = some (.int .i64 s.at_) := hA1.cell 12; have k13 : w1.cell? ⟨bA, 13, none⟩ = some (.int .i64 s.head) := hA1.cell 13))
  have k1 : w1.cell? ⟨bA, 1, none⟩ = some (.int .i64 s.ph) := hA1.cell 1
  have k21 : w1.cell? ⟨bA, 21, none⟩ = some (.bool s.bare) := hA1.cell 21
  have kf : ∀ i, w1.frozen? ⟨bA, i, none⟩ = false := hA1.frozen
  go_wp2
  go_end0
  refine hr_close (s' := hDrop H.hb s) hR hM1 (by first | exact hO1 | exact Only.un hO1) ?_ ?_ rfl rfl rfl rfl _
  · repeat (first | refine Only.setCell ?_ (by simp) _ | refine Only.drewN ?_ _ | refine Only.drew ?_)
    exact Only.refl _ _
  · apply Blk.eqs
    · repeat (with_reducible first | exact hA1 | apply Blk.set_ | apply Blk.drewN | apply Blk.drew)
    · rfl

set_option maxRecDepth 100000 in
set_option maxHeartbeats 400000 in
theorem doPlace_any {s : HS} {vd vw vh : Value} (hR : HRv w bA H bds own s vd vw vh) (h0 : 0 ≤ s.at_) (h1 : s.at_ ≤ 63) (hc : casB s.cs (H.hb + s.at_ - 1) (up s.head (-1)) = true) :
    Calls Try.prog 64 #[.pointer (some ⟨bA, 0, none⟩)] w (HPost w bA H bds own (hPlace H.hb s)) := by
  have hM := hR.1
  have hF := hR.2.1
  have hA := hR.2.2.2.1
  have hHH := hF.2.2.2.2.2.1
  have hAM := hM.apart hA (by decide) (by decide)
  have hHM := hM.apart hHH (by decide) (by decide)
  have hb4 := hR.hb_le
  have hAt : AtHeap w bA H := ⟨hA.cell 0, hHH, hb4⟩
  have hPool := hF.pool hM
  have a0 : w.cell? ⟨bA, 0, none⟩ = some (.pointer (some ⟨H.bH, 0, none⟩)) := hA.cell 0
  have a12 : w.cell? ⟨bA, 12, none⟩ = some (.int .i64 s.at_) := hA.cell 12
  have a13 : w.cell? ⟨bA, 13, none⟩ = some (.int .i64 s.head) := hA.cell 13
  have a1 : w.cell? ⟨bA, 1, none⟩ = some (.int .i64 s.ph) := hA.cell 1
  have a18 : w.cell? ⟨bA, 18, none⟩ = some (.int .i64 s.chh) := hA.cell 18
  have a20 : w.cell? ⟨bA, 20, none⟩ = some (.bool s.held) := hA.cell 20
  have c0 : w.cell? ⟨H.bH, 0, none⟩ = some (.pointer (some ⟨H.c.bM, 0, none⟩)) := hHH.cell 0
  have c1 : w.cell? ⟨H.bH, 1, none⟩ = some (.int .i64 H.hb) := hHH.cell 1
  have c2 : w.cell? ⟨H.bH, 2, none⟩ = some (.int .i64 6) := hHH.cell 2
  have c3 : w.cell? ⟨H.bH, 3, none⟩ = some (.pointer (some ⟨H.c.bP, 0, none⟩)) := hHH.cell 3
  go_enter Try.func64, Try.ntmps64
  go_wp2_with fail
  refine (unpack_any _ _).mono ?_
  rintro e w' ⟨rfl, rfl⟩
  go_wp2_with fail
  go_region_held3 (fun w' => w'.cell? ⟨bA, 0, none⟩ = some (.pointer (some ⟨H.bH, 0, none⟩)) ∧ w'.cell? ⟨bA, 12, none⟩ = some (.int .i64 s.at_) ∧ w'.cell? ⟨bA, 13, none⟩ = some (.int .i64 s.head)) (first | exact ⟨k0, k12, k13⟩ | go_keep)
    (first | (go_at_call 72; refine (up_any _ _ _).mono ?_; rintro e w' ⟨rfl, rfl⟩) | (go_at_call 78; refine (swap_any _ _ _ (by exact hAt) (by exact hM) (by omega) (by omega) hAM).mono ?_; rintro e w1 ⟨rfl, hM1, hO1⟩; have hA1 := Blk.only (by exact hA) hO1 hAM; have hH1 := Blk.only (by exact hHH) hO1 hHM; have k0 : w1.cell? ⟨bA, 0, none⟩ = some (.pointer (some ⟨H.bH, 0, none⟩)) := hA1.cell 0; have k12 : w1.cell? ⟨bA, 12, none⟩ = some (.int .i64 s.at_) := hA1.cell 12; have k13 : w1.cell? ⟨bA, 13, none⟩ = some (.int .i64 s.head) := hA1.cell 13))
  have k1 : w1.cell? ⟨bA, 1, none⟩ = some (.int .i64 s.ph) := hA1.cell 1
  have k18 : w1.cell? ⟨bA, 18, none⟩ = some (.int .i64 s.chh) := hA1.cell 18
  have k20 : w1.cell? ⟨bA, 20, none⟩ = some (.bool s.held) := hA1.cell 20
  have kf : ∀ i, w1.frozen? ⟨bA, i, none⟩ = false := hA1.frozen
  go_wp2
  go_end0
  refine hr_close (s' := hPlace H.hb s) hR hM1 (by first | exact hO1 | exact Only.un hO1) ?_ ?_ rfl rfl rfl rfl _
  · repeat (first | refine Only.setCell ?_ (by simp) _ | refine Only.drewN ?_ _ | refine Only.drew ?_)
    exact Only.refl _ _
  · apply Blk.eqs
    · repeat (with_reducible first | exact hA1 | apply Blk.set_ | apply Blk.drewN | apply Blk.drew)
    · rfl

set_option maxRecDepth 100000 in
set_option maxHeartbeats 400000 in
theorem doSink_any {s : HS} {vd vw vh : Value} (hR : HRv w bA H bds own s vd vw vh) (h0 : 0 ≤ s.ch) (h1 : s.ch ≤ 127) (hc : casB s.cs (H.hb + s.ch - 1) (up s.chh (-1)) = true) :
    Calls Try.prog 65 #[.pointer (some ⟨bA, 0, none⟩)] w (HPost w bA H bds own (hSink H.hb s)) := by
  have hM := hR.1
  have hF := hR.2.1
  have hA := hR.2.2.2.1
  have hHH := hF.2.2.2.2.2.1
  have hAM := hM.apart hA (by decide) (by decide)
  have hHM := hM.apart hHH (by decide) (by decide)
  have hb4 := hR.hb_le
  have hAt : AtHeap w bA H := ⟨hA.cell 0, hHH, hb4⟩
  have hPool := hF.pool hM
  have a0 : w.cell? ⟨bA, 0, none⟩ = some (.pointer (some ⟨H.bH, 0, none⟩)) := hA.cell 0
  have a17 : w.cell? ⟨bA, 17, none⟩ = some (.int .i64 s.ch) := hA.cell 17
  have a18 : w.cell? ⟨bA, 18, none⟩ = some (.int .i64 s.chh) := hA.cell 18
  have a1 : w.cell? ⟨bA, 1, none⟩ = some (.int .i64 s.ph) := hA.cell 1
  have a12 : w.cell? ⟨bA, 12, none⟩ = some (.int .i64 s.at_) := hA.cell 12
  have a13 : w.cell? ⟨bA, 13, none⟩ = some (.int .i64 s.head) := hA.cell 13
  have a21 : w.cell? ⟨bA, 21, none⟩ = some (.bool s.bare) := hA.cell 21
  have c0 : w.cell? ⟨H.bH, 0, none⟩ = some (.pointer (some ⟨H.c.bM, 0, none⟩)) := hHH.cell 0
  have c1 : w.cell? ⟨H.bH, 1, none⟩ = some (.int .i64 H.hb) := hHH.cell 1
  have c2 : w.cell? ⟨H.bH, 2, none⟩ = some (.int .i64 6) := hHH.cell 2
  have c3 : w.cell? ⟨H.bH, 3, none⟩ = some (.pointer (some ⟨H.c.bP, 0, none⟩)) := hHH.cell 3
  go_enter Try.func65, Try.ntmps65
  go_wp2_with fail
  refine (unpack_any _ _).mono ?_
  rintro e w' ⟨rfl, rfl⟩
  go_wp2_with fail
  go_region_held3 (fun w' => w'.cell? ⟨bA, 0, none⟩ = some (.pointer (some ⟨H.bH, 0, none⟩)) ∧ w'.cell? ⟨bA, 17, none⟩ = some (.int .i64 s.ch) ∧ w'.cell? ⟨bA, 18, none⟩ = some (.int .i64 s.chh)) (first | exact ⟨k0, k17, k18⟩ | go_keep)
    (first | (go_at_call 72; refine (up_any _ _ _).mono ?_; rintro e w' ⟨rfl, rfl⟩) | (go_at_call 78; refine (swap_any _ _ _ (by exact hAt) (by exact hM) (by omega) (by omega) hAM).mono ?_; rintro e w1 ⟨rfl, hM1, hO1⟩; have hA1 := Blk.only (by exact hA) hO1 hAM; have hH1 := Blk.only (by exact hHH) hO1 hHM; have k0 : w1.cell? ⟨bA, 0, none⟩ = some (.pointer (some ⟨H.bH, 0, none⟩)) := hA1.cell 0; have k17 : w1.cell? ⟨bA, 17, none⟩ = some (.int .i64 s.ch) := hA1.cell 17; have k18 : w1.cell? ⟨bA, 18, none⟩ = some (.int .i64 s.chh) := hA1.cell 18))
  have k1 : w1.cell? ⟨bA, 1, none⟩ = some (.int .i64 s.ph) := hA1.cell 1
  have k12 : w1.cell? ⟨bA, 12, none⟩ = some (.int .i64 s.at_) := hA1.cell 12
  have k13 : w1.cell? ⟨bA, 13, none⟩ = some (.int .i64 s.head) := hA1.cell 13
  have k21 : w1.cell? ⟨bA, 21, none⟩ = some (.bool s.bare) := hA1.cell 21
  have kf : ∀ i, w1.frozen? ⟨bA, i, none⟩ = false := hA1.frozen
  go_wp2
  go_end0
  refine hr_close (s' := hSink H.hb s) hR hM1 (by first | exact hO1 | exact Only.un hO1) ?_ ?_ rfl rfl rfl rfl _
  · repeat (first | refine Only.setCell ?_ (by simp) _ | refine Only.drewN ?_ _ | refine Only.drew ?_)
    exact Only.refl _ _
  · apply Blk.eqs
    · repeat (with_reducible first | exact hA1 | apply Blk.set_ | apply Blk.drewN | apply Blk.drew)
    · rfl

end
end Go.Proofs.Ytnpglcbkpbhnoaa
