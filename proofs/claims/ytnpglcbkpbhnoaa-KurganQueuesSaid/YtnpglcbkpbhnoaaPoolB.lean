/- The walks over package pool, second part: the steps of an act. -/
import Derived.Test.YtnpglcbkpbhnoaaKeep
import Derived.Deep.RegionHeld3
namespace Go.Proofs.Ytnpglcbkpbhnoaa
open Go.RowKit Kq

section
variable {w : World} {c : Cfg} {bA : Nat}

theorem link_any (s : Int) (hP : w.cell? ⟨c.bP, 1, none⟩ = some (.int .i64 c.pb)) (h0 : -1 ≤ s) (h1 : s ≤ 4294967296) (hb : c.pb ≤ 4194304) :
    Calls Try.prog 29 #[.pointer (some ⟨c.bP, 0, none⟩), .int .i64 s] w fun e w' => e = .returned (.int .i64 (c.pb + 1 + s)) ∧ w = w' := by
  go_enter Try.func29, Try.ntmps29
  go_wp2
  go_ret
  exact ⟨rfl, rfl⟩

def StepPost (w : World) (bA : Nat) (c : Cfg) (cs : List Int) (give : Bool) (slot ph top next : Int) (e : Ending) (w' : World) : Prop :=
  (∃ v, e = .returned v) ∧ MemR w' c.bM c.bC c.N cs ∧ ActR w' bA c give slot ph top next ∧ Only [bA, c.bM, c.bC] w w'

set_option maxRecDepth 100000 in
set_option maxHeartbeats 400000 in
theorem second_take (slot top next : Int) (cs : List Int) (hA : ActR w bA c false slot 1 top next) (hM : MemR w c.bM c.bC c.N cs)
    (hP : Blk w c.bP 66 #[.pointer (some ⟨c.bM, 0, none⟩), .int .i64 c.pb, .slice (some ⟨c.bN, 0, none⟩) c.n c.n, .slice (some ⟨c.bW, 0, none⟩) 1 1])
    (hb : c.pb ≤ 4194304) :
    Calls Try.prog 49 #[.pointer (some ⟨bA, 0, none⟩)] w (StepPost w bA c cs false slot 2 top (gt cs (c.pb + 1 + upl top))) := by
  have hup := upl_bd top
  have a0 : w.cell? ⟨bA, 0, none⟩ = some (.pointer (some ⟨c.bP, 0, none⟩)) := Blk.cell hA 0
  have a2 : w.cell? ⟨bA, 2, none⟩ = some (.bool false) := Blk.cell hA 2
  have a5 : w.cell? ⟨bA, 5, none⟩ = some (.int .i64 top) := Blk.cell hA 5
  have p0 : w.cell? ⟨c.bP, 0, none⟩ = some (.pointer (some ⟨c.bM, 0, none⟩)) := hP.cell 0
  have p1 : w.cell? ⟨c.bP, 1, none⟩ = some (.int .i64 c.pb) := hP.cell 1
  have hAM : bA ∉ [c.bM, c.bC] := by
    obtain ⟨s, k0, k1, k2, k3, b4, hMM, hC, _⟩ := hM
    have h1 := Blk.ne_ hA hMM (by decide)
    have h2 := Blk.ne_ hA hC (by decide)
    simp [h1, h2]
  have hMA : ¬ c.bM = bA := fun e => hAM (by simp [e])
  have hCA : ¬ c.bC = bA := fun e => hAM (by simp [e])
  have hPA : ¬ bA = c.bP := Blk.ne_ hA hP (by decide)
  have hPM : c.bP ∉ [c.bM, c.bC] := by
    obtain ⟨s, k0, k1, k2, k3, b4, hMM, hC, _⟩ := hM
    have h1 := Blk.ne_ hP hMM (by decide)
    have h2 := Blk.ne_ hP hC (by decide)
    simp [h1, h2]
  go_enter Try.func49, Try.ntmps49
  go_wp2_with fail
  refine (unpack_any _ _).mono ?_
  rintro e w' ⟨rfl, rfl⟩
  go_wp2_with fail
  go_region_held3 (fun w' => w'.cell? ⟨bA, 0, none⟩ = some (.pointer (some ⟨c.bP, 0, none⟩)) ∧ w'.cell? ⟨c.bP, 0, none⟩ = some (.pointer (some ⟨c.bM, 0, none⟩)) ∧ w'.cell? ⟨c.bP, 1, none⟩ = some (.int .i64 c.pb)) (first | exact ⟨k0, q0, q1⟩ | exact ⟨(World.cell?_setCell_other _ _ _ _ (by simp)).trans k0, (World.cell?_setCell_other _ _ _ _ (by simp [hPA])).trans q0, (World.cell?_setCell_other _ _ _ _ (by simp [hPA])).trans q1⟩ | go_keep)
    (first | (go_at_call 29; refine (link_any _ (by exact p1) (by omega) (by omega) hb).mono ?_; rintro e w' ⟨rfl, rfl⟩) | (go_at_call 70; refine (get_any _ (by exact hM)).mono ?_; rintro e w1 ⟨er, rfl, hM1, hO1⟩; have hA1 := Blk.only (by exact hA) hO1 hAM; have hP1 := Blk.only (by exact hP) hO1 hPM; have k0 : w1.cell? ⟨bA, 0, none⟩ = some (.pointer (some ⟨c.bP, 0, none⟩)) := hA1.cell 0; have q0 : w1.cell? ⟨c.bP, 0, none⟩ = some (.pointer (some ⟨c.bM, 0, none⟩)) := hP1.cell 0; have q1 : w1.cell? ⟨c.bP, 1, none⟩ = some (.int .i64 c.pb) := hP1.cell 1; have k6 : w1.cell? ⟨bA, 6, none⟩ = some (.int .i64 next) := hA1.cell 6; have kf := hA1.frozen 6))
  have k4 : (w1.setCell ⟨bA, 6, none⟩ (.int .i64 (gt cs (c.pb + 1 + upl top)))).cell? ⟨bA, 4, none⟩ = some (.int .i64 1) := (World.cell?_setCell_other _ _ _ _ (by simp)).trans (hA1.cell 4)
  have kf4 : w1.frozen? ⟨bA, 4, none⟩ = false := hA1.frozen 4
  go_wp2
  go_end0
  refine ⟨⟨_, rfl⟩, ?_, (hA1.set_ 6 _).set_ 4 _, ?_⟩
  · exact hM1.only (S := [bA]) (((Only.refl _ _).setCell (by simp) _).setCell (by simp) _) (by simp [hMA]) (by simp [hCA])
  · exact ((Only.trans' (Only.drew (Only.refl _ _)) hO1 (by simp)).setCell (by simp) _).setCell (by simp) _

set_option maxRecDepth 100000 in
set_option maxHeartbeats 400000 in
theorem second_give (slot top next : Int) (cs : List Int) (hA : ActR w bA c true slot 1 top next) (hM : MemR w c.bM c.bC c.N cs)
    (hP : Blk w c.bP 66 #[.pointer (some ⟨c.bM, 0, none⟩), .int .i64 c.pb, .slice (some ⟨c.bN, 0, none⟩) c.n c.n, .slice (some ⟨c.bW, 0, none⟩) 1 1])
    (hb : c.pb ≤ 4194304) (hs0 : -1 ≤ slot) (hs1 : slot ≤ 4294967296) :
    Calls Try.prog 49 #[.pointer (some ⟨bA, 0, none⟩)] w (StepPost w bA c (stt cs (c.pb + 1 + slot) (upl top)) true slot 2 top next) := by
  have hup := upl_bd top
  have hAM := hM.apart hA (by decide) (by decide)
  have hPM := hM.apart hP (by decide) (by decide)
  have hMA : ¬ c.bM = bA := fun e => hAM (by simp [e])
  have hCA : ¬ c.bC = bA := fun e => hAM (by simp [e])
  have hPA : ¬ bA = c.bP := Blk.ne_ hA hP (by decide)
  have a0 : w.cell? ⟨bA, 0, none⟩ = some (.pointer (some ⟨c.bP, 0, none⟩)) := Blk.cell hA 0
  have p0 : w.cell? ⟨c.bP, 0, none⟩ = some (.pointer (some ⟨c.bM, 0, none⟩)) := hP.cell 0
  have p1 : w.cell? ⟨c.bP, 1, none⟩ = some (.int .i64 c.pb) := hP.cell 1
  have a2 : w.cell? ⟨bA, 2, none⟩ = some (.bool true) := Blk.cell hA 2
  have a3 : w.cell? ⟨bA, 3, none⟩ = some (.int .i64 slot) := Blk.cell hA 3
  have a5 : w.cell? ⟨bA, 5, none⟩ = some (.int .i64 top) := Blk.cell hA 5
  go_enter Try.func49, Try.ntmps49
  go_wp2_with fail
  refine (unpack_any _ _).mono ?_
  rintro e w' ⟨rfl, rfl⟩
  go_wp2_with fail
  go_region_held3 (fun w' => w'.cell? ⟨bA, 0, none⟩ = some (.pointer (some ⟨c.bP, 0, none⟩)) ∧ w'.cell? ⟨c.bP, 0, none⟩ = some (.pointer (some ⟨c.bM, 0, none⟩)) ∧ w'.cell? ⟨c.bP, 1, none⟩ = some (.int .i64 c.pb) ∧ w'.cell? ⟨bA, 3, none⟩ = some (.int .i64 slot)) (first | exact ⟨k0, q0, q1, k3⟩ | go_keep)
    (first | (go_at_call 29; refine (link_any _ (by exact p1) (by omega) (by omega) hb).mono ?_; rintro e w' ⟨rfl, rfl⟩) | (go_at_call 27; refine (set_any _ _ (by exact hM)).mono ?_; rintro e w1 ⟨er, rfl, hM1, hO1⟩; have hA1 := Blk.only (by exact hA) hO1 hAM; have hP1 := Blk.only (by exact hP) hO1 hPM; have k0 : w1.cell? ⟨bA, 0, none⟩ = some (.pointer (some ⟨c.bP, 0, none⟩)) := hA1.cell 0; have q0 : w1.cell? ⟨c.bP, 0, none⟩ = some (.pointer (some ⟨c.bM, 0, none⟩)) := hP1.cell 0; have q1 : w1.cell? ⟨c.bP, 1, none⟩ = some (.int .i64 c.pb) := hP1.cell 1; have k3 : w1.cell? ⟨bA, 3, none⟩ = some (.int .i64 slot) := hA1.cell 3))
  have k4 : w1.cell? ⟨bA, 4, none⟩ = some (.int .i64 1) := hA1.cell 4
  have kf4 : w1.frozen? ⟨bA, 4, none⟩ = false := hA1.frozen 4
  go_wp2
  go_end0
  refine ⟨⟨_, rfl⟩, ?_, hA1.set_ 4 _, ?_⟩
  · exact hM1.only (S := [bA]) ((Only.refl _ _).setCell (by simp) _) (by simp [hMA]) (by simp [hCA])
  · exact (Only.trans' (Only.drew (Only.refl _ _)) hO1 (by simp)).setCell (by simp) _

set_option maxRecDepth 100000 in
set_option maxHeartbeats 400000 in
theorem third_take (slot top next : Int) (cs : List Int) (hA : ActR w bA c false slot 2 top next) (hM : MemR w c.bM c.bC c.N cs)
    (hP : Blk w c.bP 66 #[.pointer (some ⟨c.bM, 0, none⟩), .int .i64 c.pb, .slice (some ⟨c.bN, 0, none⟩) c.n c.n, .slice (some ⟨c.bW, 0, none⟩) 1 1])
    (hb : c.pb ≤ 4194304) :
    Calls Try.prog 50 #[.pointer (some ⟨bA, 0, none⟩)] w (StepPost w bA c (csw cs c.pb top (up top next)) false
      (if casB cs c.pb top = true then upl top else slot) (if casB cs c.pb top = true then 3 else 0) top next) := by
  have hup := upl_bd top
  have hAM := hM.apart hA (by decide) (by decide)
  have hPM := hM.apart hP (by decide) (by decide)
  have hMA : ¬ c.bM = bA := fun e => hAM (by simp [e])
  have hCA : ¬ c.bC = bA := fun e => hAM (by simp [e])
  have hPA : ¬ bA = c.bP := Blk.ne_ hA hP (by decide)
  have a0 : w.cell? ⟨bA, 0, none⟩ = some (.pointer (some ⟨c.bP, 0, none⟩)) := Blk.cell hA 0
  have p0 : w.cell? ⟨c.bP, 0, none⟩ = some (.pointer (some ⟨c.bM, 0, none⟩)) := hP.cell 0
  have p1 : w.cell? ⟨c.bP, 1, none⟩ = some (.int .i64 c.pb) := hP.cell 1
  have a2 : w.cell? ⟨bA, 2, none⟩ = some (.bool false) := Blk.cell hA 2
  have a3 : w.cell? ⟨bA, 3, none⟩ = some (.int .i64 slot) := Blk.cell hA 3
  have a5 : w.cell? ⟨bA, 5, none⟩ = some (.int .i64 top) := Blk.cell hA 5
  have a6 : w.cell? ⟨bA, 6, none⟩ = some (.int .i64 next) := Blk.cell hA 6
  by_cases hc : casB cs c.pb top = true
  all_goals
    simp only [hc, Bool.false_eq_true, if_false, if_true]
    try simp only [Bool.not_eq_true] at hc
    go_enter Try.func50, Try.ntmps50
    go_wp2
    go_region_held3 (fun w' => w'.cell? ⟨bA, 0, none⟩ = some (.pointer (some ⟨c.bP, 0, none⟩)) ∧ w'.cell? ⟨c.bP, 0, none⟩ = some (.pointer (some ⟨c.bM, 0, none⟩)) ∧ w'.cell? ⟨c.bP, 1, none⟩ = some (.int .i64 c.pb) ∧ w'.cell? ⟨bA, 5, none⟩ = some (.int .i64 top)) (first | exact ⟨k0, q0, q1, k5⟩ | go_keep)
      (first | (go_at_call 72; refine (up_any _ _ _).mono ?_; rintro e w' ⟨rfl, rfl⟩) | (go_at_call 71; refine (cas_any _ _ _ (by exact hM)).mono ?_; rintro e w1 ⟨er, rfl, hM1, hO1⟩; have hA1 := Blk.only (by exact hA) hO1 hAM; have hP1 := Blk.only (by exact hP) hO1 hPM; have k0 : w1.cell? ⟨bA, 0, none⟩ = some (.pointer (some ⟨c.bP, 0, none⟩)) := hA1.cell 0; have q0 : w1.cell? ⟨c.bP, 0, none⟩ = some (.pointer (some ⟨c.bM, 0, none⟩)) := hP1.cell 0; have q1 : w1.cell? ⟨c.bP, 1, none⟩ = some (.int .i64 c.pb) := hP1.cell 1; have k5 : w1.cell? ⟨bA, 5, none⟩ = some (.int .i64 top) := hA1.cell 5))
    have k2 : w1.cell? ⟨bA, 2, none⟩ = some (.bool false) := hA1.cell 2
    have k3 : w1.cell? ⟨bA, 3, none⟩ = some (.int .i64 slot) := hA1.cell 3
    have k4 : w1.cell? ⟨bA, 4, none⟩ = some (.int .i64 2) := hA1.cell 4
    have kf : ∀ i, w1.frozen? ⟨bA, i, none⟩ = false := hA1.frozen
    go_wp2_with (go_at_call 44; refine (unpack_any _ _).mono ?_; rintro e w' ⟨rfl, rfl⟩)
    go_end0
    refine ⟨⟨_, rfl⟩, hM1.only (S := [bA]) ?_ (by simp [hMA]) (by simp [hCA]), ?_, ?_⟩
    · repeat (refine Only.setCell ?_ (by simp) _)
      exact Only.refl _ _
    · apply Blk.eqs
      · repeat (with_reducible first | exact hA1 | apply Blk.set_)
      · rfl
    · repeat (refine Only.setCell ?_ (by simp) _)
      exact Only.trans' (Only.drew (Only.refl _ _)) hO1 (by simp)
set_option maxRecDepth 100000 in
set_option maxHeartbeats 400000 in
theorem third_give (slot top next : Int) (cs : List Int) (hA : ActR w bA c true slot 2 top next) (hM : MemR w c.bM c.bC c.N cs)
    (hP : Blk w c.bP 66 #[.pointer (some ⟨c.bM, 0, none⟩), .int .i64 c.pb, .slice (some ⟨c.bN, 0, none⟩) c.n c.n, .slice (some ⟨c.bW, 0, none⟩) 1 1])
    (hb : c.pb ≤ 4194304) :
    Calls Try.prog 50 #[.pointer (some ⟨bA, 0, none⟩)] w (StepPost w bA c (csw cs c.pb top (up top slot)) true
      slot (if casB cs c.pb top = true then 3 else 0) top next) := by
  have hup := upl_bd top
  have hAM := hM.apart hA (by decide) (by decide)
  have hPM := hM.apart hP (by decide) (by decide)
  have hMA : ¬ c.bM = bA := fun e => hAM (by simp [e])
  have hCA : ¬ c.bC = bA := fun e => hAM (by simp [e])
  have hPA : ¬ bA = c.bP := Blk.ne_ hA hP (by decide)
  have a0 : w.cell? ⟨bA, 0, none⟩ = some (.pointer (some ⟨c.bP, 0, none⟩)) := Blk.cell hA 0
  have p0 : w.cell? ⟨c.bP, 0, none⟩ = some (.pointer (some ⟨c.bM, 0, none⟩)) := hP.cell 0
  have p1 : w.cell? ⟨c.bP, 1, none⟩ = some (.int .i64 c.pb) := hP.cell 1
  have a2 : w.cell? ⟨bA, 2, none⟩ = some (.bool true) := Blk.cell hA 2
  have a3 : w.cell? ⟨bA, 3, none⟩ = some (.int .i64 slot) := Blk.cell hA 3
  have a5 : w.cell? ⟨bA, 5, none⟩ = some (.int .i64 top) := Blk.cell hA 5
  have a6 : w.cell? ⟨bA, 6, none⟩ = some (.int .i64 next) := Blk.cell hA 6
  by_cases hc : casB cs c.pb top = true
  all_goals
    simp only [hc, Bool.false_eq_true, if_false, if_true]
    try simp only [Bool.not_eq_true] at hc
    go_enter Try.func50, Try.ntmps50
    go_wp2
    go_region_held3 (fun w' => w'.cell? ⟨bA, 0, none⟩ = some (.pointer (some ⟨c.bP, 0, none⟩)) ∧ w'.cell? ⟨c.bP, 0, none⟩ = some (.pointer (some ⟨c.bM, 0, none⟩)) ∧ w'.cell? ⟨c.bP, 1, none⟩ = some (.int .i64 c.pb) ∧ w'.cell? ⟨bA, 5, none⟩ = some (.int .i64 top)) (first | exact ⟨k0, q0, q1, k5⟩ | go_keep)
      (first | (go_at_call 72; refine (up_any _ _ _).mono ?_; rintro e w' ⟨rfl, rfl⟩) | (go_at_call 71; refine (cas_any _ _ _ (by exact hM)).mono ?_; rintro e w1 ⟨er, rfl, hM1, hO1⟩; have hA1 := Blk.only (by exact hA) hO1 hAM; have hP1 := Blk.only (by exact hP) hO1 hPM; have k0 : w1.cell? ⟨bA, 0, none⟩ = some (.pointer (some ⟨c.bP, 0, none⟩)) := hA1.cell 0; have q0 : w1.cell? ⟨c.bP, 0, none⟩ = some (.pointer (some ⟨c.bM, 0, none⟩)) := hP1.cell 0; have q1 : w1.cell? ⟨c.bP, 1, none⟩ = some (.int .i64 c.pb) := hP1.cell 1; have k5 : w1.cell? ⟨bA, 5, none⟩ = some (.int .i64 top) := hA1.cell 5))
    have k2 : w1.cell? ⟨bA, 2, none⟩ = some (.bool true) := hA1.cell 2
    have k3 : w1.cell? ⟨bA, 3, none⟩ = some (.int .i64 slot) := hA1.cell 3
    have k4 : w1.cell? ⟨bA, 4, none⟩ = some (.int .i64 2) := hA1.cell 4
    have kf : ∀ i, w1.frozen? ⟨bA, i, none⟩ = false := hA1.frozen
    go_wp2_with (go_at_call 44; refine (unpack_any _ _).mono ?_; rintro e w' ⟨rfl, rfl⟩)
    go_end0
    refine ⟨⟨_, rfl⟩, hM1.only (S := [bA]) ?_ (by simp [hMA]) (by simp [hCA]), ?_, ?_⟩
    · repeat (refine Only.setCell ?_ (by simp) _)
      exact Only.refl _ _
    · apply Blk.eqs
      · repeat (with_reducible first | exact hA1 | apply Blk.set_)
      · rfl
    · repeat (refine Only.setCell ?_ (by simp) _)
      exact Only.trans' (Only.drew (Only.refl _ _)) hO1 (by simp)
end
end Go.Proofs.Ytnpglcbkpbhnoaa
