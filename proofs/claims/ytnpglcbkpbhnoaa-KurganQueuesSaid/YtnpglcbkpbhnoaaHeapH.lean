/- The walks over package heap, eighth part: Step in each phase. Printed by gen_step.py. -/
import Derived.Test.YtnpglcbkpbhnoaaHeapG
namespace Go.Proofs.Ytnpglcbkpbhnoaa
open Go.RowKit Kq

/-- What a step does. -/
def HSPost (w : World) (bA : Nat) (H : HCfg) (bds own : List Int) (s : HS) (e : Ending) (w' : World) : Prop := e = .returned (.bool (s.ph == 15)) ∧ HR w' bA H bds own s ∧ HK H w w'

section
variable {w : World} {H : HCfg} {bA : Nat} {bds own : List Int}

set_option maxRecDepth 100000 in
theorem hstep_doProbe {s s' : HS} {vd vw vh : Value} (hR : HRv w bA H bds own s vd vw vh) (hph : s.ph = 0)
    (h : Calls Try.prog 51 #[.pointer (some ⟨bA, 0, none⟩)] w (HPost w bA H bds own s')) :
    Calls Try.prog 38 #[.pointer (some ⟨bA, 0, none⟩)] w (HSPost w bA H bds own s') := by
  have a1 : w.cell? ⟨bA, 1, none⟩ = some (.int .i64 0) := by rw [← hph]; exact hR.2.2.2.1.cell 1
  have HH := Lib.hid h
  clear h hR hph
  go_enter Try.func38, Try.ntmps38
  go_wp2_with fail
  refine HH.out.mono ?_
  rintro e w1 ⟨⟨v, rfl⟩, hr1, hK⟩
  obtain ⟨vd1, vw1, vh1, hR1⟩ := hr1.named
  have k1 : w1.cell? ⟨bA, 1, none⟩ = some (.int .i64 s'.ph) := hR1.2.2.2.1.cell 1
  have HX := Lib.hid hr1
  clear hR1 hr1
  go_wp2_with fail
  go_ret
  exact ⟨rfl, HX.out, hK⟩

set_option maxRecDepth 100000 in
theorem hstep_doHalf {s s' : HS} {vd vw vh : Value} (hR : HRv w bA H bds own s vd vw vh) (hph : s.ph = 1)
    (h : Calls Try.prog 52 #[.pointer (some ⟨bA, 0, none⟩)] w (HPost w bA H bds own s')) :
    Calls Try.prog 38 #[.pointer (some ⟨bA, 0, none⟩)] w (HSPost w bA H bds own s') := by
  have a1 : w.cell? ⟨bA, 1, none⟩ = some (.int .i64 1) := by rw [← hph]; exact hR.2.2.2.1.cell 1
  have HH := Lib.hid h
  clear h hR hph
  go_enter Try.func38, Try.ntmps38
  go_wp2_with fail
  refine HH.out.mono ?_
  rintro e w1 ⟨⟨v, rfl⟩, hr1, hK⟩
  obtain ⟨vd1, vw1, vh1, hR1⟩ := hr1.named
  have k1 : w1.cell? ⟨bA, 1, none⟩ = some (.int .i64 s'.ph) := hR1.2.2.2.1.cell 1
  have HX := Lib.hid hr1
  clear hR1 hr1
  go_wp2_with fail
  go_ret
  exact ⟨rfl, HX.out, hK⟩

set_option maxRecDepth 100000 in
theorem hstep_doJoin {s s' : HS} {vd vw vh : Value} (hR : HRv w bA H bds own s vd vw vh) (hph : s.ph = 2)
    (h : Calls Try.prog 53 #[.pointer (some ⟨bA, 0, none⟩)] w (HPost w bA H bds own s')) :
    Calls Try.prog 38 #[.pointer (some ⟨bA, 0, none⟩)] w (HSPost w bA H bds own s') := by
  have a1 : w.cell? ⟨bA, 1, none⟩ = some (.int .i64 2) := by rw [← hph]; exact hR.2.2.2.1.cell 1
  have HH := Lib.hid h
  clear h hR hph
  go_enter Try.func38, Try.ntmps38
  go_wp2_with fail
  refine HH.out.mono ?_
  rintro e w1 ⟨⟨v, rfl⟩, hr1, hK⟩
  obtain ⟨vd1, vw1, vh1, hR1⟩ := hr1.named
  have k1 : w1.cell? ⟨bA, 1, none⟩ = some (.int .i64 s'.ph) := hR1.2.2.2.1.cell 1
  have HX := Lib.hid hr1
  clear hR1 hr1
  go_wp2_with fail
  go_ret
  exact ⟨rfl, HX.out, hK⟩

set_option maxRecDepth 100000 in
theorem hstep_doPut {s s' : HS} {vd vw vh : Value} (hR : HRv w bA H bds own s vd vw vh) (hph : s.ph = 3)
    (h : Calls Try.prog 54 #[.pointer (some ⟨bA, 0, none⟩)] w (HPost w bA H bds own s')) :
    Calls Try.prog 38 #[.pointer (some ⟨bA, 0, none⟩)] w (HSPost w bA H bds own s') := by
  have a1 : w.cell? ⟨bA, 1, none⟩ = some (.int .i64 3) := by rw [← hph]; exact hR.2.2.2.1.cell 1
  have HH := Lib.hid h
  clear h hR hph
  go_enter Try.func38, Try.ntmps38
  go_wp2_with fail
  refine HH.out.mono ?_
  rintro e w1 ⟨⟨v, rfl⟩, hr1, hK⟩
  obtain ⟨vd1, vw1, vh1, hR1⟩ := hr1.named
  have k1 : w1.cell? ⟨bA, 1, none⟩ = some (.int .i64 s'.ph) := hR1.2.2.2.1.cell 1
  have HX := Lib.hid hr1
  clear hR1 hr1
  go_wp2_with fail
  go_ret
  exact ⟨rfl, HX.out, hK⟩

set_option maxRecDepth 100000 in
theorem hstep_doFirst {s s' : HS} {vd vw vh : Value} (hR : HRv w bA H bds own s vd vw vh) (hph : s.ph = 4)
    (h : Calls Try.prog 55 #[.pointer (some ⟨bA, 0, none⟩)] w (HPost w bA H bds own s')) :
    Calls Try.prog 38 #[.pointer (some ⟨bA, 0, none⟩)] w (HSPost w bA H bds own s') := by
  have a1 : w.cell? ⟨bA, 1, none⟩ = some (.int .i64 4) := by rw [← hph]; exact hR.2.2.2.1.cell 1
  have HH := Lib.hid h
  clear h hR hph
  go_enter Try.func38, Try.ntmps38
  go_wp2_with fail
  refine HH.out.mono ?_
  rintro e w1 ⟨⟨v, rfl⟩, hr1, hK⟩
  obtain ⟨vd1, vw1, vh1, hR1⟩ := hr1.named
  have k1 : w1.cell? ⟨bA, 1, none⟩ = some (.int .i64 s'.ph) := hR1.2.2.2.1.cell 1
  have HX := Lib.hid hr1
  clear hR1 hr1
  go_wp2_with fail
  go_ret
  exact ⟨rfl, HX.out, hK⟩

set_option maxRecDepth 100000 in
theorem hstep_doSecond {s s' : HS} {vd vw vh : Value} (hR : HRv w bA H bds own s vd vw vh) (hph : s.ph = 5)
    (h : Calls Try.prog 56 #[.pointer (some ⟨bA, 0, none⟩)] w (HPost w bA H bds own s')) :
    Calls Try.prog 38 #[.pointer (some ⟨bA, 0, none⟩)] w (HSPost w bA H bds own s') := by
  have a1 : w.cell? ⟨bA, 1, none⟩ = some (.int .i64 5) := by rw [← hph]; exact hR.2.2.2.1.cell 1
  have HH := Lib.hid h
  clear h hR hph
  go_enter Try.func38, Try.ntmps38
  go_wp2_with fail
  refine HH.out.mono ?_
  rintro e w1 ⟨⟨v, rfl⟩, hr1, hK⟩
  obtain ⟨vd1, vw1, vh1, hR1⟩ := hr1.named
  have k1 : w1.cell? ⟨bA, 1, none⟩ = some (.int .i64 s'.ph) := hR1.2.2.2.1.cell 1
  have HX := Lib.hid hr1
  clear hR1 hr1
  go_wp2_with fail
  go_ret
  exact ⟨rfl, HX.out, hK⟩

set_option maxRecDepth 100000 in
theorem hstep_doTake {s s' : HS} {vd vw vh : Value} (hR : HRv w bA H bds own s vd vw vh) (hph : s.ph = 6)
    (h : Calls Try.prog 57 #[.pointer (some ⟨bA, 0, none⟩)] w (HPost w bA H bds own s')) :
    Calls Try.prog 38 #[.pointer (some ⟨bA, 0, none⟩)] w (HSPost w bA H bds own s') := by
  have a1 : w.cell? ⟨bA, 1, none⟩ = some (.int .i64 6) := by rw [← hph]; exact hR.2.2.2.1.cell 1
  have HH := Lib.hid h
  clear h hR hph
  go_enter Try.func38, Try.ntmps38
  go_wp2_with fail
  refine HH.out.mono ?_
  rintro e w1 ⟨⟨v, rfl⟩, hr1, hK⟩
  obtain ⟨vd1, vw1, vh1, hR1⟩ := hr1.named
  have k1 : w1.cell? ⟨bA, 1, none⟩ = some (.int .i64 s'.ph) := hR1.2.2.2.1.cell 1
  have HX := Lib.hid hr1
  clear hR1 hr1
  go_wp2_with fail
  go_ret
  exact ⟨rfl, HX.out, hK⟩

set_option maxRecDepth 100000 in
theorem hstep_doNode {s s' : HS} {vd vw vh : Value} (hR : HRv w bA H bds own s vd vw vh) (hph : s.ph = 7)
    (h : Calls Try.prog 58 #[.pointer (some ⟨bA, 0, none⟩)] w (HPost w bA H bds own s')) :
    Calls Try.prog 38 #[.pointer (some ⟨bA, 0, none⟩)] w (HSPost w bA H bds own s') := by
  have a1 : w.cell? ⟨bA, 1, none⟩ = some (.int .i64 7) := by rw [← hph]; exact hR.2.2.2.1.cell 1
  have HH := Lib.hid h
  clear h hR hph
  go_enter Try.func38, Try.ntmps38
  go_wp2_with fail
  refine HH.out.mono ?_
  rintro e w1 ⟨⟨v, rfl⟩, hr1, hK⟩
  obtain ⟨vd1, vw1, vh1, hR1⟩ := hr1.named
  have k1 : w1.cell? ⟨bA, 1, none⟩ = some (.int .i64 s'.ph) := hR1.2.2.2.1.cell 1
  have HX := Lib.hid hr1
  clear hR1 hr1
  go_wp2_with fail
  go_ret
  exact ⟨rfl, HX.out, hK⟩

set_option maxRecDepth 100000 in
theorem hstep_doLeft {s s' : HS} {vd vw vh : Value} (hR : HRv w bA H bds own s vd vw vh) (hph : s.ph = 8)
    (h : Calls Try.prog 59 #[.pointer (some ⟨bA, 0, none⟩)] w (HPost w bA H bds own s')) :
    Calls Try.prog 38 #[.pointer (some ⟨bA, 0, none⟩)] w (HSPost w bA H bds own s') := by
  have a1 : w.cell? ⟨bA, 1, none⟩ = some (.int .i64 8) := by rw [← hph]; exact hR.2.2.2.1.cell 1
  have HH := Lib.hid h
  clear h hR hph
  go_enter Try.func38, Try.ntmps38
  go_wp2_with fail
  refine HH.out.mono ?_
  rintro e w1 ⟨⟨v, rfl⟩, hr1, hK⟩
  obtain ⟨vd1, vw1, vh1, hR1⟩ := hr1.named
  have k1 : w1.cell? ⟨bA, 1, none⟩ = some (.int .i64 s'.ph) := hR1.2.2.2.1.cell 1
  have HX := Lib.hid hr1
  clear hR1 hr1
  go_wp2_with fail
  go_ret
  exact ⟨rfl, HX.out, hK⟩

set_option maxRecDepth 100000 in
theorem hstep_doRight {s s' : HS} {vd vw vh : Value} (hR : HRv w bA H bds own s vd vw vh) (hph : s.ph = 9)
    (h : Calls Try.prog 60 #[.pointer (some ⟨bA, 0, none⟩)] w (HPost w bA H bds own s')) :
    Calls Try.prog 38 #[.pointer (some ⟨bA, 0, none⟩)] w (HSPost w bA H bds own s') := by
  have a1 : w.cell? ⟨bA, 1, none⟩ = some (.int .i64 9) := by rw [← hph]; exact hR.2.2.2.1.cell 1
  have HH := Lib.hid h
  clear h hR hph
  go_enter Try.func38, Try.ntmps38
  go_wp2_with fail
  refine HH.out.mono ?_
  rintro e w1 ⟨⟨v, rfl⟩, hr1, hK⟩
  obtain ⟨vd1, vw1, vh1, hR1⟩ := hr1.named
  have k1 : w1.cell? ⟨bA, 1, none⟩ = some (.int .i64 s'.ph) := hR1.2.2.2.1.cell 1
  have HX := Lib.hid hr1
  clear hR1 hr1
  go_wp2_with fail
  go_ret
  exact ⟨rfl, HX.out, hK⟩

set_option maxRecDepth 100000 in
theorem hstep_doLift {s s' : HS} {vd vw vh : Value} (hR : HRv w bA H bds own s vd vw vh) (hph : s.ph = 10)
    (h : Calls Try.prog 61 #[.pointer (some ⟨bA, 0, none⟩)] w (HPost w bA H bds own s')) :
    Calls Try.prog 38 #[.pointer (some ⟨bA, 0, none⟩)] w (HSPost w bA H bds own s') := by
  have a1 : w.cell? ⟨bA, 1, none⟩ = some (.int .i64 10) := by rw [← hph]; exact hR.2.2.2.1.cell 1
  have HH := Lib.hid h
  clear h hR hph
  go_enter Try.func38, Try.ntmps38
  go_wp2_with fail
  refine HH.out.mono ?_
  rintro e w1 ⟨⟨v, rfl⟩, hr1, hK⟩
  obtain ⟨vd1, vw1, vh1, hR1⟩ := hr1.named
  have k1 : w1.cell? ⟨bA, 1, none⟩ = some (.int .i64 s'.ph) := hR1.2.2.2.1.cell 1
  have HX := Lib.hid hr1
  clear hR1 hr1
  go_wp2_with fail
  go_ret
  exact ⟨rfl, HX.out, hK⟩

set_option maxRecDepth 100000 in
theorem hstep_doDrop {s s' : HS} {vd vw vh : Value} (hR : HRv w bA H bds own s vd vw vh) (hph : s.ph = 12)
    (h : Calls Try.prog 63 #[.pointer (some ⟨bA, 0, none⟩)] w (HPost w bA H bds own s')) :
    Calls Try.prog 38 #[.pointer (some ⟨bA, 0, none⟩)] w (HSPost w bA H bds own s') := by
  have a1 : w.cell? ⟨bA, 1, none⟩ = some (.int .i64 12) := by rw [← hph]; exact hR.2.2.2.1.cell 1
  have HH := Lib.hid h
  clear h hR hph
  go_enter Try.func38, Try.ntmps38
  go_wp2_with fail
  refine HH.out.mono ?_
  rintro e w1 ⟨⟨v, rfl⟩, hr1, hK⟩
  obtain ⟨vd1, vw1, vh1, hR1⟩ := hr1.named
  have k1 : w1.cell? ⟨bA, 1, none⟩ = some (.int .i64 s'.ph) := hR1.2.2.2.1.cell 1
  have HX := Lib.hid hr1
  clear hR1 hr1
  go_wp2_with fail
  go_ret
  exact ⟨rfl, HX.out, hK⟩

set_option maxRecDepth 100000 in
theorem hstep_doPlace {s s' : HS} {vd vw vh : Value} (hR : HRv w bA H bds own s vd vw vh) (hph : s.ph = 13)
    (h : Calls Try.prog 64 #[.pointer (some ⟨bA, 0, none⟩)] w (HPost w bA H bds own s')) :
    Calls Try.prog 38 #[.pointer (some ⟨bA, 0, none⟩)] w (HSPost w bA H bds own s') := by
  have a1 : w.cell? ⟨bA, 1, none⟩ = some (.int .i64 13) := by rw [← hph]; exact hR.2.2.2.1.cell 1
  have HH := Lib.hid h
  clear h hR hph
  go_enter Try.func38, Try.ntmps38
  go_wp2_with fail
  refine HH.out.mono ?_
  rintro e w1 ⟨⟨v, rfl⟩, hr1, hK⟩
  obtain ⟨vd1, vw1, vh1, hR1⟩ := hr1.named
  have k1 : w1.cell? ⟨bA, 1, none⟩ = some (.int .i64 s'.ph) := hR1.2.2.2.1.cell 1
  have HX := Lib.hid hr1
  clear hR1 hr1
  go_wp2_with fail
  go_ret
  exact ⟨rfl, HX.out, hK⟩

set_option maxRecDepth 100000 in
theorem hstep_doSink {s s' : HS} {vd vw vh : Value} (hR : HRv w bA H bds own s vd vw vh) (hph : s.ph = 14)
    (h : Calls Try.prog 65 #[.pointer (some ⟨bA, 0, none⟩)] w (HPost w bA H bds own s')) :
    Calls Try.prog 38 #[.pointer (some ⟨bA, 0, none⟩)] w (HSPost w bA H bds own s') := by
  have a1 : w.cell? ⟨bA, 1, none⟩ = some (.int .i64 14) := by rw [← hph]; exact hR.2.2.2.1.cell 1
  have HH := Lib.hid h
  clear h hR hph
  go_enter Try.func38, Try.ntmps38
  go_wp2_with fail
  refine HH.out.mono ?_
  rintro e w1 ⟨⟨v, rfl⟩, hr1, hK⟩
  obtain ⟨vd1, vw1, vh1, hR1⟩ := hr1.named
  have k1 : w1.cell? ⟨bA, 1, none⟩ = some (.int .i64 s'.ph) := hR1.2.2.2.1.cell 1
  have HX := Lib.hid hr1
  clear hR1 hr1
  go_wp2_with fail
  go_ret
  exact ⟨rfl, HX.out, hK⟩
end
end Go.Proofs.Ytnpglcbkpbhnoaa
