/- The walks over package heap, fourth part: halved, doHalf. -/
import Derived.Test.YtnpglcbkpbhnoaaHeapC
namespace Go.Proofs.Ytnpglcbkpbhnoaa
open Go.RowKit Kq

theorem gt_eq {xs : List Int} {i : Int} {j : Nat} (h : i = j) (hj : j < xs.length) : gt xs i = xs.getD j 0 := by
  subst h
  unfold gt
  rw [if_pos ⟨by omega, by omega⟩]
  rfl
theorem owns_at {w : World} {base : Nat} {xs : List Int} {v : Value} (h : w.ownsRow base 3 1 v xs.length (ints xs)) (h0 : 0 < xs.length) :
    ∃ g cap, v = .slice (some ⟨g, 0, none⟩) xs.length cap ∧ base ≤ g ∧ (∀ j : Nat, j < xs.length → w.cell? ⟨g, j, none⟩ = some (.int .i64 (gt xs j))) ∧ ∀ j, w.frozen? ⟨g, j, none⟩ = false := by
  rcases h.2 with ⟨rfl, h1⟩ | ⟨g, cap, cur, rfl, hg, hb, hc, hcap, hsz, htk⟩
  · omega
  · refine ⟨g, cap, rfl, hg, fun j hj => ?_, fun j => Blk.frozen (t := 3) (cs := cur) hb j⟩
    have := h.cellAt j (by omega)
    rw [this, ints_get _ _ hj, gt_eq rfl hj]

section
variable {w : World} {H : HCfg} {bA : Nat} {bds own : List Int}

set_option maxRecDepth 100000 in
set_option maxHeartbeats 400000 in
theorem halved_any {s : HS} {vd vw vh : Value} (hA : Blk w bA 85 (actCells H s vd vw vh)) (hW : w.ownsRow H.h0 3 1 vw s.way.length (ints s.way)) (hHd : w.ownsRow H.h0 3 1 vh s.heads.length (ints s.heads))
    (hw6 : s.way.length = 6) (hh6 : s.heads.length = 6) (h0 : 0 ≤ s.high) (h5 : s.high ≤ 5) :
    Calls Try.prog 76 #[.pointer (some ⟨bA, 0, none⟩)] w fun e w' => (∃ v, e = .returned v) ∧ Blk w' bA 85 (actCells H (halved s) vd vw vh) ∧ Only [bA] w w' := by
  have a10 : w.cell? ⟨bA, 10, none⟩ = some (.int .i64 s.low) := hA.cell 10
  have a11 : w.cell? ⟨bA, 11, none⟩ = some (.int .i64 s.high) := hA.cell 11
  by_cases hq : s.low = s.high
  · have e : halved s = { s with at_ := gt s.way s.high, head := gt s.heads s.high, ph := 2 } := by unfold halved; rw [if_pos hq]
    rw [e]
    obtain ⟨gw, cw, ew, _, dw, _⟩ := owns_at hW (by omega)
    obtain ⟨gh, ch, eh, _, dh, _⟩ := owns_at hHd (by omega)
    have a8 : w.cell? ⟨bA, 8, none⟩ = some vw := hA.cell 8
    have a9 : w.cell? ⟨bA, 9, none⟩ = some vh := hA.cell 9
    have a1 : w.cell? ⟨bA, 1, none⟩ = some (.int .i64 s.ph) := hA.cell 1
    have a12 : w.cell? ⟨bA, 12, none⟩ = some (.int .i64 s.at_) := hA.cell 12
    have a13 : w.cell? ⟨bA, 13, none⟩ = some (.int .i64 s.head) := hA.cell 13
    have fA : ∀ i, w.frozen? ⟨bA, i, none⟩ = false := hA.frozen
    rw [hw6] at ew dw
    rw [hh6] at eh dh
    obtain ⟨j, hj⟩ := Int.eq_ofNat_of_zero_le h0
    have xw := dw j (by omega)
    have xh := dh j (by omega)
    have hgw : ¬ bA = gw := fun e => owns_ne hW hA (by decide) (by rw [ew, e]; rfl)
    have hgh : ¬ bA = gh := fun e => owns_ne hHd hA (by decide) (by rw [eh, e]; rfl)
    rw [← hj] at xw xh
    have a11' : w.cell? ⟨bA, 11, none⟩ = some (.int .i64 (j : Int)) := by rw [a11, hj]
    have hj6 : (j : Int) < 6 := by omega
    have ht : (s.low == (j : Int)) = true := by rw [hq, hj]; simp
    rw [ew] at a8
    rw [eh] at a9
    have HA := Lib.hid hA
    have HJ := Lib.hid hj
    clear hA hW hHd e a11 dw dh h0 h5 hq
    generalize gt s.way s.high = xw1 at *
    generalize gt s.heads s.high = xh1 at *
    clear hj
    go_enter Try.func76, Try.ntmps76
    go_wp2_with fail
    go_quiet (fail)
    try rw [ht]
    go_wp2_with fail
    go_region_held3 (fun w' => w'.cell? ⟨bA, 8, none⟩ = some (.slice (some ⟨gw, 0, none⟩) 6 cw) ∧ w'.cell? ⟨bA, 9, none⟩ = some (.slice (some ⟨gh, 0, none⟩) 6 ch) ∧ w'.cell? ⟨bA, 11, none⟩ = some (.int .i64 (j : Int)) ∧ w'.cell? ⟨gw, j, none⟩ = some (.int .i64 xw1) ∧ w'.cell? ⟨gh, j, none⟩ = some (.int .i64 xh1))
      (first | exact ⟨(World.cell?_setCell_other _ _ _ _ (by simp)).trans a8, (World.cell?_setCell_other _ _ _ _ (by simp)).trans a9, (World.cell?_setCell_other _ _ _ _ (by simp)).trans a11', (World.cell?_setCell_other _ _ _ _ (by simp [hgw])).trans xw, (World.cell?_setCell_other _ _ _ _ (by simp [hgh])).trans xh⟩ | exact ⟨((World.cell?_setCell_other _ _ _ _ (by simp)).trans (World.cell?_setCell_other _ _ _ _ (by simp))).trans a8, ((World.cell?_setCell_other _ _ _ _ (by simp)).trans (World.cell?_setCell_other _ _ _ _ (by simp))).trans a9, ((World.cell?_setCell_other _ _ _ _ (by simp)).trans (World.cell?_setCell_other _ _ _ _ (by simp))).trans a11', ((World.cell?_setCell_other _ _ _ _ (by simp [hgw])).trans (World.cell?_setCell_other _ _ _ _ (by simp [hgw]))).trans xw, ((World.cell?_setCell_other _ _ _ _ (by simp [hgh])).trans (World.cell?_setCell_other _ _ _ _ (by simp [hgh]))).trans xh⟩ | go_keep) (fail)
    go_wp2_with fail
    go_end0
    refine ⟨⟨_, rfl⟩, ?_, ?_⟩
    · apply Blk.eqs
      · repeat (with_reducible first | exact HA.out | apply Blk.set_ | apply Blk.drewN | apply Blk.drew)
      · rfl
    · repeat (first | refine Only.setCell ?_ (by simp) _ | refine Only.drewN ?_ _ | refine Only.drew ?_)
      exact Only.refl _ _
  · have e : halved s = s := by unfold halved; rw [if_neg hq]
    rw [e]
    have ht : (s.low == s.high) = false := by simpa using hq
    have HA := Lib.hid hA
    clear hA e hW hHd
    go_enter Try.func76, Try.ntmps76
    go_wp2_with fail
    go_quiet (fail)
    try rw [ht]
    go_wp2_with fail
    go_end0
    exact ⟨⟨_, rfl⟩, HA.out.drewN _, (Only.refl _ _).drewN _⟩

theorem owns_set {w : World} {base g cap : Nat} {xs : List Int} (h : w.ownsRow base 3 1 (.slice (some ⟨g, 0, none⟩) xs.length cap) xs.length (ints xs)) (j : Nat) (n : Int) (hj : j < xs.length) :
    (w.setCell ⟨g, j, none⟩ (.int .i64 n)).ownsRow base 3 1 (.slice (some ⟨g, 0, none⟩) xs.length cap) xs.length (ints (xs.set j n)) := by
  refine ⟨by simp [ints], ?_⟩
  rcases h.2 with ⟨h1, _⟩ | ⟨g', cap', cur, h1, hg, hb, hc, hcap, hsz, htk⟩
  · cases h1
  · cases h1
    refine .inr ⟨g, cap, cur.setIfInBounds j (.int .i64 n), rfl, hg, Blk.set_ (t := 3) (cs := cur) hb j _, hc, hcap, by simpa using hsz, ?_⟩
    rw [← ints_set, ← htk, Array.toList_setIfInBounds]
    rw [List.take_set]

theorem hr_heads {s : HS} {vd vw vh : Value} {gh ch m k : Nat} (n x : Int) (hR : HRv w bA H bds own s vd vw vh) (hv : vh = .slice (some ⟨gh, 0, none⟩) s.heads.length ch) (hm : m < s.heads.length) :
    HPost w bA H bds own { s with high := x, heads := stt s.heads m n } (.returned (.tuple #[])) (((w.drewN k).setCell ⟨bA, 11, none⟩ (.int .i64 x)).setCell ⟨gh, m, none⟩ (.int .i64 n)) := by
  obtain ⟨hM, hF, h0, hA, hD, hW, hHd, hne⟩ := hR
  subst hv
  have hgh : gh ≠ bA := fun e => owns_ne hHd hA (by decide) (by rw [← e]; rfl)
  have hge : H.h0 ≤ gh := (hHd.lt gh rfl).1
  have hne1 := hne gh rfl
  have hall : Only [bA, gh] w (((w.drewN k).setCell ⟨bA, 11, none⟩ (.int .i64 x)).setCell ⟨gh, m, none⟩ (.int .i64 n)) := (((Only.refl _ _).drewN _).setCell (by simp) _).setCell (by simp) _
  have hlt := hF.2.2.2.2.2.2.2
  have hS : ∀ g, g ∈ [bA, gh] → g = H.c.bM ∨ g = H.c.bC ∨ H.h0 ≤ g := by
    intro g hg
    simp only [List.mem_cons, List.not_mem_nil, or_false] at hg
    rcases hg with rfl | rfl
    · exact .inr (.inr h0)
    · exact .inr (.inr hge)
  have hrow : ∀ {v : Value} {xs : List Int}, w.ownsRow H.h0 3 1 v xs.length (ints xs) → v.ownBlock ≠ some gh → (((w.drewN k).setCell ⟨bA, 11, none⟩ (.int .i64 x)).setCell ⟨gh, m, none⟩ (.int .i64 n)).ownsRow H.h0 3 1 v xs.length (ints xs) := by
    intro v xs h hv
    refine owns_only h hall ?_
    intro g hg he
    simp only [List.mem_cons, List.not_mem_nil, or_false] at hg
    rcases hg with rfl | rfl
    · exact owns_ne h hA (by decide) he
    · exact hv he
  have hheads : (((w.drewN k).setCell ⟨bA, 11, none⟩ (.int .i64 x)).setCell ⟨gh, m, none⟩ (.int .i64 n)).ownsRow H.h0 3 1 (.slice (some ⟨gh, 0, none⟩) s.heads.length ch) s.heads.length (ints (s.heads.set m n)) := by
    refine owns_set ?_ m n hm
    exact owns_only (w := w) (S := [bA]) hHd (((Only.refl _ _).drewN _).setCell (by simp) _) (by intro g hg; simp at hg; subst hg; exact owns_ne hHd hA (by decide))
  have hst : stt s.heads m n = s.heads.set m n := by unfold stt; rw [if_pos ⟨by omega, by omega⟩]; rfl
  refine ⟨⟨_, rfl⟩, ⟨hM.only hall (by simp; omega) (by simp; omega), hF.only hM hall hS, h0, vd, vw, _, ?_, hrow hD hne1.1, hrow hW hne1.2, ?_, hne⟩, HK.of_only hall hS⟩
  · exact Blk.eqs (Blk.far ((hA.drewN k).set_ 11 _) hgh.symm _) rfl
  · show World.ownsRow _ _ _ _ _ (stt s.heads m n).length (ints (stt s.heads m n))
    rw [hst, List.length_set]
    exact hheads

theorem halved_cs (s : HS) : (halved s).cs = s.cs := by unfold halved; split <;> rfl
theorem halved_draws (s : HS) : (halved s).draws = s.draws := by unfold halved; split <;> rfl
theorem halved_way (s : HS) : (halved s).way = s.way := by unfold halved; split <;> rfl
theorem halved_heads (s : HS) : (halved s).heads = s.heads := by unfold halved; split <;> rfl

set_option maxRecDepth 100000 in
set_option maxHeartbeats 800000 in
theorem doHalf_up {s : HS} {vd vw vh : Value} (hR : HRv w bA H bds own s vd vw vh) (h0 : 0 ≤ s.low) (h1 : s.low < s.high) (h5 : s.high ≤ 5) (hw6 : s.way.length = 6) (hh6 : s.heads.length = 6) (hway : ∀ a ∈ s.way, 0 ≤ a ∧ a ≤ 63)
    (m : Nat) (hm : (s.low + s.high) / 2 = m) (hl : belowB bds (gt s.cs (H.hb + gt s.way m - 1)) (gt bds s.slot) = true) :
    Calls Try.prog 52 #[.pointer (some ⟨bA, 0, none⟩)] w (HPost w bA H bds own (halved { s with low := (m : Int) + 1 })) := by
  have hM := hR.1
  have hF := hR.2.1
  have hA := hR.2.2.2.1
  have hW := hR.2.2.2.2.2.1
  have hHd := hR.2.2.2.2.2.2.1
  have hHH := hF.2.2.2.2.2.1
  have hAM := hM.apart hA (by decide) (by decide)
  have hHM := hM.apart hHH (by decide) (by decide)
  have hb4 := hR.hb_le
  have hAt : AtHeap w bA H := ⟨hA.cell 0, hHH, hb4⟩
  have a0 : w.cell? ⟨bA, 0, none⟩ = some (.pointer (some ⟨H.bH, 0, none⟩)) := hA.cell 0
  have a8 : w.cell? ⟨bA, 8, none⟩ = some vw := hA.cell 8
  have a10 : w.cell? ⟨bA, 10, none⟩ = some (.int .i64 s.low) := hA.cell 10
  have a11 : w.cell? ⟨bA, 11, none⟩ = some (.int .i64 s.high) := hA.cell 11
  obtain ⟨gw, cw, ew, _, dw, _⟩ := owns_at hW (by omega)
  rw [hw6] at ew dw
  have hm5 : m < 6 := by omega
  have xw := dw m hm5
  have hwm : 0 ≤ gt s.way m ∧ gt s.way m ≤ 63 := by
    rw [gt_eq rfl (by omega)]
    refine hway _ ?_
    rw [List.getD_eq_getElem?_getD, List.getElem?_eq_getElem (by omega)]
    exact List.getElem_mem _
  rw [ew] at a8
  have e1 : IntKind.i64.wrap (s.low + s.high) = s.low + s.high := by simp only [IntKind.wrap_i64]; omega
  have e2 : 0 ≤ s.low + s.high := by omega
  have hmt : (s.low + s.high).tdiv 2 = (m : Int) := by rw [Int.tdiv_eq_ediv_of_nonneg e2]; exact hm
  have hmw : IntKind.i64.wrap (m : Int) = (m : Int) := by simp only [IntKind.wrap_i64]; omega
  clear dw
  go_enter Try.func52, Try.ntmps52
  go_wp2_with fail
  go_quiet (fail)
  go_wp2_with fail
  refine (read_any _ (by exact hAt) (by exact hM) (by omega) (by omega) hAM).mono ?_
  rintro e w1 ⟨rfl, hM1, hO1⟩
  have hp1 : HPost w bA H bds own s (.returned (.tuple #[])) w1 := hr_close (s' := s) hR hM1 (Only.un hO1) (Only.refl _ _) (Blk.only (by exact hA) hO1 hAM) rfl rfl rfl rfl _
  obtain ⟨_, hr1, hK1⟩ := hp1
  obtain ⟨vd1, vw1, vh1, hR1⟩ := hr1.named
  have hA1 := hR1.2.2.2.1
  have hHH1 := hR1.2.1.2.2.2.2.2.1
  have hPool1 := hR1.2.1.pool hR1.1
  have g13 : w1.cell? ⟨H.bH, 3, none⟩ = some (.pointer (some ⟨H.c.bP, 0, none⟩)) := hHH1.cell 3
  have b0 : w1.cell? ⟨bA, 0, none⟩ = some (.pointer (some ⟨H.bH, 0, none⟩)) := hA1.cell 0
  have b2 : w1.cell? ⟨bA, 2, none⟩ = some (.int .i64 s.slot) := hA1.cell 2
  have b10 : w1.cell? ⟨bA, 10, none⟩ = some (.int .i64 s.low) := hA1.cell 10
  have kf1 : ∀ i, w1.frozen? ⟨bA, i, none⟩ = false := hA1.frozen
  go_wp2_with fail
  go_quiet ((first | (go_at_call 75; exact Calls.quiet_of (key_any _ (by exact hPool1) (by exact b0) (by exact b2) (by exact g13))) | (go_at_call 74; exact Calls.quiet_of_same (flip_same (below_any _ _ (by exact hPool1) (by exact g13))))))
  rw [hl]
  go_wp2_with fail
  have hp3 : HPost w1 bA H bds own ({ s with low := (m : Int) + 1 } : HS) (.returned (.tuple #[])) ((w1.drewN nq).setCell ⟨bA, 10, none⟩ (.int .i64 ((m : Int) + 1))) := by
    refine hr_close (s' := ({ s with low := (m : Int) + 1 } : HS)) hR1 hR1.1 (Only.refl _ _) ?_ ?_ rfl rfl rfl rfl _
    · repeat (first | refine Only.setCell ?_ (by simp) _ | refine Only.drewN ?_ _ | refine Only.drew ?_)
      exact Only.refl _ _
    · apply Blk.eqs
      · repeat (with_reducible first | exact hA1 | apply Blk.set_ | apply Blk.drewN | apply Blk.drew)
      · rfl
  generalize hw3 : ((w1.drewN nq).setCell ⟨bA, 10, none⟩ (.int .i64 ((m : Int) + 1))) = w3 at *
  clear hw3
  obtain ⟨_, hr3, hK3⟩ := hp3
  obtain ⟨vd3, vw3, vh3, hR3⟩ := hr3.named
  refine (halved_any (H := H) (s := ({ s with low := (m : Int) + 1 } : HS)) (vd := vd3) (vw := vw3) (vh := vh3) hR3.2.2.2.1 hR3.2.2.2.2.2.1 hR3.2.2.2.2.2.2.1 hw6 hh6 (by show 0 ≤ s.high; omega) (by show s.high ≤ 5; omega)).mono ?_
  rintro e w4 ⟨⟨v, rfl⟩, hA4, hO4⟩
  go_wp2_with fail
  go_end0
  exact HPost.after hK1 (HPost.after hK3 (hr_close (s' := halved ({ s with low := (m : Int) + 1 } : HS)) hR3 hR3.1 (Only.refl _ _) hO4 hA4 (halved_cs _) (halved_draws _) (halved_way _) (halved_heads _) _))


set_option maxRecDepth 100000 in
set_option maxHeartbeats 800000 in
theorem doHalf_down {s : HS} {vd vw vh : Value} (hR : HRv w bA H bds own s vd vw vh) (h0 : 0 ≤ s.low) (h1 : s.low < s.high) (h5 : s.high ≤ 5) (hw6 : s.way.length = 6) (hh6 : s.heads.length = 6) (hway : ∀ a ∈ s.way, 0 ≤ a ∧ a ≤ 63)
    (m : Nat) (hm : (s.low + s.high) / 2 = m) (hl : belowB bds (gt s.cs (H.hb + gt s.way m - 1)) (gt bds s.slot) = false) :
    Calls Try.prog 52 #[.pointer (some ⟨bA, 0, none⟩)] w (HPost w bA H bds own (halved { s with high := (m : Int), heads := stt s.heads m (gt s.cs (H.hb + gt s.way m - 1)) })) := by
  have hM := hR.1
  have hF := hR.2.1
  have hA := hR.2.2.2.1
  have hW := hR.2.2.2.2.2.1
  have hHd := hR.2.2.2.2.2.2.1
  have hHH := hF.2.2.2.2.2.1
  have hAM := hM.apart hA (by decide) (by decide)
  have hHM := hM.apart hHH (by decide) (by decide)
  have hb4 := hR.hb_le
  have hAt : AtHeap w bA H := ⟨hA.cell 0, hHH, hb4⟩
  have a0 : w.cell? ⟨bA, 0, none⟩ = some (.pointer (some ⟨H.bH, 0, none⟩)) := hA.cell 0
  have a8 : w.cell? ⟨bA, 8, none⟩ = some vw := hA.cell 8
  have a10 : w.cell? ⟨bA, 10, none⟩ = some (.int .i64 s.low) := hA.cell 10
  have a11 : w.cell? ⟨bA, 11, none⟩ = some (.int .i64 s.high) := hA.cell 11
  obtain ⟨gw, cw, ew, _, dw, _⟩ := owns_at hW (by omega)
  rw [hw6] at ew dw
  have hm5 : m < 6 := by omega
  have xw := dw m hm5
  have hwm : 0 ≤ gt s.way m ∧ gt s.way m ≤ 63 := by
    rw [gt_eq rfl (by omega)]
    refine hway _ ?_
    rw [List.getD_eq_getElem?_getD, List.getElem?_eq_getElem (by omega)]
    exact List.getElem_mem _
  rw [ew] at a8
  have e1 : IntKind.i64.wrap (s.low + s.high) = s.low + s.high := by simp only [IntKind.wrap_i64]; omega
  have e2 : 0 ≤ s.low + s.high := by omega
  have hmt : (s.low + s.high).tdiv 2 = (m : Int) := by rw [Int.tdiv_eq_ediv_of_nonneg e2]; exact hm
  have hmw : IntKind.i64.wrap (m : Int) = (m : Int) := by simp only [IntKind.wrap_i64]; omega
  clear dw
  go_enter Try.func52, Try.ntmps52
  go_wp2_with fail
  go_quiet (fail)
  go_wp2_with fail
  refine (read_any _ (by exact hAt) (by exact hM) (by omega) (by omega) hAM).mono ?_
  rintro e w1 ⟨rfl, hM1, hO1⟩
  have hp1 : HPost w bA H bds own s (.returned (.tuple #[])) w1 := hr_close (s' := s) hR hM1 (Only.un hO1) (Only.refl _ _) (Blk.only (by exact hA) hO1 hAM) rfl rfl rfl rfl _
  obtain ⟨_, hr1, hK1⟩ := hp1
  obtain ⟨vd1, vw1, vh1, hR1⟩ := hr1.named
  have hA1 := hR1.2.2.2.1
  have hHH1 := hR1.2.1.2.2.2.2.2.1
  have hPool1 := hR1.2.1.pool hR1.1
  have g13 : w1.cell? ⟨H.bH, 3, none⟩ = some (.pointer (some ⟨H.c.bP, 0, none⟩)) := hHH1.cell 3
  have b0 : w1.cell? ⟨bA, 0, none⟩ = some (.pointer (some ⟨H.bH, 0, none⟩)) := hA1.cell 0
  have b2 : w1.cell? ⟨bA, 2, none⟩ = some (.int .i64 s.slot) := hA1.cell 2
  have b11 : w1.cell? ⟨bA, 11, none⟩ = some (.int .i64 s.high) := hA1.cell 11
  have hHd1 := hR1.2.2.2.2.2.2.1
  obtain ⟨gh, ch, eh1, _, dh, fh⟩ := owns_at hHd1 (by omega)
  have b9 : w1.cell? ⟨bA, 9, none⟩ = some (.slice (some ⟨gh, 0, none⟩) 6 ch) := by rw [← hh6, ← eh1]; exact hA1.cell 9
  have xh := dh m (by omega)
  have hghA : ¬ bA = gh := fun e => owns_ne hHd1 hA1 (by decide) (by rw [eh1, e]; rfl)
  clear dh
  have kf1 : ∀ i, w1.frozen? ⟨bA, i, none⟩ = false := hA1.frozen
  go_wp2_with fail
  go_quiet ((first | (go_at_call 75; exact Calls.quiet_of (key_any _ (by exact hPool1) (by exact b0) (by exact b2) (by exact g13))) | (go_at_call 74; exact Calls.quiet_of_same (flip_same (below_any _ _ (by exact hPool1) (by exact g13))))))
  rw [hl]
  go_wp2_with fail
  have hp3 : HPost w1 bA H bds own ({ s with high := (m : Int), heads := stt s.heads m (gt s.cs (H.hb + gt s.way m - 1)) } : HS) (.returned (.tuple #[])) (((w1.drewN nq).setCell ⟨bA, 11, none⟩ (.int .i64 m)).setCell ⟨gh, m, none⟩ (.int .i64 (gt s.cs (H.hb + gt s.way m - 1)))) := hr_heads _ _ hR1 eh1 (by omega)
  generalize hw3 : (((w1.drewN nq).setCell ⟨bA, 11, none⟩ (.int .i64 m)).setCell ⟨gh, m, none⟩ (.int .i64 (gt s.cs (H.hb + gt s.way m - 1)))) = w3 at *
  clear hw3
  obtain ⟨_, hr3, hK3⟩ := hp3
  obtain ⟨vd3, vw3, vh3, hR3⟩ := hr3.named
  refine (halved_any (H := H) (s := ({ s with high := (m : Int), heads := stt s.heads m (gt s.cs (H.hb + gt s.way m - 1)) } : HS)) (vd := vd3) (vw := vw3) (vh := vh3) hR3.2.2.2.1 hR3.2.2.2.2.2.1 hR3.2.2.2.2.2.2.1 hw6 (by show (stt _ _ _).length = 6; rw [stt_length]; exact hh6) (by show 0 ≤ (m : Int); omega) (by show (m : Int) ≤ 5; omega)).mono ?_
  rintro e w4 ⟨⟨v, rfl⟩, hA4, hO4⟩
  go_wp2_with fail
  go_end0
  exact HPost.after hK1 (HPost.after hK3 (hr_close (s' := halved ({ s with high := (m : Int), heads := stt s.heads m (gt s.cs (H.hb + gt s.way m - 1)) } : HS)) hR3 hR3.1 (Only.refl _ _) hO4 hA4 (halved_cs _) (halved_draws _) (halved_way _) (halved_heads _) _))

end
end Go.Proofs.Ytnpglcbkpbhnoaa
