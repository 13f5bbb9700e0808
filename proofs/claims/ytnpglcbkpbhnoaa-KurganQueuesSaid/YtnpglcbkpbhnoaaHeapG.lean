/- The walks over package heap, seventh part: doProbe where a leaf fits. -/
import Derived.Test.YtnpglcbkpbhnoaaHeapF
namespace Go.Proofs.Ytnpglcbkpbhnoaa
open Go.RowKit Kq

namespace Kq
/-- Six noughts. -/
def heads0 : List Int := List.replicate 6 0
/-- The places from a leaf up, so many. -/
def upFrom (leaf : Int) (k : Nat) : List Int := (List.range k).map fun j => leaf / (2 ^ j : Nat)
end Kq

theorem upFrom_length (leaf : Int) (k : Nat) : (upFrom leaf k).length = k := by simp [upFrom]
theorem upFrom_succ (leaf : Int) (k : Nat) : upFrom leaf (k + 1) = upFrom leaf k ++ [leaf / (2 ^ k : Nat)] := by simp [upFrom, List.range_succ]
theorem upFrom_six (leaf : Int) : (upFrom leaf 6).reverse = wayTo leaf := by simp [upFrom, wayTo, List.range_succ]

section
variable {w : World} {H : HCfg} {bA : Nat} {bds own : List Int}

theorem hr_headset {s : HS} {vd vw vh : Value} {gh ch m k : Nat} (n : Int) (hR : HRv w bA H bds own s vd vw vh) (hv : vh = .slice (some ⟨gh, 0, none⟩) s.heads.length ch) (hm : m < s.heads.length) :
    HPost w bA H bds own { s with heads := stt s.heads m n } (.returned (.tuple #[])) ((w.drewN k).setCell ⟨gh, m, none⟩ (.int .i64 n)) := by
  obtain ⟨hM, hF, h0, hA, hD, hW, hHd, hne⟩ := hR
  subst hv
  have hgh : gh ≠ bA := fun e => owns_ne hHd hA (by decide) (by rw [← e]; rfl)
  have hge : H.h0 ≤ gh := (hHd.lt gh rfl).1
  have hne1 := hne gh rfl
  have hall : Only [gh] w ((w.drewN k).setCell ⟨gh, m, none⟩ (.int .i64 n)) := ((Only.refl _ _).drewN _).setCell (by simp) _
  have hlt := hF.2.2.2.2.2.2.2
  have hS : ∀ g, g ∈ [gh] → g = H.c.bM ∨ g = H.c.bC ∨ H.h0 ≤ g := by
    intro g hg
    have : g = gh := by simpa using hg
    subst this
    exact .inr (.inr hge)
  have hrow : ∀ {v : Value} {xs : List Int}, w.ownsRow H.h0 3 1 v xs.length (ints xs) → v.ownBlock ≠ some gh → ((w.drewN k).setCell ⟨gh, m, none⟩ (.int .i64 n)).ownsRow H.h0 3 1 v xs.length (ints xs) := by
    intro v xs h hv
    refine owns_only h hall ?_
    intro g hg he
    have : g = gh := by simpa using hg
    subst this
    exact hv he
  have hst : stt s.heads m n = s.heads.set m n := by unfold stt; rw [if_pos ⟨by omega, by omega⟩]; rfl
  refine ⟨⟨_, rfl⟩, ⟨hM.only hall (by simp; omega) (by simp; omega), hF.only hM hall hS, h0, vd, vw, _, ?_, hrow hD hne1.1, hrow hW hne1.2, ?_, hne⟩, HK.of_only hall hS⟩
  · exact Blk.eqs (Blk.far (hA.drewN k) hgh.symm _) rfl
  · show World.ownsRow _ _ _ _ _ (stt s.heads m n).length (ints (stt s.heads m n))
    rw [hst, List.length_set]
    exact owns_set hHd m n hm

/-- The heads made, low and high set. -/
theorem heads_made2 {s : HS} {vd vw : Value} (hR : HRv w bA H bds own s vd vw (.slice none 0 0)) :
    HRv ((((w.setCell ⟨bA, 9, none⟩ (.slice (some ⟨w.heap.size, 0, none⟩) 6 6)).setCell ⟨bA, 10, none⟩ (.int .i64 0)).setCell ⟨bA, 11, none⟩ (.int .i64 5)).alloc (.cells (ints heads0).toArray 3)) bA H bds own
      { s with heads := heads0, low := 0, high := 5 } vd vw (.slice (some ⟨w.heap.size, 0, none⟩) 6 6) ∧
    HK H w ((((w.setCell ⟨bA, 9, none⟩ (.slice (some ⟨w.heap.size, 0, none⟩) 6 6)).setCell ⟨bA, 10, none⟩ (.int .i64 0)).setCell ⟨bA, 11, none⟩ (.int .i64 5)).alloc (.cells (ints heads0).toArray 3)) := by
  have hsz := hR.size
  have hR' := hR
  obtain ⟨hM, hF, h0, hA, hD, hW, hHd, _⟩ := hR'
  have hlt := hA.lt
  have hall : Only [bA] w ((((w.setCell ⟨bA, 9, none⟩ (.slice (some ⟨w.heap.size, 0, none⟩) 6 6)).setCell ⟨bA, 10, none⟩ (.int .i64 0)).setCell ⟨bA, 11, none⟩ (.int .i64 5)).alloc (.cells (ints heads0).toArray 3)) :=
    ((((Only.refl _ _).setCell (by simp) _).setCell (by simp) _).setCell (by simp) _).alloc _
  have hb : Blk ((((w.setCell ⟨bA, 9, none⟩ (.slice (some ⟨w.heap.size, 0, none⟩) 6 6)).setCell ⟨bA, 10, none⟩ (.int .i64 0)).setCell ⟨bA, 11, none⟩ (.int .i64 5)).alloc (.cells (ints heads0).toArray 3)) w.heap.size 3 (ints heads0).toArray :=
    Blk.new' _ _ _ (by simp [World.setCell])
  have e6 : heads0.length = 6 := by simp [heads0]
  refine hr_lists (s' := { s with heads := heads0, low := 0, high := 5 }) hR hall (by intro k hk; simp at hk; subst hk; exact h0) rfl (Blk.eqs ((((hA.set_ 9 _).set_ 10 _).set_ 11 _).alloc _) rfl)
    (owns_only hD hall (by intro k hk; simp at hk; subst hk; exact owns_ne hD hA (by decide))) (owns_only hW hall (by intro k hk; simp at hk; subst hk; exact owns_ne hW hA (by decide))) ?_ ?_
  · show World.ownsRow _ _ _ _ _ heads0.length (ints heads0)
    rw [e6]
    exact ⟨by simp [ints, e6], .inr ⟨w.heap.size, 6, _, rfl, hsz, hb, Nat.le_refl _, by unfold maxLen; omega, by simp [ints, e6], by simp [ints, heads0]⟩⟩
  · intro g h
    have e : w.heap.size = g := by simpa [Value.ownBlock] using h
    subst e
    exact ⟨fun e => by have := (hD.lt _ e).2; omega, fun e => by have := (hW.lt _ e).2; omega⟩

/-- How the way stands ahead of a round. -/
def WayRel (w : World) (bA : Nat) (H : HCfg) (bds own : List Int) (s : HS) (i : Value) (wr : World) : Prop :=
  ∃ (k : Nat) (vd vw : Value), k ≤ 6 ∧ i = .int .i64 (leafOf s / (2 ^ k : Nat)) ∧ HRv wr bA H bds own { s with way := upFrom (leafOf s) k, heads := [] } vd vw (.slice none 0 0) ∧
    (∀ g, vw.ownBlock = some g → vd.ownBlock ≠ some g) ∧ HK H w wr

theorem way_start {s : HS} {vd vw vh : Value} (k : Nat) (hR : HRv w bA H bds own s vd vw vh) :
    WayRel w bA H bds own s (.int .i64 (leafOf s)) (((w.drewN k).setCell ⟨bA, 8, none⟩ (.slice none 0 0)).setCell ⟨bA, 9, none⟩ (.slice none 0 0)) := by
  have hR' := hR
  obtain ⟨hM, hF, h0, hA, hD, hW, hHd, _⟩ := hR'
  have hall : Only [bA] w (((w.drewN k).setCell ⟨bA, 8, none⟩ (.slice none 0 0)).setCell ⟨bA, 9, none⟩ (.slice none 0 0)) := (((Only.refl _ _).drewN _).setCell (by simp) _).setCell (by simp) _
  have := hr_lists (s' := { s with way := upFrom (leafOf s) 0, heads := [] }) (vd' := vd) (vw' := .slice none 0 0) (vh' := .slice none 0 0) hR hall (by intro g hg; simp at hg; subst hg; exact h0) rfl
    (Blk.eqs (((hA.drewN k).set_ 8 _).set_ 9 _) rfl) (owns_only hD hall (by intro g hg; simp at hg; subst hg; exact owns_ne hD hA (by decide))) (World.ownsRow_nil _ _ _ _) (World.ownsRow_nil _ _ _ _) (by intro g h; simp [Value.ownBlock] at h)
  exact ⟨0, vd, .slice none 0 0, by omega, by simp, this.1, by intro g h; simp [Value.ownBlock] at h, this.2⟩

set_option maxRecDepth 100000 in
set_option maxHeartbeats 1600000 in
theorem doProbe_found {s : HS} {vd vw vh : Value} (hR : HRv w bA H bds own s vd vw vh) (j : Nat) (hj : s.probe = j) (hp : j < s.draws.length) (hd4 : s.draws.length ≤ 4)
    (hl : belowB bds (gt s.cs (H.hb + leafOf s - 1)) (gt bds s.slot) = false) :
    Calls Try.prog 51 #[.pointer (some ⟨bA, 0, none⟩)] w (HPost w bA H bds own { s with way := wayTo (leafOf s), heads := [0, 0, 0, 0, 0, gt s.cs (H.hb + leafOf s - 1)], low := 0, high := 5, ph := 1 }) := by
  have hM := hR.1
  have hF := hR.2.1
  have hA := hR.2.2.2.1
  have hD := hR.2.2.2.2.1
  have hHH := hF.2.2.2.2.2.1
  have hAM := hM.apart hA (by decide) (by decide)
  have hHM := hM.apart hHH (by decide) (by decide)
  have hb4 := hR.hb_le
  have hAt : AtHeap w bA H := ⟨hA.cell 0, hHH, hb4⟩
  obtain ⟨gd, cap, ev, _, dd, _⟩ := owns_at hD (by omega)
  have a0 : w.cell? ⟨bA, 0, none⟩ = some (.pointer (some ⟨H.bH, 0, none⟩)) := hA.cell 0
  have a6 : w.cell? ⟨bA, 6, none⟩ = some (.slice (some ⟨gd, 0, none⟩) s.draws.length cap) := by rw [← ev]; exact hA.cell 6
  have a7 : w.cell? ⟨bA, 7, none⟩ = some (.int .i64 (j : Int)) := by rw [← hj]; exact hA.cell 7
  have c2 : w.cell? ⟨H.bH, 2, none⟩ = some (.int .i64 6) := hHH.cell 2
  have xd := dd j hp
  have hd : decide ((s.draws.length : Int) ≤ (j : Int)) = false := by simpa using hp
  have hd' : decide (s.draws.length ≤ j) = false := by simpa using hp
  have hjl : (j : Int) < (s.draws.length : Int) := by omega
  clear dd
  go_enter Try.func51, Try.ntmps51
  go_wp2_with fail
  go_quiet (fail)
  go_wp2_with fail
  go_quiet (fail)
  go_wp2_with fail
  rw [leaf_eq]
  have hlf : leafOf s = 32 + gt s.draws j % 32 := by unfold leafOf; rw [hj]
  rw [← hlf]
  have hlb : 32 ≤ leafOf s ∧ leafOf s ≤ 63 := by rw [hlf]; omega
  refine (read_any _ (by exact hAt) (by exact hM) (by omega) (by omega) hAM).mono ?_
  rintro e w1 ⟨rfl, hM1, hO1⟩
  have hp1 : HPost w bA H bds own s (.returned (.tuple #[])) w1 := hr_close (s' := s) hR hM1 (Only.un hO1) (Only.refl _ _) (Blk.only (by exact hA) hO1 hAM) rfl rfl rfl rfl _
  obtain ⟨_, hr1, hK1⟩ := hp1
  obtain ⟨vd1, vw1, vh1, hR1⟩ := hr1.named
  have hA1 := hR1.2.2.2.1
  have hHH1 := hR1.2.1.2.2.2.2.2.1
  have hPool1 := hR1.2.1.pool hR1.1
  have g13 : w1.cell? ⟨H.bH, 3, none⟩ = some (.pointer (some ⟨H.c.bP, 0, none⟩)) := hHH1.cell 3
  have b0 : w1.cell? ⟨bA, 0, none⟩ = some (.pointer (some ⟨H.bH, 0, none⟩)) := hA1.cell 0
  have b2 : w1.cell? ⟨bA, 2, none⟩ = some (.int .i64 s.slot) := hA1.cell 2
  have b8 : w1.cell? ⟨bA, 8, none⟩ = some vw1 := hA1.cell 8
  have b9 : w1.cell? ⟨bA, 9, none⟩ = some vh1 := hA1.cell 9
  have kf1 : ∀ i, w1.frozen? ⟨bA, i, none⟩ = false := hA1.frozen
  clear hlf
  go_wp2_with fail
  go_quiet ((first | (go_at_call 75; exact Calls.quiet_of (key_any _ (by exact hPool1) (by exact b0) (by exact b2) (by exact g13))) | (go_at_call 74; exact Calls.quiet_of_same (flip_same (below_any _ _ (by exact hPool1) (by exact g13))))))
  rw [hl]
  go_wp2_with fail
  have hst := way_start nq hR1
  obtain ⟨i0, hi, hz, h11, h8⟩ := info_parts int_info
  have hlf := hlb
  go_loopw [5] (fun i wr => WayRel w1 bA H bds own s i wr) (fun i _ => (intOf i).toNat)
  case atStart => exact hst
  case round =>
    obtain ⟨k, vd5, vw5, hk, rfl, hR5, hne5, hK5⟩ := hrel
    have hA5 := hR5.2.2.2.1
    have hW5 := hR5.2.2.2.2.2.1
    have d8 : wr.cell? ⟨bA, 8, none⟩ = some vw5 := hA5.cell 8
    have kf5 : ∀ i, wr.frozen? ⟨bA, i, none⟩ = false := hA5.frozen
    by_cases hk6 : k < 6
    · have hpos : 0 < leafOf s / (2 ^ k : Nat) ∧ leafOf s / (2 ^ k : Nat) ≤ 63 := by
        rcases (show k = 0 ∨ k = 1 ∨ k = 2 ∨ k = 3 ∨ k = 4 ∨ k = 5 by omega) with rfl | rfl | rfl | rfl | rfl | rfl <;> simp <;> omega
      have HU : Hid (leafOf s / (2 ^ k : Nat) / 2 = leafOf s / (2 ^ (k + 1) : Nat)) := Lib.hid (by
        rcases (show k = 0 ∨ k = 1 ∨ k = 2 ∨ k = 3 ∨ k = 4 ∨ k = 5 by omega) with rfl | rfl | rfl | rfl | rfl | rfl <;> simp <;> omega)
      have HS2 := Lib.hid (upFrom_succ (leafOf s) k)
      obtain ⟨A5, cap5, ev5⟩ := owns_len hW5
      have el : (upFrom (leafOf s) k).length = k := upFrom_length _ _
      subst ev5
      rw [show ({ s with way := upFrom (leafOf s) k, heads := [] } : HS).way.length = k from el] at hW5 d8 hA5 hR5 hne5
      have hW6 : wr.ownsRow H.h0 3 1 (.slice A5 k cap5) k (ints (upFrom (leafOf s) k)) := hW5
      have f3 : k + 1 ≤ maxLen := by unfold maxLen; omega
      have f4 : (k + 1) * 8 ≤ 140737488355328 := by omega
      have f5 : H.h0 ≤ wr.heap.size := hR5.size
      have hAl := hA5.lt
      have HR5 := Lib.hid hR5
      have HA5 := Lib.hid hA5
      clear hW5 hR5 hA5
      generalize hiv : leafOf s / (2 ^ k : Nat) = iv at *
      clear hiv
      go_wp2_with (at_builtin; refine wpList_append_lies _ rfl (.tmp 78) (.tmp 80) 22 rfl H.h0 3 i0 (.int .i64 0) 1 8 Try.underlying22 hi hz h11 h8 rfl (by decide) (.slice A5 k cap5) k (ints (upFrom (leafOf s) k)) rfl (hW6.alloc _) ⟨wr.heap.size, 0, none⟩ 1 1 [.int .i64 iv] rfl rfl (one_news _ _ _) (by simp [Value.oneCell']) (by decide) f3 f4 (by simp; omega) _ rfl ?_; intro g cap' w6 hown' hgrow hat hlt; have hA6 := Blk.grown (HA5.out.alloc _) hgrow (owns_ne hW6 HA5.out (by decide)); have x8 : w6.cell? ⟨bA, 8, none⟩ = some (.slice A5 k cap5) := hA6.cell 8; have xf := hA6.frozen 8)
      go_roundw
      case rel =>
        have hws := way_step (s := { s with way := upFrom (leafOf s) k, heads := [] }) HR5.out rfl hne5 iv _ g cap' (by rw [show ({ s with way := upFrom (leafOf s) k, heads := [] } : HS).way.length = k from el]; exact hown') hgrow hat
        rw [show ({ s with way := upFrom (leafOf s) k, heads := [] } : HS).way.length = k from el] at hws
        refine ⟨k + 1, vd5, .slice (some ⟨g, 0, none⟩) (k + 1) cap', by omega, ?_, ?_, ?_, hK5.trans hws.2.2⟩
        · rw [← HU.out]
        · rw [HS2.out]; exact hws.1
        · intro g' hg'
          have : g = g' := by simpa [Value.ownBlock] using hg'
          rw [← this]; exact hws.2.1
      case measure => simp [intOf]; omega
    · have hk7 : k = 6 := by omega
      subst hk7
      have e0 : leafOf s / (2 ^ 6 : Nat) = 0 := by simp; omega
      rw [e0]
      clear hk6
      obtain ⟨gw, cw, ev5, hgw, dw, fw⟩ := owns_at hW5 (by show 0 < (upFrom _ 6).length; rw [upFrom_length]; omega)
      have el : (upFrom (leafOf s) 6).length = 6 := upFrom_length _ _
      subst ev5
      rw [show ({ s with way := upFrom (leafOf s) 6, heads := [] } : HS).way.length = 6 from el] at hW5 d8 hA5 hR5 hne5 dw
      have hneg := hne5 gw rfl
      have HR5 := Lib.hid hR5
      clear hR5 hA5 hW5 hne5
      go_wp2_with fail
      refine (Try.slices_Reverse_int_cells gw 0 6 cw (upFrom (leafOf s) 6) wr (by rw [el]; omega) (by omega) ?_ ?_).mono ?_
      · intro q hq
        rw [Nat.zero_add, dw q (by rw [← el]; exact hq)]
        rw [gt_eq rfl hq]
      · intro q _; exact fw _
      rintro e w' ⟨rfl, q, rfl⟩
      have hrv := way_rev q HR5.out rfl (by show _ = Value.slice _ (upFrom (leafOf s) 6).length _; rw [el]) hneg
      have er : (List.map (Value.int .i64) (List.take 6 (upFrom (leafOf s) 6)).reverse) = ints ({ s with way := upFrom (leafOf s) 6, heads := [] } : HS).way.reverse := by
        rw [List.take_of_length_le (by rw [el]; omega)]; rfl
      rw [er]
      have hrw : ({ s with way := upFrom (leafOf s) 6, heads := [] } : HS).way.reverse = wayTo (leafOf s) := upFrom_six _
      rw [hrw] at hrv ⊢
      generalize hw6 : (wr.drewN q).setCells gw 0 (ints (wayTo (leafOf s))) = w6 at *
      clear hw6 dw fw HR5 er hrw
      obtain ⟨hR6, hK6⟩ := hrv
      have hA6 := hR6.2.2.2.1
      have hAl := hA6.lt
      have y8 : w6.cell? ⟨bA, 8, none⟩ = some (.slice (some ⟨gw, 0, none⟩) 6 cw) := hA6.cell 8
      have y9 : w6.cell? ⟨bA, 9, none⟩ = some (.slice none 0 0) := hA6.cell 9
      have y10 : w6.cell? ⟨bA, 10, none⟩ = some (.int .i64 s.low) := hA6.cell 10
      have y11 : w6.cell? ⟨bA, 11, none⟩ = some (.int .i64 s.high) := hA6.cell 11
      have yf : ∀ i, w6.frozen? ⟨bA, i, none⟩ = false := hA6.frozen
      have hmk : ∀ W : World, (Instr.makeSlice 22 (.int .i64 6) (.int .i64 6)).run Try.prog W = .ok (.slice (some ⟨W.heap.size, 0, none⟩) 6 6) (W.alloc (.cells (ints heads0).toArray 3)) := fun W => run_make_ints (P := Try.prog) 22 3 i0 Try.underlying22 hi hz h11 h8 .i64 .i64 6 (by omega) W
      have HM6 := Lib.hid (heads_made2 hR6)
      clear hi hz h11 h8 hA6 hR6
      go_wp2_with fail
      have hm7 := HM6.out
      have e6 : heads0.length = 6 := by simp [heads0]
      generalize hw7 : (((w6.setCell ⟨bA, 9, none⟩ (.slice (some ⟨w6.heap.size, 0, none⟩) 6 6)).setCell ⟨bA, 10, none⟩ (.int .i64 0)).setCell ⟨bA, 11, none⟩ (.int .i64 5)).alloc (.cells (ints heads0).toArray 3) = w7 at *
      generalize hgh : w6.heap.size = gh at *
      clear hw7 HM6 hmk y8 y9 y10 y11 yf
      obtain ⟨hR7, hK7⟩ := hm7
      have hA7 := hR7.2.2.2.1
      have hHd7 := hR7.2.2.2.2.2.2.1
      have z9 : w7.cell? ⟨bA, 9, none⟩ = some (.slice (some ⟨gh, 0, none⟩) 6 6) := hA7.cell 9
      have z11 : w7.cell? ⟨bA, 11, none⟩ = some (.int .i64 5) := hA7.cell 11
      obtain ⟨gh', ch', eh', _, dh, fh⟩ := owns_at hHd7 (by show 0 < heads0.length; omega)
      have egh : gh = gh' := by injection eh' with h _ _; injection h with h; injection h
      subst egh
      have zh := dh 5 (by show 5 < heads0.length; omega)
      have zf := fh 5
      clear dh fh
      go_region
      have hp8 : HPost w7 bA H bds own ({ s with way := wayTo (leafOf s), heads := stt heads0 5 (gt s.cs (H.hb + leafOf s - 1)), low := 0, high := 5 } : HS) (.returned (.tuple #[])) ((w7.setCell ⟨gh, 5, none⟩ (.int .i64 (gt s.cs (H.hb + leafOf s - 1)))).drew) := hr_headset (k := 1) (m := 5) (gt s.cs (H.hb + leafOf s - 1)) hR7 eh' (by show 5 < heads0.length; omega)
      generalize hw8 : ((w7.setCell ⟨gh, 5, none⟩ (.int .i64 (gt s.cs (H.hb + leafOf s - 1)))).drew) = w8 at *
      clear hw8 hA7 hHd7 z9 z11 zh zf
      obtain ⟨_, hr8, hK8⟩ := hp8
      obtain ⟨vd8, vw8, vh8, hR8⟩ := hr8.named
      have hA8 := hR8.2.2.2.1
      have q1 : w8.cell? ⟨bA, 1, none⟩ = some (.int .i64 s.ph) := hA8.cell 1
      have qf : ∀ i, w8.frozen? ⟨bA, i, none⟩ = false := hA8.frozen
      go_wp2_with fail
      have hp9 : HPost w8 bA H bds own ({ s with way := wayTo (leafOf s), heads := stt heads0 5 (gt s.cs (H.hb + leafOf s - 1)), low := 0, high := 5, ph := 1 } : HS) (.returned (.tuple #[])) (w8.setCell ⟨bA, 1, none⟩ (.int .i64 1)) := hr_close (s' := ({ s with way := wayTo (leafOf s), heads := stt heads0 5 (gt s.cs (H.hb + leafOf s - 1)), low := 0, high := 5, ph := 1 } : HS)) hR8 hR8.1 (Only.refl _ _) ((Only.refl _ _).setCell (by simp) _) (Blk.eqs (hA8.set_ 1 _) rfl) rfl rfl rfl rfl _
      generalize hw9 : (w8.setCell ⟨bA, 1, none⟩ (.int .i64 1)) = w9 at *
      clear hw9 hA8 q1 qf
      obtain ⟨_, hr9, hK9⟩ := hp9
      obtain ⟨vd9, vw9, vh9, hR9⟩ := hr9.named
      refine (halved_any (H := H) (s := ({ s with way := wayTo (leafOf s), heads := stt heads0 5 (gt s.cs (H.hb + leafOf s - 1)), low := 0, high := 5, ph := 1 } : HS)) (vd := vd9) (vw := vw9) (vh := vh9) hR9.2.2.2.1 hR9.2.2.2.2.2.1 hR9.2.2.2.2.2.2.1 rfl (by simpa [stt_length] using e6) (by show (0:Int) ≤ 5; decide) (by show (5:Int) ≤ 5; decide)).mono ?_
      rintro e w10 ⟨⟨v, rfl⟩, hA10, hO10⟩
      go_wp2_with fail
      go_end0
      have hfin : halved ({ s with way := wayTo (leafOf s), heads := stt heads0 5 (gt s.cs (H.hb + leafOf s - 1)), low := 0, high := 5, ph := 1 } : HS) = { s with way := wayTo (leafOf s), heads := [0, 0, 0, 0, 0, (gt s.cs (H.hb + leafOf s - 1))], low := 0, high := 5, ph := 1 } := by
        unfold halved
        rw [if_neg (by show ¬ ((0:Int) = 5); decide)]
        have : stt heads0 5 (gt s.cs (H.hb + leafOf s - 1)) = [0, 0, 0, 0, 0, (gt s.cs (H.hb + leafOf s - 1))] := rfl
        rw [this]
      rw [← hfin]
      exact HPost.after hK1 (HPost.after hK5 (HPost.after hK6 (HPost.after hK7 (HPost.after hK8 (HPost.after hK9 (hr_close (s' := halved ({ s with way := wayTo (leafOf s), heads := stt heads0 5 (gt s.cs (H.hb + leafOf s - 1)), low := 0, high := 5, ph := 1 } : HS)) hR9 hR9.1 (Only.refl _ _) hO10 hA10 (halved_cs _) (halved_draws _) (halved_way _) (halved_heads _) _))))))
end
end Go.Proofs.Ytnpglcbkpbhnoaa
