/- The walks over package mound, fifth part: Pop. -/
import Derived.Test.YtnpglcbkpbhnoaaMoundD
namespace Go.Proofs.Ytnpglcbkpbhnoaa
open Go.RowKit Kq

section
variable {T : Nat} {w : World} {bO bL : Nat} {ls : ML} {size : Int}

theorem MoundR.below {w' : World} (h : MoundR T w bO bL ls size) (k : Below w.heap.size w w') : MoundR T w' bO bL ls size := by
  obtain ⟨hO, hl, vs, hl0, hL, hI⟩ := h
  exact ⟨hO.of_eq (k.block _ hO.lt), hl, vs, hl0, hL.of_eq (k.block _ hL.lt), fun i hi => (hI i hi).of_same fun g cs _ hb => hb.of_eq (k.block _ hb.lt)⟩

/-- Blocks from T on may turn, but the mound's own. -/
theorem MoundR.fresh {w' : World} {S : List Nat} {B : Nat} (h : MoundR T w bO bL ls size) (hT : T ≤ B) (k : Only S w w') (hS : ∀ g, g ∈ S → B ≤ g ∧ ∃ t cs, Blk w g t cs ∧ t ≠ 72 ∧ t ≠ 88) : MoundR T w' bO bL ls size := by
  obtain ⟨hO, hl, vs, hl0, hL, hI⟩ := h
  have h1 : ∀ {g t cs}, Blk w g t cs → t = 72 ∨ t = 88 → g ∉ S := by
    intro g t cs hb ht hm
    obtain ⟨_, t', cs', hb', h1, h2⟩ := hS g hm
    obtain ⟨rfl, _⟩ := hb.inj hb'
    rcases ht with ht | ht
    · exact h1 ht
    · exact h2 ht
  exact ⟨hO.only k (h1 hO (.inl rfl)), hl, vs, hl0, hL.only k (h1 hL (.inr rfl)), fun i hi => (hI i hi).of_same fun g cs hg hb => hb.only k (fun hm => by have := (hS g hm).1; omega)⟩

/-- One place's list set anew, and the size. -/
theorem MoundR.put {w' : World} {vs : List Value} (h : MoundR T w bO bL ls size) (k : Only [bO, bL] w w') (i : Nat) (l : List Itm) (v : Value) (size' : Int) (hO : Blk w' bO 72 #[.slice (some ⟨bL, 0, none⟩) 64 64, .int .i64 size'])
    (hL0 : Blk w bL 88 vs.toArray) (hL : Blk w' bL 88 (vs.set i v).toArray) (hv : ItemsAt T w' v l) (hi : i < 64) : MoundR T w' bO bL (ls.set i l) size' := by
  obtain ⟨hO0, hl, vs0, hl0, hL00, hI⟩ := h
  obtain ⟨_, e⟩ := hL0.inj hL00
  have e2 : vs = vs0 := by simpa using e
  subst e2
  refine ⟨hO, by simp [hl], _, by simp [hl0], hL, ?_⟩
  intro j hj
  have hI' := fun m (hm : m < 64) => (hI m hm).only k (fun g hg => by
    simp at hg
    rcases hg with rfl | rfl
    · exact ⟨_, _, hO0, by decide⟩
    · exact ⟨_, _, hL0, by decide⟩)
  unfold at1
  simp only [List.getD_eq_getElem?_getD, List.getElem?_set, List.length_set, hl, hl0]
  by_cases e2 : i = j
  · subst e2
    simpa [hi] using hv
  · simpa [e2, at1, List.getD_eq_getElem?_getD] using hI' j hj

set_option maxRecDepth 100000 in
set_option maxHeartbeats 800000 in
theorem mpop_any {x : Itm} {l' : List Itm} (h : MoundR T w bO bL ls size) (hT : T ≤ w.heap.size) (hl : at1 ls 1 = x :: l') (hs : 0 < size) (hs2 : size ≤ 4096) :
    Calls Try.prog 21 #[.pointer (some ⟨bO, 0, none⟩)] w fun e w' => e = .returned (.tuple #[.agg #[.int .i64 x.1, .int .i64 x.2], .bool true]) ∧ MoundR T w' bO bL (mPop ls) (size - 1) ∧ Only [bO, bL] w w' := by
  have hA := (Below.refl w.heap.size w).alloc (Nat.le_refl _) (.cells #[.int .i64 0, .int .i64 0] 52)
  have HMin := min_any (h.below hA)
  rw [hl] at HMin
  have HMin := Lib.hid HMin
  have HH := Lib.hid (h.below hA)
  have HX : Blk (w.alloc (.cells #[.int .i64 0, .int .i64 0] 52)) w.heap.size 52 #[.int .i64 0, .int .i64 0] := Blk.new _ _ _
  have HE := Lib.hid hl
  clear h hl
  go_enter Try.func21, Try.ntmps21
  go_wp2_with fail
  refine HMin.out.mono ?_
  rintro e w1 ⟨rfl, hb⟩
  simp only [minV]
  have HX1 := HX.of_eq (hb.block _ HX.lt)
  have hO := (HH.out.below hb).1
  have m0 : w1.cell? ⟨bO, 0, none⟩ = some (.slice (some ⟨bL, 0, none⟩) 64 64) := hO.cell 0
  have m1 : w1.cell? ⟨bO, 1, none⟩ = some (.int .i64 size) := hO.cell 1
  have x0 : w1.cell? ⟨w.heap.size, 0, none⟩ = some (.int .i64 0) := HX1.cell 0
  have x1 : w1.cell? ⟨w.heap.size, 1, none⟩ = some (.int .i64 0) := HX1.cell 1
  have fX0 := HX1.frozen 0
  have fX1 := HX1.frozen 1
  have fO0 := hO.frozen 0
  have fO1 := hO.frozen 1
  have HM1 := Lib.hid (HH.out.below hb)
  obtain ⟨vs, hvl, hL, hIs⟩ := HM1.out.2.2
  have fL := hL.frozen 1
  have nOX : bO ≠ w.heap.size := Blk.ne_ hO HX1 (by decide)
  have nLX : bL ≠ w.heap.size := Blk.ne_ hL HX1 (by decide)
  have nOL : bO ≠ bL := Blk.ne_ hO hL (by decide)
  have ltL := hL.lt
  have ltO := hO.lt
  have ltX := HX1.lt
  have hv : w1.cell? ⟨bL, 1, none⟩ = some (vs.getD 1 (.slice none 0 0)) := by
    rw [hL.cell 1, List.getElem?_toArray]; simp [List.getElem?_eq_getElem (show 1 < vs.length by omega)]
  have hI1 := hIs 1 (by decide)
  rw [HE.out] at hI1
  obtain ⟨A, cap, ev, hcap, hII⟩ := hI1
  rw [ev] at hv
  rcases hII with hII | ⟨g, off, cs, rfl, ⟨hgT, hgB⟩, hII⟩
  · cases hII
  have HII := Lib.hid hII
  have HL := Lib.hid hL
  have HO2 := Lib.hid hO
  have HIs := Lib.hid hIs
  have HG := Lib.hid hgB
  generalize hn : (x :: l').length = n at *
  have HN : Hid (l'.length = n - 1 ∧ 0 < n) := Lib.hid (by rw [← hn]; exact ⟨rfl, Nat.succ_pos _⟩)
  have hn0 : 0 < n := HN.out.2
  clear hII hL hO hIs hgB ev hn
  go_wp2_with fail
  go_region
  generalize hA2 : (if cap = 1 then some (⟨g, off, none⟩ : Addr) else some ⟨g, off + 2, none⟩) = A2
  have HA2 := Lib.hid hA2
  clear hA2
  go_wp2_with fail
  have HXW : Blk ((((w1.setCell ⟨bL, 1, none⟩ (Value.slice A2 (n - 1) (cap - 1))).setCell ⟨bO, 1, none⟩ (.int .i64 (size - 1))).alloc (.cells #[.int .i64 x.1, .int .i64 x.2] 52)).drew) w1.heap.size 52 #[.int .i64 x.1, .int .i64 x.2] := Blk.drew (Blk.new' _ _ _ (by simp [World.setCell]))
  have hWo : Only [bO, bL] w1 ((((w1.setCell ⟨bL, 1, none⟩ (Value.slice A2 (n - 1) (cap - 1))).setCell ⟨bO, 1, none⟩ (.int .i64 (size - 1))).alloc (.cells #[.int .i64 x.1, .int .i64 x.2] 52)).drew) := ((((Only.refl _ _).setCell (by simp) _).setCell (by simp) _).alloc _).drew
  have hOW : Blk ((((w1.setCell ⟨bL, 1, none⟩ (Value.slice A2 (n - 1) (cap - 1))).setCell ⟨bO, 1, none⟩ (.int .i64 (size - 1))).alloc (.cells #[.int .i64 x.1, .int .i64 x.2] 52)).drew) bO 72 #[.slice (some ⟨bL, 0, none⟩) 64 64, .int .i64 (size - 1)] := Blk.eqs ((((HO2.out.far nOL _).set_ 1 _).alloc _).drew) rfl
  have hLW : Blk ((((w1.setCell ⟨bL, 1, none⟩ (Value.slice A2 (n - 1) (cap - 1))).setCell ⟨bO, 1, none⟩ (.int .i64 (size - 1))).alloc (.cells #[.int .i64 x.1, .int .i64 x.2] 52)).drew) bL 88 (vs.set 1 (Value.slice A2 (n - 1) (cap - 1))).toArray := Blk.eqs ((((HL.out.set_ 1 _).far (Ne.symm nOL) _).alloc _).drew) (by simp)
  have hgW : Blk ((((w1.setCell ⟨bL, 1, none⟩ (Value.slice A2 (n - 1) (cap - 1))).setCell ⟨bO, 1, none⟩ (.int .i64 (size - 1))).alloc (.cells #[.int .i64 x.1, .int .i64 x.2] 52)).drew) g 52 cs := (((HG.out.far (Blk.ne_ HG.out HL.out (by decide)) _).far (Blk.ne_ HG.out HO2.out (by decide)) _).alloc _).drew
  have hRW : Blk ((((w1.setCell ⟨bL, 1, none⟩ (Value.slice A2 (n - 1) (cap - 1))).setCell ⟨bO, 1, none⟩ (.int .i64 (size - 1))).alloc (.cells #[.int .i64 x.1, .int .i64 x.2] 52)).drew) w.heap.size 52 #[.int .i64 0, .int .i64 0] := (((HX1.far (Ne.symm nLX) _).far (Ne.symm nOX) _).alloc _).drew
  generalize hW : ((((w1.setCell ⟨bL, 1, none⟩ (Value.slice A2 (n - 1) (cap - 1))).setCell ⟨bO, 1, none⟩ (.int .i64 (size - 1))).alloc (.cells #[.int .i64 x.1, .int .i64 x.2] 52)).drew) = W at *
  clear hW
  have hIt : ItemsAt T W (Value.slice A2 (n - 1) (cap - 1)) l' := by
    refine ⟨A2, cap - 1, by rw [HN.out.1], by have := HN.out; omega, ?_⟩
    by_cases h1 : l' = []
    · exact .inl h1
    · have hl0 : 0 < l'.length := List.length_pos_iff.2 h1
      have hne : cap ≠ 1 := by have := HN.out.1; omega
      refine .inr ⟨g, off + 2, cs, by rw [← HA2.out, if_neg hne], ⟨hgT, hgW⟩, fun j hj => ?_⟩
      have := HII.out (j + 1) (by have := HN.out; omega)
      rw [show off + 2 + 2 * j = off + 2 * (j + 1) by omega]
      simpa using this
  have hMW := HM1.out.put hWo 1 l' _ (size - 1) hOW HL.out hLW hIt (by decide)
  have HSnk := Lib.hid (sink_any hMW)
  have HPop : Hid (mSink (ls.set 1 l') 1 6 = mPop ls) := Lib.hid (by unfold mPop; rw [HE.out]; rfl)
  have nLR : bL ≠ w.heap.size := Blk.ne_ hLW hRW (by decide)
  have nLXX : bL ≠ w1.heap.size := Blk.ne_ hLW HXW (by decide)
  have HWo := Lib.hid hWo
  clear hgW hIt hMW hWo
  refine HSnk.out.mono ?_
  rintro e w2 ⟨⟨v, rfl⟩, hM2, hO2⟩
  have hX2 := HXW.only hO2 (by simp [Ne.symm nLXX])
  have hR2 := hRW.only hO2 (by simp [Ne.symm nLR])
  have y0 : w2.cell? ⟨w1.heap.size, 0, none⟩ = some (.int .i64 x.1) := hX2.cell 0
  have y1 : w2.cell? ⟨w1.heap.size, 1, none⟩ = some (.int .i64 x.2) := hX2.cell 1
  have r0 : w2.cell? ⟨w.heap.size, 0, none⟩ = some (.int .i64 0) := hR2.cell 0
  have r1 : w2.cell? ⟨w.heap.size, 1, none⟩ = some (.int .i64 0) := hR2.cell 1
  have rf0 := hR2.frozen 0
  have rf1 := hR2.frozen 1
  have ltR := hR2.lt
  clear x0 x1 fX0 fX1 hX2
  rw [HPop.out] at hM2
  have HM2 := Lib.hid hM2
  have HO3 := Lib.hid hO2
  have HR2 := Lib.hid hR2
  clear hM2 hO2 hR2 hLW hOW HXW hRW
  go_wp2_with fail
  have ho3 : Only [w.heap.size] w2 ((w2.setCell ⟨w.heap.size, 0, none⟩ (.int .i64 x.1)).setCell ⟨w.heap.size, 1, none⟩ (.int .i64 x.2)) := ((Only.refl _ _).setCell (by simp) _).setCell (by simp) _
  have hM3 := HM2.out.fresh hT ho3 (fun g hg => by simp at hg; subst hg; exact ⟨Nat.le_refl _, _, _, HR2.out, by decide, by decide⟩)
  have hall : Only [bO, bL] w ((w2.setCell ⟨w.heap.size, 0, none⟩ (.int .i64 x.1)).setCell ⟨w.heap.size, 1, none⟩ (.int .i64 x.2)) :=
    ((((Only.of_below hA rfl).trans (Only.of_below hb rfl)).trans HWo.out).trans' HO3.out (by simp)).trans' ho3 (by simp)
  refine bodyPost_ret (v := .tuple #[.agg #[.int .i64 x.1, .int .i64 x.2], .bool true]) ?_ rfl ⟨rfl, hM3, hall⟩
  rw [results_cell_tmp rfl]
  go_simp
end
end Go.Proofs.Ytnpglcbkpbhnoaa
