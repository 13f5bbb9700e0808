/- The walks over package pool, fifth part: Bound, Keep. -/
import Derived.Test.YtnpglcbkpbhnoaaPoolD
import Derived.Test.YtnpglcbkpbhnoaaShelf
namespace Go.Proofs.Ytnpglcbkpbhnoaa
open Go.RowKit Kq

theorem nodeCells_length (bds : List Int) : (nodeCells bds).length = 2 * bds.length := by
  unfold nodeCells
  induction bds with
  | nil => rfl
  | cons b l ih => simp only [List.flatMap_cons, List.length_append, ih, List.length_cons, List.length_nil]; omega
theorem nodeCells_get (bds : List Int) (j : Nat) (h : j < bds.length) : (nodeCells bds)[j * 2]? = some (.slice none 0 0) ∧ (nodeCells bds)[j * 2 + 1]? = some (.int .i64 (bds.getD j 0)) := by
  unfold nodeCells
  induction bds generalizing j with
  | nil => simp at h
  | cons b l ih =>
    cases j with
    | zero => simp
    | succ k =>
      have := ih k (by simpa using h)
      rw [show (k + 1) * 2 = k * 2 + 1 + 1 from by omega]
      simpa using this
theorem nodeCells_set (bds : List Int) (j : Nat) (b : Int) (h : j < bds.length) : (((nodeCells bds).set (j * 2) (.slice none 0 0)).set (j * 2 + 1) (.int .i64 b)) = nodeCells (bds.set j b) := by
  unfold nodeCells
  induction bds generalizing j with
  | nil => simp at h
  | cons c l ih =>
    cases j with
    | zero => simp
    | succ k =>
      have := ih k (by simpa using h)
      rw [show (k + 1) * 2 = k * 2 + 1 + 1 from by omega]
      simpa using this

section
variable {w : World} {c : Cfg}

theorem bound_any {cs bds own : List Int} (slot : Int) (hR : PoolR w c cs bds own) :
    Calls Try.prog 23 #[.pointer (some ⟨c.bP, 0, none⟩), .int .i64 slot] w fun e w' => e = .returned (.int .i64 (gt bds slot)) ∧ w = w' := by
  obtain ⟨hM, hP, hN, h1, h2, _⟩ := hR
  have p2 : w.cell? ⟨c.bP, 2, none⟩ = some (.slice (some ⟨c.bN, 0, none⟩) c.n c.n) := hP.cell 2
  by_cases h0 : 0 ≤ slot ∧ slot < c.n
  · obtain ⟨h0, h3⟩ := h0
    obtain ⟨j, rfl⟩ := Int.eq_ofNat_of_zero_le h0
    have hj : j < bds.length := by omega
    have hd : decide (j < c.n) = true := by simp; omega
    have n1 : w.cell? ⟨c.bN, j * 2 + 1, none⟩ = some (.int .i64 (gt bds j)) := by
      rw [hN.cell, List.getElem?_toArray, (nodeCells_get bds j hj).2]
      unfold gt; rw [if_pos ⟨h0, by omega⟩]; rfl
    clear hM hP hN
    go_enter Try.func23, Try.ntmps23
    go_wp2
    go_ret
    exact ⟨rfl, rfl⟩
  · have hg : Hid (gt bds slot = 0) := Lib.hid (by unfold gt; rw [if_neg (by omega)])
    clear hM hP hN
    by_cases h3 : slot < 0
    · clear h0
      go_enter Try.func23, Try.ntmps23
      go_wp2
      go_ret
      exact ⟨by rw [hg.out]; rfl, rfl⟩
    · have h4 : (c.n : Int) ≤ slot := by omega
      clear h0
      obtain ⟨j, rfl⟩ := Int.eq_ofNat_of_zero_le (show 0 ≤ slot by omega)
      have hd : decide (j < c.n) = false := by simp; omega
      go_enter Try.func23, Try.ntmps23
      go_wp2
      go_ret
      exact ⟨by rw [hg.out]; rfl, rfl⟩

/-- What a copy without a path tells. -/
theorem copied_any (b : Int) :
    Calls Try.prog 36 #[.agg #[.slice none 0 0, .int .i64 b]] w fun e w' => e = .returned (.agg #[.slice none 0 0, .int .i64 b]) ∧ Below w.heap.size w w' := by
  go_enter Try.func36, Try.ntmps36
  go_wp2
  go_region_held3 (fun w' => w'.cell? ⟨w.heap.size, 0, none⟩ = some (.slice none 0 0) ∧ w'.cell? ⟨w.heap.size, 1, none⟩ = some (.int .i64 b) ∧ w'.cell? ⟨w.heap.size + 1, 0, none⟩ = some (.slice none 0 0)) (first | go_keep)
    (first | (go_at_call 37; refine (Try.slices_Clone_nil _ _ _).mono ?_; rintro e w' ⟨rfl, rfl⟩))
  go_wp2
  refine bodyPost_ret (v := .agg #[.slice none 0 0, .int .i64 b]) (by simp [results, Try.results36, go_sem]) rfl ⟨rfl, ?_⟩
  exact (((Below.refl _ _).alloc (Nat.le_refl _) _).alloc (by simp) _).drew

def KeepPost (w : World) (c : Cfg) (cs bds own : List Int) (e : Ending) (w' : World) : Prop :=
  (∃ v, e = .returned v) ∧ PoolR w' c cs bds own ∧ Keeps c.lo TP w w' ∧ Only [c.bN] w w'

theorem keep_close {cs bds own : List Int} {w1 : World} (j : Nat) (b : Int) (hR : PoolR w c cs bds own) (hj : j < c.n) (hb : Below w.heap.size w w1) :
    PoolR ((w1.setCell ⟨c.bN, j * 2, none⟩ (.slice none 0 0)).setCell ⟨c.bN, j * 2 + 1, none⟩ (.int .i64 b)) c cs (bds.set j b) own ∧
    Keeps c.lo TP w ((w1.setCell ⟨c.bN, j * 2, none⟩ (.slice none 0 0)).setCell ⟨c.bN, j * 2 + 1, none⟩ (.int .i64 b)) ∧
    Only [c.bN] w ((w1.setCell ⟨c.bN, j * 2, none⟩ (.slice none 0 0)).setCell ⟨c.bN, j * 2 + 1, none⟩ (.int .i64 b)) := by
  have hR1 := hR.below hb
  obtain ⟨hM0, _, hN0, _, _, _, h40, _⟩ := hR
  obtain ⟨hM, hP, hN, h1, h2, h3, h4, v, hW, hown, hvC, h5⟩ := hR1
  have hall : Only [c.bN] w1 ((w1.setCell ⟨c.bN, j * 2, none⟩ (.slice none 0 0)).setCell ⟨c.bN, j * 2 + 1, none⟩ (.int .i64 b)) := ((Only.refl _ _).setCell (by simp) _).setCell (by simp) _
  obtain ⟨s, k0, k1, k2, k3, b4, hMM, hC, _⟩ := id hM
  have n1 := Blk.ne_ hMM hN (by decide)
  have n2 := Blk.ne_ hC hN (by decide)
  have n3 := Blk.ne_ hP hN (by decide)
  have n4 := Blk.ne_ hW hN (by decide)
  refine ⟨⟨hM.only hall (by simp [n1]) (by simp [n2]), hP.only hall (by simp [n3]), ?_, by simpa using h1, h2, h3, h4, v, hW.only hall (by simp [n4]), owns_only hown hall ?_, hvC, h5⟩, ?_, (Only.of_below hb rfl).trans hall⟩
  · have := (hN.set_ (j * 2) (.slice none 0 0)).set_ (j * 2 + 1) (.int .i64 b)
    rw [← nodeCells_set bds j b (by omega)]
    simpa using this
  · intro g hg
    have : g = c.bN := by simpa using hg
    subst this
    exact owns_ne hown hN (by decide)
  · exact (Keeps.of_below hb).trans (Keeps.of_only hall (fun g hg => by
      have : g = c.bN := by simpa using hg
      subst this
      exact ⟨h4.2.2.2.1, _, _, hN, by decide⟩))

set_option maxRecDepth 100000 in
set_option maxHeartbeats 400000 in
theorem keep_any {cs bds own : List Int} (j : Nat) (b : Int) (hR : PoolR w c cs bds own) (hj : j < c.n) :
    Calls Try.prog 13 #[.pointer (some ⟨c.bP, 0, none⟩), .int .i64 j, .agg #[.slice none 0 0, .int .i64 b]] w (KeepPost w c cs (bds.set j b) own) := by
  have hR0 := hR
  obtain ⟨hM, hP, hN, h1, h2, _⟩ := hR
  have p2 : w.cell? ⟨c.bP, 2, none⟩ = some (.slice (some ⟨c.bN, 0, none⟩) c.n c.n) := hP.cell 2
  have hd : decide (j < c.n) = true := by simp; omega
  have hlP := hP.lt
  have hlN := hN.lt
  have hNS : ¬ c.bN = w.heap.size := by omega
  have hNP : ¬ c.bN = c.bP := Blk.ne_ hN hP (by decide)
  have hN2 : ∀ w1, Below (w.alloc (.cells #[.slice none 0 0, .int .i64 b] 45)).drew.heap.size (w.alloc (.cells #[.slice none 0 0, .int .i64 b] 45)).drew w1 → Blk w1 c.bN 45 (nodeCells bds).toArray := fun w1 hb => (hN.alloc _).of_eq (hb.block _ (by simp; omega))
  have hn0 : (nodeCells bds).toArray[j * 2]? = some (.slice none 0 0) := by rw [List.getElem?_toArray]; exact (nodeCells_get bds j (by omega)).1
  have hn1 : (nodeCells bds).toArray[j * 2 + 1]? = some (.int .i64 (bds.getD j 0)) := by rw [List.getElem?_toArray]; exact (nodeCells_get bds j (by omega)).2
  have HC : Hid (∀ w1, Below w.heap.size w w1 → _) := Lib.hid (fun w1 hb => keep_close (w1 := w1) j b hR0 hj hb)
  go_enter Try.func13, Try.ntmps13
  go_wp2
  go_region_held3 (fun w' => w'.cell? ⟨w.heap.size, 0, none⟩ = some (.slice none 0 0) ∧ w'.cell? ⟨w.heap.size, 1, none⟩ = some (.int .i64 b) ∧ w'.cell? ⟨c.bP, 2, none⟩ = some (.slice (some ⟨c.bN, 0, none⟩) c.n c.n))
    (first | exact ⟨k0, k1, k2⟩ | exact ⟨((World.cell?_setCell_other _ _ _ _ (by simp [hNS])).trans (World.cell?_setCell_other _ _ _ _ (by simp [hNS]))).trans k0, ((World.cell?_setCell_other _ _ _ _ (by simp [hNS])).trans (World.cell?_setCell_other _ _ _ _ (by simp [hNS]))).trans k1, ((World.cell?_setCell_other _ _ _ _ (by simp [hNP])).trans (World.cell?_setCell_other _ _ _ _ (by simp [hNP]))).trans k2⟩ | go_keep)
    (first | (go_at_call 36; refine (copied_any _).mono ?_; rintro e w1 ⟨rfl, hb⟩; have k0 := (hb.cell (p := ⟨w.heap.size, 0, none⟩) (by simp)).trans (World.cell?_alloc_new w _ _ 0); have k1 := (hb.cell (p := ⟨w.heap.size, 1, none⟩) (by simp)).trans (World.cell?_alloc_new w _ _ 1); have k2 := (hb.cell (p := ⟨c.bP, 2, none⟩) (by simp; omega)).trans ((hP.alloc _).cell 2); have hN1 := hN2 w1 hb; have n0 := (hN1.cell (j * 2)).trans hn0; have n1 := (hN1.cell (j * 2 + 1)).trans hn1; have nf := hN1.frozen))
  go_wp2
  go_end0
  have hb2 : Below w.heap.size w w1 := ((Below.refl _ _).alloc (Nat.le_refl _) _).drew.trans (hb.mono (by simp))
  obtain ⟨h3, h4, h5⟩ := HC.out w1 hb2
  exact ⟨⟨_, rfl⟩, h3, h4, h5⟩
end
end Go.Proofs.Ytnpglcbkpbhnoaa
