/- The walks over package heap, eleventh part: Push. -/
import Derived.Test.YtnpglcbkpbhnoaaHeapJ
namespace Go.Proofs.Ytnpglcbkpbhnoaa
open Go.RowKit Kq

/-- A slice of ints as an argument has it: it is read only. -/
def ArgI (w : World) (v : Value) (ds : List Int) : Prop :=
  ∃ A cap, v = .slice A ds.length cap ∧ ds.length ≤ cap ∧ (A = none ∧ ds = [] ∨ ∃ b off, A = some ⟨b, off, none⟩ ∧ b < w.heap.size ∧ ∀ j, j < ds.length → w.cell? ⟨b, off + j, none⟩ = some (.int .i64 (ds.getD j 0)))
theorem ArgI.below {w w' : World} {v : Value} {ds : List Int} (h : ArgI w v ds) (k : Below w.heap.size w w') : ArgI w' v ds := by
  obtain ⟨A, cap, e, hc, h⟩ := h
  refine ⟨A, cap, e, hc, ?_⟩
  rcases h with h | ⟨b, off, e1, h1, h2⟩
  · exact .inl h
  · exact .inr ⟨b, off, e1, Nat.lt_of_lt_of_le h1 k.size, fun j hj => (World.cell?_of_block (k.block b h1)).trans (h2 j hj)⟩

/-- What a clone of up to four of them gives. -/
def ClonePost (w : World) (ds : List Int) (e : Ending) (w' : World) : Prop := ∃ A cap, e = .returned (.slice A ds.length cap) ∧ w'.ownsRow w.heap.size 3 1 (.slice A ds.length cap) ds.length (ints ds) ∧ Below w.heap.size w w'

section
variable {w : World} {c : Cfg} {bH hb : Nat} {cs bds own : List Int}

theorem clone_take {A : Option Addr} {cap m k : Nat} {ds : List Int} (hm : m = ds.length) (hk : k = min m 4) (h : A = none ∧ ds = [] ∨ ∃ b off, A = some ⟨b, off, none⟩ ∧ ∀ j, j < ds.length → w.cell? ⟨b, off + j, none⟩ = some (.int .i64 (ds.getD j 0))) :
    Calls Try.prog 37 #[.slice A k cap] w (ClonePost w (ds.take 4)) := by
  subst hm hk
  rcases h with ⟨rfl, rfl⟩ | ⟨b, off, rfl, hc⟩
  · refine (Try.slices_Clone_nil _ _ _).mono ?_
    rintro e w' ⟨rfl, rfl⟩
    exact ⟨_, _, rfl, World.ownsRow_nil _ _ _ _, Below.refl _ _⟩
  · by_cases h0 : ds = []
    · subst h0
      refine (Try.slices_Clone_int_zero _ _ _).mono ?_
      rintro e w' ⟨v', rfl, ho, _, hbel⟩
      obtain ⟨A, c', rfl⟩ := owns_len ho
      exact ⟨_, _, rfl, ho, hbel⟩
    · have hl : min ds.length 4 = (ds.take 4).length := by simp; omega
      refine (Try.slices_Clone_int b off (min ds.length 4) cap (ds.take 4) w (by simp; omega) (by omega) ?_).mono ?_
      · intro j hj
        have hj' : j < ds.length ∧ j < 4 := by simp at hj; omega
        rw [hc j hj'.1]
        simp [List.getD_eq_getElem?_getD, List.getElem?_take, hj'.2]
      · rintro e w' ⟨v', rfl, ho, _, hbel⟩
        rw [hl, List.take_length] at ho
        obtain ⟨A, c', rfl⟩ := owns_len ho
        exact ⟨_, _, rfl, ho, hbel⟩

set_option maxRecDepth 100000 in
set_option maxHeartbeats 400000 in
theorem push_any {v : Value} {ds : List Int} {slot : Int} (h : QR w c bH hb cs bds own) (hv : ArgI w v ds) (h0 : 0 ≤ slot) (h1 : slot < c.n) (hbig : ds.length ≤ 140737488355328) :
    Calls Try.prog 15 #[.pointer (some ⟨bH, 0, none⟩), .int .i64 slot, v] w (HBegin w c bH hb bds own (pushStart cs slot ds)) := by
  obtain ⟨A, cap, rfl, hcap, ha⟩ := hv
  have p2 : w.cell? ⟨c.bP, 2, none⟩ = some (.slice (some ⟨c.bN, 0, none⟩) c.n c.n) := h.1.2.1.cell 2
  have q3 : w.cell? ⟨bH, 3, none⟩ = some (.pointer (some ⟨c.bP, 0, none⟩)) := h.2.1.cell 3
  have HQ := Lib.hid h
  clear h
  generalize hm : ds.length = m at *
  have HS := Lib.hid (slots_any (HQ.out.1))
  have HC := fun k hk => Lib.hid (clone_take (w := w) (A := A) (cap := cap) (m := m) (k := k) (ds := ds) hm.symm hk (ha.imp id (fun ⟨b, off, e, _, h⟩ => ⟨b, off, e, hm ▸ h⟩)))
  clear ha
  by_cases hd : ds = []
  · subst hd
    have hm0 : m = 0 := by simpa using hm.symm
    subst hm0
    have HE : Hid (pushStart cs slot [] = { pushStart cs slot [] with draws := [0] }) := Lib.hid rfl
    go_enter Try.func15, Try.ntmps15
    go_wp2_with (first | (go_at_call 30; refine HS.out.mono ?_; rintro e w' ⟨rfl, rfl⟩) | (go_at_call 37; refine (HC _ (by omega)).out.mono ?_; rintro e w1 ⟨A1, cap1, rfl, ho1, hb1⟩))
    go_ret
    have hbel := (hb1.alloc hb1.size (.cells (actCells ⟨c, bH, hb, w.heap.size⟩ (pushStart cs slot []) (.slice (some ⟨w1.heap.size + 1, 0, none⟩) 1 1) (.slice none 0 0) (.slice none 0 0)) 85)).alloc (by have := hb1.size; simp; omega) (.cells #[.int .i64 0] 3)
    have hA := (Blk.new w1 85 (actCells ⟨c, bH, hb, w.heap.size⟩ (pushStart cs slot []) (.slice (some ⟨w1.heap.size + 1, 0, none⟩) 1 1) (.slice none 0 0) (.slice none 0 0))).alloc (.cells #[.int .i64 0] 3)
    have hsz := hb1.size
    have hD := World.ownsRow_lit (base := w.heap.size) (e := 3) (size := 1) (w1.alloc (.cells (actCells ⟨c, bH, hb, w.heap.size⟩ (pushStart cs slot []) (.slice (some ⟨w1.heap.size + 1, 0, none⟩) 1 1) (.slice none 0 0) (.slice none 0 0)) 85)) #[.int .i64 0] 1 (by simp; omega) (by decide) rfl
    rw [show (w1.alloc (.cells (actCells ⟨c, bH, hb, w.heap.size⟩ (pushStart cs slot []) (.slice (some ⟨w1.heap.size + 1, 0, none⟩) 1 1) (.slice none 0 0) (.slice none 0 0)) 85)).heap.size = w1.heap.size + 1 by simp] at hD
    exact ⟨_, rfl, hr_begin HQ.out rfl hbel hA hb1.size hD rfl rfl, hbel⟩
  · have hm0 : 0 < m := by rw [← hm]; exact List.length_pos_iff.2 hd
    have hl : (ds.take 4).length = min m 4 := by simp [hm]; omega
    have hz : decide ((ds.take 4).length = 0) = false := by simp [hl]; omega
    go_enter Try.func15, Try.ntmps15
    go_wp2_with (first | (go_at_call 30; refine HS.out.mono ?_; rintro e w' ⟨rfl, rfl⟩) | (go_at_call 37; refine (HC _ (by omega)).out.mono ?_; rintro e w1 ⟨A1, cap1, rfl, ho1, hb1⟩))
    go_ret
    have HE : (pushStart cs slot ds).draws = ds.take 4 := by unfold pushStart; rw [if_neg hd]
    have hbel := hb1.alloc hb1.size (.cells (actCells ⟨c, bH, hb, w.heap.size⟩ (pushStart cs slot ds) (.slice A1 (min m 4) cap1) (.slice none 0 0) (.slice none 0 0)) 85)
    have hA := Blk.new w1 85 (actCells ⟨c, bH, hb, w.heap.size⟩ (pushStart cs slot ds) (.slice A1 (min m 4) cap1) (.slice none 0 0) (.slice none 0 0))
    have hD := ho1.alloc (.cells (actCells ⟨c, bH, hb, w.heap.size⟩ (pushStart cs slot ds) (.slice A1 (min m 4) cap1) (.slice none 0 0) (.slice none 0 0)) 85)
    rw [hl] at hD
    exact ⟨_, rfl, hr_begin HQ.out rfl hbel hA hb1.size (by rw [HE, hl]; exact hD) rfl rfl, hbel⟩
end
end Go.Proofs.Ytnpglcbkpbhnoaa
