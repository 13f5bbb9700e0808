/- The walks over package pool, fourth part: Step, Take, Give, Slot, Bound, Slots. -/
import Derived.Test.YtnpglcbkpbhnoaaPoolC
namespace Go.Proofs.Ytnpglcbkpbhnoaa
open Go.RowKit Kq

section
variable {w : World} {c : Cfg} {bA : Nat}

def PStep (w : World) (bA : Nat) (c : Cfg) (cs bds own : List Int) (give : Bool) (slot ph top next : Int) (e : Ending) (w' : World) : Prop :=
  e = .returned (.bool (ph == 3)) ∧ PoolR w' c cs bds own ∧ ActR w' bA c give slot ph top next ∧ Keeps c.lo TP w w'

theorem fpost_of_step {cs cs' bds own : List Int} {give give' : Bool} {slot ph top next slot' ph' top' next' : Int} {e : Ending} {w' : World} (hlA : c.lo ≤ bA) (hA : ActR w bA c give slot ph top next) (hR : PoolR w c cs bds own)
    (h : StepPost w bA c cs' give' slot' ph' top' next' e w') : FPost w bA c cs' bds own give' slot' ph' top' next' e w' := by
  obtain ⟨h0, hM, hA', hall⟩ := h
  obtain ⟨hM0, _, _, _, _, _, h4, _⟩ := id hR
  obtain ⟨s, k0, k1, k2, k3, b4, hMM, hC, _⟩ := id hM0
  refine ⟨h0, hR.mem hall hM ?_, hA', Keeps.of_only hall ?_⟩
  · intro g hg
    simp only [List.mem_cons, List.not_mem_nil, or_false] at hg
    rcases hg with rfl | rfl | rfl
    · exact .inr (.inr ⟨_, _, hA, by decide⟩)
    · exact .inl rfl
    · exact .inr (.inl rfl)
  · intro g hg
    simp only [List.mem_cons, List.not_mem_nil, or_false] at hg
    rcases hg with rfl | rfl | rfl
    · exact ⟨hlA, _, _, hA, by decide⟩
    · exact ⟨h4.1, _, _, hMM, by decide⟩
    · exact ⟨h4.2.1, _, _, hC, by decide⟩

theorem step_first {cs bds own : List Int} {g0 give : Bool} {s0 t0 n0 slot ph top next : Int} (hA : ActR w bA c g0 s0 0 t0 n0)
    (h : Calls Try.prog 48 #[.pointer (some ⟨bA, 0, none⟩)] w (FPost w bA c cs bds own give slot ph top next)) :
    Calls Try.prog 34 #[.pointer (some ⟨bA, 0, none⟩)] w (PStep w bA c cs bds own give slot ph top next) := by
  have a4 : w.cell? ⟨bA, 4, none⟩ = some (.int .i64 0) := Blk.cell hA 4
  have H := Lib.hid h
  clear h
  go_enter Try.func34, Try.ntmps34
  go_wp2_with fail
  refine H.out.mono ?_
  rintro e w1 ⟨⟨v, rfl⟩, hR1, hA1, hK⟩
  have k4 : w1.cell? ⟨bA, 4, none⟩ = some (.int .i64 ph) := Blk.cell hA1 4
  go_wp2_with fail
  go_ret
  exact ⟨rfl, hR1, hA1, hK⟩

theorem step_second {cs bds own : List Int} {g0 give : Bool} {s0 t0 n0 slot ph top next : Int} (hA : ActR w bA c g0 s0 1 t0 n0)
    (h : Calls Try.prog 49 #[.pointer (some ⟨bA, 0, none⟩)] w (FPost w bA c cs bds own give slot ph top next)) :
    Calls Try.prog 34 #[.pointer (some ⟨bA, 0, none⟩)] w (PStep w bA c cs bds own give slot ph top next) := by
  have a4 : w.cell? ⟨bA, 4, none⟩ = some (.int .i64 1) := Blk.cell hA 4
  have H := Lib.hid h
  clear h
  go_enter Try.func34, Try.ntmps34
  go_wp2_with fail
  refine H.out.mono ?_
  rintro e w1 ⟨⟨v, rfl⟩, hR1, hA1, hK⟩
  have k4 : w1.cell? ⟨bA, 4, none⟩ = some (.int .i64 ph) := Blk.cell hA1 4
  go_wp2_with fail
  go_ret
  exact ⟨rfl, hR1, hA1, hK⟩

theorem step_third {cs bds own : List Int} {g0 give : Bool} {s0 t0 n0 slot ph top next : Int} (hA : ActR w bA c g0 s0 2 t0 n0)
    (h : Calls Try.prog 50 #[.pointer (some ⟨bA, 0, none⟩)] w (FPost w bA c cs bds own give slot ph top next)) :
    Calls Try.prog 34 #[.pointer (some ⟨bA, 0, none⟩)] w (PStep w bA c cs bds own give slot ph top next) := by
  have a4 : w.cell? ⟨bA, 4, none⟩ = some (.int .i64 2) := Blk.cell hA 4
  have H := Lib.hid h
  clear h
  go_enter Try.func34, Try.ntmps34
  go_wp2_with fail
  refine H.out.mono ?_
  rintro e w1 ⟨⟨v, rfl⟩, hR1, hA1, hK⟩
  have k4 : w1.cell? ⟨bA, 4, none⟩ = some (.int .i64 ph) := Blk.cell hA1 4
  go_wp2_with fail
  go_ret
  exact ⟨rfl, hR1, hA1, hK⟩

/-- An act as it begins. -/
def BeginPost (w : World) (c : Cfg) (cs bds own : List Int) (give : Bool) (slot : Int) (e : Ending) (w' : World) : Prop :=
  ∃ b, e = .returned (.pointer (some ⟨b, 0, none⟩)) ∧ w.heap.size ≤ b ∧ PoolR w' c cs bds own ∧ ActR w' b c give slot 0 0 0 ∧ Below w.heap.size w w'

theorem PoolR.below {w w' : World} {cs bds own : List Int} (h : PoolR w c cs bds own) (hb : Below w.heap.size w w') : PoolR w' c cs bds own :=
  h.mem (S := []) (Only.of_below hb rfl) (h.1.only (S := []) (Only.of_below hb rfl) (by simp) (by simp)) (by simp)

theorem take_any {cs bds own : List Int} (hR : PoolR w c cs bds own) :
    Calls Try.prog 11 #[.pointer (some ⟨c.bP, 0, none⟩), .int .i64 0] w (BeginPost w c cs bds own false (-1)) := by
  have hP := hR.2.1
  have p3 : w.cell? ⟨c.bP, 3, none⟩ = some (.slice (some ⟨c.bW, 0, none⟩) 1 1) := hP.cell 3
  go_enter Try.func11, Try.ntmps11
  go_wp2
  go_ret
  have hb := (Below.refl w.heap.size w).alloc (Nat.le_refl _) (.cells #[.pointer (some ⟨c.bP, 0, none⟩), .int .i64 0, .bool false, .int .i64 (-1), .int .i64 0, .int .i64 0, .int .i64 0] 77)
  exact ⟨_, rfl, Nat.le_refl _, hR.below hb, Blk.new _ _ _, hb⟩

theorem give_any {cs bds own : List Int} (slot : Int) (hR : PoolR w c cs bds own) (h0 : 0 ≤ slot) (h1 : slot < c.n) :
    Calls Try.prog 18 #[.pointer (some ⟨c.bP, 0, none⟩), .int .i64 0, .int .i64 slot] w (BeginPost w c cs bds own true slot) := by
  have hP := hR.2.1
  have p2 : w.cell? ⟨c.bP, 2, none⟩ = some (.slice (some ⟨c.bN, 0, none⟩) c.n c.n) := hP.cell 2
  have p3 : w.cell? ⟨c.bP, 3, none⟩ = some (.slice (some ⟨c.bW, 0, none⟩) 1 1) := hP.cell 3
  go_enter Try.func18, Try.ntmps18
  go_wp2
  go_ret
  have hb := (Below.refl w.heap.size w).alloc (Nat.le_refl _) (.cells #[.pointer (some ⟨c.bP, 0, none⟩), .int .i64 0, .bool true, .int .i64 slot, .int .i64 0, .int .i64 0, .int .i64 0] 77)
  exact ⟨_, rfl, Nat.le_refl _, hR.below hb, Blk.new _ _ _, hb⟩

theorem slot_any {give : Bool} {slot top next : Int} (hA : ActR w bA c give slot 3 top next) :
    Calls Try.prog 14 #[.pointer (some ⟨bA, 0, none⟩)] w fun e w' => e = .returned (.int .i64 slot) ∧ w = w' := by
  have a3 : w.cell? ⟨bA, 3, none⟩ = some (.int .i64 slot) := Blk.cell hA 3
  have a4 : w.cell? ⟨bA, 4, none⟩ = some (.int .i64 3) := Blk.cell hA 4
  go_enter Try.func14, Try.ntmps14
  go_wp2
  go_ret
  exact ⟨rfl, rfl⟩

theorem slots_any {cs bds own : List Int} (hR : PoolR w c cs bds own) :
    Calls Try.prog 30 #[.pointer (some ⟨c.bP, 0, none⟩)] w fun e w' => e = .returned (.int .i64 c.n) ∧ w = w' := by
  have hP := hR.2.1
  have p2 : w.cell? ⟨c.bP, 2, none⟩ = some (.slice (some ⟨c.bN, 0, none⟩) c.n c.n) := hP.cell 2
  go_enter Try.func30, Try.ntmps30
  go_wp2
  go_ret
  exact ⟨rfl, rfl⟩
end
end Go.Proofs.Ytnpglcbkpbhnoaa
