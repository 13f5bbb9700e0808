/- The walks over package heap, twelfth part: New. -/
import Derived.Test.YtnpglcbkpbhnoaaHeapK
namespace Go.Proofs.Ytnpglcbkpbhnoaa
open Go.RowKit Kq

namespace Kq
/-- The cells behind k rounds of New's loop. -/
def topped (cs : List Int) (hb : Nat) : Nat → List Int
  | 0 => cs
  | k + 1 => stt (topped cs hb k) ((hb : Int) + k) (pk 0 (-1))
end Kq

section
variable {w : World} {c : Cfg} {bH hb : Nat} {cs bds own : List Int}

theorem QR.mem {w' : World} {cs' : List Int} (h : QR w c bH hb cs bds own) (hM : MemR w' c.bM c.bC c.N cs') (k : Only [c.bM, c.bC] w w') : QR w' c bH hb cs' bds own :=
  ⟨h.1.mem k hM (fun g hg => by simp at hg; rcases hg with rfl | rfl; exact .inl rfl; exact .inr (.inl rfl)), h.2.1.only k (h.1.1.apart h.2.1 (by decide) (by decide)), h.2.2⟩

def HNRel (w : World) (c : Cfg) (bH hb : Nat) (cs bds own : List Int) (i : Value) (wr : World) : Prop := ∃ k : Nat, k ≤ 63 ∧ i = .int .i64 ((k : Int) + 1) ∧ QR wr c bH hb (Kq.topped cs hb k) bds own ∧ Only [c.bM, c.bC] w wr

def HNewPost (w : World) (c : Cfg) (hb : Nat) (cs bds own : List Int) (e : Ending) (w' : World) : Prop :=
  ∃ bH, e = .returned (.tuple #[.pointer (some ⟨bH, 0, none⟩), .int .i64 0]) ∧ QR w' c bH hb (Kq.topped cs hb 63) bds own ∧ Only [c.bM, c.bC] w w'

set_option maxRecDepth 100000 in
set_option maxHeartbeats 800000 in
theorem heapnew_any (hR : PoolR w c cs bds own) (h1 : 1 ≤ c.n) (hN : hb + 63 + c.n ≤ c.N) :
    Calls Try.prog 8 #[.pointer (some ⟨c.bM, 0, none⟩), .int .i64 hb, .int .i64 6, .pointer (some ⟨c.bP, 0, none⟩)] w (HNewPost w c hb cs bds own) := by
  have hn2 := hR.2.2.2.2.1
  have hN0 : c.N ≤ 1048576 := by obtain ⟨s, k0, k1, k2, k3, b4, _, _, _, h⟩ := hR.1; exact h
  have HS := Lib.hid (slots_any hR)
  have HM := Lib.hid (size_any hR.1)
  have HCells := fun w => Lib.hid (hcells_any c.n h1 hn2 w)
  have hb1 := (Below.refl w.heap.size w).alloc (Nat.le_refl _) (.cells #[.pointer (some ⟨c.bM, 0, none⟩), .int .i64 hb, .int .i64 6, .pointer (some ⟨c.bP, 0, none⟩)] 69)
  have HA : Hid (QR (w.alloc (.cells #[.pointer (some ⟨c.bM, 0, none⟩), .int .i64 hb, .int .i64 6, .pointer (some ⟨c.bP, 0, none⟩)] 69)) c w.heap.size hb cs bds own) := Lib.hid ⟨hR.below hb1, Blk.new _ _ _, hN⟩
  have HO := Lib.hid (Only.of_below (S := [c.bM, c.bC]) hb1 rfl)
  clear hR hb1
  have hq0 : ((63 : Int) + c.n == 0) = false := by simp; omega
  have hq1 : ¬ ((63 : Int) + c.n = 0) := by omega
  go_enter Try.func8, Try.ntmps8
  go_wp2_with (first | (go_at_call 30; refine HS.out.mono ?_; rintro e w' ⟨rfl, rfl⟩) | (go_at_call 6; refine (HCells _).out.mono ?_; rintro e w' ⟨rfl, rfl⟩) | (go_at_call 26; refine HM.out.mono ?_; rintro e w' ⟨rfl, rfl⟩))
  go_loopw [12] (fun i wr => HNRel w c w.heap.size hb cs bds own i wr) (fun i wr => 64 - (intOf i).toNat)
  case atStart => exact ⟨0, by omega, rfl, HA.out, HO.out⟩
  case round =>
    obtain ⟨k, hk, rfl, hq, ho⟩ := hrel
    have HQ := Lib.hid hq
    have HOr := Lib.hid ho
    have hMr := hq.1.1
    have q0 : wr.cell? ⟨w.heap.size, 0, none⟩ = some (.pointer (some ⟨c.bM, 0, none⟩)) := hq.2.1.cell 0
    have q1 : wr.cell? ⟨w.heap.size, 1, none⟩ = some (.int .i64 hb) := hq.2.1.cell 1
    have q2 : wr.cell? ⟨w.heap.size, 2, none⟩ = some (.int .i64 6) := hq.2.1.cell 2
    clear hq ho
    have HP := Lib.hid (places_any (H := ⟨c, w.heap.size, hb, 0⟩) q2)
    have HH := Lib.hid (head_any (H := ⟨c, w.heap.size, hb, 0⟩) ((k : Int) + 1) q1 (by omega) (by omega) (by show hb ≤ 4194304; omega))
    by_cases hlt : k < 63
    · have hd : decide ((k : Int) + 1 ≤ 63) = true := by simp; omega
      have he : (hb : Int) + ((k : Int) + 1) - 1 = hb + k := by omega
      go_wp2_with (first | (go_at_call 31; refine HP.out.mono ?_; rintro e w' ⟨rfl, rfl⟩) | (go_at_call 32; refine HH.out.mono ?_; rintro e w' ⟨rfl, rfl⟩) | (go_at_call 28; refine (pack_any _ _ _).mono ?_; rintro e w' ⟨rfl, rfl⟩) | (go_at_call 27; refine (set_any _ _ (by exact hMr)).mono ?_; rintro e w1 ⟨er, rfl, hM1, hO1⟩))
      go_roundw
      case rel =>
        exact ⟨k + 1, by omega, by go_num, HQ.out.mem hM1 hO1, HOr.out.trans hO1⟩
      case measure => simp [intOf]; omega
    · have hd : decide ((k : Int) + 1 ≤ 63) = false := by simp; omega
      have hk3 : k = 63 := by omega
      clear hlt
      go_wp2_with (first | (go_at_call 31; refine HP.out.mono ?_; rintro e w' ⟨rfl, rfl⟩))
      go_ret2
      exact ⟨_, rfl, hk3 ▸ HQ.out, HOr.out⟩
end
end Go.Proofs.Ytnpglcbkpbhnoaa
