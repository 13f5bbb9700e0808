/- The walks over package mound, third part: way, sink. -/
import Derived.Test.YtnpglcbkpbhnoaaMoundB
namespace Go.Proofs.Ytnpglcbkpbhnoaa
open Go.RowKit Kq

/-- A row's cells, all stored anew. -/
theorem owns_turned {w : World} {base g n cap : Nat} {xs ys : List Int} (h : w.ownsRow base 3 1 (.slice (some ⟨g, 0, none⟩) n cap) n (ints xs)) (hl : ys.length = n) :
    (w.setCells g 0 (ints ys)).ownsRow base 3 1 (.slice (some ⟨g, 0, none⟩) n cap) n (ints ys) := by
  rcases h.2 with ⟨h1, _⟩ | ⟨g', cap', cur, h1, hg, hb, hc, hcap, hsz, htk⟩
  · cases h1
  · cases h1
    have hset := setCells_blk (ints ys) (w := w) (g := g) (t := 3) (cs := cur) 0 hb
    have hlen : 0 + (ints ys).length ≤ cur.size := by simp [ints]; omega
    have htl := setAll_toList (ints ys) cur 0 hlen
    have hszA : (setAll cur 0 (ints ys)).size = cur.size := by
      rw [← Array.length_toList, htl]; simp [ints]; omega
    refine ⟨by simp [ints, hl], .inr ⟨g, cap, _, rfl, hg, hset, hc, hcap, by rw [hszA]; exact hsz, ?_⟩⟩
    rw [htl]
    simp [ints, hl]
theorem below_setCells (vs : List Value) : ∀ {a w : World} {B g : Nat} (o : Nat), Below B a w → B ≤ g → Below B a (w.setCells g o vs) := by
  induction vs with
  | nil => intro a w B g o h _; exact h
  | cons v r ih => intro a w B g o h hg; exact ih (o + 1) (h.setCell hg v) hg

theorem below_drewN {a w : World} {B : Nat} (h : Below B a w) (k : Nat) : Below B a (w.drewN k) := ⟨h.os, h.tape, h.output, h.size, h.block⟩

def WRel (w : World) (leaf : Int) (out i : Value) (wr : World) : Prop := ∃ k : Nat, k ≤ 6 ∧ i = .int .i64 (leaf / (2 ^ k : Nat)) ∧ wr.ownsRow w.heap.size 3 1 out k (ints (upFrom leaf k)) ∧ Below w.heap.size w wr
def WayPost (w : World) (leaf : Int) (e : Ending) (w' : World) : Prop := ∃ v, e = .returned v ∧ w'.ownsRow w.heap.size 3 1 v 6 (ints (wayTo leaf)) ∧ Below w.heap.size w w'

section
variable {T : Nat} {w : World} {bO bL : Nat} {ls : ML} {size : Int}
set_option maxRecDepth 100000 in
set_option maxHeartbeats 800000 in
theorem way_any (leaf : Int) (h0 : 32 ≤ leaf) (h1 : leaf ≤ 63) (w : World) :
    Calls Try.prog 40 #[.int .i64 leaf] w (WayPost w leaf) := by
  obtain ⟨i0, hi, hz, h11, h8⟩ := info_parts int_info
  go_enter Try.func40, Try.ntmps40
  go_wp2_with fail
  have H0 : 0 < leaf := by omega
  go_loopw [3, 4] (fun out i wr => WRel w leaf out i wr) (fun _ i _ => (intOf i).toNat)
  case atStart => exact ⟨0, by omega, by simp, World.ownsRow_nil _ _ _ _, Below.refl _ _⟩
  case round =>
    obtain ⟨k, hk, rfl, hown, hbel⟩ := hrel
    by_cases hk6 : k < 6
    · have hpos : 0 < leaf / (2 ^ k : Nat) ∧ leaf / (2 ^ k : Nat) ≤ 63 := by
        rcases (show k = 0 ∨ k = 1 ∨ k = 2 ∨ k = 3 ∨ k = 4 ∨ k = 5 by omega) with rfl | rfl | rfl | rfl | rfl | rfl <;> simp <;> omega
      have HU : Hid (leaf / (2 ^ k : Nat) / 2 = leaf / (2 ^ (k + 1) : Nat)) := Lib.hid (by
        rcases (show k = 0 ∨ k = 1 ∨ k = 2 ∨ k = 3 ∨ k = 4 ∨ k = 5 by omega) with rfl | rfl | rfl | rfl | rfl | rfl <;> simp <;> omega)
      have HS2 := Lib.hid (upFrom_succ leaf k)
      obtain ⟨A, cap, rfl⟩ := owns_len hown
      have f3 : k + 1 ≤ maxLen := by unfold maxLen; omega
      have f4 : (k + 1) * 8 ≤ 140737488355328 := by omega
      have f5 : w.heap.size ≤ wr.heap.size := hbel.size
      generalize hiv : leaf / (2 ^ k : Nat) = iv at *
      clear hiv
      have hl6 : 2 * iv ≤ 126 := by omega
      go_wp2_with (at_builtin; refine wpList_append_lies _ rfl (.tmp 10) (.tmp 12) 22 rfl w.heap.size 3 i0 (.int .i64 0) 1 8 Try.underlying22 hi hz h11 h8 rfl (by decide) (.slice A k cap) k (ints (upFrom leaf k)) rfl (hown.alloc _) ⟨wr.heap.size, 0, none⟩ 1 1 [.int .i64 iv] rfl rfl (one_news _ _ _) (by simp [Value.oneCell']) (by decide) f3 f4 (by simp; omega) _ rfl ?_; intro g cap' w6 hown' hgrow hat hlt)
      go_roundw
      case rel =>
        refine ⟨k + 1, by omega, by rw [← HU.out], ?_, ?_⟩
        · rw [HS2.out]
          have e : ints (upFrom leaf k ++ [iv]) = ints (upFrom leaf k) ++ [Value.int .i64 iv] := by simp [ints]
          rw [e]
          exact hown'
        · exact (hbel.alloc hbel.size _).grown hgrow (by simp; omega) (fun k hk => (hown.lt k hk).1)
      case measure => simp [intOf]; omega
    · have hk7 : k = 6 := by omega
      subst hk7
      have e0 : leaf / (2 ^ 6 : Nat) = 0 := by simp; omega
      rw [e0]
      clear hk6
      have el : (upFrom leaf 6).length = 6 := upFrom_length _ _
      obtain ⟨gw, cw, ev5, hgw, dw, fw⟩ := owns_at (by rw [el]; exact hown) (by omega)
      subst ev5
      rw [el] at hown
      have HOwn := Lib.hid hown
      have HBel := Lib.hid hbel
      clear hown hbel hi hz h11 h8
      go_wp2_with fail
      rw [el]
      refine (Try.slices_Reverse_int_cells gw 0 6 cw (upFrom leaf 6) wr (by omega) (by omega) ?_ ?_).mono ?_
      · intro q hq
        rw [Nat.zero_add, dw q (by omega), gt_eq rfl hq]
      · intro q _; exact fw _
      rintro e w' ⟨rfl, q, rfl⟩
      have hrv := owns_turned (owns_drewN HOwn.out q) (ys := wayTo leaf) rfl
      have hbv := below_setCells (ints (wayTo leaf)) 0 (below_drewN HBel.out q) hgw
      have er : (List.map (Value.int .i64) (List.take 6 (upFrom leaf 6)).reverse) = ints (wayTo leaf) := by
        rw [List.take_of_length_le (by omega), upFrom_six]; rfl
      rw [er]
      generalize hw6 : (wr.drewN q).setCells gw 0 (ints (wayTo leaf)) = w6 at *
      go_wp2_with fail
      go_ret
      exact ⟨_, rfl, hrv, hbv⟩
end
end Go.Proofs.Ytnpglcbkpbhnoaa
