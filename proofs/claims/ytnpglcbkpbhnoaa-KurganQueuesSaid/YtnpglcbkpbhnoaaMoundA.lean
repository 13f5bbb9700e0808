/- The walks over package mound, first part: what a mound is in memory; fits, less, leaves, Min. -/
import Derived.Test.YtnpglcbkpbhnoaaWords
import Derived.Test.YtnpglcbkpbhnoaaMPure
import Derived.Test.YtnpglcbkpbhnoaaKeep
import Derived.Laws.ResultCell
namespace Go.Proofs.Ytnpglcbkpbhnoaa
open Go.RowKit Kq

/-- A list of items as a slice has it: its block is of items, and is read only. -/
def ItemsAt (T : Nat) (w : World) (v : Value) (l : List Itm) : Prop :=
  ∃ A cap, v = .slice A l.length cap ∧ l.length ≤ cap ∧ (l = [] ∨ ∃ g off cs, A = some ⟨g, off, none⟩ ∧ (g < T ∧ Blk w g 52 cs) ∧
    ∀ j, j < l.length → cs[off + 2 * j]? = some (.int .i64 (l.getD j (0, 0)).1) ∧ cs[off + 2 * j + 1]? = some (.int .i64 (l.getD j (0, 0)).2))

def MoundR (T : Nat) (w : World) (bO bL : Nat) (ls : ML) (size : Int) : Prop :=
  Blk w bO 72 #[.slice (some ⟨bL, 0, none⟩) 64 64, .int .i64 size] ∧ ls.length = 64 ∧
    ∃ vs : List Value, vs.length = 64 ∧ Blk w bL 88 vs.toArray ∧ ∀ i, i < 64 → ItemsAt T w (vs.getD i (.slice none 0 0)) (at1 ls i)

section
variable {T : Nat} {w : World} {bO bL : Nat} {ls : ML} {size : Int}

theorem ItemsAt.of_same {w' : World} {v : Value} {l : List Itm} (h : ItemsAt T w v l) (k : ∀ g cs, g < T → Blk w g 52 cs → Blk w' g 52 cs) : ItemsAt T w' v l := by
  obtain ⟨A, cap, e, hc, h⟩ := h
  refine ⟨A, cap, e, hc, ?_⟩
  rcases h with h | ⟨g, off, cs, e1, hb, h⟩
  · exact .inl h
  · exact .inr ⟨g, off, cs, e1, ⟨hb.1, k g cs hb.1 hb.2⟩, h⟩

/-- What place i has, as cells. -/
theorem MoundR.at_ (h : MoundR T w bO bL ls size) (i : Nat) (hi : i < 64) : ∃ v, w.cell? ⟨bL, i, none⟩ = some v ∧ ItemsAt T w v (at1 ls i) := by
  obtain ⟨_, _, vs, hl, hL, hv⟩ := h
  refine ⟨vs.getD i (.slice none 0 0), ?_, hv i hi⟩
  rw [hL.cell i, List.getElem?_toArray]
  simp [List.getElem?_eq_getElem (show i < vs.length by omega)]

/-- What the walk asks of one place: no items, or the first one's key. -/
theorem ItemsAt.cases {v : Value} {l : List Itm} (h : ItemsAt T w v l) :
    (l = [] ∧ ∃ A cap, v = .slice A 0 cap) ∨ (∃ x l', l = x :: l' ∧ ∃ g off n cap, v = .slice (some ⟨g, off, none⟩) n cap ∧ Hid (n = l.length) ∧ 0 < n ∧ n ≤ cap ∧ g < w.heap.size ∧ w.cell? ⟨g, off, none⟩ = some (.int .i64 x.1) ∧ w.cell? ⟨g, off + 1, none⟩ = some (.int .i64 x.2)) := by
  obtain ⟨A, cap, e, hc, h⟩ := h
  cases l with
  | nil => exact .inl ⟨rfl, A, cap, e⟩
  | cons x l' =>
    rcases h with h | ⟨g, off, cs, rfl, ⟨_, hb⟩, h⟩
    · cases h
    · have h0 := h 0 (by simp)
      refine .inr ⟨x, l', rfl, g, off, _, cap, e, Lib.hid rfl, by simp, hc, hb.lt, ?_, ?_⟩
      · rw [hb.cell]; simpa using h0.1
      · rw [hb.cell]; simpa using h0.2

set_option maxRecDepth 100000 in
theorem mfits_any (h : MoundR T w bO bL ls size) (i : Nat) (hi : i < 64) (key : Int) :
    Calls Try.prog 41 #[.pointer (some ⟨bO, 0, none⟩), .int .i64 i, .int .i64 key] w fun e w' => e = .returned (.bool (fitsL (at1 ls i) key)) ∧ w = w' := by
  obtain ⟨v, hv, hI⟩ := h.at_ i hi
  have m0 : w.cell? ⟨bO, 0, none⟩ = some (.slice (some ⟨bL, 0, none⟩) 64 64) := h.1.cell 0
  clear h
  rcases hI.cases with ⟨e, A, cap, rfl⟩ | ⟨x, l', e, g, off, n, cap, rfl, _, hn, hc, hgl, d0, d1⟩
  · rw [e]
    go_enter Try.func41, Try.ntmps41
    go_wp2_with fail
    go_ret
    exact ⟨rfl, rfl⟩
  · rw [e]
    have hz : decide (n = 0) = false := by simp; omega
    have hz3 : ((n : Int) == 0) = false := by simp; omega
    go_enter Try.func41, Try.ntmps41
    go_wp2_with fail
    go_ret
    exact ⟨by show _ = Ending.returned (.bool (decide (key ≤ x.1))); simp [hz3], rfl⟩

set_option maxRecDepth 100000 in
set_option maxHeartbeats 1000000 in
theorem mless_any (h : MoundR T w bO bL ls size) (i k : Nat) (hi : i < 64) (hk : k < 64) :
    Calls Try.prog 68 #[.pointer (some ⟨bO, 0, none⟩), .int .i64 i, .int .i64 k] w fun e w' => e = .returned (.bool (lessL (at1 ls i) (at1 ls k))) ∧ ∃ n, w' = w.drewN n := by
  obtain ⟨v, hv, hI⟩ := h.at_ i hi
  obtain ⟨u, hu, hJ⟩ := h.at_ k hk
  have m0 : w.cell? ⟨bO, 0, none⟩ = some (.slice (some ⟨bL, 0, none⟩) 64 64) := h.1.cell 0
  clear h
  rcases hI.cases with ⟨e, A, cap, rfl⟩ | ⟨x, l', e, g, off, n, cap, rfl, _, hn, hc, hgl, d0, d1⟩
  · rw [e]
    have hz : lessL [] (at1 ls k) = false := rfl
    rw [hz]
    clear hI hJ
    go_enter Try.func68, Try.ntmps68
    go_wp2_with fail
    go_quiet (fail)
    go_wp2_with fail
    go_ret
    exact ⟨rfl, _, rfl⟩
  · rcases hJ.cases with ⟨e', A', cap', rfl⟩ | ⟨x', l'', e', g', off', n', cap', rfl, _, hn', hc', hgl', d0', d1'⟩
    · rw [e, e']
      have hz : decide (0 < n) = true := by simp; omega
      clear hI hJ
      go_enter Try.func68, Try.ntmps68
      go_wp2_with fail
      go_quiet (fail)
      go_wp2_with fail
      go_ret
      exact ⟨rfl, _, rfl⟩
    · rw [e, e']
      have hz : decide (0 < n) = true := by simp; omega
      have hz2 : decide (n' = 0) = false := by simp; omega
      have hz3 : ((n' : Int) == 0) = false := by simp; omega
      have hz4 : decide (0 < n') = true := by simp; omega
      clear hI hJ
      go_enter Try.func68, Try.ntmps68
      go_wp2_with fail
      go_quiet (fail)
      go_wp2_with fail
      go_ret
      exact ⟨rfl, _, rfl⟩

/-- What Min gives. -/
def minV : List Itm → Value
  | [] => .tuple #[.agg #[.int .i64 0, .int .i64 0], .bool false]
  | x :: _ => .tuple #[.agg #[.int .i64 x.1, .int .i64 x.2], .bool true]

set_option maxRecDepth 100000 in
theorem min_any (h : MoundR T w bO bL ls size) :
    Calls Try.prog 42 #[.pointer (some ⟨bO, 0, none⟩)] w fun e w' => e = .returned (minV (at1 ls 1)) ∧ Below w.heap.size w w' := by
  obtain ⟨v, hv, hI⟩ := h.at_ 1 (by decide)
  have m0 : w.cell? ⟨bO, 0, none⟩ = some (.slice (some ⟨bL, 0, none⟩) 64 64) := h.1.cell 0
  have hlO := h.1.lt
  have hlL := World.block_lt_of_cell? w _ hv
  clear h
  rcases hI.cases with ⟨e, A, cap, rfl⟩ | ⟨x, l', e, g, off, n, cap, rfl, _, hn, hc, hgl, d0, d1⟩
  · rw [e]
    go_enter Try.func42, Try.ntmps42
    go_wp2_with fail
    refine bodyPost_ret (v := minV []) ?_ rfl ⟨rfl, (Below.refl w.heap.size w).alloc (Nat.le_refl _) _⟩
    rw [results_cell_tmp rfl]
    go_simp
    rfl
  · rw [e]
    have hz : decide (n = 0) = false := by simp; omega
    go_enter Try.func42, Try.ntmps42
    go_wp2_with fail
    refine bodyPost_ret (v := minV (x :: l')) ?_ rfl ⟨rfl, (Below.refl w.heap.size w).alloc (Nat.le_refl _) _⟩
    rw [results_cell_tmp rfl]
    go_simp
    rfl

theorem leaves_any (h : MoundR T w bO bL ls size) :
    Calls Try.prog 66 #[.pointer (some ⟨bO, 0, none⟩)] w fun e w' => e = .returned (.int .i64 32) ∧ w = w' := by
  have m0 : w.cell? ⟨bO, 0, none⟩ = some (.slice (some ⟨bL, 0, none⟩) 64 64) := h.1.cell 0
  clear h
  go_enter Try.func66, Try.ntmps66
  go_wp2_with fail
  go_ret
  exact ⟨rfl, rfl⟩
end
end Go.Proofs.Ytnpglcbkpbhnoaa
