/- The walks over package pool, sixth part: New. -/
import Derived.Test.YtnpglcbkpbhnoaaPoolE
namespace Go.Proofs.Ytnpglcbkpbhnoaa
open Go.RowKit Kq

namespace Kq
/-- The cells behind k rounds of New's loop. -/
def laid (cs : List Int) (pb n : Nat) : Nat → List Int
  | 0 => stt cs pb (pk 0 0)
  | k + 1 => stt (laid cs pb n k) ((pb : Int) + 1 + k) (if k + 1 = n then -1 else (k : Int) + 1)
end Kq

theorem node_info : (Try.prog.info? 45).map (fun i => (i.zero, i.size, i.bytes)) = some (some (.agg #[.slice none 0 0, .int .i64 0]), 2, 32) := by kernel_rfl
theorem row_info : (Try.prog.info? 22).map (fun i => (i.zero, i.size, i.bytes)) = some (some (.slice none 0 0), 1, 24) := by kernel_rfl

theorem made_nodes (n : Nat) : madeCells #[Value.slice none 0 0, Value.int .i64 0] (n * 2) = (nodeCells (List.replicate n 0)).toArray := by
  apply Array.ext
  · simp [size_madeCells, nodeCells_length]; omega
  · intro i h1 h2
    have h3 : i < n * 2 := by simpa [size_madeCells] using h1
    have hg := nodeCells_get (List.replicate n 0) (i / 2) (by simp; omega)
    simp only [madeCells, Array.getElem_map, Array.getElem_range]
    rw [← Option.some_inj, ← Array.getElem?_eq_getElem h2, List.getElem?_toArray]
    rcases Nat.mod_two_eq_zero_or_one i with h | h
    · have e : i = i / 2 * 2 := by omega
      rw [e, hg.1]
      simp
    · have e : i = i / 2 * 2 + 1 := by omega
      rw [e, hg.2]
      simp only [List.getD_eq_getElem?_getD, List.getElem?_replicate]
      rw [if_pos (by omega)]
      simp [Nat.mul_add_mod]

/-- How New stands behind k rounds of its loop. -/
def PNew (w : World) (bM bC N pb n : Nat) (cs : List Int) (wr : World) : Prop :=
  MemR wr bM bC N cs ∧ ∃ bN bW, w.heap.size ≤ bN ∧ w.heap.size ≤ bW ∧
    Blk wr (w.heap.size + 2) 66 #[.pointer (some ⟨bM, 0, none⟩), .int .i64 pb, .slice (some ⟨bN, 0, none⟩) n n, .slice (some ⟨bW, 0, none⟩) 1 1] ∧
    Blk wr bN 45 (nodeCells (List.replicate n 0)).toArray ∧ Blk wr bW 22 #[.slice none 0 0] ∧ Only [bM, bC] w wr
theorem PNew.step {w w1 wr : World} {bM bC N pb n : Nat} {cs cs' : List Int} (h : PNew w bM bC N pb n cs wr) (hM : MemR w1 bM bC N cs') (k : Only [bM, bC] wr w1) : PNew w bM bC N pb n cs' w1 := by
  obtain ⟨hM0, bN, bW, h1, h2, hP, hN, hW, ho⟩ := h
  exact ⟨hM, bN, bW, h1, h2, hP.only k (hM0.apart hP (by decide) (by decide)), hN.only k (hM0.apart hN (by decide) (by decide)), hW.only k (hM0.apart hW (by decide) (by decide)), ho.trans k⟩
theorem PNew.drew {w wr : World} {bM bC N pb n : Nat} {cs : List Int} (h : PNew w bM bC N pb n cs wr) : PNew w bM bC N pb n cs wr.drew := by
  obtain ⟨hM0, bN, bW, h1, h2, hP, hN, hW, ho⟩ := h
  exact ⟨hM0, bN, bW, h1, h2, hP, hN, hW, ho.drew⟩
def PRel (w : World) (bM bC N pb n : Nat) (cs : List Int) (i : Value) (wr : World) : Prop := ∃ k : Nat, k ≤ n ∧ i = .int .i64 k ∧ PNew w bM bC N pb n (Kq.laid cs pb n k) wr

def NewPost (w : World) (bM bC N pb n lo : Nat) (cs : List Int) (e : Ending) (w' : World) : Prop :=
  ∃ c : Cfg, c.bM = bM ∧ c.bC = bC ∧ c.N = N ∧ c.pb = pb ∧ c.n = n ∧ c.lo = lo ∧ w.heap.size ≤ c.bP ∧ e = .returned (.tuple #[.pointer (some ⟨c.bP, 0, none⟩), .int .i64 0]) ∧
    PoolR w' c (Kq.laid cs pb n n) (List.replicate n 0) [] ∧ Only [bM, bC] w w'

theorem PNew.done {w wr : World} {bM bC N pb n lo : Nat} {cs : List Int} (h : PNew w bM bC N pb n cs wr) (hn2 : n ≤ 4096) (hN : pb + n + 1 ≤ N) (hlo : lo ≤ bM ∧ lo ≤ bC ∧ lo ≤ w.heap.size) :
    ∃ c : Cfg, c.bM = bM ∧ c.bC = bC ∧ c.N = N ∧ c.pb = pb ∧ c.n = n ∧ c.lo = lo ∧ w.heap.size + 2 = c.bP ∧ PoolR wr c cs (List.replicate n 0) [] ∧ Only [bM, bC] w wr := by
  obtain ⟨hM0, bN, bW, h1, h2, hP, hN1, hW, ho⟩ := h
  refine ⟨⟨bM, bC, w.heap.size + 2, bN, bW, N, pb, n, lo⟩, rfl, rfl, rfl, rfl, rfl, rfl, rfl, ⟨hM0, hP, hN1, by simp, hn2, hN, ⟨hlo.1, hlo.2.1, by simp; omega, by simp; omega, by simp; omega⟩, .slice none 0 0, hW, ?_, by simp [Value.ownBlock], by simp⟩, ho⟩
  exact World.ownsRow_nil _ _ _ _

section
variable {w : World}
set_option maxRecDepth 100000 in
set_option maxHeartbeats 800000 in
theorem poolnew_any (bM bC N pb n lo : Nat) (cs : List Int) (hM : MemR w bM bC N cs) (hn : 1 ≤ n) (hn2 : n ≤ 4096) (hN : pb + n + 1 ≤ N) (hlo : lo ≤ bM ∧ lo ≤ bC ∧ lo ≤ w.heap.size) :
    Calls Try.prog 7 #[.pointer (some ⟨bM, 0, none⟩), .int .i64 pb, .int .i64 n, .int .i64 1] w (NewPost w bM bC N pb n lo cs) := by
  obtain ⟨i0, hi, hz, h1, h8⟩ := info_parts node_info
  obtain ⟨i1, hi', hz', h1', h8'⟩ := info_parts row_info
  have hmk := fun W => run_make_rowN (P := Try.prog) 63 45 i0 _ Try.underlying63 hi hz .i64 .i64 n n (Nat.le_refl _) (by rw [h8]; omega) (by omega) W
  have hmk1 : ∀ W : World, (Instr.makeSlice 64 (.int .i64 1) (.int .i64 1)).run Try.prog W = .ok (.slice (some ⟨W.heap.size, 0, none⟩) 1 1) (W.alloc (.cells #[.slice none 0 0] 22)) := fun W => by
    have := run_make_rowN (P := Try.prog) 64 22 i1 _ Try.underlying64 hi' hz' .i64 .i64 1 1 (Nat.le_refl _) (by rw [h8']; omega) (by omega) W
    rw [h1', show madeCells (Value.slice none 0 0).cells (1 * 1) = #[.slice none 0 0] from Array.toList_inj.1 (by rw [show (Value.slice none 0 0).cells = #[.slice none 0 0] from rfl, toList_madeCells_one]; rfl)] at this
    exact this
  rw [h1, show (Value.agg #[.slice none 0 0, .int .i64 0]).cells = #[.slice none 0 0, .int .i64 0] from rfl, made_nodes] at hmk
  clear hi hz h1 h8 hi' hz' h1' h8'
  have hN0 : N ≤ 1048576 := by obtain ⟨s, k0, k1, k2, k3, b4, _, _, _, h⟩ := hM; exact h
  have HA : PNew w bM bC N pb n cs (((w.alloc (.cells (nodeCells (List.replicate n 0)).toArray 45)).alloc (.cells #[.slice none 0 0] 22)).alloc (.cells #[.pointer (some ⟨bM, 0, none⟩), .int .i64 pb, .slice (some ⟨w.heap.size, 0, none⟩) n n, .slice (some ⟨w.heap.size + 1, 0, none⟩) 1 1] 66)) := by
    have ho := (((Only.refl [bM, bC] w).alloc (.cells (nodeCells (List.replicate n 0)).toArray 45)).alloc (.cells #[.slice none 0 0] 22)).alloc (.cells #[.pointer (some ⟨bM, 0, none⟩), .int .i64 pb, .slice (some ⟨w.heap.size, 0, none⟩) n n, .slice (some ⟨w.heap.size + 1, 0, none⟩) 1 1] 66)
    exact ⟨hM.only (S := []) (((Only.refl [] w).alloc _).alloc _ |>.alloc _) (by simp) (by simp), w.heap.size, w.heap.size + 1, Nat.le_refl _, by omega, Blk.new' _ _ _ (by simp), ((Blk.new _ _ _).alloc _).alloc _, (Blk.new' _ _ _ (by simp)).alloc _, ho⟩
  have HB : PNew w bM bC N pb n cs (((w.alloc (.cells #[.slice none 0 0] 22)).alloc (.cells (nodeCells (List.replicate n 0)).toArray 45)).alloc (.cells #[.pointer (some ⟨bM, 0, none⟩), .int .i64 pb, .slice (some ⟨w.heap.size + 1, 0, none⟩) n n, .slice (some ⟨w.heap.size, 0, none⟩) 1 1] 66)) := by
    have ho := (((Only.refl [bM, bC] w).alloc (.cells #[.slice none 0 0] 22)).alloc (.cells (nodeCells (List.replicate n 0)).toArray 45)).alloc (.cells #[.pointer (some ⟨bM, 0, none⟩), .int .i64 pb, .slice (some ⟨w.heap.size + 1, 0, none⟩) n n, .slice (some ⟨w.heap.size, 0, none⟩) 1 1] 66)
    exact ⟨hM.only (S := []) (((Only.refl [] w).alloc _).alloc _ |>.alloc _) (by simp) (by simp), w.heap.size + 1, w.heap.size, by omega, Nat.le_refl _, Blk.new' _ _ _ (by simp), (Blk.new' _ _ _ (by simp)).alloc _, ((Blk.new _ _ _).alloc _).alloc _, ho⟩
  have hq : ((n : Int) + 1 == 0) = false := by simp; omega
  have hq2 : ¬ ((n : Int) + 1 = 0) := by omega
  go_enter Try.func7, Try.ntmps7
  go_wp2_with (first | (go_at_call 26; refine (size_any hM).mono ?_; rintro e w' ⟨rfl, rfl⟩) | go_in)
  go_region
  all_goals
    go_wp2_with (first | (go_at_call 28; refine (pack_any _ _ _).mono ?_; rintro e w' ⟨rfl, rfl⟩) | (go_at_call 27; refine (set_any _ _ (by first | exact HA.1 | exact HB.1)).mono ?_; rintro e w1 ⟨er, rfl, hM1, hO1⟩; have hS := PNew.step (by first | exact HA.drew | exact HB.drew) hM1 hO1; clear hM1 hO1))
    go_loopw [55] (fun i wr => PRel w bM bC N pb n cs i wr) (fun i wr => n - (intOf i).toNat)
    case atStart => exact ⟨0, Nat.zero_le _, rfl, hS⟩
    case round =>
      obtain ⟨k, hk, rfl, hw⟩ := hrel
      have hst := fun (w1 : World) (x : Int) (hM1 : MemR w1 bM bC N (stt (Kq.laid cs pb n k) ((pb : Int) + 1 + k) x)) (hO1 : Only [bM, bC] wr w1) => hw.step hM1 hO1
      have HD := Lib.hid (fun hkn : k = n => (hkn ▸ hw).done (lo := lo) hn2 hN hlo)
      obtain ⟨hMr, bN, bW, _, _, hP, _⟩ := id hw
      have p1 : wr.cell? ⟨w.heap.size + 2, 1, none⟩ = some (.int .i64 pb) := hP.cell 1
      by_cases hlt : k < n
      · by_cases hl : k + 1 = n
        · have hl2 : k + 1 ≤ n := by omega
          have hb : (((k : Int) + 1) == (n : Int)) = true := by simp; omega
          have HL : Hid (Kq.laid cs pb n (k + 1) = stt (Kq.laid cs pb n k) ((pb : Int) + 1 + k) (-1)) := Lib.hid (by show stt _ _ (if k + 1 = n then _ else _) = _; rw [if_pos hl])
          have HS := Lib.hid hst
          have hd : decide (k < n) = true := by simp; omega
          clear hst hw hP hl
          go_wp2_with (first | (go_at_call 29; refine (link_any (c := ⟨bM, bC, w.heap.size + 2, 0, 0, N, pb, n, lo⟩) _ (by exact p1) (by omega) (by omega) (by show pb ≤ 4194304; omega)).mono ?_; rintro e w' ⟨rfl, rfl⟩) | (go_at_call 27; refine (set_any _ _ (by exact hMr)).mono ?_; rintro e w1 ⟨er, rfl, hM1, hO1⟩; have hS2 := HS.out _ _ (by exact hM1) hO1; clear hM1 hO1))
          go_roundw
          case rel => exact ⟨k + 1, by omega, by go_num, by rw [HL.out]; exact hS2⟩
          case measure => simp [intOf]; omega
        · have hl2 : k + 1 < n := by omega
          have hb : (((k : Int) + 1) == (n : Int)) = false := by simp; omega
          have HL : Hid (Kq.laid cs pb n (k + 1) = stt (Kq.laid cs pb n k) ((pb : Int) + 1 + k) ((k : Int) + 1)) := Lib.hid (by show stt _ _ (if k + 1 = n then _ else _) = _; rw [if_neg hl])
          have HS := Lib.hid hst
          have hd : decide (k < n) = true := by simp; omega
          clear hst hw hP hl
          go_wp2_with (first | (go_at_call 29; refine (link_any (c := ⟨bM, bC, w.heap.size + 2, 0, 0, N, pb, n, lo⟩) _ (by exact p1) (by omega) (by omega) (by show pb ≤ 4194304; omega)).mono ?_; rintro e w' ⟨rfl, rfl⟩) | (go_at_call 27; refine (set_any _ _ (by exact hMr)).mono ?_; rintro e w1 ⟨er, rfl, hM1, hO1⟩; have hS2 := HS.out _ _ (by exact hM1) hO1; clear hM1 hO1))
          go_roundw
          case rel => exact ⟨k + 1, by omega, by go_num, by rw [HL.out]; exact hS2⟩
          case measure => simp [intOf]; omega
      · have hkn : n ≤ k := by omega
        have hd : decide (k < n) = false := by simp; omega
        clear hst hw hP hMr p1 hlt
        go_wp2
        go_ret2
        obtain ⟨c, e1, e2, e3, e4, e5, e6, e7, hR, ho⟩ := HD.out (by omega)
        exact ⟨c, e1, e2, e3, e4, e5, e6, by omega, by rw [← e7]; rfl, hR, ho⟩
end
end Go.Proofs.Ytnpglcbkpbhnoaa
