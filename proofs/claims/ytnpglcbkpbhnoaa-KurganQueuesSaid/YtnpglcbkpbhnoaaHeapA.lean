/- The walks over package heap, first part: what a heap and an act are in memory; head, link, read, swap, below, less, key. -/
import Derived.Test.YtnpglcbkpbhnoaaPoolH
import Derived.Test.YtnpglcbkpbhnoaaHPure
namespace Go.Proofs.Ytnpglcbkpbhnoaa
open Go.RowKit Kq

structure HCfg where
  c : Cfg
  bH : Nat
  hb : Nat
  h0 : Nat

/-- All of a pool and a heap but the memory: it lies below h0. -/
def HFix (w : World) (H : HCfg) (bds own : List Int) : Prop :=
  Blk w H.c.bP 66 #[.pointer (some ⟨H.c.bM, 0, none⟩), .int .i64 H.c.pb, .slice (some ⟨H.c.bN, 0, none⟩) H.c.n H.c.n, .slice (some ⟨H.c.bW, 0, none⟩) 1 1] ∧
  Blk w H.c.bN 45 (nodeCells bds).toArray ∧ (bds.length = H.c.n ∧ H.c.n ≤ 4096 ∧ H.c.pb + H.c.n + 1 ≤ H.c.N) ∧
  (H.c.lo ≤ H.c.bM ∧ H.c.lo ≤ H.c.bC ∧ H.c.lo ≤ H.c.bP ∧ H.c.lo ≤ H.c.bN ∧ H.c.lo ≤ H.c.bW) ∧
  (∃ v, OwnR w H.c v own ∧ ∀ g, v.ownBlock = some g → g < H.h0) ∧
  Blk w H.bH 69 #[.pointer (some ⟨H.c.bM, 0, none⟩), .int .i64 H.hb, .int .i64 6, .pointer (some ⟨H.c.bP, 0, none⟩)] ∧ H.hb + 63 + H.c.n ≤ H.c.N ∧
  (H.c.bM < H.h0 ∧ H.c.bC < H.h0 ∧ H.c.bP < H.h0 ∧ H.c.bN < H.h0 ∧ H.c.bW < H.h0 ∧ H.bH < H.h0)

theorem HFix.pool {w : World} {H : HCfg} {cs bds own : List Int} (h : HFix w H bds own) (hM : MemR w H.c.bM H.c.bC H.c.N cs) : PoolR w H.c cs bds own := by
  obtain ⟨hP, hN, h1, h2, ⟨v, hO, _⟩, _⟩ := h
  exact ⟨hM, hP, hN, h1.1, h1.2.1, h1.2.2, h2, v, hO⟩

theorem HFix.only {w w' : World} {H : HCfg} {cs bds own : List Int} {S : List Nat} (h : HFix w H bds own) (hM : MemR w H.c.bM H.c.bC H.c.N cs) (k : Only S w w') (hS : ∀ g, g ∈ S → g = H.c.bM ∨ g = H.c.bC ∨ H.h0 ≤ g) : HFix w' H bds own := by
  obtain ⟨hP, hN, h1, h2, ⟨v, ⟨hW, hown, hvC, hl⟩, hv⟩, hH, h3, h4⟩ := h
  have hnot : ∀ {g t ds}, Blk w g t ds → t ≠ 62 → t ≠ 3 → g < H.h0 → g ∉ S := by
    intro g t ds hb e1 e2 hlt hm
    have hap := hM.apart hb e1 e2
    rcases hS g hm with rfl | rfl | h
    · simp at hap
    · simp at hap
    · omega
  refine ⟨hP.only k (hnot hP (by decide) (by decide) h4.2.2.1), hN.only k (hnot hN (by decide) (by decide) h4.2.2.2.1), h1, h2, ⟨v, ⟨hW.only k (hnot hW (by decide) (by decide) h4.2.2.2.2.1), owns_only hown k ?_, hvC, hl⟩, hv⟩, hH.only k (hnot hH (by decide) (by decide) h4.2.2.2.2.2), h3, h4⟩
  intro g hm he
  have hlt := hv g he
  rcases hS g hm with rfl | rfl | h
  · obtain ⟨s, k0, k1, k2, k3, b4, hMM, _⟩ := hM
    exact owns_ne hown hMM (by decide) he
  · exact hvC he
  · omega

/-- An act's struct. -/
def actCells (H : HCfg) (s : HS) (vd vw vh : Value) : Array Value :=
  #[.pointer (some ⟨H.bH, 0, none⟩), .int .i64 s.ph, .int .i64 s.slot, .bool s.push, .bool s.owner, .bool s.fits, vd, .int .i64 s.probe, vw, vh, .int .i64 s.low, .int .i64 s.high, .int .i64 s.at_,
    .int .i64 s.head, .int .i64 s.next, .int .i64 s.lh, .int .i64 s.rh, .int .i64 s.ch, .int .i64 s.chh, .bool s.tidied, .bool s.held, .bool s.bare]

/-- An act: its struct, its lists; all lies from h0 on, the heads by themselves. -/
def HAct (w : World) (bA : Nat) (H : HCfg) (s : HS) : Prop :=
  H.h0 ≤ bA ∧ ∃ vd vw vh, Blk w bA 85 (actCells H s vd vw vh) ∧ w.ownsRow H.h0 3 1 vd s.draws.length (ints s.draws) ∧ w.ownsRow H.h0 3 1 vw s.way.length (ints s.way) ∧
    w.ownsRow H.h0 3 1 vh s.heads.length (ints s.heads) ∧ ∀ g, vh.ownBlock = some g → vd.ownBlock ≠ some g ∧ vw.ownBlock ≠ some g

/-- What a heap's act turns: cells, and what lies from h0 on. -/
structure HK (H : HCfg) (w w' : World) : Prop where
  os : w'.os = w.os
  tape : w'.tape = w.tape
  output : w'.output = w.output
  size : w.heap.size ≤ w'.heap.size
  block : ∀ g, g < H.h0 → g < w.heap.size → g ≠ H.c.bM → g ≠ H.c.bC → w'.heap[g]? = w.heap[g]?
theorem HK.refl {H : HCfg} (w : World) : HK H w w := ⟨rfl, rfl, rfl, Nat.le_refl _, fun _ _ _ _ _ => rfl⟩
theorem HK.trans {H : HCfg} {a b w : World} (h : HK H a b) (k : HK H b w) : HK H a w :=
  ⟨k.os.trans h.os, k.tape.trans h.tape, k.output.trans h.output, Nat.le_trans h.size k.size, fun g h1 h2 h3 h4 => (k.block g h1 (Nat.lt_of_lt_of_le h2 h.size) h3 h4).trans (h.block g h1 h2 h3 h4)⟩
theorem HK.of_only {H : HCfg} {w w' : World} {S : List Nat} (k : Only S w w') (hS : ∀ g, g ∈ S → g = H.c.bM ∨ g = H.c.bC ∨ H.h0 ≤ g) : HK H w w' :=
  ⟨k.os, k.tape, k.output, k.size, fun g h1 h2 h3 h4 => k.block g h2 (fun hm => by rcases hS g hm with h | h | h; exact h3 h; exact h4 h; omega)⟩

/-- All together. -/
def HR (w : World) (bA : Nat) (H : HCfg) (bds own : List Int) (s : HS) : Prop := MemR w H.c.bM H.c.bC H.c.N s.cs ∧ HFix w H bds own ∧ HAct w bA H s

section
variable {w : World} {H : HCfg} {bA : Nat}

theorem head_any (p : Int) (hH : w.cell? ⟨H.bH, 0 + 1, none⟩ = some (.int .i64 H.hb)) (h0 : -1 ≤ p) (h1 : p ≤ 4294967296) (hb : H.hb ≤ 4194304) :
    Calls Try.prog 32 #[.pointer (some ⟨H.bH, 0, none⟩), .int .i64 p] w fun e w' => e = .returned (.int .i64 (H.hb + p - 1)) ∧ w = w' := by
  have hH1 : w.cell? ⟨H.bH, 1, none⟩ = some (.int .i64 H.hb) := hH
  clear hH
  go_enter Try.func32, Try.ntmps32
  go_wp2
  go_ret
  exact ⟨rfl, rfl⟩

theorem places_any (hH : w.cell? ⟨H.bH, 2, none⟩ = some (.int .i64 6)) :
    Calls Try.prog 31 #[.pointer (some ⟨H.bH, 0, none⟩)] w fun e w' => e = .returned (.int .i64 63) ∧ w = w' := by
  go_enter Try.func31, Try.ntmps31
  go_wp2
  go_ret
  exact ⟨rfl, rfl⟩

theorem hlink_any (s : Int) (hH : w.cell? ⟨H.bH, 1, none⟩ = some (.int .i64 H.hb)) (hH2 : w.cell? ⟨H.bH, 2, none⟩ = some (.int .i64 6)) (h0 : -1 ≤ s) (h1 : s ≤ 4294967296) (hb : H.hb ≤ 4194304) :
    Calls Try.prog 77 #[.pointer (some ⟨H.bH, 0, none⟩), .int .i64 s] w fun e w' => e = .returned (.int .i64 (H.hb + 63 + s)) ∧ ∃ n, w' = w.drewN n := by
  go_enter Try.func77, Try.ntmps77
  go_wp2_with fail
  go_region_held3 (fun w' => w'.cell? ⟨H.bH, 1, none⟩ = some (.int .i64 H.hb) ∧ w'.cell? ⟨H.bH, 2, none⟩ = some (.int .i64 6)) (first | go_keep)
    (first | (go_at_call 31; refine (places_any (by exact hH2)).mono ?_; rintro e w' ⟨rfl, rfl⟩))
  go_wp2
  go_ret
  refine ⟨ret_int ?_, 1, rfl⟩
  show IntKind.i64.wrap (IntKind.i64.wrap ((H.hb : Int) + 63) + s) = _
  simp only [IntKind.wrap_i64]
  omega

/-- An act's first cell, its heap's cells. -/
def AtHeap (w : World) (bA : Nat) (H : HCfg) : Prop :=
  w.cell? ⟨bA, 0, none⟩ = some (.pointer (some ⟨H.bH, 0, none⟩)) ∧ Blk w H.bH 69 #[.pointer (some ⟨H.c.bM, 0, none⟩), .int .i64 H.hb, .int .i64 6, .pointer (some ⟨H.c.bP, 0, none⟩)] ∧ H.hb ≤ 4194304

set_option maxRecDepth 100000 in
set_option maxHeartbeats 400000 in
theorem read_any {cs : List Int} (p : Int) (hA : AtHeap w bA H) (hM : MemR w H.c.bM H.c.bC H.c.N cs) (h0 : -1 ≤ p) (h1 : p ≤ 4294967296) (hAM : bA ∉ [H.c.bM, H.c.bC]) :
    Calls Try.prog 73 #[.pointer (some ⟨bA, 0, none⟩), .int .i64 p] w fun e w' => e = .returned (.int .i64 (gt cs (H.hb + p - 1))) ∧ MemR w' H.c.bM H.c.bC H.c.N cs ∧ Only [H.c.bM, H.c.bC] w w' := by
  obtain ⟨a0, hH, hb⟩ := hA
  have hHM := hM.apart hH (by decide) (by decide)
  have c0 : w.cell? ⟨H.bH, 0, none⟩ = some (.pointer (some ⟨H.c.bM, 0, none⟩)) := hH.cell 0
  have c1 : w.cell? ⟨H.bH, 1, none⟩ = some (.int .i64 H.hb) := hH.cell 1
  have ltA : bA < w.heap.size := World.block_lt_of_cell? w _ a0
  go_enter Try.func73, Try.ntmps73
  go_wp2_with fail
  go_region_held3 (fun w' => w'.cell? ⟨bA, 0, none⟩ = some (.pointer (some ⟨H.bH, 0, none⟩)) ∧ w'.cell? ⟨H.bH, 0, none⟩ = some (.pointer (some ⟨H.c.bM, 0, none⟩)) ∧ w'.cell? ⟨H.bH, 1, none⟩ = some (.int .i64 H.hb)) (first | exact ⟨k0, k1, k2⟩ | go_keep)
    (first | (go_at_call 32; refine (head_any _ (by exact c1) h0 h1 hb).mono ?_; rintro e w' ⟨rfl, rfl⟩) | (go_at_call 70; refine (get_any _ (by exact hM)).mono ?_; rintro e w1 ⟨er, rfl, hM1, hO1⟩; have hH1 := Blk.only (by exact hH) hO1 hHM; have k0 : w1.cell? ⟨bA, 0, none⟩ = some (.pointer (some ⟨H.bH, 0, none⟩)) := (World.cell?_of_block (hO1.block bA (by exact ltA) hAM)).trans (by exact a0); have k1 : w1.cell? ⟨H.bH, 0, none⟩ = some (.pointer (some ⟨H.c.bM, 0, none⟩)) := hH1.cell 0; have k2 : w1.cell? ⟨H.bH, 1, none⟩ = some (.int .i64 H.hb) := hH1.cell 1))
  go_wp2
  go_ret
  exact ⟨rfl, hM1, Only.trans' (Only.drew (Only.refl _ _)) hO1 (by simp)⟩

set_option maxRecDepth 100000 in
set_option maxHeartbeats 400000 in
theorem swap_any {cs : List Int} (p had slot : Int) (hA : AtHeap w bA H) (hM : MemR w H.c.bM H.c.bC H.c.N cs) (h0 : -1 ≤ p) (h1 : p ≤ 4294967296) (hAM : bA ∉ [H.c.bM, H.c.bC]) :
    Calls Try.prog 78 #[.pointer (some ⟨bA, 0, none⟩), .int .i64 p, .int .i64 had, .int .i64 slot] w fun e w' =>
      e = .returned (.bool (casB cs (H.hb + p - 1) had)) ∧ MemR w' H.c.bM H.c.bC H.c.N (csw cs (H.hb + p - 1) had (up had slot)) ∧ Only [H.c.bM, H.c.bC] w w' := by
  obtain ⟨a0, hH, hb⟩ := hA
  have hHM := hM.apart hH (by decide) (by decide)
  have c0 : w.cell? ⟨H.bH, 0, none⟩ = some (.pointer (some ⟨H.c.bM, 0, none⟩)) := hH.cell 0
  have c1 : w.cell? ⟨H.bH, 1, none⟩ = some (.int .i64 H.hb) := hH.cell 1
  have ltA : bA < w.heap.size := World.block_lt_of_cell? w _ a0
  go_enter Try.func78, Try.ntmps78
  go_wp2_with fail
  go_region_held3 (fun w' => w'.cell? ⟨bA, 0, none⟩ = some (.pointer (some ⟨H.bH, 0, none⟩)) ∧ w'.cell? ⟨H.bH, 0, none⟩ = some (.pointer (some ⟨H.c.bM, 0, none⟩)) ∧ w'.cell? ⟨H.bH, 1, none⟩ = some (.int .i64 H.hb)) (first | exact ⟨k0, k1, k2⟩ | go_keep)
    (first | (go_at_call 32; refine (head_any _ (by exact c1) h0 h1 hb).mono ?_; rintro e w' ⟨rfl, rfl⟩) | (go_at_call 72; refine (up_any _ _ _).mono ?_; rintro e w' ⟨rfl, rfl⟩) | (go_at_call 71; refine (cas_any _ _ _ (by exact hM)).mono ?_; rintro e w1 ⟨er, rfl, hM1, hO1⟩; have hH1 := Blk.only (by exact hH) hO1 hHM; have k0 : w1.cell? ⟨bA, 0, none⟩ = some (.pointer (some ⟨H.bH, 0, none⟩)) := (World.cell?_of_block (hO1.block bA (by exact ltA) hAM)).trans (by exact a0); have k1 : w1.cell? ⟨H.bH, 0, none⟩ = some (.pointer (some ⟨H.c.bM, 0, none⟩)) := hH1.cell 0; have k2 : w1.cell? ⟨H.bH, 1, none⟩ = some (.int .i64 H.hb) := hH1.cell 1))
  all_goals go_wp2
  all_goals go_ret
  all_goals exact ⟨rfl, hM1, Only.trans' (Only.drew (Only.refl _ _)) hO1 (by simp)⟩

theorem below_any {cs bds own : List Int} (head key : Int) (hR : PoolR w H.c cs bds own) (hH : w.cell? ⟨H.bH, 3, none⟩ = some (.pointer (some ⟨H.c.bP, 0, none⟩))) :
    Calls Try.prog 74 #[.pointer (some ⟨H.bH, 0, none⟩), .int .i64 head, .int .i64 key] w fun e w' => e = .returned (.bool (belowB bds head key)) ∧ w = w' := by
  by_cases h0 : 0 ≤ upl head
  · have hd : Hid (belowB bds head key = decide (gt bds (upl head) < key)) := Lib.hid (by unfold belowB; simp [h0])
    go_enter Try.func74, Try.ntmps74
    go_wp2_with (first | (go_at_call 44; refine (unpack_any _ _).mono ?_; rintro e w' ⟨rfl, rfl⟩) | (go_at_call 23; refine (bound_any _ (by exact hR)).mono ?_; rintro e w' ⟨rfl, rfl⟩))
    go_ret
    exact ⟨by rw [hd.out]; rfl, rfl⟩
  · have hd : Hid (belowB bds head key = false) := Lib.hid (by unfold belowB; simp [h0])
    have h1 : upl head < 0 := by omega
    go_enter Try.func74, Try.ntmps74
    go_wp2_with (first | (go_at_call 44; refine (unpack_any _ _).mono ?_; rintro e w' ⟨rfl, rfl⟩) | (go_at_call 23; refine (bound_any _ (by exact hR)).mono ?_; rintro e w' ⟨rfl, rfl⟩))
    go_ret
    exact ⟨by rw [hd.out]; rfl, rfl⟩

theorem flip_same {P : Program} {f : FuncId} {args : Array Value} {w : World} {v : Value} (h : Calls P f args w fun e w' => e = .returned v ∧ w = w') : Calls P f args w fun e w' => e = .returned v ∧ w' = w :=
  h.mono fun _ _ ⟨he, hw⟩ => ⟨he, hw.symm⟩

theorem key_any {cs bds own : List Int} (slot : Int) (hR : PoolR w H.c cs bds own) (a0 : w.cell? ⟨bA, 0, none⟩ = some (.pointer (some ⟨H.bH, 0, none⟩))) (a2 : w.cell? ⟨bA, 2, none⟩ = some (.int .i64 slot)) (hH : w.cell? ⟨H.bH, 3, none⟩ = some (.pointer (some ⟨H.c.bP, 0, none⟩))) :
    Calls Try.prog 75 #[.pointer (some ⟨bA, 0, none⟩)] w fun e w' => e = .returned (.int .i64 (gt bds slot)) ∧ ∃ n, w' = w.drewN n := by
  go_enter Try.func75, Try.ntmps75
  go_wp2_with fail
  go_quiet ((go_at_call 23; exact Calls.quiet_of_same (flip_same (bound_any _ (by exact hR)))))
  go_wp2
  go_ret
  exact ⟨rfl, _, rfl⟩

theorem less_any {cs bds own : List Int} (a b : Int) (hR : PoolR w H.c cs bds own) (hH : w.cell? ⟨H.bH, 3, none⟩ = some (.pointer (some ⟨H.c.bP, 0, none⟩))) :
    Calls Try.prog 80 #[.pointer (some ⟨H.bH, 0, none⟩), .int .i64 a, .int .i64 b] w fun e w' => e = .returned (.bool (lessB bds a b)) ∧ ∃ n, w' = w.drewN n := by
  by_cases ha : 0 ≤ upl a
  · by_cases hb : upl b < 0
    · have hd : Hid (lessB bds a b = true) := Lib.hid (by unfold lessB; simp [ha, hb])
      have d1 : decide (0 ≤ upl a) = true := by simpa using ha
      have d2 : decide (upl b < 0) = true := by simpa using hb
      go_enter Try.func80, Try.ntmps80
      go_wp2_with (first | (go_at_call 44; refine (unpack_any _ _).mono ?_; rintro e w' ⟨rfl, rfl⟩))
      go_quiet ((go_at_call 23; exact Calls.quiet_of_same (flip_same (bound_any _ (by exact hR)))))
      go_wp2
      go_ret
      exact ⟨by rw [hd.out]; rfl, _, rfl⟩
    · have hd : Hid (lessB bds a b = decide (gt bds (upl a) < gt bds (upl b))) := Lib.hid (by unfold lessB; simp [ha, hb])
      have hb2 : 0 ≤ upl b := by omega
      have d1 : decide (0 ≤ upl a) = true := by simpa using ha
      have d2 : decide (upl b < 0) = false := by simpa using hb2
      clear hb
      go_enter Try.func80, Try.ntmps80
      go_wp2_with (first | (go_at_call 44; refine (unpack_any _ _).mono ?_; rintro e w' ⟨rfl, rfl⟩))
      go_quiet ((go_at_call 23; exact Calls.quiet_of_same (flip_same (bound_any _ (by exact hR)))))
      go_wp2
      go_ret
      exact ⟨by rw [hd.out]; rfl, _, rfl⟩
  · have hd : Hid (lessB bds a b = false) := Lib.hid (by unfold lessB; simp [ha])
    have ha2 : upl a < 0 := by omega
    have d1 : decide (0 ≤ upl a) = false := by simpa using ha2
    clear ha
    go_enter Try.func80, Try.ntmps80
    go_wp2_with (first | (go_at_call 44; refine (unpack_any _ _).mono ?_; rintro e w' ⟨rfl, rfl⟩))
    go_quiet ((go_at_call 23; exact Calls.quiet_of_same (flip_same (bound_any _ (by exact hR)))))
    go_wp2
    go_ret
    exact ⟨by rw [hd.out]; rfl, _, rfl⟩
end
end Go.Proofs.Ytnpglcbkpbhnoaa
