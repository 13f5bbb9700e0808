/- The walks over package heap, tenth part: Cells, Pop, Push, Slot, Fits. -/
import Derived.Test.YtnpglcbkpbhnoaaHeapI
import Derived.Test.YtnpglcbkpbhnoaaPoolF
namespace Go.Proofs.Ytnpglcbkpbhnoaa
open Go.RowKit Kq

/-- A pool and a heap upon it, no act. -/
def QR (w : World) (c : Cfg) (bH hb : Nat) (cs bds own : List Int) : Prop :=
  PoolR w c cs bds own ∧ Blk w bH 69 #[.pointer (some ⟨c.bM, 0, none⟩), .int .i64 hb, .int .i64 6, .pointer (some ⟨c.bP, 0, none⟩)] ∧ hb + 63 + c.n ≤ c.N

section
variable {w : World} {c : Cfg} {bH hb : Nat} {cs bds own : List Int}

theorem QR.below {w' : World} (h : QR w c bH hb cs bds own) (hb' : Below w.heap.size w w') : QR w' c bH hb cs bds own :=
  ⟨h.1.below hb', h.2.1.of_eq (hb'.block _ h.2.1.lt), h.2.2⟩
theorem QR.keeps {w' : World} {cs' bds' own' : List Int} (h : QR w c bH hb cs bds own) (hP : PoolR w' c cs' bds' own') (k : Keeps c.lo TP w w') : QR w' c bH hb cs' bds' own' :=
  ⟨hP, h.2.1.keeps k (by decide), h.2.2⟩
theorem QR.fix (h : QR w c bH hb cs bds own) : HFix w ⟨c, bH, hb, w.heap.size⟩ bds own := by
  obtain ⟨⟨hM, hP, hN, h1, h2, h3, h4, v, hO⟩, hH, h5⟩ := h
  obtain ⟨s, k0, k1, k2, k3, b4, hMM, hC, _⟩ := hM
  exact ⟨hP, hN, ⟨h1, h2, h3⟩, h4, ⟨v, hO, fun g he => (hO.2.1.lt g he).2⟩, hH, h5, hMM.lt, Blk.lt (t := 3) hC, hP.lt, hN.lt, hO.1.lt, hH.lt⟩
theorem HR.queue {w : World} {H : HCfg} {bA : Nat} {bds own : List Int} {s : HS} (h : HR w bA H bds own s) : QR w H.c H.bH H.hb s.cs bds own :=
  ⟨h.2.1.pool h.1, h.2.1.2.2.2.2.2.1, h.2.1.2.2.2.2.2.2.1⟩

def popStart (cs : List Int) : HS :=
  { cs := cs, ph := 4, slot := -1, push := false, owner := true, fits := false, draws := [], probe := 0, way := [], heads := [], low := 0, high := 0, at_ := 1, head := 0, next := 0, lh := 0, rh := 0, ch := 0, chh := 0, tidied := false, held := false, bare := false }
def pushStart (cs : List Int) (slot : Int) (ds : List Int) : HS :=
  { cs := cs, ph := 0, slot := slot, push := true, owner := true, fits := false, draws := if ds = [] then [0] else ds.take 4, probe := 0, way := [], heads := [], low := 0, high := 0, at_ := 0, head := 0, next := 0, lh := 0, rh := 0, ch := 0, chh := 0, tidied := false, held := false, bare := false }

/-- An act has begun. -/
def HBegin (w : World) (c : Cfg) (bH hb : Nat) (bds own : List Int) (s : HS) (e : Ending) (w' : World) : Prop :=
  ∃ b, e = .returned (.pointer (some ⟨b, 0, none⟩)) ∧ HR w' b ⟨c, bH, hb, w.heap.size⟩ bds own s ∧ Below w.heap.size w w'

theorem hr_begin {w' : World} {s : HS} {b : Nat} {vd : Value} (h : QR w c bH hb cs bds own) (hs : s.cs = cs) (hb' : Below w.heap.size w w') (hA : Blk w' b 85 (actCells ⟨c, bH, hb, w.heap.size⟩ s vd (.slice none 0 0) (.slice none 0 0)))
    (hb0 : w.heap.size ≤ b) (hD : w'.ownsRow w.heap.size 3 1 vd s.draws.length (ints s.draws)) (hw : s.way = []) (hh : s.heads = []) : HR w' b ⟨c, bH, hb, w.heap.size⟩ bds own s := by
  have hM := h.1.1
  have hF := h.fix.only (S := []) (H := ⟨c, bH, hb, w.heap.size⟩) (cs := cs) hM (Only.of_below hb' rfl) (by simp)
  refine ⟨?_, hF, hb0, vd, _, _, hA, hD, ?_, ?_, ?_⟩
  · rw [hs]; exact hM.only (S := []) (Only.of_below hb' rfl) (by simp) (by simp)
  · rw [hw]; exact World.ownsRow_nil _ _ _ _
  · rw [hh]; exact World.ownsRow_nil _ _ _ _
  · intro g hg; simp [Value.ownBlock] at hg

theorem pop_any (h : QR w c bH hb cs bds own) :
    Calls Try.prog 20 #[.pointer (some ⟨bH, 0, none⟩)] w (HBegin w c bH hb bds own (popStart cs)) := by
  go_enter Try.func20, Try.ntmps20
  go_wp2
  go_ret
  have hA := Blk.new w 85 (actCells ⟨c, bH, hb, w.heap.size⟩ (popStart cs) (.slice none 0 0) (.slice none 0 0) (.slice none 0 0))
  have hb := (Below.refl w.heap.size w).alloc (Nat.le_refl _) (.cells (actCells ⟨c, bH, hb, w.heap.size⟩ (popStart cs) (.slice none 0 0) (.slice none 0 0) (.slice none 0 0)) 85)
  exact ⟨_, rfl, hr_begin h rfl hb hA (Nat.le_refl _) (World.ownsRow_nil _ _ _ _) rfl rfl, hb⟩

theorem hslot_any {H : HCfg} {bA : Nat} {s : HS} (h : HR w bA H bds own s) (hp : s.push = false) (h15 : s.ph = 15) :
    Calls Try.prog 22 #[.pointer (some ⟨bA, 0, none⟩)] w fun e w' => e = .returned (.int .i64 s.slot) ∧ w = w' := by
  obtain ⟨vd, vw, vh, hR⟩ := h.named
  have hA := hR.2.2.2.1
  have a1 : w.cell? ⟨bA, 1, none⟩ = some (.int .i64 15) := by rw [← h15]; exact hA.cell 1
  have a2 : w.cell? ⟨bA, 2, none⟩ = some (.int .i64 s.slot) := hA.cell 2
  have a3 : w.cell? ⟨bA, 3, none⟩ = some (.bool false) := by rw [← hp]; exact hA.cell 3
  clear hA hR h
  go_enter Try.func22, Try.ntmps22
  go_wp2
  go_ret
  exact ⟨rfl, rfl⟩

theorem fits_any {H : HCfg} {bA : Nat} {s : HS} (h : HR w bA H bds own s) :
    Calls Try.prog 17 #[.pointer (some ⟨bA, 0, none⟩)] w fun e w' => e = .returned (.bool s.fits) ∧ w = w' := by
  obtain ⟨vd, vw, vh, hR⟩ := h.named
  have hA := hR.2.2.2.1
  have a5 : w.cell? ⟨bA, 5, none⟩ = some (.bool s.fits) := hA.cell 5
  clear hA hR h
  go_enter Try.func17, Try.ntmps17
  go_wp2
  go_ret
  exact ⟨rfl, rfl⟩

theorem hcells_any (n : Nat) (h1 : 1 ≤ n) (h2 : n ≤ 4096) (w : World) :
    Calls Try.prog 6 #[.int .i64 6, .int .i64 n] w fun e w' => e = .returned (.int .i64 (63 + n)) ∧ w = w' := by
  go_enter Try.func6, Try.ntmps6
  go_wp2
  go_ret
  exact ⟨rfl, rfl⟩

theorem pcells_any (n : Nat) (h1 : 1 ≤ n) (h2 : n ≤ 4096) (w : World) :
    Calls Try.prog 4 #[.int .i64 n] w fun e w' => e = .returned (.int .i64 (n + 1)) ∧ w = w' := by
  go_enter Try.func4, Try.ntmps4
  go_wp2
  go_ret
  exact ⟨rfl, rfl⟩
end
end Go.Proofs.Ytnpglcbkpbhnoaa
