/- The walks over package pool, first part: what a pool is in memory; private. -/
import Derived.Test.YtnpglcbkpbhnoaaCell
import Derived.Deep.AppendLies
import Derived.RegionTactic
import Derived.Deep.RegionLaw
import Derived.Deep.RegionWith
import Derived.StillTailTactics
import Derived.WalkSmall
import Derived.OneCell
import Derived.Deep.DeepCutAuto
import Derived.Deep.CutBlock
namespace Go.Proofs.Ytnpglcbkpbhnoaa
open Go.RowKit Kq

/-- Where a pool lies, of how many cells, from which cell on, of how many slots. -/
structure Cfg where
  bM : Nat
  bC : Nat
  bP : Nat
  bN : Nat
  bW : Nat
  N : Nat
  pb : Nat
  n : Nat
  lo : Nat

def nodeCells (bds : List Int) : List Value := bds.flatMap fun b => [.slice none 0 0, .int .i64 b]

/-- What one worker has for itself. -/
def OwnR (w : World) (c : Cfg) (v : Value) (own : List Int) : Prop :=
  Blk w c.bW 22 #[v] ∧ w.ownsRow c.lo 3 1 v own.length (ints own) ∧ v.ownBlock ≠ some c.bC ∧ own.length ≤ 2

/-- A pool of one worker. -/
def PoolR (w : World) (c : Cfg) (cs bds own : List Int) : Prop :=
  MemR w c.bM c.bC c.N cs ∧
  Blk w c.bP 66 #[.pointer (some ⟨c.bM, 0, none⟩), .int .i64 c.pb, .slice (some ⟨c.bN, 0, none⟩) c.n c.n, .slice (some ⟨c.bW, 0, none⟩) 1 1] ∧
  Blk w c.bN 45 (nodeCells bds).toArray ∧ bds.length = c.n ∧ c.n ≤ 4096 ∧ c.pb + c.n + 1 ≤ c.N ∧
  (c.lo ≤ c.bM ∧ c.lo ≤ c.bC ∧ c.lo ≤ c.bP ∧ c.lo ≤ c.bN ∧ c.lo ≤ c.bW) ∧ ∃ v, OwnR w c v own

def ActR (w : World) (bA : Nat) (c : Cfg) (give : Bool) (slot ph top next : Int) : Prop :=
  Blk w bA 77 #[.pointer (some ⟨c.bP, 0, none⟩), .int .i64 0, .bool give, .int .i64 slot, .int .i64 ph, .int .i64 top, .int .i64 next]

section
variable {w : World} {c : Cfg} {bA : Nat}
set_option maxRecDepth 100000 in
set_option maxHeartbeats 400000 in
theorem private_none (give : Bool) (slot ph top next : Int) (v : Value) (own : List Int) (hA : ActR w bA c give slot ph top next)
    (hP : Blk w c.bP 66 #[.pointer (some ⟨c.bM, 0, none⟩), .int .i64 c.pb, .slice (some ⟨c.bN, 0, none⟩) c.n c.n, .slice (some ⟨c.bW, 0, none⟩) 1 1])
    (hO : OwnR w c v own) (hno : if give = true then 2 ≤ own.length else own.length = 0) :
    Calls Try.prog 69 #[.pointer (some ⟨bA, 0, none⟩)] w fun e w' => e = .returned (.bool false) ∧ ∃ n, w' = w.drewN n := by
  obtain ⟨hW, hown, hvC, hl2⟩ := hO
  have a0 : w.cell? ⟨bA, 0, none⟩ = some (.pointer (some ⟨c.bP, 0, none⟩)) := Blk.cell hA 0
  have a1 : w.cell? ⟨bA, 1, none⟩ = some (.int .i64 0) := Blk.cell hA 1
  have a2 : w.cell? ⟨bA, 2, none⟩ = some (.bool give) := Blk.cell hA 2
  have p3 : w.cell? ⟨c.bP, 3, none⟩ = some (.slice (some ⟨c.bW, 0, none⟩) 1 1) := hP.cell 3
  have o0 : w.cell? ⟨c.bW, 0, none⟩ = some v := hW.cell 0
  cases give with
  | true =>
    have hno2 : 2 ≤ own.length := by simpa using hno
    obtain ⟨g, cap, hv, _, _⟩ := hown.form (by omega)
    subst hv
    clear hA hP hW hown hvC hno
    generalize own.length = k at *
    go_enter Try.func69, Try.ntmps69
    go_wp2
    go_quiet (fail)
    go_wp2
    go_ret
    exact ⟨rfl, _, rfl⟩
  | false =>
    have hno2 : own.length = 0 := by simpa using hno
    obtain ⟨A, cap, hv⟩ : ∃ A cap, v = .slice A 0 cap := by
      rcases hown.2 with ⟨rfl, _⟩ | ⟨g, cap, cur, rfl, _⟩
      · exact ⟨_, _, rfl⟩
      · rw [hno2]; exact ⟨_, _, rfl⟩
    subst hv
    clear hA hP hW hown hvC hno hno2
    go_enter Try.func69, Try.ntmps69
    go_wp2
    go_quiet (fail)
    go_wp2
    go_ret
    exact ⟨rfl, _, rfl⟩

set_option maxRecDepth 100000 in
set_option maxHeartbeats 400000 in
theorem private_pop (slot ph top next : Int) (v : Value) (own : List Int) (last : Int) (hA : ActR w bA c false slot ph top next)
    (hP : Blk w c.bP 66 #[.pointer (some ⟨c.bM, 0, none⟩), .int .i64 c.pb, .slice (some ⟨c.bN, 0, none⟩) c.n c.n, .slice (some ⟨c.bW, 0, none⟩) 1 1])
    (hO : OwnR w c v (own ++ [last])) :
    Calls Try.prog 69 #[.pointer (some ⟨bA, 0, none⟩)] w fun e w' => e = .returned (.bool true) ∧ ActR w' bA c false last ph top next ∧ (∃ v', OwnR w' c v' own) ∧ Only [bA, c.bW] w w' := by
  obtain ⟨hW, hown, hvC, hl2⟩ := hO
  have hbn : bA ≠ c.bW := Blk.ne_ hA hW (by decide)
  have a0 : w.cell? ⟨bA, 0, none⟩ = some (.pointer (some ⟨c.bP, 0, none⟩)) := Blk.cell hA 0
  have a1 : w.cell? ⟨bA, 1, none⟩ = some (.int .i64 0) := Blk.cell hA 1
  have a2 : w.cell? ⟨bA, 2, none⟩ = some (.bool false) := Blk.cell hA 2
  have a3 : w.cell? ⟨bA, 3, none⟩ = some (.int .i64 slot) := Blk.cell hA 3
  have fA : ∀ i, w.frozen? ⟨bA, i, none⟩ = false := Blk.frozen hA
  have fW : ∀ i, w.frozen? ⟨c.bW, i, none⟩ = false := Blk.frozen hW
  have p3 : w.cell? ⟨c.bP, 3, none⟩ = some (.slice (some ⟨c.bW, 0, none⟩) 1 1) := hP.cell 3
  obtain ⟨g, cap, hv, hg, _⟩ := hown.form (by simp)
  subst hv
  have o0 : w.cell? ⟨c.bW, 0, none⟩ = some (.slice (some ⟨g, 0, none⟩) (own ++ [last]).length cap) := hW.cell 0
  have d : w.cell? ⟨g, own.length, none⟩ = some (.int .i64 last) := by
    have h := hown.cellAt own.length (by simp)
    rw [h, ints_get _ _ (by simp)]; simp
  have hcap := owns_cap hown
  have hgA : g ≠ bA := fun e => owns_ne hown hA (by decide) (by rw [← e]; rfl)
  have hgW : g ≠ c.bW := fun e => owns_ne hown hW (by decide) (by rw [← e]; rfl)
  have HF : Hid (Blk w bA _ _ ∧ Blk w c.bW _ _ ∧ World.ownsRow w _ _ _ _ _ _ ∧ own.length ≤ 1 ∧ g ≠ c.bC) := Lib.hid ⟨hA, hW, hown, by simpa using hl2, fun e => hvC (by rw [e]; rfl)⟩
  have hl3 : own.length ≤ 1 := by simpa using hl2
  clear hA hP hW hown hvC hl2
  rw [List.length_append, List.length_singleton] at *
  go_enter Try.func69, Try.ntmps69
  go_wp2
  go_quiet (fail)
  go_wp2
  go_ret
  rename_i nq
  obtain ⟨hA, hW, hown, hl, hgC⟩ := HF.out
  have hon : Only [bA, c.bW] w (((w.drewN nq).setCell ⟨bA, 3, none⟩ (.int .i64 last)).setCell ⟨c.bW, 0, none⟩ (.slice (some ⟨g, 0, none⟩) own.length cap)) :=
    (((Only.refl _ _).drewN _).setCell (by simp) _).setCell (by simp) _
  refine ⟨rfl, ?_, ⟨.slice (some ⟨g, 0, none⟩) own.length cap, ?_, ?_, ?_, by omega⟩, hon⟩
  · exact ((hA.drewN nq).set_ 3 _).far hbn _
  · exact ((hW.drewN nq).far hbn.symm _).set_ 0 _
  · refine ownsRow_pop (last := [.int .i64 last]) (by simp [ints]) (owns_only (S := [bA, c.bW]) ?_ hon ?_)
    · simpa [ints] using hown
    · intro g' hm; simp [Value.ownBlock]; simp at hm; omega
  · simp [Value.ownBlock]; exact hgC

theorem push_close {w w1 : World} {c : Cfg} {bA g cap' : Nat} {v : Value} {slot ph top next : Int} {own : List Int} (hA : ActR w bA c true slot ph top next) (hO : OwnR w c v own) (hl : own.length < 2) (hbC : c.bC < w.heap.size) (row : List Nat) (hrow : ∀ g, v.ownBlock = some g → g ∈ row)
    (k : Nat) (o : Obj) (hown' : w1.ownsRow c.lo 3 1 (.slice (some ⟨g, 0, none⟩) (own.length + 1) cap') (own.length + 1) (ints own ++ [.int .i64 slot]))
    (hgrow : ((w.drewN k).alloc o).grownBy w1 v.ownBlock) (hat : v.ownBlock = some g ∨ g = ((w.drewN k).alloc o).heap.size) :
    ActR (w1.setCell ⟨c.bW, 0, none⟩ (.slice (some ⟨g, 0, none⟩) (own.length + 1) cap')) bA c true slot ph top next ∧
    (∃ v', OwnR (w1.setCell ⟨c.bW, 0, none⟩ (.slice (some ⟨g, 0, none⟩) (own.length + 1) cap')) c v' (own ++ [slot])) ∧
    Only (bA :: c.bW :: row) w (w1.setCell ⟨c.bW, 0, none⟩ (.slice (some ⟨g, 0, none⟩) (own.length + 1) cap')) := by
  obtain ⟨hW, hown, hvC, hl2⟩ := hO
  have hbn : bA ≠ c.bW := Blk.ne_ hA hW (by decide)
  have hneW : v.ownBlock ≠ some c.bW := owns_ne hown hW (by decide)
  have hneA : v.ownBlock ≠ some bA := owns_ne hown hA (by decide)
  have hW1 := Blk.grown ((hW.drewN k).alloc o) hgrow hneW
  have hA1 := Blk.grown ((Blk.drewN hA k).alloc o) hgrow hneA
  have hgW : (Value.slice (some ⟨g, 0, none⟩) (own.length + 1) cap').ownBlock ≠ some c.bW := owns_ne hown' hW1 (by decide)
  refine ⟨Blk.far hA1 hbn _, ⟨_, hW1.set_ 0 _, ?_, ?_, by simp; omega⟩, ?_⟩
  · have := ownsRow_setCell_other hown' (a := ⟨c.bW, 0, none⟩) hgW (.slice (some ⟨g, 0, none⟩) (own.length + 1) cap')
    simpa [ints] using this
  · simp only [Value.ownBlock, ne_eq, Option.some.injEq]
    rcases hat with h | h
    · intro e; subst e; exact hvC h
    · intro e; rw [e] at h; simp at h; omega
  · refine (Only.grown (((Only.refl _ _).drewN _).alloc _) hgrow (fun g e => .inl ?_)).setCell (by simp) _
    have := hrow g e
    simp [this]

set_option maxRecDepth 100000 in
set_option maxHeartbeats 400000 in
theorem private_push (slot ph top next : Int) (v : Value) (own : List Int) (hA : ActR w bA c true slot ph top next)
    (hP : Blk w c.bP 66 #[.pointer (some ⟨c.bM, 0, none⟩), .int .i64 c.pb, .slice (some ⟨c.bN, 0, none⟩) c.n c.n, .slice (some ⟨c.bW, 0, none⟩) 1 1])
    (hO : OwnR w c v own) (hl : own.length < 2) (hlo : c.lo ≤ w.heap.size) (hbC : c.bC < w.heap.size) (row : List Nat) (hrow : ∀ g, v.ownBlock = some g → g ∈ row) :
    Calls Try.prog 69 #[.pointer (some ⟨bA, 0, none⟩)] w fun e w' => e = .returned (.bool true) ∧ ActR w' bA c true slot ph top next ∧ (∃ v', OwnR w' c v' (own ++ [slot])) ∧ Only (bA :: c.bW :: row) w w' := by
  obtain ⟨hW, hown, hvC, hl2⟩ := hO
  have hbn : bA ≠ c.bW := Blk.ne_ hA hW (by decide)
  have a0 : w.cell? ⟨bA, 0, none⟩ = some (.pointer (some ⟨c.bP, 0, none⟩)) := Blk.cell hA 0
  have a1 : w.cell? ⟨bA, 1, none⟩ = some (.int .i64 0) := Blk.cell hA 1
  have a2 : w.cell? ⟨bA, 2, none⟩ = some (.bool true) := Blk.cell hA 2
  have a3 : w.cell? ⟨bA, 3, none⟩ = some (.int .i64 slot) := Blk.cell hA 3
  have fA : ∀ i, w.frozen? ⟨bA, i, none⟩ = false := Blk.frozen hA
  have fW : ∀ i, w.frozen? ⟨c.bW, i, none⟩ = false := Blk.frozen hW
  have p3 : w.cell? ⟨c.bP, 3, none⟩ = some (.slice (some ⟨c.bW, 0, none⟩) 1 1) := hP.cell 3
  have o0 : w.cell? ⟨c.bW, 0, none⟩ = some v := hW.cell 0
  obtain ⟨A, cap, hv⟩ : ∃ A cap, v = .slice A own.length cap := by
    rcases hown.2 with ⟨rfl, h0⟩ | ⟨g, cap, cur, rfl, _⟩
    · rw [h0]; exact ⟨_, _, rfl⟩
    · exact ⟨_, _, rfl⟩
  subst hv
  obtain ⟨i0, hi, hz, h1, h8⟩ := info_parts int_info
  have kW : ∀ (m : Nat) (o : Obj), ((w.drewN m).alloc o).cell? ⟨c.bW, 0, none⟩ = some (.slice A own.length cap) := fun m o => ((hW.drewN m).alloc o).cell 0
  have kA : ∀ (m : Nat) (o : Obj), ((w.drewN m).alloc o).cell? ⟨bA, 3, none⟩ = some (.int .i64 slot) := fun m o => ((Blk.drewN hA m).alloc o).cell 3
  have hneW : (Value.slice A own.length cap).ownBlock ≠ some c.bW := owns_ne hown hW (by decide)
  have hneA : (Value.slice A own.length cap).ownBlock ≠ some bA := owns_ne hown hA (by decide)
  have f3 : own.length + 1 ≤ maxLen := by unfold maxLen; omega
  have f4 : (own.length + 1) * 8 ≤ 140737488355328 := by omega
  go_enter Try.func69, Try.ntmps69
  go_wp2
  go_quiet (fail)
  go_wp2
  go_region_law (refine step_append_lies _ rfl (.tmp 32) (.tmp 37) 22 rfl c.lo 3 i0 (.int .i64 0) 1 8 Try.underlying22 hi hz h1 h8 rfl (by decide) (.slice A own.length cap) own.length (ints own) rfl ((owns_drewN hown _).alloc _) ⟨w.heap.size, 0, none⟩ 1 1 [.int .i64 slot] rfl rfl (one_news _ _ _) (by simp [Value.oneCell']) (by decide) f3 f4 (by simp; omega) _ rfl ?_; intro g cap' w1 hown' hgrow hat hlt; have hW1 := Blk.grown ((hW.drewN _).alloc _) hgrow hneW; have k1 : w1.cell? ⟨c.bW, 0, none⟩ = some (.slice A own.length cap) := hW1.cell 0; have k2 := hW1.frozen 0)
  all_goals go_wp2
  all_goals go_ret
  all_goals exact ⟨rfl, push_close hA ⟨hW, hown, hvC, hl2⟩ hl hbC row hrow _ _ hown' hgrow hat⟩
end
end Go.Proofs.Ytnpglcbkpbhnoaa
