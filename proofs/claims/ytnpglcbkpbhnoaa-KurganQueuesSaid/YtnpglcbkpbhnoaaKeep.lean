/- What a call on pools, heaps leaves alone: blocks below a bound, and blocks of other types. A pool kept while its memory turns. -/
import Derived.Test.YtnpglcbkpbhnoaaPoolA
namespace Go.Proofs.Ytnpglcbkpbhnoaa
open Go.RowKit Kq

theorem MemR.apart {w : World} {bM bC N g : Nat} {xs : List Int} {t : TypeId} {cs : Array Value} (h : MemR w bM bC N xs) (hb : Blk w g t cs) (h1 : t ≠ 62) (h2 : t ≠ 3) : g ∉ [bM, bC] := by
  obtain ⟨s, k0, k1, k2, k3, b4, hM, hC, _⟩ := h
  have h1 := Blk.ne_ hb hM h1
  have h2 := Blk.ne_ hb hC h2
  simp [h1, h2]
theorem MemR.drewN {w : World} {bM bC N : Nat} {xs : List Int} (h : MemR w bM bC N xs) (k : Nat) : MemR (w.drewN k) bM bC N xs := h

structure Keeps (lo : Nat) (T : List TypeId) (w w' : World) : Prop where
  os : w'.os = w.os
  tape : w'.tape = w.tape
  output : w'.output = w.output
  size : w.heap.size ≤ w'.heap.size
  block : ∀ g, g < w.heap.size → (g < lo ∨ ∃ t cs, Blk w g t cs ∧ t ∉ T) → w'.heap[g]? = w.heap[g]?

section
variable {lo : Nat} {T : List TypeId} {a b w w' : World} {S : List Nat}
theorem Keeps.refl (w : World) : Keeps lo T w w := ⟨rfl, rfl, rfl, Nat.le_refl _, fun _ _ _ => rfl⟩
theorem Keeps.trans (h : Keeps lo T a b) (k : Keeps lo T b w) : Keeps lo T a w :=
  ⟨k.os.trans h.os, k.tape.trans h.tape, k.output.trans h.output, Nat.le_trans h.size k.size, fun g hg hc => by
    have e := h.block g hg hc
    refine (k.block g (Nat.lt_of_lt_of_le hg h.size) ?_).trans e
    rcases hc with hc | ⟨t, cs, hb, ht⟩
    · exact .inl hc
    · exact .inr ⟨t, cs, hb.of_eq e, ht⟩⟩
theorem Keeps.of_only (k : Only S w w') (hS : ∀ g, g ∈ S → lo ≤ g ∧ ∃ t cs, Blk w g t cs ∧ t ∈ T) : Keeps lo T w w' :=
  ⟨k.os, k.tape, k.output, k.size, fun g hg hc => k.block g hg (fun hm => by
    obtain ⟨h1, t, cs, hb, ht⟩ := hS g hm
    rcases hc with hc | ⟨t', cs', hb', ht'⟩
    · omega
    · obtain ⟨rfl, _⟩ := hb.inj hb'
      exact ht' ht)⟩
theorem Keeps.of_below (h : Below w.heap.size w w') : Keeps lo T w w' := ⟨h.os, h.tape, h.output, h.size, fun g hg _ => h.block g hg⟩
theorem Blk.keeps {g : Nat} {t : TypeId} {cs : Array Value} (h : Blk w g t cs) (k : Keeps lo T w w') (ht : t ∉ T) : Blk w' g t cs := h.of_eq (k.block g h.lt (.inr ⟨t, cs, h, ht⟩))
theorem Keeps.below {B : Nat} (h : Below B a w) (k : Keeps lo T w w') (hB : B ≤ lo) (hBa : B ≤ a.heap.size) : Below B a w' :=
  ⟨k.os.trans h.os, k.tape.trans h.tape, k.output.trans h.output, Nat.le_trans h.size k.size, fun g hg =>
    (k.block g (by have := h.size; omega) (.inl (by omega))).trans (h.block g hg)⟩
theorem Keeps.cell {p : Addr} (k : Keeps lo T w w') (h : p.block < lo) (hw : p.block < w.heap.size) : w'.cell? p = w.cell? p := World.cell?_of_block (k.block _ hw (.inl h))
end

/-- What pools turn. -/
abbrev TP : List TypeId := [62, 3, 45, 22, 77]

theorem PoolR.mem {w w' : World} {c : Cfg} {cs cs' bds own : List Int} {S : List Nat} (h : PoolR w c cs bds own) (k : Only S w w') (hM : MemR w' c.bM c.bC c.N cs')
    (hS : ∀ g, g ∈ S → g = c.bM ∨ g = c.bC ∨ ∃ t ds, Blk w g t ds ∧ t ∉ [66, 45, 22, 3]) : PoolR w' c cs' bds own := by
  obtain ⟨hM0, hP, hN, h1, h2, h3, h4, v, hW, hown, hvC, h5⟩ := h
  have hPM := hM0.apart hP (by decide) (by decide)
  have hNM := hM0.apart hN (by decide) (by decide)
  have hWM := hM0.apart hW (by decide) (by decide)
  have hnot : ∀ {g t ds}, Blk w g t ds → t ∈ [66, 45, 22, 3] → g ∉ [c.bM, c.bC] → g ∉ S := by
    intro g t ds hb ht hg hm
    rcases hS g hm with rfl | rfl | ⟨t', ds', hb', ht'⟩
    · simp at hg
    · simp at hg
    · obtain ⟨rfl, _⟩ := hb.inj hb'
      exact ht' ht
  refine ⟨hM, hP.only k (hnot hP (by decide) hPM), hN.only k (hnot hN (by decide) hNM), h1, h2, h3, h4, v, hW.only k (hnot hW (by decide) hWM), owns_only hown k ?_, hvC, h5⟩
  intro g hm he
  rcases hown.2 with ⟨rfl, _⟩ | ⟨g', cap, cur, rfl, _, hb, _⟩
  · simp [Value.ownBlock] at he
  · have e : g' = g := by simpa [Value.ownBlock] using he
    subst e
    rcases hS g' hm with rfl | rfl | ⟨t', ds', hb', ht'⟩
    · obtain ⟨s, k0, k1, k2, k3, b4, hMM, _⟩ := hM0
      exact Blk.ne_ (t := 3) (cs := cur) hb hMM (by decide) rfl
    · exact hvC he
    · obtain ⟨rfl, _⟩ := Blk.inj (t := 3) (cs := cur) hb hb'
      exact ht' (by decide)
end Go.Proofs.Ytnpglcbkpbhnoaa
