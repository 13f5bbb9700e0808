/- A mound kept while pools and heaps turn. -/
import Derived.Test.YtnpglcbkpbhnoaaQJ
import Derived.Test.YtnpglcbkpbhnoaaMoundF
namespace Go.Proofs.Ytnpglcbkpbhnoaa
open Go.RowKit Kq

section
variable {T : Nat} {w w' : World} {bO bL : Nat} {ls : ML} {size : Int}

theorem MoundR.keeps {lo : Nat} (h : MoundR T w bO bL ls size) (k : Keeps lo TP w w') : MoundR T w' bO bL ls size := by
  obtain ⟨hO, hl, vs, hl0, hL, hI⟩ := h
  exact ⟨hO.keeps k (by decide), hl, vs, hl0, hL.keeps k (by decide), fun i hi => (hI i hi).of_same fun g cs _ hb => hb.keeps k (by decide)⟩

theorem MoundR.hk {H : HCfg} {N : Nat} {cs : List Int} (h : MoundR T w bO bL ls size) (k : HK H w w') (hM : MemR w H.c.bM H.c.bC N cs) (hO0 : bO < H.h0) (hL0 : bL < H.h0) (hT : T ≤ H.h0) : MoundR T w' bO bL ls size := by
  obtain ⟨hO, hl, vs, hl0, hL, hI⟩ := h
  have hne : ∀ {g t ds}, Blk w g t ds → t ≠ 62 → t ≠ 3 → g < H.h0 → w'.heap[g]? = w.heap[g]? := by
    intro g t ds hb e1 e2 hg
    have hap := hM.apart hb e1 e2
    simp at hap
    exact k.block g hg hb.lt hap.1 hap.2
  exact ⟨hO.of_eq (hne hO (by decide) (by decide) hO0), hl, vs, hl0, hL.of_eq (hne hL (by decide) (by decide) hL0), fun i hi => (hI i hi).of_same fun g cs hg hb => hb.of_eq (hne hb (by decide) (by decide) (by omega))⟩

theorem MoundR.only_mem {S : List Nat} (h : MoundR T w bO bL ls size) (k : Only S w w') (hS : ∀ g, g ∈ S → ∃ t cs, Blk w g t cs ∧ t ≠ 72 ∧ t ≠ 88 ∧ t ≠ 52) : MoundR T w' bO bL ls size := by
  obtain ⟨hO, hl, vs, hl0, hL, hI⟩ := h
  have hne : ∀ {g t ds}, Blk w g t ds → t = 72 ∨ t = 88 ∨ t = 52 → g ∉ S := by
    intro g t ds hb ht hm
    obtain ⟨t', ds', hb', h1, h2, h3⟩ := hS g hm
    obtain ⟨rfl, _⟩ := hb.inj hb'
    rcases ht with ht | ht | ht
    · exact h1 ht
    · exact h2 ht
    · exact h3 ht
  exact ⟨hO.only k (hne hO (.inl rfl)), hl, vs, hl0, hL.only k (hne hL (.inr (.inl rfl))), fun i hi => (hI i hi).of_same fun g cs _ hb => hb.only k (hne hb (.inr (.inr rfl)))⟩
end
end Go.Proofs.Ytnpglcbkpbhnoaa
