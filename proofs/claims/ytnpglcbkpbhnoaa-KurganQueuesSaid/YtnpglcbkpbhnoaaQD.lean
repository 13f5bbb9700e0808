/- The plain law, fourth part: a whole Push. -/
import Derived.Test.YtnpglcbkpbhnoaaQC
namespace Go.Proofs.Ytnpglcbkpbhnoaa.Kq

section
variable {bds : List Int} {hb n : Nat} {ls : ML}

theorem probe_run (key : Int) (D : List Int) (hD : D.length ≤ 4) (d : Nat) : ∀ (s : HS) (j : Nat), D.length - j ≤ d → j ≤ D.length → Sim s.cs hb n bds ls → s.ph = 0 → s.probe = j → s.draws = D → 0 ≤ s.slot → s.slot < (n : Int) → gt bds s.slot = key →
    (∀ i : Nat, 1 ≤ i → i ≤ 63 → ∀ x ∈ at1 ls i, x.2 ≠ s.slot) →
    ∃ (t : HS) (m : Nat), 0 < m ∧ m ≤ d + 9 ∧ HRuns bds hb s t m ∧ t.ph = 15 ∧
      ((leafD ls key (D.drop j) = none ∧ t.fits = s.fits ∧ t.cs = s.cs) ∨
       (∃ leaf, leafD ls key (D.drop j) = some leaf ∧ 32 ≤ leaf ∧ leaf ≤ 63 ∧ fitsL (at1 ls leaf) key = true ∧ (∃ d ∈ D, leaf = drawLeaf d) ∧ t.fits = true ∧ 1 ≤ mPlace ls key leaf ∧ mPlace ls key leaf ≤ 63 ∧
        Sim t.cs hb n bds (mInsert ls (key, s.slot) (mPlace ls key leaf)) ∧ ∀ i : Int, i < (hb : Int) → gt t.cs i = gt s.cs i)) := by
  induction d with
  | zero =>
    intro s j hd hj hS hph hpr hdr hs0 hs1 hk hno
    have hn4 := hS.n4
    have hg : HGood hb s := ⟨⟨by omega, by omega⟩, .inl ⟨hph, by omega, by omega, by rw [hdr]; exact hD⟩⟩
    have he : hstep bds hb s = { s with ph := 15 } := by
      unfold hstep
      rw [if_pos hph]
      unfold hProbe
      rw [if_pos (by rw [hdr]; omega)]
    exact ⟨_, 1, by omega, by omega, HRuns.cons hg he (HRuns.refl _ _ _), rfl, .inl ⟨leafD_end (by omega), rfl, rfl⟩⟩
  | succ d ih =>
    intro s j hd hj hS hph hpr hdr hs0 hs1 hk hno
    have hn4 := hS.n4
    have hg : HGood hb s := ⟨⟨by omega, by omega⟩, .inl ⟨hph, by omega, by omega, by rw [hdr]; exact hD⟩⟩
    have he : hstep bds hb s = hProbe bds hb s := by unfold hstep; rw [if_pos hph]
    by_cases hjl : D.length ≤ j
    · have he2 : hProbe bds hb s = { s with ph := 15 } := by
        unfold hProbe
        rw [if_pos (by rw [hdr]; omega)]
      exact ⟨_, 1, by omega, by omega, HRuns.cons hg (he.trans he2) (HRuns.refl _ _ _), rfl, .inl ⟨leafD_end (by omega), rfl, rfl⟩⟩
    · have hjl2 : j < D.length := by omega
      obtain ⟨leaf, hleaf⟩ : ∃ leaf, drawLeaf (D.getD j 0) = leaf := ⟨_, rfl⟩
      have hmem : D.getD j 0 ∈ D := by
        rw [List.getD_eq_getElem?_getD, List.getElem?_eq_getElem hjl2]
        exact List.getElem_mem _
      have hlb : 32 ≤ leaf ∧ leaf ≤ 63 := by rw [← hleaf]; unfold drawLeaf; omega
      have hlo : leafOf s = (leaf : Nat) := by
        unfold leafOf
        rw [hpr, hdr, gt_eq rfl hjl2, ← hleaf]
        unfold drawLeaf
        omega
      have hbel := hS.below leaf (by omega) (by omega) key
      have hat := leafD_at (ls := ls) (key := key) hjl2
      rw [hleaf] at hat
      by_cases hft : fitsL (at1 ls leaf) key = true
      · rw [if_pos hft] at hat
        have he2 : hProbe bds hb s = { s with way := wayTo (leaf : Nat), heads := [0, 0, 0, 0, 0, gt s.cs ((hb : Int) + (leaf : Nat) - 1)], low := 0, high := 5, ph := 1 } := by
          unfold hProbe
          rw [if_neg (by rw [hdr]; omega), hlo, hk, hbel, hft]
          rfl
        obtain ⟨t, m, hm, hr, tph, tf, tp1, tp2, tS, tlow⟩ := leaf_run (n := n) (bds := bds) (hb := hb) (ls := ls) hlb.1 hlb.2 key { s with way := wayTo (leaf : Nat), heads := [0, 0, 0, 0, 0, gt s.cs ((hb : Int) + (leaf : Nat) - 1)], low := 0, high := 5, ph := 1 } hS rfl rfl rfl rfl rfl rfl hs0 hs1 hk hno
        exact ⟨t, m + 1, by omega, by omega, HRuns.cons hg (he.trans he2) hr, tph, .inr ⟨leaf, hat, hlb.1, hlb.2, hft, ⟨_, hmem, hleaf.symm⟩, tf, tp1, tp2, tS, tlow⟩⟩
      · have hff : fitsL (at1 ls leaf) key = false := by simpa using hft
        rw [if_neg hft] at hat
        have he2 : hProbe bds hb s = { s with probe := s.probe + 1 } := by
          unfold hProbe
          rw [if_neg (by rw [hdr]; omega), hlo, hk, hbel, hff]
          rfl
        obtain ⟨t, m, hm0, hm, hr, tph, hrest⟩ := ih { s with probe := s.probe + 1 } (j + 1) (by omega) (by omega) hS hph (by show s.probe + 1 = ((j + 1 : Nat) : Int); omega) hdr hs0 hs1 hk hno
        rw [hat]
        exact ⟨t, m + 1, by omega, by omega, HRuns.cons hg (he.trans he2) hr, tph, hrest⟩

theorem push_sim {cs : List Int} (hS : Sim cs hb n bds ls) (slot key : Int) (ds : List Int) (hs0 : 0 ≤ slot) (hs1 : slot < (n : Int)) (hk : gt bds slot = key) (hno : ∀ i : Nat, 1 ≤ i → i ≤ 63 → ∀ x ∈ at1 ls i, x.2 ≠ slot) :
    ∃ (t : HS) (m : Nat), 0 < m ∧ m < 100 ∧ HRuns bds hb (pushStart cs slot ds) t m ∧ PushEnd cs bds hb n ls slot key ds t := by
  have hD : (pushStart cs slot ds).draws.length ≤ 4 := by
    unfold pushStart
    by_cases h : ds = []
    · simp [h]
    · simp [h]; omega
  obtain ⟨t, m, hm0, hm, hr, tph, hrest⟩ := probe_run (n := n) (bds := bds) (hb := hb) (ls := ls) key _ hD 4 (pushStart cs slot ds) 0 (by omega) (by omega) hS rfl rfl rfl hs0 hs1 hk hno
  refine ⟨t, m, hm0, by omega, hr, tph, ?_⟩
  rcases hrest with ⟨_, hf, hc⟩ | ⟨leaf, hl, h0, h1, hft, ⟨d, hd, hdl⟩, hf, hp1, hp2, hT, hlow⟩
  · exact .inl ⟨hf, hc⟩
  · have hml : mLeaf ls key ds = leaf := by
      unfold mLeaf
      by_cases h : ds = []
      · subst h
        have hd0 : d = 0 := by simpa [pushStart] using hd
        subst hd0
        have : leaf = 32 := hdl
        subst this
        show (leafD ls key []).getD (if fitsL (at1 ls 32) key = true then 32 else _) = 32
        rw [if_pos hft]
        rfl
      · have : (pushStart cs slot ds).draws = ds.take 4 := by unfold pushStart; rw [if_neg h]
        rw [this, List.drop_zero] at hl
        rw [hl]
        rfl
    rw [hml]
    exact .inr ⟨hf, h0, h1, hft, hp1, hp2, hT, hlow⟩
end
end Go.Proofs.Ytnpglcbkpbhnoaa.Kq
