/- The plain law, second part: a slot put in. -/
import Derived.Test.YtnpglcbkpbhnoaaQA
import Derived.Test.YtnpglcbkpbhnoaaMoundF
namespace Go.Proofs.Ytnpglcbkpbhnoaa.Kq

theorem way_mem (leaf : Nat) (h0 : 32 ≤ leaf) (h1 : leaf ≤ 63) : ∀ a ∈ wayTo (leaf : Int), 0 ≤ a ∧ a ≤ 63 := by
  intro a ha
  simp only [wayTo, List.mem_cons, List.not_mem_nil, or_false] at ha
  rcases ha with rfl | rfl | rfl | rfl | rfl | rfl <;> omega

section
variable {bds : List Int} {hb n : Nat} {ls : ML}

theorem halves_sim {leaf : Nat} (h0 : 32 ≤ leaf) (h1 : leaf ≤ 63) (key : Int) (d : Nat) : ∀ (s : HS) (l h f : Nat), Sim s.cs hb n bds ls → h - l ≤ d → l < h → h ≤ 5 → h - l < f → s.ph = 1 → s.low = l → s.high = h → s.way = wayTo (leaf : Int) → s.heads.length = 6 →
    gt s.heads h = gt s.cs ((hb : Int) + wayN leaf h - 1) → 0 ≤ s.slot → s.slot ≤ 4096 → gt bds s.slot = key →
    ∃ (t : HS) (m : Nat), m ≤ d ∧ HRuns bds hb s t m ∧ t.ph = 2 ∧ t.at_ = (wayN leaf (mHalves ls key leaf (l, h) f).2 : Nat) ∧ t.head = gt s.cs ((hb : Int) + t.at_ - 1) ∧ t.cs = s.cs ∧ t.slot = s.slot ∧ (mHalves ls key leaf (l, h) f).2 ≤ 5 := by
  induction d with
  | zero => intro s l h f _ hd hl; omega
  | succ d ih =>
    intro s l h f hS hd hl h5 hf hph hlow hhigh hway hheads hcell hs0 hs1 hkey
    have hg : HGood hb s := ⟨⟨by omega, hs1⟩, .inr (.inl ⟨hph, by omega, by omega, by omega, by rw [hway]; rfl, hheads, by rw [hway]; exact way_mem leaf h0 h1⟩)⟩
    have he : hstep bds hb s = hHalf bds hb s := by unfold hstep; rw [hph]; rfl
    obtain ⟨mid, hmid⟩ : ∃ mid, (l + h) / 2 = mid := ⟨_, rfl⟩
    have hmi : (s.low + s.high) / 2 = (mid : Nat) := by rw [hlow, hhigh]; omega
    have hw := wayN_bd leaf mid (by omega) h0 h1
    have hbel := hS.below (wayN leaf mid) (by omega) (by omega) key
    have hwm : gt s.way (mid : Nat) = (wayN leaf mid : Nat) := by rw [hway]; exact way_at leaf mid (by omega)
    obtain ⟨f', rfl⟩ : ∃ f', f = f' + 1 := ⟨f - 1, by omega⟩
    have hmH : mHalves ls key leaf (l, h) (f' + 1) = mHalves ls key leaf (mHalf ls key leaf (l, h)) f' := by
      show (if l < h then _ else _) = _
      rw [if_pos hl]
    rw [hmH]
    unfold mHalf
    simp only [hmid]
    by_cases hft : fitsL (at1 ls (wayN leaf mid)) key = true
    · rw [if_pos hft]
      have hst : hHalf bds hb s = halved { s with high := (mid : Nat), heads := stt s.heads (mid : Nat) (gt s.cs ((hb : Int) + (wayN leaf mid : Nat) - 1)) } := by
        unfold hHalf
        rw [hmi, hwm, hkey, hbel, hft]
        rfl
      have hcm : gt (stt s.heads (mid : Nat) (gt s.cs ((hb : Int) + (wayN leaf mid : Nat) - 1))) (mid : Nat) = gt s.cs ((hb : Int) + (wayN leaf mid : Nat) - 1) := by
        rw [gt_stt (by omega) (by rw [hheads]; omega), if_pos rfl]
      by_cases hlm : l = mid
      · have e2 : halved { s with high := (mid : Nat), heads := stt s.heads (mid : Nat) (gt s.cs ((hb : Int) + (wayN leaf mid : Nat) - 1)) } =
            { s with high := (mid : Nat), heads := stt s.heads (mid : Nat) (gt s.cs ((hb : Int) + (wayN leaf mid : Nat) - 1)), at_ := (wayN leaf mid : Nat), head := gt s.cs ((hb : Int) + (wayN leaf mid : Nat) - 1), ph := 2 } := by
          unfold halved
          rw [if_pos (by show s.low = (mid : Nat); omega)]
          show ({ s with high := _, heads := _, at_ := gt s.way (mid : Nat), head := gt (stt _ _ _) (mid : Nat), ph := _ } : HS) = _
          rw [hwm, hcm]
        have hend : (mHalves ls key leaf (l, mid) f') = (l, mid) := by
          cases f' with
          | zero => rfl
          | succ f' => show (if l < mid then _ else _) = _; rw [if_neg (by omega)]
        rw [hend]
        exact ⟨_, 1, by omega, HRuns.cons hg (he.trans (hst.trans e2)) (HRuns.refl _ _ _), rfl, rfl, rfl, rfl, rfl, by show mid ≤ 5; omega⟩
      · have e2 : halved { s with high := (mid : Nat), heads := stt s.heads (mid : Nat) (gt s.cs ((hb : Int) + (wayN leaf mid : Nat) - 1)) } = { s with high := (mid : Nat), heads := stt s.heads (mid : Nat) (gt s.cs ((hb : Int) + (wayN leaf mid : Nat) - 1)) } := by
          unfold halved
          rw [if_neg (by show ¬ s.low = (mid : Nat); omega)]
        obtain ⟨t, m, hm, hr, hrest⟩ := ih { s with high := (mid : Nat), heads := stt s.heads (mid : Nat) (gt s.cs ((hb : Int) + (wayN leaf mid : Nat) - 1)) } l mid f' hS (by omega) (by omega) (by omega) (by omega) hph hlow rfl hway (by show (stt _ _ _).length = 6; rw [stt_length]; exact hheads) hcm hs0 hs1 hkey
        exact ⟨t, m + 1, by omega, HRuns.cons hg (he.trans (hst.trans e2)) hr, hrest⟩
    · rw [if_neg hft]
      have hff : fitsL (at1 ls (wayN leaf mid)) key = false := by simpa using hft
      have hst : hHalf bds hb s = halved { s with low := (mid : Nat) + 1 } := by
        unfold hHalf
        rw [hmi, hwm, hkey, hbel, hff]
        rfl
      by_cases hlm : mid + 1 = h
      · have hwh : gt s.way (h : Nat) = (wayN leaf h : Nat) := by rw [hway]; exact way_at leaf h (by omega)
        have e2 : halved { s with low := (mid : Nat) + 1 } = { s with low := (mid : Nat) + 1, at_ := (wayN leaf h : Nat), head := gt s.cs ((hb : Int) + (wayN leaf h : Nat) - 1), ph := 2 } := by
          unfold halved
          rw [if_pos (by show (mid : Int) + 1 = s.high; omega)]
          show ({ s with low := _, at_ := gt s.way s.high, head := gt s.heads s.high, ph := _ } : HS) = _
          rw [hhigh, hwh, hcell]
        have hend : (mHalves ls key leaf (mid + 1, h) f') = (mid + 1, h) := by
          cases f' with
          | zero => rfl
          | succ f' => show (if mid + 1 < h then _ else _) = _; rw [if_neg (by omega)]
        rw [hend]
        exact ⟨_, 1, by omega, HRuns.cons hg (he.trans (hst.trans e2)) (HRuns.refl _ _ _), rfl, rfl, rfl, rfl, rfl, h5⟩
      · have e2 : halved { s with low := (mid : Nat) + 1 } = { s with low := (mid : Nat) + 1 } := by
          unfold halved
          rw [if_neg (by show ¬ (mid : Int) + 1 = s.high; omega)]
        obtain ⟨t, m, hm, hr, hrest⟩ := ih { s with low := (mid : Nat) + 1 } (mid + 1) h f' hS (by omega) (by omega) h5 (by omega) hph (by show (mid : Int) + 1 = ((mid + 1 : Nat) : Int); omega) hhigh hway hheads hcell hs0 hs1 hkey
        exact ⟨t, m + 1, by omega, HRuns.cons hg (he.trans (hst.trans e2)) hr, hrest⟩
end
end Go.Proofs.Ytnpglcbkpbhnoaa.Kq
