/- The plain law, sixth part: a whole Pop. -/
import Derived.Test.YtnpglcbkpbhnoaaQE
namespace Go.Proofs.Ytnpglcbkpbhnoaa.Kq

section
variable {bds : List Int} {hb n : Nat} {ls : ML}

/-- The top's first one taken out. -/
theorem take_sim {cs : List Int} (hS : Sim cs hb n bds ls) {x : Itm} {l' : List Itm} (hl : at1 ls 1 = x :: l') :
    upl (gt cs ((hb : Int) + 1 - 1)) = x.2 ∧ casB cs ((hb : Int) + 1 - 1) (gt cs ((hb : Int) + 1 - 1)) = true ∧
    Sim (csw cs ((hb : Int) + 1 - 1) (gt cs ((hb : Int) + 1 - 1)) (up (gt cs ((hb : Int) + 1 - 1)) (gt cs ((hb : Int) + 63 + x.2)))) hb n bds (ls.set 1 l') ∧
    ∀ j : Int, j < (hb : Int) → gt (csw cs ((hb : Int) + 1 - 1) (gt cs ((hb : Int) + 1 - 1)) (up (gt cs ((hb : Int) + 1 - 1)) (gt cs ((hb : Int) + 63 + x.2)))) j = gt cs j := by
  have hlen := hS.len
  have hc := hS.chain 1 (by omega) (by omega)
  have hk := hS.key 1 (by omega) (by omega)
  rw [hl] at hc hk
  obtain ⟨e, h0, hrest⟩ := hc
  have e' : upl (gt cs ((hb : Int) + 1 - 1)) = x.2 := e
  have hcas := casB_of (cs := cs) (i := (hb : Int) + 1 - 1) (by omega) (by omega) rfl
  refine ⟨e', hcas, ?_, ?_⟩
  · rw [csw_of hcas]
    have hg : ∀ (v j : Int), gt (stt cs ((hb : Int) + 1 - 1) v) j = if j = (hb : Int) + 1 - 1 then v else gt cs j := fun v j => gt_stt (by omega) (by omega)
    refine ⟨hS.n4, by rw [stt_length]; exact hlen, by simp [hS.nlen], hS.bl, fun q q1 q2 => ?_, fun q q1 q2 y hy => ?_⟩
    · have hch : ∀ (v : Int) (l : List Itm) (s : Int), (∀ y ∈ l, 0 ≤ y.2) → Chain cs ((hb : Int) + 63) s (ids l) → Chain (stt cs ((hb : Int) + 1 - 1) v) ((hb : Int) + 63) s (ids l) := by
        intro v l s hy h
        refine h.congr fun a ha => ?_
        obtain ⟨y, hy2, rfl⟩ := List.mem_map.1 ha
        have := hy y hy2
        rw [hg, if_neg (by omega)]
      rw [at1_set _ _ _ _ (by rw [hS.nlen]; omega), hg]
      by_cases e1 : q = 1
      · subst e1
        rw [if_pos rfl, if_pos (by omega)]
        refine hch _ _ _ (fun y hy => (hk y (by simp [hy])).2.1) ?_
        exact Chain.upd hrest (ids_le (fun y hy => (hk y (by simp [hy])).2) hS.n4) _
      · rw [if_neg e1, if_neg (by omega)]
        exact hch _ _ _ (fun y hy => (hS.key q q1 q2 y hy).2.1) (hS.chain q q1 q2)
    · rw [at1_set _ _ _ _ (by rw [hS.nlen]; omega)] at hy
      by_cases e1 : q = 1
      · rw [if_pos e1] at hy
        exact hk y (by simp [hy])
      · rw [if_neg e1] at hy
        exact hS.key q q1 q2 y hy
  · intro j hj
    rw [csw_of hcas, gt_stt_ne (by omega)]

theorem pop_sim {cs : List Int} (hS : Sim cs hb n bds ls) {x : Itm} {l' : List Itm} (hl : at1 ls 1 = x :: l') :
    ∃ (t : HS) (m : Nat), 0 < m ∧ m < 100 ∧ HRuns bds hb (popStart cs) t m ∧ t.ph = 15 ∧ t.slot = x.2 ∧ t.push = false ∧ Sim t.cs hb n bds (mPop ls) ∧ ∀ j : Int, j < (hb : Int) → gt t.cs j = gt cs j := by
  obtain ⟨hu, hcas, hsim, hlow⟩ := take_sim hS hl
  have hx := (hS.key 1 (by omega) (by omega) x (by rw [hl]; simp)).2
  have hn4 := hS.n4
  obtain ⟨s4, hs4⟩ : ∃ s4, popStart cs = s4 := ⟨_, rfl⟩
  have g4 : HGood hb s4 := by
    subst hs4
    exact ⟨⟨by show (-1 : Int) ≤ -1; omega, by show (-1 : Int) ≤ 4096; omega⟩, .inr (.inr (.inr (.inr (.inl ⟨rfl, by show (0 : Int) ≤ 1; omega, by show (1 : Int) ≤ 63; omega, by show 0 ≤ upl (gt cs ((hb : Int) + 1 - 1)); omega⟩))))⟩
  obtain ⟨s5, hs5⟩ : ∃ s5, ({ popStart cs with head := gt cs ((hb : Int) + 1 - 1), ph := 5 } : HS) = s5 := ⟨_, rfl⟩
  have e4 : hstep bds hb s4 = s5 := by subst hs4; subst hs5; rfl
  have g5 : HGood hb s5 := by
    subst hs5
    exact ⟨⟨by show (-1 : Int) ≤ -1; omega, by show (-1 : Int) ≤ 4096; omega⟩, .inr (.inr (.inr (.inr (.inr (.inl rfl)))))⟩
  obtain ⟨s6, hs6⟩ : ∃ s6, ({ popStart cs with head := gt cs ((hb : Int) + 1 - 1), next := gt cs ((hb : Int) + 63 + x.2), ph := 6 } : HS) = s6 := ⟨_, rfl⟩
  have e5 : hstep bds hb s5 = s6 := by
    subst hs5; subst hs6
    show ({ popStart cs with head := _, next := gt cs ((hb : Int) + 63 + upl (gt cs ((hb : Int) + 1 - 1))), ph := 6 } : HS) = _
    rw [hu]
  have g6 : HGood hb s6 := by
    subst hs6
    exact ⟨⟨by show (-1 : Int) ≤ -1; omega, by show (-1 : Int) ≤ 4096; omega⟩, .inr (.inr (.inr (.inr (.inr (.inr (.inl ⟨rfl, by show (0 : Int) ≤ 1; omega, by show (1 : Int) ≤ 63; omega, rfl, hcas⟩))))))⟩
  obtain ⟨s7, hs7⟩ : ∃ s7, ({ popStart cs with head := gt cs ((hb : Int) + 1 - 1), next := gt cs ((hb : Int) + 63 + x.2), cs := csw cs ((hb : Int) + 1 - 1) (gt cs ((hb : Int) + 1 - 1)) (up (gt cs ((hb : Int) + 1 - 1)) (gt cs ((hb : Int) + 63 + x.2))), slot := x.2, ph := 7 } : HS) = s7 := ⟨_, rfl⟩
  have e6 : hstep bds hb s6 = s7 := by
    subst hs6; subst hs7
    show ({ popStart cs with head := _, next := _, cs := csw cs ((hb : Int) + 1 - 1) (gt cs ((hb : Int) + 1 - 1)) (up (gt cs ((hb : Int) + 1 - 1)) (gt cs ((hb : Int) + 63 + x.2))), slot := upl (gt cs ((hb : Int) + 1 - 1)), ph := 7 } : HS) = _
    rw [hu]
  have hcs7 : s7.cs = csw cs ((hb : Int) + 1 - 1) (gt cs ((hb : Int) + 1 - 1)) (up (gt cs ((hb : Int) + 1 - 1)) (gt cs ((hb : Int) + 63 + x.2))) := by subst hs7; rfl
  have sl7 : s7.slot = x.2 := by subst hs7; rfl
  obtain ⟨t, m, hm, hr, tph, tsl, tpu, tS, tlow⟩ := sink_run (bds := bds) (n := n) 6 (ls.set 1 l') s7 1 (by rw [hcs7]; exact hsim) (by subst hs7; rfl) (by subst hs7; rfl) (by omega) (by omega) (by decide) (by omega) (by omega) (by omega)
  have hmp : mSink (ls.set 1 l') 1 6 = mPop ls := by unfold mPop; rw [hl]; rfl
  rw [hmp] at tS
  refine ⟨t, 3 + m, by omega, by omega, ?_, tph, by rw [tsl, sl7], by rw [tpu]; subst hs7; rfl, tS, fun j hj => ?_⟩
  · rw [hs4]
    exact HRuns.trans (m := 3) (HRuns.cons g4 e4 (HRuns.cons g5 e5 (HRuns.cons g6 e6 (HRuns.refl _ _ _)))) hr
  · rw [tlow j hj, hcs7]
    exact hlow j hj
end
end Go.Proofs.Ytnpglcbkpbhnoaa.Kq
