/- The plain law, third part: join, put, probe; a whole Push. -/
import Derived.Test.YtnpglcbkpbhnoaaQB
namespace Go.Proofs.Ytnpglcbkpbhnoaa.Kq

section
variable {bds : List Int} {hb n : Nat} {ls : ML}

theorem at1_set (ls : ML) (i k : Nat) (l : List Itm) (hi : i < ls.length) : at1 (ls.set i l) k = if k = i then l else at1 ls k := by
  unfold at1
  rw [List.getD_eq_getElem?_getD, List.getElem?_set]
  by_cases h : k = i
  · subst h; rw [if_pos rfl, if_pos hi, if_pos rfl]; rfl
  · rw [if_neg (Ne.symm h), if_neg h, List.getD_eq_getElem?_getD]

/-- Put at a place: its link is said, its head is turned. -/
theorem put_sim {cs : List Int} (hS : Sim cs hb n bds ls) (p : Nat) (h1 : 1 ≤ p) (h2 : p ≤ 63) (slot key : Int) (hs0 : 0 ≤ slot) (hs1 : slot < (n : Int)) (hk : gt bds slot = key) (hno : ∀ i : Nat, 1 ≤ i → i ≤ 63 → ∀ x ∈ at1 ls i, x.2 ≠ slot) :
    casB (stt cs ((hb : Int) + 63 + slot) (upl (gt cs ((hb : Int) + p - 1)))) ((hb : Int) + p - 1) (gt cs ((hb : Int) + p - 1)) = true ∧
    Sim (csw (stt cs ((hb : Int) + 63 + slot) (upl (gt cs ((hb : Int) + p - 1)))) ((hb : Int) + p - 1) (gt cs ((hb : Int) + p - 1)) (up (gt cs ((hb : Int) + p - 1)) slot)) hb n bds (mInsert ls (key, slot) p) ∧
    ∀ i : Int, i < (hb : Int) → gt (csw (stt cs ((hb : Int) + 63 + slot) (upl (gt cs ((hb : Int) + p - 1)))) ((hb : Int) + p - 1) (gt cs ((hb : Int) + p - 1)) (up (gt cs ((hb : Int) + p - 1)) slot)) i = gt cs i := by
  have hlen := hS.len
  have hn4 := hS.n4
  have hc1 : gt (stt cs ((hb : Int) + 63 + slot) (upl (gt cs ((hb : Int) + p - 1)))) ((hb : Int) + p - 1) = gt cs ((hb : Int) + p - 1) := gt_stt_ne (by omega)
  have hcas := casB_of (cs := stt cs ((hb : Int) + 63 + slot) (upl (gt cs ((hb : Int) + p - 1)))) (i := (hb : Int) + p - 1) (by omega) (by rw [stt_length]; omega) hc1
  refine ⟨hcas, ?_, ?_⟩
  · rw [csw_of hcas]
    generalize hh : gt cs ((hb : Int) + p - 1) = hd at *
    have hlen2 : (stt (stt cs ((hb : Int) + 63 + slot) (upl hd)) ((hb : Int) + p - 1) (up hd slot)).length = cs.length := by rw [stt_length, stt_length]
    have hg : ∀ j : Int, gt (stt (stt cs ((hb : Int) + 63 + slot) (upl hd)) ((hb : Int) + p - 1) (up hd slot)) j = if j = (hb : Int) + p - 1 then up hd slot else if j = (hb : Int) + 63 + slot then upl hd else gt cs j := by
      intro j
      rw [gt_stt (by omega) (by rw [stt_length]; omega), gt_stt (by omega) (by omega)]
    refine ⟨hn4, by rw [hlen2]; exact hlen, by simp [mInsert, hS.nlen], hS.bl, fun i hi1 hi2 => ?_, fun i hi1 hi2 x hx => ?_⟩
    · unfold mInsert
      rw [at1_set _ _ _ _ (by rw [hS.nlen]; omega), hg]
      have hch : ∀ i : Nat, 1 ≤ i → i ≤ 63 → Chain (stt (stt cs ((hb : Int) + 63 + slot) (upl hd)) ((hb : Int) + p - 1) (up hd slot)) ((hb : Int) + 63) (upl (gt cs ((hb : Int) + i - 1))) (ids (at1 ls i)) := by
        intro i hi1 hi2
        refine (hS.chain i hi1 hi2).congr fun a ha => ?_
        obtain ⟨x, hx, rfl⟩ := List.mem_map.1 ha
        have h0 := (hS.key i hi1 hi2 x hx).2.1
        have h3 := hno i hi1 hi2 x hx
        rw [hg, if_neg (by omega), if_neg (by omega)]
      by_cases hip : i = p
      · subst hip
        rw [if_pos rfl, if_pos rfl, upl_up hd slot hs0 (by omega)]
        refine ⟨rfl, hs0, ?_⟩
        rw [hg, if_neg (by omega), if_pos rfl]
        have := hch i hi1 hi2
        rw [hh] at this
        exact this
      · rw [if_neg (by omega), if_neg (by omega), if_neg hip]
        exact hch i hi1 hi2
    · unfold mInsert at hx
      rw [at1_set _ _ _ _ (by rw [hS.nlen]; omega)] at hx
      by_cases hip : i = p
      · rw [if_pos hip] at hx
        rcases List.mem_cons.1 hx with rfl | hx
        · exact ⟨hk, hs0, hs1⟩
        · exact hS.key p (by omega) (by omega) x hx
      · rw [if_neg hip] at hx
        exact hS.key i hi1 hi2 x hx
  · intro i hi
    rw [csw_of hcas, gt_stt_ne (by omega), gt_stt_ne (by omega)]

/-- What is behind a whole Push. -/
def PushEnd (cs bds : List Int) (hb n : Nat) (ls : ML) (slot key : Int) (ds : List Int) (t : HS) : Prop :=
  t.ph = 15 ∧ ((t.fits = false ∧ t.cs = cs) ∨ (t.fits = true ∧ 32 ≤ mLeaf ls key ds ∧ mLeaf ls key ds ≤ 63 ∧ fitsL (at1 ls (mLeaf ls key ds)) key = true ∧ 1 ≤ mPlace ls key (mLeaf ls key ds) ∧ mPlace ls key (mLeaf ls key ds) ≤ 63 ∧
    Sim t.cs hb n bds (mInsert ls (key, slot) (mPlace ls key (mLeaf ls key ds))) ∧ ∀ i : Int, i < (hb : Int) → gt t.cs i = gt cs i))

theorem leaf_run {leaf : Nat} (h0 : 32 ≤ leaf) (h1 : leaf ≤ 63) (key : Int) (s : HS) (hS : Sim s.cs hb n bds ls) (hph : s.ph = 1) (hlow : s.low = 0) (hhigh : s.high = 5) (hway : s.way = wayTo (leaf : Int)) (hheads : s.heads.length = 6)
    (hcell : gt s.heads 5 = gt s.cs ((hb : Int) + leaf - 1)) (hs0 : 0 ≤ s.slot) (hs1 : s.slot < (n : Int)) (hkey : gt bds s.slot = key) (hno : ∀ i : Nat, 1 ≤ i → i ≤ 63 → ∀ x ∈ at1 ls i, x.2 ≠ s.slot) :
    ∃ (t : HS) (m : Nat), m ≤ 7 ∧ HRuns bds hb s t m ∧ t.ph = 15 ∧ t.fits = true ∧ 1 ≤ mPlace ls key leaf ∧ mPlace ls key leaf ≤ 63 ∧ Sim t.cs hb n bds (mInsert ls (key, s.slot) (mPlace ls key leaf)) ∧ ∀ i : Int, i < (hb : Int) → gt t.cs i = gt s.cs i := by
  have hn4 := hS.n4
  have hw5 : wayN leaf 5 = leaf := by simp [wayN]
  obtain ⟨t, m, hm, hr, tph, tat, thead, tcs, tslot, t5⟩ := halves_sim h0 h1 key 5 s 0 5 6 hS (by omega) (by omega) (by omega) (by omega) hph hlow hhigh hway hheads (by show gt s.heads 5 = _; rw [hw5]; exact hcell) hs0 (by omega) hkey
  have hp := wayN_bd leaf (mHalves ls key leaf (0, 5) 6).2 (by omega) h0 h1
  have htat : t.at_ = (mPlace ls key leaf : Nat) := tat
  obtain ⟨p, hpp⟩ : ∃ p, mPlace ls key leaf = p := ⟨_, rfl⟩
  have hp' : 1 ≤ p ∧ p ≤ 63 := by rw [← hpp]; unfold mPlace; omega
  rw [hpp] at htat ⊢
  have thead' : t.head = gt s.cs ((hb : Int) + p - 1) := by rw [thead, htat]
  obtain ⟨hcas, hsim, hlow2⟩ := put_sim hS p hp'.1 hp'.2 s.slot key hs0 hs1 hkey hno
  have g2 : HGood hb t := ⟨⟨by omega, by omega⟩, .inr (.inr (.inl tph))⟩
  have e2 : hstep bds hb t = hJoin hb t := by unfold hstep; rw [tph]; rfl
  have g3 : HGood hb (hJoin hb t) := by
    refine ⟨⟨by show -1 ≤ t.slot; omega, by show t.slot ≤ 4096; omega⟩, .inr (.inr (.inr (.inl ⟨rfl, by show 0 ≤ t.at_; omega, by show t.at_ ≤ 63; omega, ?_⟩)))⟩
    show casB (stt t.cs (hb + 63 + t.slot) (upl t.head)) (hb + t.at_ - 1) t.head = true
    rw [tcs, tslot, thead', htat]
    exact hcas
  have e3 : hstep bds hb (hJoin hb t) = hPut hb (hJoin hb t) := by unfold hstep; rfl
  have hcs : (hPut hb (hJoin hb t)).cs = csw (stt s.cs ((hb : Int) + 63 + s.slot) (upl (gt s.cs ((hb : Int) + p - 1)))) ((hb : Int) + p - 1) (gt s.cs ((hb : Int) + p - 1)) (up (gt s.cs ((hb : Int) + p - 1)) s.slot) := by
    show csw (stt t.cs (hb + 63 + t.slot) (upl t.head)) (hb + t.at_ - 1) t.head (up t.head t.slot) = _
    rw [tcs, tslot, thead', htat]
  refine ⟨hPut hb (hJoin hb t), m + 2, by omega, ?_, rfl, rfl, hp'.1, hp'.2, by rw [hcs]; exact hsim, by rw [hcs]; exact hlow2⟩
  have hr2 : HRuns bds hb t (hPut hb (hJoin hb t)) 2 := HRuns.cons g2 e2 (HRuns.cons g3 e3 (HRuns.refl _ _ _))
  exact HRuns.trans hr hr2
end
end Go.Proofs.Ytnpglcbkpbhnoaa.Kq
