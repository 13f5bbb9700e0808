/- The plain law, fifth part: a whole Pop. -/
import Derived.Test.YtnpglcbkpbhnoaaQD
namespace Go.Proofs.Ytnpglcbkpbhnoaa.Kq

section
variable {bds : List Int} {hb n : Nat} {ls : ML}

theorem ids_le {l : List Itm} (hS : ∀ x ∈ l, 0 ≤ x.2 ∧ x.2 < (n : Int)) (hn : n ≤ 4096) : ∀ a ∈ ids l, a ≤ 2147483646 := by
  intro a ha
  obtain ⟨x, hx, rfl⟩ := List.mem_map.1 ha
  have := hS x hx
  omega

/-- Two places' lists change hands, in four swaps. -/
theorem swap_sim {cs : List Int} (hS : Sim cs hb n bds ls) (i k : Nat) (h1 : 1 ≤ i) (h2 : i ≤ 63) (h3 : 1 ≤ k) (h4 : k ≤ 63) (hik : i ≠ k) (u v u2 v2 : Int) :
    Sim (stt (stt (stt (stt cs ((hb : Int) + k - 1) u) ((hb : Int) + i - 1) v) ((hb : Int) + i - 1) (up u2 (upl (gt cs ((hb : Int) + k - 1))))) ((hb : Int) + k - 1) (up v2 (upl (gt cs ((hb : Int) + i - 1))))) hb n bds (mSwap ls i k) ∧
    ∀ j : Int, j < (hb : Int) → gt (stt (stt (stt (stt cs ((hb : Int) + k - 1) u) ((hb : Int) + i - 1) v) ((hb : Int) + i - 1) (up u2 (upl (gt cs ((hb : Int) + k - 1))))) ((hb : Int) + k - 1) (up v2 (upl (gt cs ((hb : Int) + i - 1))))) j = gt cs j := by
  have hlen := hS.len
  have hn4 := hS.n4
  have hg : ∀ j : Int, gt (stt (stt (stt (stt cs ((hb : Int) + k - 1) u) ((hb : Int) + i - 1) v) ((hb : Int) + i - 1) (up u2 (upl (gt cs ((hb : Int) + k - 1))))) ((hb : Int) + k - 1) (up v2 (upl (gt cs ((hb : Int) + i - 1))))) j =
      if j = (hb : Int) + k - 1 then up v2 (upl (gt cs ((hb : Int) + i - 1))) else if j = (hb : Int) + i - 1 then up u2 (upl (gt cs ((hb : Int) + k - 1))) else gt cs j := by
    intro j
    rw [gt_stt (by omega) (by rw [stt_length, stt_length, stt_length]; omega), gt_stt (by omega) (by rw [stt_length, stt_length]; omega), gt_stt (by omega) (by rw [stt_length]; omega), gt_stt (by omega) (by omega)]
    by_cases e1 : j = (hb : Int) + k - 1
    · rw [if_pos e1, if_pos e1]
    · rw [if_neg e1, if_neg e1, if_neg e1]
      by_cases e2 : j = (hb : Int) + i - 1
      · rw [if_pos e2, if_pos e2]
      · rw [if_neg e2, if_neg e2, if_neg e2]
  generalize hcs : (stt (stt (stt (stt cs ((hb : Int) + k - 1) u) ((hb : Int) + i - 1) v) ((hb : Int) + i - 1) (up u2 (upl (gt cs ((hb : Int) + k - 1))))) ((hb : Int) + k - 1) (up v2 (upl (gt cs ((hb : Int) + i - 1))))) = cs' at *
  have hl' : cs'.length = cs.length := by rw [← hcs, stt_length, stt_length, stt_length, stt_length]
  have hat : ∀ q, at1 (mSwap ls i k) q = if q = k then at1 ls i else if q = i then at1 ls k else at1 ls q := by
    intro q
    unfold mSwap
    rw [at1_set _ _ _ _ (by rw [List.length_set, hS.nlen]; omega), at1_set _ _ _ _ (by rw [hS.nlen]; omega)]
  refine ⟨⟨hn4, by rw [hl']; exact hlen, by simp [mSwap, hS.nlen], hS.bl, fun q q1 q2 => ?_, fun q q1 q2 x hx => ?_⟩, fun j hj => by rw [hg, if_neg (by omega), if_neg (by omega)]⟩
  · have hch : ∀ q : Nat, 1 ≤ q → q ≤ 63 → Chain cs' ((hb : Int) + 63) (upl (gt cs ((hb : Int) + q - 1))) (ids (at1 ls q)) := by
      intro q q1 q2
      refine (hS.chain q q1 q2).congr fun a ha => ?_
      obtain ⟨x, hx, rfl⟩ := List.mem_map.1 ha
      have h0 := (hS.key q q1 q2 x hx).2.1
      rw [hg, if_neg (by omega), if_neg (by omega)]
    rw [hat, hg]
    by_cases e1 : q = k
    · subst e1
      rw [if_pos rfl, if_pos rfl]
      exact (hch i h1 h2).upd (ids_le (fun x hx => (hS.key i h1 h2 x hx).2) hn4) _
    · rw [if_neg e1, if_neg (by omega)]
      by_cases e2 : q = i
      · subst e2
        rw [if_pos rfl, if_pos rfl]
        exact (hch k h3 h4).upd (ids_le (fun x hx => (hS.key k h3 h4 x hx).2) hn4) _
      · rw [if_neg e2, if_neg (by omega)]
        exact hch q q1 q2
  · rw [hat] at hx
    by_cases e1 : q = k
    · rw [if_pos e1] at hx; exact hS.key i h1 h2 x hx
    · rw [if_neg e1] at hx
      by_cases e2 : q = i
      · rw [if_pos e2] at hx; exact hS.key k h3 h4 x hx
      · rw [if_neg e2] at hx; exact hS.key q q1 q2 x hx

theorem lift_step {hb : Int} {s : HS} (hph : s.ph = 10) (x : Int) (hx : hb + s.ch - 1 = x) (hc : casB s.cs x s.chh = true) : hstep bds hb s = { s with cs := stt s.cs x (up s.chh (-1)), held := true, ph := 12 } := by
  subst hx
  have e : hstep bds hb s = hLift hb s := by unfold hstep; rw [hph]; rfl
  rw [e]; unfold hLift; rw [csw_of hc]
theorem drop_step {hb : Int} {s : HS} (hph : s.ph = 12) (x : Int) (hx : hb + s.at_ - 1 = x) (hc : casB s.cs x s.head = true) : hstep bds hb s = { s with cs := stt s.cs x (up s.head (-1)), bare := true, ph := 13 } := by
  subst hx
  have e : hstep bds hb s = hDrop hb s := by unfold hstep; rw [hph]; rfl
  rw [e]; unfold hDrop; rw [csw_of hc]
theorem place_step {hb : Int} {s : HS} (hph : s.ph = 13) (x : Int) (hx : hb + s.at_ - 1 = x) (hc : casB s.cs x (up s.head (-1)) = true) : hstep bds hb s = { s with cs := stt s.cs x (up (up s.head (-1)) (upl s.chh)), held := false, ph := 14 } := by
  subst hx
  have e : hstep bds hb s = hPlace hb s := by unfold hstep; rw [hph]; rfl
  rw [e]; unfold hPlace; rw [csw_of hc]
theorem sink_step {hb : Int} {s : HS} (hph : s.ph = 14) (x : Int) (hx : hb + s.ch - 1 = x) (hc : casB s.cs x (up s.chh (-1)) = true) : hstep bds hb s = { s with cs := stt s.cs x (up (up s.chh (-1)) (upl s.head)), bare := false, at_ := s.ch, ph := 7 } := by
  subst hx
  have e : hstep bds hb s = hSink hb s := by unfold hstep; rw [hph]; rfl
  rw [e]; unfold hSink; rw [csw_of hc]

theorem four_steps {s : HS} (hb : Nat) (i k : Nat) (hph : s.ph = 10) (hat : s.at_ = i) (hch : s.ch = k) (h1 : 1 ≤ i) (h2 : i ≤ 63) (h3 : 1 ≤ k) (h4 : k ≤ 63) (hik : i ≠ k) (hlen : hb + 63 ≤ s.cs.length) (hs0 : -1 ≤ s.slot) (hs1 : s.slot ≤ 4096)
    (hhead : s.head = gt s.cs ((hb : Int) + i - 1)) (hchh : s.chh = gt s.cs ((hb : Int) + k - 1)) :
    ∃ t, HRuns bds hb s t 4 ∧ t.cs = stt (stt (stt (stt s.cs ((hb : Int) + k - 1) (up s.chh (-1))) ((hb : Int) + i - 1) (up s.head (-1))) ((hb : Int) + i - 1) (up (up s.head (-1)) (upl s.chh))) ((hb : Int) + k - 1) (up (up s.chh (-1)) (upl s.head)) ∧ t.ph = 7 ∧ t.at_ = k ∧ t.slot = s.slot ∧ t.push = s.push := by
  have c10 : casB s.cs ((hb : Int) + s.ch - 1) s.chh = true := casB_of (by omega) (by omega) (by rw [hch, hchh])
  have e10 := lift_step (bds := bds) hph ((hb : Int) + k - 1) (by rw [hch]) (by rw [← hch]; exact c10)
  have g10 : HGood hb s := ⟨⟨hs0, hs1⟩, .inr (.inr (.inr (.inr (.inr (.inr (.inr (.inr (.inr (.inr (.inl ⟨hph, by omega, by omega, c10⟩))))))))))⟩
  obtain ⟨s12, hs12⟩ : ∃ s12, ({ s with cs := stt s.cs ((hb : Int) + k - 1) (up s.chh (-1)), held := true, ph := 12 } : HS) = s12 := ⟨_, rfl⟩
  rw [hs12] at e10
  have c12 : casB s12.cs ((hb : Int) + s12.at_ - 1) s12.head = true := by
    subst hs12
    refine casB_of (by show 0 ≤ (hb : Int) + s.at_ - 1; omega) (by show (hb : Int) + s.at_ - 1 < ((stt _ _ _).length : Int); rw [stt_length]; omega) ?_
    show gt (stt _ _ _) ((hb : Int) + s.at_ - 1) = s.head
    rw [hat, gt_stt_ne (by omega), hhead]
  have at12 : s12.at_ = i := by subst hs12; exact hat
  have ph12 : s12.ph = 12 := by subst hs12; rfl
  have e12 := drop_step (bds := bds) (s := s12) ph12 ((hb : Int) + i - 1) (by rw [at12]) (by rw [← at12]; exact c12)
  have g12 : HGood hb s12 := ⟨⟨by subst hs12; exact hs0, by subst hs12; exact hs1⟩, .inr (.inr (.inr (.inr (.inr (.inr (.inr (.inr (.inr (.inr (.inr (.inl ⟨ph12, by subst hs12; show 0 ≤ s.at_; omega, by subst hs12; show s.at_ ≤ 63; omega, c12⟩)))))))))))⟩
  obtain ⟨s13, hs13⟩ : ∃ s13, ({ s12 with cs := stt s12.cs ((hb : Int) + i - 1) (up s12.head (-1)), bare := true, ph := 13 } : HS) = s13 := ⟨_, rfl⟩
  rw [hs13] at e12
  have at13 : s13.at_ = i := by subst hs13; exact at12
  have l12 : s12.cs.length = s.cs.length := by subst hs12; show (stt _ _ _).length = _; rw [stt_length]
  have c13 : casB s13.cs ((hb : Int) + s13.at_ - 1) (up s13.head (-1)) = true := by
    rw [at13]
    subst hs13
    refine casB_of (by omega) (by show (hb : Int) + i - 1 < ((stt _ _ _).length : Int); rw [stt_length, l12]; omega) ?_
    show gt (stt _ _ _) ((hb : Int) + i - 1) = _
    rw [gt_stt (by omega) (by rw [l12]; omega), if_pos rfl]
  have ph13 : s13.ph = 13 := by subst hs13; rfl
  have e13 := place_step (bds := bds) (s := s13) ph13 ((hb : Int) + i - 1) (by rw [at13]) (by rw [← at13]; exact c13)
  have g13 : HGood hb s13 := ⟨⟨by subst hs13; subst hs12; exact hs0, by subst hs13; subst hs12; exact hs1⟩, .inr (.inr (.inr (.inr (.inr (.inr (.inr (.inr (.inr (.inr (.inr (.inr (.inl ⟨ph13, by omega, by omega, c13⟩))))))))))))⟩
  obtain ⟨s14, hs14⟩ : ∃ s14, ({ s13 with cs := stt s13.cs ((hb : Int) + i - 1) (up (up s13.head (-1)) (upl s13.chh)), held := false, ph := 14 } : HS) = s14 := ⟨_, rfl⟩
  rw [hs14] at e13
  have ch14 : s14.ch = k := by subst hs14; subst hs13; subst hs12; exact hch
  have l13 : s13.cs.length = s.cs.length := by subst hs13; show (stt _ _ _).length = _; rw [stt_length, l12]
  have c14 : casB s14.cs ((hb : Int) + s14.ch - 1) (up s14.chh (-1)) = true := by
    rw [ch14]
    refine casB_of (by omega) (by subst hs14; show (hb : Int) + k - 1 < ((stt _ _ _).length : Int); rw [stt_length, l13]; omega) ?_
    subst hs14; subst hs13; subst hs12
    show gt (stt (stt (stt s.cs _ _) _ _) _ _) ((hb : Int) + k - 1) = up s.chh (-1)
    rw [gt_stt_ne (by omega), gt_stt_ne (by omega), gt_stt (by omega) (by omega), if_pos rfl]
  have ph14 : s14.ph = 14 := by subst hs14; rfl
  have e14 := sink_step (bds := bds) (s := s14) ph14 ((hb : Int) + k - 1) (by rw [ch14]) (by rw [← ch14]; exact c14)
  have g14 : HGood hb s14 := ⟨⟨by subst hs14; subst hs13; subst hs12; exact hs0, by subst hs14; subst hs13; subst hs12; exact hs1⟩, .inr (.inr (.inr (.inr (.inr (.inr (.inr (.inr (.inr (.inr (.inr (.inr (.inr ⟨ph14, by omega, by omega, c14⟩))))))))))))⟩
  refine ⟨_, HRuns.cons g10 e10 (HRuns.cons g12 e12 (HRuns.cons g13 e13 (HRuns.cons g14 e14 (HRuns.refl _ _ _)))), ?_, rfl, ch14, ?_, ?_⟩
  · subst hs14; subst hs13; subst hs12; rfl
  · subst hs14; subst hs13; subst hs12; rfl
  · subst hs14; subst hs13; subst hs12; rfl

/-- Seven steps: one level down. -/
theorem sink_run (f : Nat) : ∀ (ls : ML) (s : HS) (i : Nat), Sim s.cs hb n bds ls → s.ph = 7 → s.at_ = i → 1 ≤ i → i ≤ 63 → 2 ^ (6 - f) ≤ i → f ≤ 6 → 0 ≤ s.slot → s.slot ≤ 4096 →
    ∃ (t : HS) (m : Nat), m ≤ 7 * f + 1 ∧ HRuns bds hb s t m ∧ t.ph = 15 ∧ t.slot = s.slot ∧ t.push = s.push ∧ Sim t.cs hb n bds (mSink ls i f) ∧ ∀ j : Int, j < (hb : Int) → gt t.cs j = gt s.cs j := by
  induction f with
  | zero => intro ls s i _ _ _ _ h63 hp; simp at hp; omega
  | succ f ih =>
    intro ls s i hS hph hat h1 h63 hp hf hs0 hs1
    have hlen := hS.len
    have g7 : HGood hb s := ⟨⟨by omega, hs1⟩, .inr (.inr (.inr (.inr (.inr (.inr (.inr (.inl ⟨hph, by omega, by omega⟩)))))))⟩
    have e7 : hstep bds hb s = hNode hb s := by unfold hstep; rw [hph]; rfl
    by_cases hlt : i < 32
    · have hd : hNode hb s = { s with head := gt s.cs ((hb : Int) + i - 1), ph := 8 } := by
        unfold hNode
        rw [if_neg (by omega), hat]
      have hms : mSink ls i (f + 1) = if lessL (at1 ls (mKid ls i)) (at1 ls i) = true then mSink (mSwap ls i (mKid ls i)) (mKid ls i) f else ls := by
        show (if i < 32 then _ else _) = _
        rw [if_pos hlt]
      rw [hms]
      obtain ⟨s8, hs8⟩ : ∃ s8, ({ s with head := gt s.cs ((hb : Int) + i - 1), ph := 8 } : HS) = s8 := ⟨_, rfl⟩
      have g8 : HGood hb s8 := by subst hs8; exact ⟨⟨by show -1 ≤ s.slot; omega, hs1⟩, .inr (.inr (.inr (.inr (.inr (.inr (.inr (.inr (.inl ⟨rfl, by show 0 ≤ s.at_; omega, by show s.at_ ≤ 63; omega⟩))))))))⟩
      have e8 : hstep bds hb s8 = { s8 with lh := gt s.cs ((hb : Int) + (2 * i : Nat) - 1), ph := 9 } := by
        subst hs8
        show ({ s with head := _, lh := gt s.cs (hb + 2 * s.at_ - 1), ph := 9 } : HS) = _
        rw [hat, show ((hb : Int) + 2 * (i : Int) - 1) = (hb : Int) + (2 * i : Nat) - 1 by omega]
      obtain ⟨s9, hs9⟩ : ∃ s9, ({ s8 with lh := gt s.cs ((hb : Int) + (2 * i : Nat) - 1), ph := 9 } : HS) = s9 := ⟨_, rfl⟩
      rw [hs9] at e8
      have g9 : HGood hb s9 := by subst hs9; subst hs8; exact ⟨⟨by show -1 ≤ s.slot; omega, hs1⟩, .inr (.inr (.inr (.inr (.inr (.inr (.inr (.inr (.inr (.inl ⟨rfl, by show 0 ≤ s.at_; omega, by show s.at_ ≤ 63; omega⟩)))))))))⟩
      have hl1 := hS.less (2 * i + 1) (2 * i) (by omega) (by omega) (by omega) (by omega)
      have hkid := mKid_eq ls i
      have hlk := hS.less (mKid ls i) i (by omega) (by omega) h1 h63
      obtain ⟨k, hk⟩ : ∃ k, mKid ls i = k := ⟨_, rfl⟩
      rw [hk] at hkid hlk ⊢
      obtain ⟨rhv, hrhv⟩ : ∃ r, gt s.cs ((hb : Int) + (2 * i + 1 : Nat) - 1) = r := ⟨_, rfl⟩
      have e9 : hstep bds hb s9 = if lessL (at1 ls k) (at1 ls i) = true then { s9 with rh := rhv, ch := (k : Nat), chh := gt s.cs ((hb : Int) + k - 1), ph := 10 } else tidy { s9 with rh := rhv, ch := (k : Nat), chh := gt s.cs ((hb : Int) + k - 1) } := by
        have hh : hstep bds hb s9 = hRight bds hb s9 := by subst hs9; unfold hstep; rfl
        rw [hh]
        have hrc : gt s9.cs ((hb : Int) + (2 * s9.at_ + 1) - 1) = gt s.cs ((hb : Int) + (2 * i + 1 : Nat) - 1) := by
          subst hs9; subst hs8
          show gt s.cs ((hb : Int) + (2 * s.at_ + 1) - 1) = _
          rw [hat, show ((hb : Int) + (2 * (i : Int) + 1) - 1) = (hb : Int) + (2 * i + 1 : Nat) - 1 by omega]
        have hlh : s9.lh = gt s.cs ((hb : Int) + (2 * i : Nat) - 1) := by subst hs9; rfl
        have hhd : s9.head = gt s.cs ((hb : Int) + i - 1) := by subst hs9; subst hs8; rfl
        have hat9 : s9.at_ = i := by subst hs9; subst hs8; exact hat
        unfold hRight
        rw [hrc, hlh, hhd, hat9, hl1]
        by_cases hb1 : lessL (at1 ls (2 * i + 1)) (at1 ls (2 * i)) = true
        · have hk2 : k = 2 * i + 1 := by rw [← hk]; unfold mKid; rw [if_pos hb1]
          subst hk2
          rw [if_pos hb1, hlk, hrhv, show (2 * (i : Int) + 1) = ((2 * i + 1 : Nat) : Int) by omega]
        · have hk2 : k = 2 * i := by rw [← hk]; unfold mKid; rw [if_neg hb1]
          subst hk2
          rw [if_neg hb1, hlk, hrhv, show (2 * (i : Int)) = ((2 * i : Nat) : Int) by omega]
      by_cases hls : lessL (at1 ls k) (at1 ls i) = true
      · rw [if_pos hls] at e9 ⊢
        obtain ⟨s10, hs10⟩ : ∃ s10, ({ s9 with rh := rhv, ch := (k : Nat), chh := gt s.cs ((hb : Int) + k - 1), ph := 10 } : HS) = s10 := ⟨_, rfl⟩
        rw [hs10] at e9
        have cs10 : s10.cs = s.cs := by subst hs10; subst hs9; subst hs8; rfl
        have sl10 : s10.slot = s.slot := by subst hs10; subst hs9; subst hs8; rfl
        have pu10 : s10.push = s.push := by subst hs10; subst hs9; subst hs8; rfl
        have hd10 : s10.head = gt s.cs ((hb : Int) + i - 1) := by subst hs10; subst hs9; subst hs8; rfl
        have ck10 : s10.chh = gt s.cs ((hb : Int) + k - 1) := by subst hs10; rfl
        obtain ⟨s7, hfour, f1, f2, f3, f4, f5⟩ := four_steps (bds := bds) (s := s10) hb i k (by subst hs10; rfl) (by subst hs10; subst hs9; subst hs8; exact hat) (by subst hs10; rfl) h1 h63 (by omega) (by omega) (by omega) (by rw [cs10]; omega) (by rw [sl10]; omega) (by rw [sl10]; omega) (by rw [cs10]; exact hd10) (by rw [cs10]; exact ck10)
        have hsw := swap_sim hS i k h1 h63 (by omega) (by omega) (by omega) (up s10.chh (-1)) (up s10.head (-1)) (up s10.head (-1)) (up s10.chh (-1))
        rw [← ck10, ← hd10, ← cs10, ← f1] at hsw
        have hp2 : 2 ^ (6 - f) ≤ k := by
          have : 2 ^ (6 - f) = 2 * 2 ^ (6 - (f + 1)) := by rw [show 6 - f = (6 - (f + 1)) + 1 by omega, Nat.pow_succ]; omega
          omega
        obtain ⟨t, m, hm, hr, tph, tsl, tpu, tS, tlow⟩ := ih (mSwap ls i k) s7 k hsw.1 f2 f3 (by omega) (by omega) hp2 (by omega) (by omega) (by omega)
        refine ⟨t, 3 + (4 + m), by omega, ?_, tph, by rw [tsl, f4]; exact sl10, by rw [tpu, f5]; exact pu10, tS, fun j hj => ?_⟩
        · refine HRuns.trans (m := 3) ?_ (HRuns.trans hfour hr)
          exact HRuns.cons g7 (e7.trans (hd.trans hs8)) (HRuns.cons g8 e8 (HRuns.cons g9 e9 (HRuns.refl _ _ _)))
        · rw [tlow j hj, ← cs10]
          exact hsw.2 j hj
      · rw [if_neg hls] at e9 ⊢
        have et : tidy { s9 with rh := rhv, ch := (k : Nat), chh := gt s.cs ((hb : Int) + k - 1) } = { s9 with rh := rhv, ch := (k : Nat), chh := gt s.cs ((hb : Int) + k - 1), at_ := 1, ph := 15 } := by
          unfold tidy
          rw [if_pos (by subst hs9; subst hs8; exact hs0)]
        refine ⟨_, 3, by omega, HRuns.cons g7 (e7.trans (hd.trans hs8)) (HRuns.cons g8 e8 (HRuns.cons g9 (e9.trans et) (HRuns.refl _ _ _))), rfl, by subst hs9; subst hs8; rfl, by subst hs9; subst hs8; rfl, ?_, ?_⟩
        · subst hs9; subst hs8; exact hS
        · subst hs9; subst hs8; intro j _; rfl
    · have hd : hNode hb s = { s with head := gt s.cs ((hb : Int) + i - 1), ph := 15, at_ := 1 } := by
        unfold hNode tidy
        rw [if_pos (by omega), hat]
        simp only [if_pos hs0]
      have hms : mSink ls i (f + 1) = ls := by
        show (if i < 32 then _ else _) = _
        rw [if_neg hlt]
      rw [hms]
      exact ⟨_, 1, by omega, HRuns.cons g7 (e7.trans hd) (HRuns.refl _ _ _), rfl, rfl, rfl, hS, fun j _ => rfl⟩
end
end Go.Proofs.Ytnpglcbkpbhnoaa.Kq
