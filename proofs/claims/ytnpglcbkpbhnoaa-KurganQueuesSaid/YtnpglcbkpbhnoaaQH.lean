/- The plain law, eighth part: the pool's lists; what is queued. -/
import Derived.Test.YtnpglcbkpbhnoaaQG
namespace Go.Proofs.Ytnpglcbkpbhnoaa.Kq

/-- A pool's free slots: the worker's own, and the shared chain. -/
structure PSim (cs own sh : List Int) (pb n : Nat) : Prop where
  chain : Chain cs ((pb : Int) + 1) (upl (gt cs (pb : Int))) sh
  own2 : own.length ≤ 2
  len : pb + n + 1 ≤ cs.length
  n4 : n ≤ 4096
  sh0 : ∀ a ∈ sh, 0 ≤ a ∧ a < (n : Int)

theorem PSim.congr {cs cs' own sh : List Int} {pb n : Nat} (h : PSim cs own sh pb n) (hl : cs'.length = cs.length) (hc : ∀ i : Int, i < (pb : Int) + n + 1 → gt cs' i = gt cs i) : PSim cs' own sh pb n := by
  refine ⟨?_, h.own2, by rw [hl]; exact h.len, h.n4, h.sh0⟩
  rw [hc _ (by omega)]
  exact h.chain.congr fun a ha => hc _ (by have := h.sh0 a ha; omega)

def PGood (s : PS) : Prop := (s.ph = 0 ∨ s.ph = 1 ∨ s.ph = 2) ∧ -1 ≤ s.slot ∧ s.slot ≤ 4294967296
def PRuns (pb : Int) (s t : PS) (m : Nat) : Prop := psteps pb s m = t ∧ ∀ k, k < m → PGood (psteps pb s k)
theorem psteps_cons (pb : Int) (s : PS) (k : Nat) : psteps pb s (k + 1) = psteps pb (pstep pb s) k := by
  induction k with
  | zero => rfl
  | succ k ih => rw [psteps_succ, ih]; rfl
theorem PRuns.refl (pb : Int) (s : PS) : PRuns pb s s 0 := ⟨rfl, fun k hk => by omega⟩
theorem PRuns.cons {pb : Int} {s s' t : PS} {m : Nat} (hg : PGood s) (he : pstep pb s = s') (h : PRuns pb s' t m) : PRuns pb s t (m + 1) := by
  subst he
  refine ⟨by rw [psteps_cons]; exact h.1, fun k hk => ?_⟩
  cases k with
  | zero => exact hg
  | succ k => rw [psteps_cons]; exact h.2 k (by omega)

theorem take_run {cs own sh : List Int} {pb n : Nat} (h : PSim cs own sh pb n) (hne : own ++ sh ≠ []) :
    ∃ (t : PS) (m : Nat) (sh' : List Int), 0 < m ∧ m < 100 ∧ PRuns pb ⟨cs, own, false, -1, 0, 0, 0⟩ t m ∧ t.ph = 3 ∧ PSim t.cs t.own sh' pb n ∧ (own ++ sh).Perm (t.slot :: (t.own ++ sh')) ∧ t.cs.length = cs.length ∧
      ∀ i : Int, (pb : Int) + n + 1 ≤ i → gt t.cs i = gt cs i := by
  have g0 : PGood ⟨cs, own, false, -1, 0, 0, 0⟩ := ⟨.inl rfl, by show (-1 : Int) ≤ -1; omega, by show (-1 : Int) ≤ 4294967296; omega⟩
  by_cases ho : own = []
  · subst ho
    cases sh with
    | nil => exact absurd rfl hne
    | cons a sh' =>
      obtain ⟨e, h0, hrest⟩ := h.chain
      have ha := h.sh0 a (by simp)
      have hn4 := h.n4
      have hlen := h.len
      obtain ⟨top, htop⟩ : ∃ top, gt cs (pb : Int) = top := ⟨_, rfl⟩
      have e' : upl top = a := by rw [← htop]; exact e
      obtain ⟨nx, hnx⟩ : ∃ nx, gt cs ((pb : Int) + 1 + a) = nx := ⟨_, rfl⟩
      have e0 : pstep pb ⟨cs, [], false, -1, 0, 0, 0⟩ = ⟨cs, [], false, -1, 1, top, 0⟩ := by
        have : ¬ (upl top < 0) := by omega
        simp [pstep, htop, this]
      have e1 : pstep pb ⟨cs, [], false, -1, 1, top, 0⟩ = ⟨cs, [], false, -1, 2, top, nx⟩ := by simp [pstep, e', hnx]
      have hcas := casB_of (cs := cs) (i := (pb : Int)) (old := top) (by omega) (by omega) htop
      have e2 : pstep pb ⟨cs, [], false, -1, 2, top, nx⟩ = ⟨stt cs pb (up top nx), [], false, a, 3, top, nx⟩ := by simp [pstep, hcas, csw_of hcas, e']
      have g1 : PGood ⟨cs, [], false, -1, 1, top, 0⟩ := ⟨.inr (.inl rfl), by show (-1 : Int) ≤ -1; omega, by show (-1 : Int) ≤ 4294967296; omega⟩
      have g2 : PGood ⟨cs, [], false, -1, 2, top, nx⟩ := ⟨.inr (.inr rfl), by show (-1 : Int) ≤ -1; omega, by show (-1 : Int) ≤ 4294967296; omega⟩
      refine ⟨_, 3, sh', by omega, by omega, PRuns.cons g0 e0 (PRuns.cons g1 e1 (PRuns.cons g2 e2 (PRuns.refl _ _))), rfl, ⟨?_, by show 0 ≤ 2; omega, by show _ ≤ (stt _ _ _).length; rw [stt_length]; exact hlen, hn4, fun b hb => h.sh0 b (by simp [hb])⟩, List.Perm.refl _, stt_length _ _ _, fun i hi => gt_stt_ne (by omega)⟩
      show Chain (stt cs pb (up top nx)) _ (upl (gt (stt cs pb (up top nx)) pb)) sh'
      rw [gt_stt (by omega) (by omega), if_pos rfl]
      rw [hnx] at hrest
      refine Chain.upd (hrest.congr fun b hb => ?_) (fun b hb => by have := h.sh0 b (by simp [hb]); omega) _
      have := h.sh0 b (by simp [hb])
      rw [gt_stt_ne (by omega)]
  · obtain ⟨o, last, rfl⟩ : ∃ o last, own = o ++ [last] := ⟨own.dropLast, own.getLast ho, (List.dropLast_concat_getLast ho).symm⟩
    have e0 : pstep pb ⟨cs, o ++ [last], false, -1, 0, 0, 0⟩ = ⟨cs, o, false, last, 3, 0, 0⟩ := by simp [pstep]
    refine ⟨_, 1, sh, by omega, by omega, PRuns.cons g0 e0 (PRuns.refl _ _), rfl, ⟨h.chain, ?_, h.len, h.n4, h.sh0⟩, ?_, rfl, fun i _ => rfl⟩
    · have := h.own2
      show o.length ≤ 2
      simp at this
      omega
    · show (o ++ [last] ++ sh).Perm (last :: (o ++ sh))
      rw [List.append_assoc]
      exact List.perm_middle

theorem give_run {cs own sh : List Int} {pb n : Nat} (h : PSim cs own sh pb n) (s : Int) (hs0 : 0 ≤ s) (hs1 : s < (n : Int)) (hno : s ∉ sh) :
    ∃ (t : PS) (m : Nat) (sh' : List Int), 0 < m ∧ m < 100 ∧ PRuns pb ⟨cs, own, true, s, 0, 0, 0⟩ t m ∧ t.ph = 3 ∧ PSim t.cs t.own sh' pb n ∧ (t.own ++ sh').Perm (s :: (own ++ sh)) ∧ t.cs.length = cs.length ∧
      ∀ i : Int, (pb : Int) + n + 1 ≤ i → gt t.cs i = gt cs i := by
  have hn4 := h.n4
  have hlen := h.len
  have g0 : PGood ⟨cs, own, true, s, 0, 0, 0⟩ := ⟨.inl rfl, by show (-1 : Int) ≤ s; omega, by show s ≤ 4294967296; omega⟩
  by_cases hl : own.length < 2
  · have e0 : pstep pb ⟨cs, own, true, s, 0, 0, 0⟩ = ⟨cs, own ++ [s], true, s, 3, 0, 0⟩ := by simp [pstep, hl]
    refine ⟨_, 1, sh, by omega, by omega, PRuns.cons g0 e0 (PRuns.refl _ _), rfl, ⟨h.chain, by show (own ++ [s]).length ≤ 2; simp; omega, hlen, hn4, h.sh0⟩, ?_, rfl, fun i _ => rfl⟩
    show (own ++ [s] ++ sh).Perm (s :: (own ++ sh))
    rw [List.append_assoc]
    exact List.perm_middle
  · obtain ⟨top, htop⟩ : ∃ top, gt cs (pb : Int) = top := ⟨_, rfl⟩
    have e0 : pstep pb ⟨cs, own, true, s, 0, 0, 0⟩ = ⟨cs, own, true, s, 1, top, 0⟩ := by simp [pstep, hl, htop]
    have e1 : pstep pb ⟨cs, own, true, s, 1, top, 0⟩ = ⟨stt cs ((pb : Int) + 1 + s) (upl top), own, true, s, 2, top, 0⟩ := by simp [pstep]
    have hcas := casB_of (cs := stt cs ((pb : Int) + 1 + s) (upl top)) (i := (pb : Int)) (old := top) (by omega) (by rw [stt_length]; omega) (by rw [gt_stt_ne (by omega)]; exact htop)
    have e2 : pstep pb ⟨stt cs ((pb : Int) + 1 + s) (upl top), own, true, s, 2, top, 0⟩ = ⟨stt (stt cs ((pb : Int) + 1 + s) (upl top)) pb (up top s), own, true, s, 3, top, 0⟩ := by simp [pstep, hcas, csw_of hcas]
    have g1 : PGood ⟨cs, own, true, s, 1, top, 0⟩ := ⟨.inr (.inl rfl), by show (-1 : Int) ≤ s; omega, by show s ≤ 4294967296; omega⟩
    have g2 : PGood ⟨stt cs ((pb : Int) + 1 + s) (upl top), own, true, s, 2, top, 0⟩ := ⟨.inr (.inr rfl), by show (-1 : Int) ≤ s; omega, by show s ≤ 4294967296; omega⟩
    refine ⟨_, 3, s :: sh, by omega, by omega, PRuns.cons g0 e0 (PRuns.cons g1 e1 (PRuns.cons g2 e2 (PRuns.refl _ _))), rfl, ⟨?_, h.own2, by show _ ≤ (stt _ _ _).length; rw [stt_length, stt_length]; exact hlen, hn4, ?_⟩, List.perm_middle, by show (stt _ _ _).length = _; rw [stt_length, stt_length], ?_⟩
    · show Chain (stt (stt cs ((pb : Int) + 1 + s) (upl top)) pb (up top s)) _ (upl (gt (stt (stt cs ((pb : Int) + 1 + s) (upl top)) pb (up top s)) pb)) (s :: sh)
      rw [gt_stt (by omega) (by rw [stt_length]; omega), if_pos rfl, upl_up top s hs0 (by omega)]
      refine ⟨rfl, hs0, ?_⟩
      rw [gt_stt_ne (by omega), gt_stt (by omega) (by omega), if_pos rfl, ← htop]
      refine h.chain.congr fun b hb => ?_
      have := h.sh0 b hb
      have hbs : b ≠ s := fun e => hno (e ▸ hb)
      rw [gt_stt_ne (by omega), gt_stt_ne (by omega)]
    · intro b hb
      rcases List.mem_cons.1 hb with rfl | hb
      · exact ⟨hs0, hs1⟩
      · exact h.sh0 b hb
    · intro i hi
      show gt (stt (stt _ _ _) _ _) i = _
      rw [gt_stt_ne (by omega), gt_stt_ne (by omega)]

/-- All that is queued. -/
def queued (ls : ML) : List Int := ids ls.flatten
theorem flat_set : ∀ (ls : ML) (i : Nat) (l : List Itm), i < ls.length → (at1 ls i ++ (ls.set i l).flatten).Perm (l ++ ls.flatten) := by
  intro ls
  induction ls with
  | nil => intro i l h; simp at h
  | cons a r ih =>
    intro i l h
    cases i with
    | zero =>
      show (a ++ (l ++ r.flatten)).Perm (l ++ (a ++ r.flatten))
      rw [← List.append_assoc, ← List.append_assoc]
      exact List.perm_append_comm.append_right _
    | succ k =>
      have := ih k l (by simpa using h)
      show (at1 r k ++ (a ++ (r.set k l).flatten)).Perm (l ++ (a ++ r.flatten))
      have h1 : (at1 r k ++ (a ++ (r.set k l).flatten)).Perm (a ++ (at1 r k ++ (r.set k l).flatten)) := by
        rw [← List.append_assoc, ← List.append_assoc]
        exact List.perm_append_comm.append_right _
      have h2 : (a ++ (l ++ r.flatten)).Perm (l ++ (a ++ r.flatten)) := by
        rw [← List.append_assoc, ← List.append_assoc]
        exact List.perm_append_comm.append_right _
      exact (h1.trans (this.append_left a)).trans h2
theorem queued_insert {ls : ML} (x : Itm) (i : Nat) (hi : i < ls.length) : (queued (mInsert ls x i)).Perm (x.2 :: queued ls) := by
  have h := flat_set ls i (x :: at1 ls i) hi
  have h2 : (at1 ls i ++ (ls.set i (x :: at1 ls i)).flatten).Perm (at1 ls i ++ (x :: ls.flatten)) := h.trans (by
    show (x :: (at1 ls i ++ ls.flatten)).Perm _
    exact List.perm_middle.symm)
  have h3 := (List.perm_append_left_iff _).1 h2
  exact h3.map Prod.snd
theorem flat_swap {ls : ML} (i k : Nat) (hi : i < ls.length) (hk : k < ls.length) (hik : i ≠ k) : ((mSwap ls i k).flatten).Perm ls.flatten := by
  have h1 := flat_set ls i (at1 ls k) hi
  have h2 := flat_set (ls.set i (at1 ls k)) k (at1 ls i) (by simpa using hk)
  rw [at1_set _ _ _ _ hi, if_neg (Ne.symm hik)] at h2
  exact (List.perm_append_left_iff _).1 (h2.trans h1)
theorem flat_sink (f : Nat) : ∀ (ls : ML) (i : Nat), ls.length = 64 → 1 ≤ i → ((mSink ls i f).flatten).Perm ls.flatten ∧ (mSink ls i f).length = 64 ∧ at1 (mSink ls i f) 0 = at1 ls 0 := by
  induction f with
  | zero => intro ls i h _; exact ⟨List.Perm.refl _, h, rfl⟩
  | succ f ih =>
    intro ls i h h1
    by_cases hlt : i < 32
    · have hms : mSink ls i (f + 1) = if lessL (at1 ls (mKid ls i)) (at1 ls i) = true then mSink (mSwap ls i (mKid ls i)) (mKid ls i) f else ls := by
        show (if i < 32 then _ else _) = _
        rw [if_pos hlt]
      rw [hms]
      by_cases hls : lessL (at1 ls (mKid ls i)) (at1 ls i) = true
      · rw [if_pos hls]
        have hkid := mKid_eq ls i
        have := ih (mSwap ls i (mKid ls i)) (mKid ls i) (by simp [mSwap, h]) (by omega)
        refine ⟨this.1.trans (flat_swap i _ (by omega) (by omega) (by omega)), this.2.1, this.2.2.trans ?_⟩
        unfold mSwap
        rw [at1_set _ _ _ _ (by rw [List.length_set]; omega), at1_set _ _ _ _ (by omega), if_neg (by omega), if_neg (by omega)]
      · rw [if_neg hls]; exact ⟨List.Perm.refl _, h, rfl⟩
    · have hms : mSink ls i (f + 1) = ls := by
        show (if i < 32 then _ else _) = _
        rw [if_neg hlt]
      rw [hms]
      exact ⟨List.Perm.refl _, h, rfl⟩
theorem queued_pop {ls : ML} {x : Itm} {l' : List Itm} (h : ls.length = 64) (hl : at1 ls 1 = x :: l') : (queued ls).Perm (x.2 :: queued (mPop ls)) ∧ (mPop ls).length = 64 ∧ at1 (mPop ls) 0 = at1 ls 0 := by
  have h1 := flat_set ls 1 l' (by omega)
  rw [hl] at h1
  have h2 : (l' ++ (x :: (ls.set 1 l').flatten)).Perm (l' ++ ls.flatten) := List.perm_middle.trans h1
  have h3 := (List.perm_append_left_iff _).1 h2
  have hs := flat_sink 6 (ls.set 1 l') 1 (by simp [h]) (by omega)
  have hmp : mSink (ls.set 1 l') 1 6 = mPop ls := by unfold mPop; rw [hl]; rfl
  rw [hmp] at hs
  refine ⟨?_, hs.2.1, hs.2.2.trans (by rw [at1_set _ _ _ _ (by omega), if_neg (by omega)])⟩
  exact (h3.symm.trans (hs.1.symm.cons x)).map Prod.snd
end Go.Proofs.Ytnpglcbkpbhnoaa.Kq
