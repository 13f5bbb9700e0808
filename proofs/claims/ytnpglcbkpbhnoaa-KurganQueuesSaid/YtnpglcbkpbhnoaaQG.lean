/- The plain law, seventh part: a place's value is not above those beneath it. -/
import Derived.Test.YtnpglcbkpbhnoaaQF
namespace Go.Proofs.Ytnpglcbkpbhnoaa.Kq

theorem lessL_irr (a : List Itm) : lessL a a = false := by cases a <;> simp [lessL]
theorem lessL_asym {a b : List Itm} (h : lessL a b = true) : lessL b a = false := by
  cases a <;> cases b <;> simp_all [lessL]
  omega
/-- a ≤ b and b ≤ c. -/
theorem lessL_le {a b c : List Itm} (h : lessL b a = false) (k : lessL c b = false) : lessL c a = false := by
  cases a <;> cases b <;> cases c <;> simp_all [lessL]
  omega

/-- Kids are not less, at each place but one; nor the one's kids than its parent. -/
def MPx (ls : ML) (i : Nat) : Prop :=
  (∀ p, 1 ≤ p → p < 32 → p ≠ i → lessL (at1 ls (2 * p)) (at1 ls p) = false ∧ lessL (at1 ls (2 * p + 1)) (at1 ls p) = false) ∧
  (2 ≤ i → i < 32 → lessL (at1 ls (2 * i)) (at1 ls (i / 2)) = false ∧ lessL (at1 ls (2 * i + 1)) (at1 ls (i / 2)) = false)
def MP (ls : ML) : Prop := ∀ p, 1 ≤ p → p < 32 → lessL (at1 ls (2 * p)) (at1 ls p) = false ∧ lessL (at1 ls (2 * p + 1)) (at1 ls p) = false

theorem sink_mp (f : Nat) : ∀ (ls : ML) (i : Nat), ls.length = 64 → MPx ls i → 1 ≤ i → i ≤ 63 → 2 ^ (6 - f) ≤ i → f ≤ 6 → MP (mSink ls i f) := by
  induction f with
  | zero => intro ls i _ _ _ h63 hp; simp at hp; omega
  | succ f ih =>
    intro ls i hlen hM h1 h63 hp hf
    by_cases hlt : i < 32
    · have hms : mSink ls i (f + 1) = if lessL (at1 ls (mKid ls i)) (at1 ls i) = true then mSink (mSwap ls i (mKid ls i)) (mKid ls i) f else ls := by
        show (if i < 32 then _ else _) = _
        rw [if_pos hlt]
      rw [hms]
      have hkid := mKid_eq ls i
      have hleast : lessL (at1 ls (2 * i)) (at1 ls (mKid ls i)) = false ∧ lessL (at1 ls (2 * i + 1)) (at1 ls (mKid ls i)) = false := by
        unfold mKid
        by_cases hb : lessL (at1 ls (2 * i + 1)) (at1 ls (2 * i)) = true
        · rw [if_pos hb]; exact ⟨lessL_asym hb, lessL_irr _⟩
        · rw [if_neg hb]; exact ⟨lessL_irr _, by simpa using hb⟩
      obtain ⟨k, hk⟩ : ∃ k, mKid ls i = k := ⟨_, rfl⟩
      rw [hk] at hkid hleast ⊢
      by_cases hls : lessL (at1 ls k) (at1 ls i) = true
      · rw [if_pos hls]
        have hat : ∀ q, at1 (mSwap ls i k) q = if q = k then at1 ls i else if q = i then at1 ls k else at1 ls q := by
          intro q
          unfold mSwap
          rw [at1_set _ _ _ _ (by rw [List.length_set, hlen]; omega), at1_set _ _ _ _ (by rw [hlen]; omega)]
        have hp2 : 2 ^ (6 - f) ≤ k := by
          have : 2 ^ (6 - f) = 2 * 2 ^ (6 - (f + 1)) := by rw [show 6 - f = (6 - (f + 1)) + 1 by omega, Nat.pow_succ]; omega
          omega
        have hik : i ≠ k := by omega
        have hatk : at1 (mSwap ls i k) k = at1 ls i := by rw [hat, if_pos rfl]
        have hati : at1 (mSwap ls i k) i = at1 ls k := by rw [hat, if_neg hik, if_pos rfl]
        have hato : ∀ q, q ≠ k → q ≠ i → at1 (mSwap ls i k) q = at1 ls q := fun q e1 e2 => by rw [hat, if_neg e1, if_neg e2]
        refine ih (mSwap ls i k) k (by simp [mSwap, hlen]) ⟨fun p p1 p2 hpk => ?_, fun _ k2 => ?_⟩ (by omega) (by omega) hp2 (by omega)
        · by_cases hpi : p = i
          · subst hpi
            rw [hati]
            rcases hkid with rfl | rfl
            · rw [hatk, hato (2 * p + 1) (by omega) (by omega)]
              exact ⟨lessL_asym hls, hleast.2⟩
            · rw [hatk, hato (2 * p) (by omega) (by omega)]
              exact ⟨hleast.1, lessL_asym hls⟩
          · have hA := hM.1 p p1 p2 hpi
            rw [hato p hpk hpi]
            by_cases e1 : 2 * p = i
            · have hB := hM.2 (by omega) hlt
              rw [show i / 2 = p by omega] at hB
              rw [e1, hati, hato (i + 1) (by omega) (by omega), ← e1]
              refine ⟨?_, hA.2⟩
              rcases hkid with rfl | rfl
              · exact hB.1
              · exact hB.2
            · by_cases e2 : 2 * p + 1 = i
              · have hB := hM.2 (by omega) hlt
                rw [show i / 2 = p by omega] at hB
                rw [e2, hati, hato (2 * p) (by omega) (by omega)]
                refine ⟨hA.1, ?_⟩
                rcases hkid with rfl | rfl
                · exact hB.1
                · exact hB.2
              · rw [hato (2 * p) (by omega) (by omega), hato (2 * p + 1) (by omega) (by omega)]
                exact hA
        · rw [show k / 2 = i by omega, hati, hato (2 * k) (by omega) (by omega), hato (2 * k + 1) (by omega) (by omega)]
          exact hM.1 k (by omega) k2 (by omega)
      · rw [if_neg hls]
        have hls' : lessL (at1 ls k) (at1 ls i) = false := by simpa using hls
        intro p p1 p2
        by_cases hpi : p = i
        · subst hpi
          exact ⟨lessL_le hls' hleast.1, lessL_le hls' hleast.2⟩
        · exact hM.1 p p1 p2 hpi
    · have hms : mSink ls i (f + 1) = ls := by
        show (if i < 32 then _ else _) = _
        rw [if_neg hlt]
      rw [hms]
      intro p p1 p2
      exact hM.1 p p1 p2 (by omega)

theorem pop_mp {ls : ML} (hlen : ls.length = 64) (h : MP ls) : MP (mPop ls) := by
  unfold mPop
  refine sink_mp 6 _ 1 (by simp [hlen]) ⟨fun p p1 p2 hp => ?_, fun h2 => by omega⟩ (by omega) (by omega) (by decide) (by omega)
  rw [at1_set _ _ _ _ (by omega), at1_set _ _ _ _ (by omega), at1_set _ _ _ _ (by omega), if_neg (show ¬ 2 * p = 1 by omega), if_neg (show ¬ 2 * p + 1 = 1 by omega), if_neg hp]
  exact h p p1 p2

/-- The search by halves: where it ends, the key fits; ahead of it, it does not. -/
theorem halves_end (ls : ML) (key : Int) (leaf : Nat) (f : Nat) : ∀ (l h : Nat), l ≤ h → h - l < f → fitsL (at1 ls (wayN leaf h)) key = true → (l = 0 ∨ fitsL (at1 ls (wayN leaf (l - 1))) key = false) →
    fitsL (at1 ls (wayN leaf (mHalves ls key leaf (l, h) f).2)) key = true ∧ ((mHalves ls key leaf (l, h) f).2 = 0 ∨ fitsL (at1 ls (wayN leaf ((mHalves ls key leaf (l, h) f).2 - 1))) key = false) ∧ (mHalves ls key leaf (l, h) f).2 ≤ h := by
  induction f with
  | zero => intro l h _ hf; omega
  | succ f ih =>
    intro l h hlh hf hfit hno
    by_cases hl : l < h
    · have hmH : mHalves ls key leaf (l, h) (f + 1) = mHalves ls key leaf (mHalf ls key leaf (l, h)) f := by
        show (if l < h then _ else _) = _
        rw [if_pos hl]
      rw [hmH]
      unfold mHalf
      obtain ⟨mid, hmid⟩ : ∃ mid, (l + h) / 2 = mid := ⟨_, rfl⟩
      simp only [hmid]
      by_cases hft : fitsL (at1 ls (wayN leaf mid)) key = true
      · rw [if_pos hft]
        have := ih l mid (by omega) (by omega) hft hno
        exact ⟨this.1, this.2.1, by omega⟩
      · rw [if_neg hft]
        have := ih (mid + 1) h (by omega) (by omega) hfit (.inr (by simpa using hft))
        exact this
    · have hmH : mHalves ls key leaf (l, h) (f + 1) = (l, h) := by
        show (if l < h then _ else _) = _
        rw [if_neg hl]
      rw [hmH]
      have : l = h := by omega
      subst this
      exact ⟨hfit, hno, Nat.le_refl _⟩

theorem wayN_half (leaf k : Nat) (hk : k < 6) (h0 : 0 < k) : wayN leaf (k - 1) = wayN leaf k / 2 := by
  rcases (show k = 1 ∨ k = 2 ∨ k = 3 ∨ k = 4 ∨ k = 5 by omega) with rfl | rfl | rfl | rfl | rfl <;> simp [wayN] <;> omega

theorem insert_mp {ls : ML} (hlen : ls.length = 64) (h : MP ls) (x : Itm) (leaf : Nat) (h0 : 32 ≤ leaf) (h1 : leaf ≤ 63) (hfit : fitsL (at1 ls leaf) x.1 = true) : MP (mInsert ls x (mPlace ls x.1 leaf)) := by
  have hw5 : wayN leaf 5 = leaf := by simp [wayN]
  obtain ⟨e1, e2, e3⟩ := halves_end ls x.1 leaf 6 0 5 (by omega) (by omega) (by rw [hw5]; exact hfit) (.inl rfl)
  unfold mPlace
  obtain ⟨q, hq⟩ : ∃ q, (mHalves ls x.1 leaf (0, 5) 6).2 = q := ⟨_, rfl⟩
  rw [hq] at e1 e2 e3 ⊢
  have hb := wayN_bd leaf q (by omega) h0 h1
  have hpar : wayN leaf q = 1 ∨ fitsL (at1 ls (wayN leaf q / 2)) x.1 = false := by
    rcases e2 with rfl | e2
    · left; simp [wayN]; omega
    · by_cases hq0 : q = 0
      · subst hq0; left; simp [wayN]; omega
      · right; rw [← wayN_half leaf q (by omega) (by omega)]; exact e2
  obtain ⟨i, hi⟩ : ∃ i, wayN leaf q = i := ⟨_, rfl⟩
  rw [hi] at e1 hb hpar ⊢
  intro p p1 p2
  have hA := h p p1 p2
  unfold mInsert
  rw [at1_set _ _ _ _ (by omega), at1_set _ _ _ _ (by omega), at1_set _ _ _ _ (by omega)]
  by_cases hpi : p = i
  · subst hpi
    rw [if_pos rfl, if_neg (by omega), if_neg (by omega)]
    have key : ∀ c : List Itm, lessL c (at1 ls p) = false → lessL c (x :: at1 ls p) = false := by
      intro c hc
      cases hL : at1 ls p with
      | nil => rw [hL] at hc; cases c <;> simp_all [lessL]
      | cons y r =>
        rw [hL] at hc e1
        cases c with
        | nil => rfl
        | cons z r2 =>
          simp [lessL, fitsL] at hc e1 ⊢
          omega
    exact ⟨key _ hA.1, key _ hA.2⟩
  · rw [if_neg hpi]
    have hpp : ∀ (e : p = i / 2), lessL (x :: at1 ls i) (at1 ls p) = false := by
      intro e
      rcases hpar with h2 | h2
      · omega
      · rw [← e] at h2
        cases hL : at1 ls p with
        | nil => rw [hL] at h2; simp [fitsL] at h2
        | cons y r => rw [hL] at h2; simp [fitsL, lessL] at h2 ⊢; omega
    by_cases c1 : 2 * p = i
    · rw [if_pos c1, if_neg (by omega)]
      exact ⟨hpp (by omega), hA.2⟩
    · rw [if_neg c1]
      by_cases c2 : 2 * p + 1 = i
      · rw [if_pos c2]
        exact ⟨hA.1, hpp (by omega)⟩
      · rw [if_neg c2]
        exact hA

/-- Where the top is empty, all is. -/
theorem top_min {ls : ML} (h : MP ls) (h1 : at1 ls 1 = []) : ∀ i, 1 ≤ i → i ≤ 63 → at1 ls i = [] := by
  intro i
  induction i using Nat.strongRecOn with
  | _ i ih =>
    intro i1 i2
    by_cases e : i = 1
    · rw [e]; exact h1
    · have hp := ih (i / 2) (by omega) (by omega) (by omega)
      have hA := h (i / 2) (by omega) (by omega)
      rw [hp] at hA
      rcases (show i = 2 * (i / 2) ∨ i = 2 * (i / 2) + 1 by omega) with e2 | e2
      · rw [e2]
        cases hL : at1 ls (2 * (i / 2)) with
        | nil => rfl
        | cons y r => rw [hL] at hA; simp [lessL] at hA
      · rw [e2]
        cases hL : at1 ls (2 * (i / 2) + 1) with
        | nil => rfl
        | cons y r => rw [hL] at hA; simp [lessL] at hA
end Go.Proofs.Ytnpglcbkpbhnoaa.Kq
