/- The plain law, first part: cells, chains; what a heap's cells have to do with a mound's lists. -/
import Derived.Test.YtnpglcbkpbhnoaaPoolG
import Derived.Test.YtnpglcbkpbhnoaaMPure
namespace Go.Proofs.Ytnpglcbkpbhnoaa.Kq

theorem gt_stt {cs : List Int} {i v j : Int} (h0 : 0 ≤ i) (h1 : i < (cs.length : Int)) : gt (stt cs i v) j = if j = i then v else gt cs j := by
  have e : stt cs i v = cs.set i.toNat v := by unfold stt; rw [if_pos ⟨h0, h1⟩]
  rw [e]
  unfold gt
  rw [List.length_set]
  by_cases hr : 0 ≤ j ∧ j < (cs.length : Int)
  · rw [if_pos hr, if_pos hr]
    by_cases hj : j = i
    · subst hj
      rw [if_pos rfl, List.getD_eq_getElem?_getD, List.getElem?_set, if_pos rfl, if_pos (by omega)]
      rfl
    · rw [if_neg hj, List.getD_eq_getElem?_getD, List.getElem?_set, if_neg (by omega), ← List.getD_eq_getElem?_getD]
  · rw [if_neg hr, if_neg hr, if_neg (by omega)]
theorem gt_stt_ne {cs : List Int} {i v j : Int} (h : j ≠ i) : gt (stt cs i v) j = gt cs j := by
  by_cases hr : 0 ≤ i ∧ i < (cs.length : Int)
  · rw [gt_stt hr.1 hr.2, if_neg h]
  · unfold stt
    rw [if_neg hr]
theorem casB_of {cs : List Int} {i old : Int} (h0 : 0 ≤ i) (h1 : i < (cs.length : Int)) (h : gt cs i = old) : casB cs i old = true := by
  unfold casB
  unfold gt at h
  rw [if_pos ⟨h0, h1⟩] at h
  exact decide_eq_true ⟨h0, h1, h⟩
theorem csw_of {cs : List Int} {i old n : Int} (h : casB cs i old = true) : csw cs i old n = stt cs i n := by unfold csw; rw [if_pos h]

theorem upl_neg (v p : Int) (h : p < 0) : upl (pk v p) = -1 := by
  unfold upl pk
  rw [if_pos (.inl h)]
  omega
theorem upl_up (h p : Int) (hp : 0 ≤ p) (h1 : p ≤ 2147483646) : upl (up h p) = p := upl_pk _ _ ⟨by omega, h1⟩
theorem upl_up_neg (h p : Int) (hp : p < 0) : upl (up h p) = -1 := upl_neg _ _ hp

theorem Chain.congr {cs cs' : List Int} {b : Int} : ∀ {l : List Int} {s : Int}, Chain cs b s l → (∀ a ∈ l, gt cs' (b + a) = gt cs (b + a)) → Chain cs' b s l := by
  intro l
  induction l with
  | nil => intro s h _; exact h
  | cons a l ih =>
    intro s h k
    obtain ⟨h1, h2, h3⟩ := h
    exact ⟨h1, h2, ih (by rw [k a (by simp)]; exact h3) (fun c hc => k c (by simp [hc]))⟩
/-- A chain's start put behind a packed number. -/
theorem Chain.upd {cs : List Int} {b s : Int} {l : List Int} (h : Chain cs b s l) (hb : ∀ a ∈ l, a ≤ 2147483646) (v : Int) : Chain cs b (upl (up v s)) l := by
  cases l with
  | nil =>
    have h' : s < 0 := h
    show upl (up v s) < 0
    rw [upl_up_neg v s h']
    omega
  | cons a l =>
    obtain ⟨h1, h2, h3⟩ := h
    subst h1
    exact ⟨upl_up v s h2 (hb s (by simp)), h2, h3⟩

/-- The ids of a list. -/
def ids (l : List Itm) : List Int := l.map Prod.snd

/-- The heap's cells are the mound's lists. -/
structure Sim (cs : List Int) (hb n : Nat) (bds : List Int) (ls : ML) : Prop where
  n4 : n ≤ 4096
  len : cs.length = hb + 63 + n
  nlen : ls.length = 64
  bl : bds.length = n
  chain : ∀ i : Nat, 1 ≤ i → i ≤ 63 → Chain cs ((hb : Int) + 63) (upl (gt cs ((hb : Int) + i - 1))) (ids (at1 ls i))
  key : ∀ i : Nat, 1 ≤ i → i ≤ 63 → ∀ x ∈ at1 ls i, gt bds x.2 = x.1 ∧ 0 ≤ x.2 ∧ x.2 < (n : Int)

section
variable {cs bds : List Int} {hb n : Nat} {ls : ML}

theorem Sim.congr {cs' : List Int} (h : Sim cs hb n bds ls) (hl : cs'.length = cs.length) (hc : ∀ i : Int, (hb : Int) ≤ i → gt cs' i = gt cs i) : Sim cs' hb n bds ls := by
  refine ⟨h.n4, by rw [hl]; exact h.len, h.nlen, h.bl, fun i h1 h2 => ?_, h.key⟩
  rw [hc _ (by omega)]
  refine (h.chain i h1 h2).congr fun a ha => hc _ ?_
  obtain ⟨x, hx, rfl⟩ := List.mem_map.1 ha
  have := (h.key i h1 h2 x hx).2.1
  omega

theorem Sim.below (h : Sim cs hb n bds ls) (i : Nat) (h1 : 1 ≤ i) (h2 : i ≤ 63) (key : Int) : belowB bds (gt cs ((hb : Int) + i - 1)) key = !fitsL (at1 ls i) key := by
  have hc := h.chain i h1 h2
  have hk := h.key i h1 h2
  unfold belowB
  cases hl : at1 ls i with
  | nil =>
    rw [hl] at hc
    have hc' : upl (gt cs ((hb : Int) + i - 1)) < 0 := hc
    have : ¬ (0 ≤ upl (gt cs ((hb : Int) + i - 1))) := by omega
    simp [this, fitsL]
  | cons x r =>
    rw [hl] at hc hk
    obtain ⟨e, h0, _⟩ := hc
    have hx := hk x (by simp)
    rw [e]
    show decide (0 ≤ x.2 ∧ gt bds x.2 < key) = !decide (key ≤ x.1)
    rw [hx.1]
    by_cases hh : key ≤ x.1
    · have : ¬ (x.1 < key) := by omega
      simp [hh, this]
    · have : x.1 < key := by omega
      simp [hh, this, hx.2.1]

theorem Sim.less (h : Sim cs hb n bds ls) (i k : Nat) (h1 : 1 ≤ i) (h2 : i ≤ 63) (h3 : 1 ≤ k) (h4 : k ≤ 63) :
    lessB bds (gt cs ((hb : Int) + i - 1)) (gt cs ((hb : Int) + k - 1)) = lessL (at1 ls i) (at1 ls k) := by
  have hc := h.chain i h1 h2
  have hk := h.key i h1 h2
  have hc' := h.chain k h3 h4
  have hk' := h.key k h3 h4
  unfold lessB
  cases hl : at1 ls i with
  | nil =>
    rw [hl] at hc
    have hc2 : upl (gt cs ((hb : Int) + i - 1)) < 0 := hc
    have : ¬ (0 ≤ upl (gt cs ((hb : Int) + i - 1))) := by omega
    simp [this, lessL]
  | cons x r =>
    rw [hl] at hc hk
    obtain ⟨e, h0, _⟩ := hc
    have hx := hk x (by simp)
    have e' : upl (gt cs ((hb : Int) + i - 1)) = x.2 := e
    rw [e']
    cases hl' : at1 ls k with
    | nil =>
      rw [hl'] at hc'
      have hc2 : upl (gt cs ((hb : Int) + k - 1)) < 0 := hc'
      simp [hc2, lessL, hx.2.1]
    | cons y q =>
      rw [hl'] at hc' hk'
      obtain ⟨e2, h02, _⟩ := hc'
      have hy := hk' y (by simp)
      have e2' : upl (gt cs ((hb : Int) + k - 1)) = y.2 := e2
      rw [e2']
      have : ¬ (y.2 < 0) := by omega
      simp [lessL, hx.1, hy.1, hx.2.1, this]

/-- Its head is in its range. -/
theorem Sim.in_range (h : Sim cs hb n bds ls) (i : Int) (h1 : 1 ≤ i) (h2 : i ≤ 63) : 0 ≤ (hb : Int) + i - 1 ∧ (hb : Int) + i - 1 < (cs.length : Int) := by
  have := h.len
  omega
end

/-- So many steps, each in order. -/
def HRuns (bds : List Int) (hb : Int) (s t : HS) (m : Nat) : Prop := hsteps bds hb s m = t ∧ ∀ k, k < m → HGood hb (hsteps bds hb s k)
theorem hsteps_cons (bds : List Int) (hb : Int) (s : HS) (k : Nat) : hsteps bds hb s (k + 1) = hsteps bds hb (hstep bds hb s) k := by
  induction k with
  | zero => rfl
  | succ k ih => rw [hsteps_succ, ih]; rfl
theorem HRuns.refl (bds : List Int) (hb : Int) (s : HS) : HRuns bds hb s s 0 := ⟨rfl, fun k hk => by omega⟩
theorem HRuns.cons {bds : List Int} {hb : Int} {s s' t : HS} {m : Nat} (hg : HGood hb s) (he : hstep bds hb s = s') (h : HRuns bds hb s' t m) : HRuns bds hb s t (m + 1) := by
  subst he
  refine ⟨by rw [hsteps_cons]; exact h.1, fun k hk => ?_⟩
  cases k with
  | zero => exact hg
  | succ k => rw [hsteps_cons]; exact h.2 k (by omega)
theorem hsteps_add (bds : List Int) (hb : Int) (s : HS) (a b : Nat) : hsteps bds hb s (a + b) = hsteps bds hb (hsteps bds hb s a) b := by
  induction b with
  | zero => rfl
  | succ b ih => rw [← Nat.add_assoc, hsteps_succ, ih]; rfl
theorem HRuns.trans {bds : List Int} {hb : Int} {s t u : HS} {m k : Nat} (h : HRuns bds hb s t m) (h' : HRuns bds hb t u k) : HRuns bds hb s u (m + k) := by
  obtain ⟨rfl, h2⟩ := h
  refine ⟨by rw [hsteps_add]; exact h'.1, fun j hj => ?_⟩
  by_cases hjm : j < m
  · exact h2 j hjm
  · rw [show j = m + (j - m) by omega, hsteps_add]
    exact h'.2 _ (by omega)
end Go.Proofs.Ytnpglcbkpbhnoaa.Kq
