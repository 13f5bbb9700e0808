/- The plain law, ninth part: one invariant over all, and its moves. -/
import Derived.Test.YtnpglcbkpbhnoaaQH
namespace Go.Proofs.Ytnpglcbkpbhnoaa.Kq

/-- The cells are a pool's and a heap's; each slot is at one place. -/
structure Inv (n : Nat) (cs bds own sh : List Int) (ls : ML) (hd : List Int) : Prop where
  sim : Sim cs (n + 1) n bds ls
  ps : PSim cs own sh 0 n
  nd : (hd ++ ((own ++ sh) ++ queued ls)).Nodup
  cnt : (hd ++ ((own ++ sh) ++ queued ls)).length = n
  bnd : ∀ a ∈ hd ++ ((own ++ sh) ++ queued ls), 0 ≤ a ∧ a < (n : Int)
  mp : MP ls
  z : at1 ls 0 = []

theorem mem_queued {ls : ML} {i : Nat} {x : Itm} (hi : i < ls.length) (h : x ∈ at1 ls i) : x.2 ∈ queued ls := by
  refine List.mem_map.2 ⟨x, List.mem_flatten.2 ⟨at1 ls i, ?_, h⟩, rfl⟩
  unfold at1
  rw [List.getD_eq_getElem?_getD, List.getElem?_eq_getElem hi]
  exact List.getElem_mem _

section
variable {n : Nat} {cs bds own sh : List Int} {ls : ML}

theorem Inv.move {hd hd' own' sh' cs' bds' : List Int} {ls' : ML} (h : Inv n cs bds own sh ls hd) (hS : Sim cs' (n + 1) n bds' ls') (hP : PSim cs' own' sh' 0 n) (hp : (hd' ++ ((own' ++ sh') ++ queued ls')).Perm (hd ++ ((own ++ sh) ++ queued ls))) (hm : MP ls') (hz : at1 ls' 0 = []) :
    Inv n cs' bds' own' sh' ls' hd' :=
  ⟨hS, hP, hp.nodup_iff.2 h.nd, hp.length_eq.trans h.cnt, fun a ha => h.bnd a (hp.mem_iff.1 ha), hm, hz⟩

theorem inv_take (h : Inv n cs bds own sh ls []) (hne : own ++ sh ≠ []) :
    ∃ (t : PS) (m : Nat) (sh' : List Int), 0 < m ∧ m < 100 ∧ PRuns (0 : Nat) ⟨cs, own, false, -1, 0, 0, 0⟩ t m ∧ t.ph = 3 ∧ Inv n t.cs bds t.own sh' ls [t.slot] := by
  obtain ⟨t, m, sh', h0, h1, hr, hph, hP, hperm, hl, hc⟩ := take_run h.ps hne
  refine ⟨t, m, sh', h0, h1, hr, hph, h.move (h.sim.congr hl fun i hi => hc i (by omega)) hP ?_ h.mp h.z⟩
  show (t.slot :: ((t.own ++ sh') ++ queued ls)).Perm ((own ++ sh) ++ queued ls)
  exact (hperm.append_right (queued ls)).symm

theorem inv_give {s : Int} (h : Inv n cs bds own sh ls [s]) :
    ∃ (t : PS) (m : Nat) (sh' : List Int), 0 < m ∧ m < 100 ∧ PRuns (0 : Nat) ⟨cs, own, true, s, 0, 0, 0⟩ t m ∧ t.ph = 3 ∧ Inv n t.cs bds t.own sh' ls [] := by
  have hb := h.bnd s (by simp)
  have hno : s ∉ sh := by
    have := (List.nodup_cons.1 h.nd).1
    intro hm
    exact this (by simp [hm])
  obtain ⟨t, m, sh', h0, h1, hr, hph, hP, hperm, hl, hc⟩ := give_run h.ps s hb.1 hb.2 hno
  refine ⟨t, m, sh', h0, h1, hr, hph, h.move (h.sim.congr hl fun i hi => hc i (by omega)) hP ?_ h.mp h.z⟩
  show ((t.own ++ sh') ++ queued ls).Perm (s :: ((own ++ sh) ++ queued ls))
  exact hperm.append_right (queued ls)

theorem inv_keep {s : Int} (h : Inv n cs bds own sh ls [s]) (b : Int) :
    0 ≤ s ∧ s < (n : Int) ∧ Inv n cs (bds.set s.toNat b) own sh ls [s] ∧ gt (bds.set s.toNat b) s = b ∧ ∀ i : Nat, 1 ≤ i → i ≤ 63 → ∀ x ∈ at1 ls i, x.2 ≠ s := by
  have hb := h.bnd s (by simp)
  have hbl := h.sim.bl
  have hno : ∀ i : Nat, 1 ≤ i → i ≤ 63 → ∀ x ∈ at1 ls i, x.2 ≠ s := by
    intro i i1 i2 x hx e
    have := (List.nodup_cons.1 h.nd).1
    exact this (by
      show s ∈ (own ++ sh) ++ queued ls
      refine List.mem_append_right _ ?_
      rw [← e]
      exact mem_queued (by rw [h.sim.nlen]; omega) hx)
  have e : bds.set s.toNat b = stt bds s b := by unfold stt; rw [if_pos ⟨hb.1, by omega⟩]
  refine ⟨hb.1, hb.2, ⟨⟨h.sim.n4, h.sim.len, h.sim.nlen, by simp [hbl], h.sim.chain, fun i i1 i2 x hx => ?_⟩, h.ps, h.nd, h.cnt, h.bnd, h.mp, h.z⟩, ?_, hno⟩
  · have hk := h.sim.key i i1 i2 x hx
    refine ⟨?_, hk.2⟩
    rw [e, gt_stt_ne (hno i i1 i2 x hx)]
    exact hk.1
  · rw [e, gt_stt hb.1 (by omega), if_pos rfl]

theorem inv_push {s key : Int} (h : Inv n cs bds own sh ls [s]) (hk : gt bds s = key) (hno : ∀ i : Nat, 1 ≤ i → i ≤ 63 → ∀ x ∈ at1 ls i, x.2 ≠ s) (ds : List Int) :
    ∃ (t : HS) (m : Nat), 0 < m ∧ m < 100 ∧ HRuns bds (n + 1 : Nat) (pushStart cs s ds) t m ∧ t.ph = 15 ∧
      ((t.fits = false ∧ Inv n t.cs bds own sh ls [s]) ∨
       (t.fits = true ∧ 32 ≤ mLeaf ls key ds ∧ mLeaf ls key ds ≤ 63 ∧ Inv n t.cs bds own sh (mInsert ls (key, s) (mPlace ls key (mLeaf ls key ds))) [] ∧ (queued (mInsert ls (key, s) (mPlace ls key (mLeaf ls key ds)))).length = (queued ls).length + 1)) := by
  have hb := h.bnd s (by simp)
  obtain ⟨t, m, h0, h1, hr, hph, hend⟩ := push_sim h.sim s key ds hb.1 hb.2 hk hno
  refine ⟨t, m, h0, h1, hr, hph, ?_⟩
  rcases hend with ⟨hf, hc⟩ | ⟨hf, l0, l1, hft, p0, p1, hS, hlow⟩
  · exact .inl ⟨hf, by rw [hc]; exact h⟩
  · have hq := queued_insert (ls := ls) (key, s) (mPlace ls key (mLeaf ls key ds)) (by rw [h.sim.nlen]; omega)
    refine .inr ⟨hf, l0, l1, h.move hS (h.ps.congr (by rw [hS.len, h.sim.len]) fun i hi => hlow i (by omega)) ?_ (insert_mp h.sim.nlen h.mp (key, s) _ l0 l1 hft) ?_, hq.length_eq⟩
    · show ((own ++ sh) ++ queued (mInsert ls (key, s) _)).Perm (s :: ((own ++ sh) ++ queued ls))
      exact (hq.append_left (own ++ sh)).trans List.perm_middle
    · unfold mInsert
      rw [at1_set _ _ _ _ (by rw [h.sim.nlen]; omega), if_neg (by omega)]
      exact h.z

theorem inv_pop (h : Inv n cs bds own sh ls []) (hq : 0 < (queued ls).length) :
    ∃ (x : Itm) (l' : List Itm) (t : HS) (m : Nat), at1 ls 1 = x :: l' ∧ gt bds x.2 = x.1 ∧ 0 ≤ x.2 ∧ 0 < m ∧ m < 100 ∧ HRuns bds (n + 1 : Nat) (popStart cs) t m ∧ t.ph = 15 ∧ t.slot = x.2 ∧ t.push = false ∧
      Inv n t.cs bds own sh (mPop ls) [x.2] ∧ (queued ls).length = (queued (mPop ls)).length + 1 := by
  cases hl : at1 ls 1 with
  | nil =>
    exfalso
    have hall := top_min h.mp hl
    have : queued ls = [] := by
      unfold queued
      have hf : ls.flatten = [] := by
        rw [List.flatten_eq_nil_iff]
        intro l hml
        obtain ⟨i, hi, e⟩ := List.getElem_of_mem hml
        have ea : at1 ls i = l := by unfold at1; rw [List.getD_eq_getElem?_getD, List.getElem?_eq_getElem hi]; exact e
        have hn := h.sim.nlen
        rw [← ea]
        by_cases hi0 : i = 0
        · rw [hi0]; exact h.z
        · exact hall i (by omega) (by omega)
      rw [hf]; rfl
    rw [this] at hq
    simp at hq
  | cons x l' =>
    have hk := h.sim.key 1 (by omega) (by omega) x (by rw [hl]; simp)
    obtain ⟨t, m, h0, h1, hr, hph, hsl, hpu, hS, hlow⟩ := pop_sim h.sim hl
    obtain ⟨hq2, hlen, hz⟩ := queued_pop h.sim.nlen hl
    refine ⟨x, l', t, m, rfl, hk.1, hk.2.1, h0, h1, hr, hph, hsl, hpu, h.move hS (h.ps.congr (by rw [hS.len, h.sim.len]) fun i hi => hlow i (by omega)) ?_ (pop_mp h.sim.nlen h.mp) (hz.trans h.z), hq2.length_eq⟩
    show (x.2 :: ((own ++ sh) ++ queued (mPop ls))).Perm ((own ++ sh) ++ queued ls)
    exact List.perm_middle.symm.trans (hq2.symm.append_left (own ++ sh))

theorem inv_end (h : Inv n cs bds own sh ls []) (hq : (queued ls).length = 0) : sh.length + own.length = n := by
  have := h.cnt
  simp only [List.nil_append, List.length_append] at this
  omega
end
end Go.Proofs.Ytnpglcbkpbhnoaa.Kq
