/- The walks over package heap, fifth part: the parts of doProbe: the way's rows, their reversal, the heads. -/
import Derived.Test.YtnpglcbkpbhnoaaHeapD
namespace Go.Proofs.Ytnpglcbkpbhnoaa
open Go.RowKit Kq

def setAll : Array Value → Nat → List Value → Array Value
  | cs, _, [] => cs
  | cs, o, v :: r => setAll (cs.setIfInBounds o v) (o + 1) r
theorem setAll_toList (vs : List Value) : ∀ (cs : Array Value) (o : Nat), o + vs.length ≤ cs.size → (setAll cs o vs).toList = cs.toList.take o ++ vs ++ cs.toList.drop (o + vs.length) := by
  induction vs with
  | nil => intro cs o _; simp [setAll]
  | cons v r ih =>
    intro cs o h
    simp only [List.length_cons] at h
    rw [setAll, ih _ _ (by simp; omega)]
    apply List.ext_getElem?
    intro i
    simp only [Array.toList_setIfInBounds, List.getElem?_append, List.length_append, List.length_take, List.length_set, Array.length_toList, List.getElem?_take, List.getElem?_set, List.getElem?_drop, List.length_cons, List.getElem?_cons]
    repeat' split
    all_goals first | rfl | omega | (congr 1; omega) | (exfalso; omega) | simp_all
theorem setCells_blk (vs : List Value) : ∀ {w : World} {g : Nat} {t : TypeId} {cs : Array Value} (o : Nat), Blk w g t cs → Blk (w.setCells g o vs) g t (setAll cs o vs) := by
  induction vs with
  | nil => intro w g t cs o h; exact h
  | cons v r ih => intro w g t cs o h; exact ih (o + 1) (h.set_ o v)
theorem setCells_only (vs : List Value) : ∀ {a w : World} {g : Nat} {S : List Nat} (o : Nat), Only S a w → g ∈ S → Only S a (w.setCells g o vs) := by
  induction vs with
  | nil => intro a w g S o h _; exact h
  | cons v r ih => intro a w g S o h hg; exact ih (o + 1) (h.setCell (.inl hg) v) hg

section
variable {w : World} {H : HCfg} {bA : Nat} {bds own : List Int}

/-- What stays of a heap and an act when only blocks from h0 on turn. -/
theorem hr_lists {w w' : World} {s s' : HS} {vd vw vh vd' vw' vh' : Value} {S : List Nat} (hR : HRv w bA H bds own s vd vw vh) (hall : Only S w w') (hS : ∀ g, g ∈ S → H.h0 ≤ g)
    (hcs : s'.cs = s.cs) (hA' : Blk w' bA 85 (actCells H s' vd' vw' vh')) (hD : w'.ownsRow H.h0 3 1 vd' s'.draws.length (ints s'.draws)) (hW : w'.ownsRow H.h0 3 1 vw' s'.way.length (ints s'.way))
    (hHd : w'.ownsRow H.h0 3 1 vh' s'.heads.length (ints s'.heads)) (hne : ∀ g, vh'.ownBlock = some g → vd'.ownBlock ≠ some g ∧ vw'.ownBlock ≠ some g) : HRv w' bA H bds own s' vd' vw' vh' ∧ HK H w w' := by
  obtain ⟨hM, hF, h0, hA, _⟩ := hR
  have hlt := hF.2.2.2.2.2.2.2
  have hS' : ∀ g, g ∈ S → g = H.c.bM ∨ g = H.c.bC ∨ H.h0 ≤ g := fun g hg => .inr (.inr (hS g hg))
  have n1 : H.c.bM ∉ S := fun h => by have := hS _ h; omega
  have n2 : H.c.bC ∉ S := fun h => by have := hS _ h; omega
  exact ⟨⟨by rw [hcs]; exact hM.only hall n1 n2, hF.only hM hall hS', h0, hA', hD, hW, hHd, hne⟩, HK.of_only hall hS'⟩

theorem HRv.size {s : HS} {vd vw vh : Value} (hR : HRv w bA H bds own s vd vw vh) : H.h0 ≤ w.heap.size := by
  have h1 := Blk.lt hR.2.2.2.1
  have h2 := hR.2.2.1
  omega

/-- One more place on the way. -/
theorem way_step {w1 : World} {s : HS} {vd vw : Value} (hR : HRv w bA H bds own s vd vw (.slice none 0 0)) (hh : s.heads = []) (hne : ∀ g, vw.ownBlock = some g → vd.ownBlock ≠ some g) (i : Int) (o : Obj) (g cap' : Nat)
    (hown' : w1.ownsRow H.h0 3 1 (.slice (some ⟨g, 0, none⟩) (s.way.length + 1) cap') (s.way.length + 1) (ints s.way ++ [.int .i64 i])) (hgrow : (w.alloc o).grownBy w1 vw.ownBlock) (hat : vw.ownBlock = some g ∨ g = (w.alloc o).heap.size) :
    HRv (w1.setCell ⟨bA, 8, none⟩ (.slice (some ⟨g, 0, none⟩) (s.way.length + 1) cap')) bA H bds own { s with way := s.way ++ [i] } vd (.slice (some ⟨g, 0, none⟩) (s.way.length + 1) cap') (.slice none 0 0) ∧
      vd.ownBlock ≠ some g ∧ HK H w (w1.setCell ⟨bA, 8, none⟩ (.slice (some ⟨g, 0, none⟩) (s.way.length + 1) cap')) := by
  have hsz := hR.size
  have hR' := hR
  obtain ⟨hM, hF, h0, hA, hD, hW, hHd, _⟩ := hR'
  have hdg : vd.ownBlock ≠ some g := by
    rcases hat with h | h
    · exact hne g h
    · intro e
      have := (hD.lt g e).2
      rw [h] at this
      simp at this
      omega
  have hneA : vw.ownBlock ≠ some bA := owns_ne hW hA (by decide)
  have hA1 := Blk.grown (hA.alloc o) hgrow hneA
  have hgA : (Value.slice (some ⟨g, 0, none⟩) (s.way.length + 1) cap').ownBlock ≠ some bA := owns_ne hown' hA1 (by decide)
  have hgl : H.h0 ≤ g := (hown'.lt g rfl).1
  have hall : Only (bA :: g :: vw.ownBlock.toList) w (w1.setCell ⟨bA, 8, none⟩ (.slice (some ⟨g, 0, none⟩) (s.way.length + 1) cap')) := by
    refine (Only.grown ((Only.refl _ _).alloc _) hgrow (fun k e => .inl ?_)).setCell (by simp) _
    rw [e]; simp
  have hdv : ∀ k, k ∈ bA :: g :: vw.ownBlock.toList → vd.ownBlock ≠ some k := by
    intro k hk
    simp only [List.mem_cons, Option.mem_toList] at hk
    rcases hk with rfl | rfl | hk
    · exact owns_ne hD hA (by decide)
    · exact hdg
    · exact hne k hk
  have := hr_lists (s' := { s with way := s.way ++ [i] }) (vd' := vd) (vw' := .slice (some ⟨g, 0, none⟩) (s.way.length + 1) cap') (vh' := .slice none 0 0) hR hall ?_ rfl (Blk.eqs (hA1.set_ 8 _) rfl) (owns_only hD hall hdv) ?_ ?_ (by intro g h; simp [Value.ownBlock] at h)
  · exact ⟨this.1, hdg, this.2⟩
  · intro k hk
    simp only [List.mem_cons, Option.mem_toList] at hk
    rcases hk with rfl | rfl | hk
    · exact h0
    · exact hgl
    · exact (hW.lt k hk).1
  · have := ownsRow_setCell_other hown' (a := ⟨bA, 8, none⟩) hgA (.slice (some ⟨g, 0, none⟩) (s.way.length + 1) cap')
    simpa [ints] using this
  · show World.ownsRow _ _ _ _ _ s.heads.length (ints s.heads)
    rw [hh]
    exact World.ownsRow_nil _ _ _ _

/-- The way turned round. -/
theorem way_rev {s : HS} {vd vw : Value} {g cap : Nat} (k : Nat) (hR : HRv w bA H bds own s vd vw (.slice none 0 0)) (hh : s.heads = []) (hv : vw = .slice (some ⟨g, 0, none⟩) s.way.length cap) (hne : vd.ownBlock ≠ some g) :
    HRv ((w.drewN k).setCells g 0 (ints s.way.reverse)) bA H bds own { s with way := s.way.reverse } vd vw (.slice none 0 0) ∧ HK H w ((w.drewN k).setCells g 0 (ints s.way.reverse)) := by
  have hR' := hR
  obtain ⟨hM, hF, h0, hA, hD, hW, hHd, _⟩ := hR'
  have hgA : vw.ownBlock ≠ some bA := owns_ne hW hA (by decide)
  subst hv
  have hall : Only [g] w ((w.drewN k).setCells g 0 (ints s.way.reverse)) := setCells_only _ 0 ((Only.refl _ _).drewN _) (by simp)
  have hgA2 : bA ≠ g := fun e => hgA (by rw [e]; rfl)
  refine hr_lists (s' := { s with way := s.way.reverse }) hR hall ?_ rfl ?_ (owns_only hD hall (by intro k hk; simp at hk; subst hk; exact hne)) ?_ ?_ (by intro g h; simp [Value.ownBlock] at h)
  · intro k hk; simp at hk; subst hk; exact (hW.lt _ rfl).1
  · exact hA.only hall (by simp [hgA2])
  · rcases hW.2 with ⟨h1, _⟩ | ⟨g', cap', cur, h1, hg, hb, hc, hcap, hsz, htk⟩
    · cases h1
    · cases h1
      have hset := setCells_blk (ints s.way.reverse) (w := w.drewN k) (g := g) (t := 3) (cs := cur) 0 hb
      have hlen : 0 + (ints s.way.reverse).length ≤ cur.size := by simp [ints]; omega
      have htl := setAll_toList (ints s.way.reverse) cur 0 hlen
      have hszA : (setAll cur 0 (ints s.way.reverse)).size = cur.size := by
        rw [← Array.length_toList, htl]; simp [ints]; omega
      have e1 : (s.way.reverse).length = s.way.length := by simp
      show World.ownsRow _ _ _ _ (.slice (some ⟨g, 0, none⟩) s.way.length cap) s.way.reverse.length (ints s.way.reverse)
      rw [e1]
      refine ⟨by simp [ints], .inr ⟨g, cap, _, rfl, hg, hset, hc, hcap, by rw [hszA]; exact hsz, ?_⟩⟩
      rw [htl]
      simp [ints]
  · show World.ownsRow _ _ _ _ _ s.heads.length (ints s.heads)
    rw [hh]
    exact World.ownsRow_nil _ _ _ _

/-- The heads made. -/
theorem heads_made {s : HS} {vd vw : Value} (n : Nat) (hn : n ≤ 64) (hR : HRv w bA H bds own s vd vw (.slice none 0 0)) :
    HRv ((w.alloc (.cells (ints (List.replicate n 0)).toArray 3)).setCell ⟨bA, 9, none⟩ (.slice (some ⟨w.heap.size, 0, none⟩) n n)) bA H bds own { s with heads := List.replicate n 0 } vd vw (.slice (some ⟨w.heap.size, 0, none⟩) n n) ∧
      HK H w ((w.alloc (.cells (ints (List.replicate n 0)).toArray 3)).setCell ⟨bA, 9, none⟩ (.slice (some ⟨w.heap.size, 0, none⟩) n n)) := by
  have hsz := hR.size
  have hR' := hR
  obtain ⟨hM, hF, h0, hA, hD, hW, hHd, _⟩ := hR'
  have hlt := hA.lt
  have hall : Only [bA] w ((w.alloc (.cells (ints (List.replicate n 0)).toArray 3)).setCell ⟨bA, 9, none⟩ (.slice (some ⟨w.heap.size, 0, none⟩) n n)) := ((Only.refl _ _).alloc _).setCell (by simp) _
  refine hr_lists (s' := { s with heads := List.replicate n 0 }) hR hall (by intro k hk; simp at hk; subst hk; exact h0) rfl (Blk.eqs ((hA.alloc _).set_ 9 _) rfl)
    (owns_only hD hall (by intro k hk; simp at hk; subst hk; exact owns_ne hD hA (by decide))) (owns_only hW hall (by intro k hk; simp at hk; subst hk; exact owns_ne hW hA (by decide))) ?_ ?_
  · have hb : Blk ((w.alloc (.cells (ints (List.replicate n 0)).toArray 3)).setCell ⟨bA, 9, none⟩ (.slice (some ⟨w.heap.size, 0, none⟩) n n)) w.heap.size 3 (ints (List.replicate n 0)).toArray := (Blk.new _ _ _).far (by simp; omega) _
    show World.ownsRow _ _ _ _ _ (List.replicate n (0 : Int)).length (ints (List.replicate n 0))
    rw [List.length_replicate]
    exact ⟨by simp [ints], .inr ⟨w.heap.size, n, _, rfl, hsz, hb, Nat.le_refl _, by unfold maxLen; omega, by simp [ints], by simp [ints]⟩⟩
  · intro g h
    have e : w.heap.size = g := by simpa [Value.ownBlock] using h
    subst e
    exact ⟨fun e => by have := (hD.lt _ e).2; omega, fun e => by have := (hW.lt _ e).2; omega⟩
end
end Go.Proofs.Ytnpglcbkpbhnoaa
