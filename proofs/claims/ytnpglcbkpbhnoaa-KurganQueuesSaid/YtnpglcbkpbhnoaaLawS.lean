/- How the law's world stands between its statements. -/
import Derived.Test.YtnpglcbkpbhnoaaLawK
import Derived.Test.YtnpglcbkpbhnoaaPoolH
namespace Go.Proofs.Ytnpglcbkpbhnoaa
open Go.RowKit Kq

/-- A pool, a heap, a mound; what is held. -/
structure LSt (w0 w : World) (c : Cfg) (bH bO bL n : Nat) (cs bds own sh : List Int) (ls : ML) (hd : List Int) (lm : ML) (k : Nat) : Prop where
  q : QR w c bH (n + 1) cs bds own
  m : MoundR w.heap.size w bO bL lm k
  inv : Inv n cs bds own sh ls hd
  bel : Below w0.heap.size w0 w
  cn : c.n = n
  cpb : c.pb = 0
  clo : c.lo = w0.heap.size
  bO0 : w0.heap.size ≤ bO
  bL0 : w0.heap.size ≤ bL

section
variable {w0 w w' : World} {c : Cfg} {bH bO bL n : Nat} {cs bds own sh : List Int} {ls lm : ML} {hd : List Int} {k : Nat}

/-- Behind a call on the pool. -/
theorem LSt.pool {cs' bds' own' sh' hd' : List Int} (h : LSt w0 w c bH bO bL n cs bds own sh ls hd lm k) (hP : PoolR w' c cs' bds' own') (hK : Keeps c.lo TP w w') (hI : Inv n cs' bds' own' sh' ls hd') : LSt w0 w' c bH bO bL n cs' bds' own' sh' ls hd' lm k :=
  ⟨h.q.keeps hP hK, (h.m.keeps hK).mono hK.size, hI, hK.below h.bel (by rw [h.clo]; exact Nat.le_refl _) (Nat.le_refl _), h.cn, h.cpb, h.clo, h.bO0, h.bL0⟩
/-- Behind what only makes new blocks. -/
theorem LSt.made (h : LSt w0 w c bH bO bL n cs bds own sh ls hd lm k) (hb : Below w.heap.size w w') : LSt w0 w' c bH bO bL n cs bds own sh ls hd lm k :=
  ⟨h.q.below hb, (h.m.below hb).mono hb.size, h.inv, Only.below (S := []) h.bel (Only.of_below hb rfl) h.bel.size (by simp), h.cn, h.cpb, h.clo, h.bO0, h.bL0⟩
/-- Behind an act upon the heap: begun in wb, ended in w'. -/
theorem LSt.act {wb : World} {bA : Nat} {s t : HS} {ls' : ML} {hd' : List Int} (h : LSt w0 w c bH bO bL n cs bds own sh ls hd lm k) (hb : Below w.heap.size w wb) (hB : HR wb bA ⟨c, bH, n + 1, w.heap.size⟩ bds own s) (hR : HR w' bA ⟨c, bH, n + 1, w.heap.size⟩ bds own t)
    (hK : HK ⟨c, bH, n + 1, w.heap.size⟩ wb w') (hI : Inv n t.cs bds own sh ls' hd') : LSt w0 w' c bH bO bL n t.cs bds own sh ls' hd' lm k := by
  have hm := (h.m.below hb).hk hK hB.1 h.m.1.lt h.m.2.2.choose_spec.2.1.lt (Nat.le_refl _)
  have hs : w.heap.size ≤ w'.heap.size := Nat.le_trans hb.size hK.size
  refine ⟨hR.queue, hm.mono hs, hI, ?_, h.cn, h.cpb, h.clo, h.bO0, h.bL0⟩
  have hlo := h.q.1.2.2.2.2.2.2.1
  rw [h.clo] at hlo
  refine ⟨hK.os.trans (hb.os.trans h.bel.os), hK.tape.trans (hb.tape.trans h.bel.tape), hK.output.trans (hb.output.trans h.bel.output), Nat.le_trans h.bel.size hs, fun g hg => ?_⟩
  have h0 := h.bel.size
  have h1 := hb.size
  exact (hK.block g (by show g < w.heap.size; omega) (by omega) (by show g ≠ c.bM; omega) (by show g ≠ c.bC; omega)).trans ((hb.block g (by omega)).trans (h.bel.block g hg))
/-- Behind a call on the mound. -/
theorem LSt.mound {lm' : ML} {k' : Nat} (h : LSt w0 w c bH bO bL n cs bds own sh ls hd lm k) (hM : MoundR w'.heap.size w' bO bL lm' k') (ho : Only [bO, bL] w w') : LSt w0 w' c bH bO bL n cs bds own sh ls hd lm' k' := by
  have hO := h.m.1
  have hL := h.m.2.2.choose_spec.2.1
  have aO := h.q.1.1.apart hO (by decide) (by decide)
  have aL := h.q.1.1.apart hL (by decide) (by decide)
  simp at aO aL
  have hM' := h.q.1.1.only ho (by simp [Ne.symm aO.1, Ne.symm aL.1]) (by simp [Ne.symm aO.2, Ne.symm aL.2])
  have hP := h.q.1.mem ho hM' (fun g hg => by
    simp at hg
    rcases hg with rfl | rfl
    · exact .inr (.inr ⟨_, _, hO, by decide⟩)
    · exact .inr (.inr ⟨_, _, hL, by decide⟩))
  have hH := h.q.2.1.only ho (by have := Blk.ne_ h.q.2.1 hO (by decide); have := Blk.ne_ h.q.2.1 hL (by decide); simp [*])
  exact ⟨⟨hP, hH, h.q.2.2⟩, hM, h.inv, Only.below h.bel ho h.bel.size (by simp [h.bO0, h.bL0]), h.cn, h.cpb, h.clo, h.bO0, h.bL0⟩
end
end Go.Proofs.Ytnpglcbkpbhnoaa
