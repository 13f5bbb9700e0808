/- KurganQueues as stated: whatever two slices of ints come in, nil and empty ones too, one lying in the other too, the law returns true and both read as before. Conditions: none. -/
import Derived.Test.YtnpglcbkpbhnoaaLawA
import Derived.Test.YtnpglcbkpbhnoaaRows
import Derived.ProofKit
import Derived.SizedLaws
namespace Go.Proofs.Ytnpglcbkpbhnoaa
open Go.ChangeShapes Go.WideShapes Go.ChangeAt Go.RowKit

theorem row_own : ownKnob Try.prog.godebug = none := by kernel_rfl
theorem row_laidOut : laidOutB Try.prog = true := by kernel_rfl
theorem row_cells3 : Try.prog.cellsOf 3 = 1 := by kernel_rfl
theorem row_bytes3 : Try.prog.bytesOf 3 = 8 := by kernel_rfl

theorem shape_lt {w : World} {b : Nat} {x : TypeId × Nat} (h : w.shape? b = some x) : b < w.heap.size := by
  rcases Nat.lt_or_ge b w.heap.size with h1 | h1
  · exact h1
  · unfold World.shape? at h
    rw [Array.getElem?_eq_none h1] at h
    cases h

/-- An argument of type []int, opened once. -/
theorem row_view {H : Type} {enc : TypeId × Value → H} {W : World} {base fuel : Nat} {v : Value} {d : DataW H} {p : List MemPlace} (hok : Value.okWide Try.prog W .any base 22 v)
    (hf : DataW.trod enc Try.prog W 0 (fun _ => true) true fuel 22 v.cells.toList = some (d, p)) :
    ∃ Z : List Int, ArgI W v Z ∧ (d = .nil ∧ Z = [] ∨ ∃ sp, d = .slice (lits .i64 Z) sp) := by
  obtain ⟨a0, len, cap, rfl⟩ := okWide_slice Try.underlying22 hok
  have hok' := hok
  simp only [Value.okWide, Try.underlying22, Cell.okWide] at hok'
  rcases open_ints Try.underlying22 Try.underlying3 row_cells3 hf with ⟨hcs, hx⟩ | ⟨a, len', cap', zs, hcs, _, hl, hm, hz, hx, hcell, hwz⟩
  · simp [Value.cells] at hcs
    obtain ⟨rfl, rfl, rfl⟩ := hcs
    simp only [Prod.mk.injEq] at hx
    obtain ⟨rfl, rfl⟩ := hx
    exact ⟨[], ⟨none, 0, rfl, Nat.le_refl _, .inl ⟨rfl, rfl⟩⟩, .inl ⟨rfl, rfl⟩⟩
  · simp [Value.cells] at hcs
    obtain ⟨rfl, rfl, rfl⟩ := hcs
    simp only [Prod.mk.injEq] at hx
    obtain ⟨rfl, rfl⟩ := hx
    simp only [if_true] at hz
    simp only [Cell.ok, Try.underlying22] at hok'
    obtain ⟨_, _, hhas⟩ := hok'
    obtain ⟨_, hsp, row, cells, hsh, _⟩ := hhas
    obtain ⟨b, off, spot⟩ := a
    simp only at hsp
    subst hsp
    have hlen : (zs.take len).length = len := by simp; omega
    refine ⟨zs.take len, ⟨some ⟨b, off, none⟩, cap, by rw [hlen], by rw [hlen]; exact hl, .inr ⟨b, off, rfl, shape_lt hsh, fun j hj => ?_⟩⟩, .inr ⟨_, rfl⟩⟩
    rw [hlen] at hj
    have h1 := hcell j (by omega)
    have e : (Addr.add ⟨b, off, none⟩ j) = ⟨b, off + j, none⟩ := by
      unfold Addr.add
      split
      · rename_i h0; simp [h0]
      · rfl
    rw [e] at h1
    rw [h1]
    simp [List.getD, hj]

set_option maxRecDepth 100000 in
theorem row_lifted (os : Os) (started : os.Started) (H : Type) (enc : TypeId × Value → H) :
    ReturnsInHanded {} Try.checked os 3 .any (Rows.kurganQueuesSpec.pre6 enc Try.prog Try.f3 Rows.kurganQueuesRow.domain false) (Rows.kurganQueuesSpec.post enc Try.prog Try.f3 false true false false) := by
  refine returnsInHanded_of_change_sized (C := Try.checked) row_own started (by kernel_rfl) Try.func3
    (ChangeSpec.witness6 (enc := enc) (C := Try.checked) false ⟨#[], #[.slice none 0 0, .slice none 0 0], []⟩ 8 (by kernel_rfl) (by kernel_rfl) (by kernel_rfl) (by kernel_rfl)) ?_
  intro W base args ds gs before hval0 hW _ hsz0 _
  have hsz : (DataW.weightsEach Try.prog (Try.f3.params.toList ++ Rows.kurganQueuesSpec.plain.varTypes Try.prog) (ds ++ gs)).all (· ≤ reachBytes) = true := hsz0
  clear hsz0
  have hval : ∀ (j : Nat) t v, Try.f3.params[j]? = some t → args[j]? = some v → Value.okWide Try.prog W .any base t v := hval0
  have hW' := hW
  obtain ⟨p, q, hA0, hV, rfl, _, _⟩ := hW
  have hA : DataW.TrodAll enc Try.prog W 0 (fun _ => true) true Try.f3.params.toList args.toList ds p := hA0
  rw [Try.params3] at hA hval hsz
  obtain ⟨v0, v1, d0, d1, p0, p1, rfl, rfl, rfl, h0, h1⟩ := trodAll_two hA
  obtain ⟨rfl, rfl⟩ := trodVars_none hV
  have h0k := h0
  have h1k := h1
  obtain ⟨fa, hfa⟩ := h0
  obtain ⟨fb, hfb⟩ := h1
  simp only [List.append_nil] at hW'
  have hlt : ∀ x ∈ p0 ++ p1, x.block < W.heap.size := fun x hx => by simpa using hW'.lt x hx
  obtain ⟨A, hA1, hdA⟩ := row_view (hval 0 22 v0 rfl rfl) hfa
  obtain ⟨B, hB1, hdB⟩ := row_view (hval 1 22 v1 rfl rfl) hfb
  clear hA0 hval0
  have ra : A.length ≤ 140737488355328 := by
    rcases hdA with ⟨_, h⟩ | ⟨sa, h⟩
    · rw [h]; decide
    · have := sized_slice hsz (j := 0) (t := 22) (e := 3) rfl (by rw [h]; rfl) Try.underlying22
      rw [row_bytes3] at this
      simp only [lits, List.length_map, reachBytes] at this
      omega
  have rb : B.length ≤ 140737488355328 := by
    rcases hdB with ⟨_, h⟩ | ⟨sb, h⟩
    · rw [h]; decide
    · have := sized_slice hsz (j := 1) (t := 22) (e := 3) rfl (by rw [h]; rfl) Try.underlying22
      rw [row_bytes3] at this
      simp only [lits, List.length_map, reachBytes] at this
      omega
  refine (law_any hA1 hB1 ra rb).mono fun e W' ⟨he, bel⟩ => ?_
  subst he
  exact ⟨_, rfl, _, _, _, [], _, [], hW', trodAll_mk1 (shut_bool Try.underlying4 _), trodAll_mk2 (Below.trod row_laidOut (by kernel_rfl) (of_decide_eq_true (by kernel_rfl)) h0k bel (fun x hx => hlt x (by simp [hx]))) (Below.trod row_laidOut (by kernel_rfl) (of_decide_eq_true (by kernel_rfl)) h1k bel (fun x hx => hlt x (by simp [hx]))), rfl, bel.frame _, fun h => by cases h⟩

theorem kurganQueues_holds : Rows.KurganQueuesSaid :=
  OpenClaim.holds_of_wide 3 Try.f3 rfl rfl rfl rfl rfl rfl rfl ⟨rfl, rfl, rfl, rfl, rfl⟩ rfl rfl rfl rfl rfl (by kernel_rfl) Try.func3 (by kernel_rfl)
    (of_decide_eq_true (by kernel_rfl)) (by unfold Func.isWrapper; first | (rw [if_pos (by decide +kernel)]; kernel_rfl) | (rw [if_neg (by decide +kernel)]; exact ⟨rfl, rfl⟩))
    (fun os started H enc _ => row_lifted os started H enc)
#print axioms kurganQueues_holds
end Go.Proofs.Ytnpglcbkpbhnoaa
