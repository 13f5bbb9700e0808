/- The walks over package mound, second part: New, leaf. -/
import Derived.Test.YtnpglcbkpbhnoaaMoundA
import Derived.Test.YtnpglcbkpbhnoaaHeapK
namespace Go.Proofs.Ytnpglcbkpbhnoaa
open Go.RowKit Kq

theorem items_info : (Try.prog.info? 88).map (fun i => (i.zero, i.size, i.bytes)) = some (some (.slice none 0 0), 1, 24) := by kernel_rfl

theorem made_lists : madeCells #[Value.slice none 0 0] (64 * 1) = (List.replicate 64 (Value.slice none 0 0)).toArray := by kernel_rfl

section
variable {T : Nat} {w : World} {bO bL : Nat} {ls : ML} {size : Int}

theorem mnew_any (w : World) : Calls Try.prog 9 #[.int .i64 6] w (MadePost w fun w' b => ∃ bL, w.heap.size ≤ bL ∧ MoundR T w' b bL (List.replicate 64 []) 0) := by
  obtain ⟨i1, hi, hz, h1, h8⟩ := info_parts items_info
  obtain ⟨cs, hcs⟩ : ∃ cs, cs = (List.replicate 64 (Value.slice none 0 0)).toArray := ⟨_, rfl⟩
  have hmk : ∀ W : World, (Instr.makeSlice 70 (.int .i64 64) (.int .i64 64)).run Try.prog W = .ok (.slice (some ⟨W.heap.size, 0, none⟩) 64 64) (W.alloc (.cells cs 88)) := fun W => by
    have := run_make_rowN (P := Try.prog) 70 88 i1 _ Try.underlying70 hi hz .i64 .i64 64 64 (Nat.le_refl _) (by rw [h8]; omega) (by omega) W
    rw [h1, show (Value.slice none 0 0).cells = #[Value.slice none 0 0] from rfl, made_lists, ← hcs] at this
    exact this
  have HC := Lib.hid hcs
  clear hi hz h1 h8 hcs
  go_enter Try.func9, Try.ntmps9
  go_wp2
  go_ret2
  refine ⟨_, rfl, by omega, ⟨w.heap.size, Nat.le_refl _, Blk.new' _ _ _ (by simp), by simp, List.replicate 64 (.slice none 0 0), by simp, HC.out ▸ (Blk.new _ _ _).alloc _, ?_⟩, ((Below.refl _ _).alloc (Nat.le_refl _) _).alloc (by simp) _⟩
  intro i hi
  have e1 : (List.replicate 64 (Value.slice none 0 0)).getD i (.slice none 0 0) = .slice none 0 0 := by rw [List.getD_eq_getElem?_getD, List.getElem?_replicate, if_pos hi]; rfl
  have e2 : at1 (List.replicate 64 []) i = [] := by unfold at1; rw [List.getD_eq_getElem?_getD, List.getElem?_replicate, if_pos hi]; rfl
  rw [e1, e2]
  exact ⟨none, 0, rfl, Nat.le_refl _, .inl rfl⟩

theorem leafD_at {ls : ML} {key : Int} {l : List Int} {k : Nat} (hk : k < l.length) :
    leafD ls key (l.drop k) = if fitsL (at1 ls (drawLeaf (l.getD k 0))) key = true then some (drawLeaf (l.getD k 0)) else leafD ls key (l.drop (k + 1)) := by
  rw [List.drop_eq_getElem_cons hk]
  have e : l.getD k 0 = l[k] := by simp [List.getD_eq_getElem?_getD, List.getElem?_eq_getElem hk]
  rw [e]
  rfl
theorem leafD_end {ls : ML} {key : Int} {l : List Int} {k : Nat} (hk : l.length ≤ k) : leafD ls key (l.drop k) = none := by rw [List.drop_eq_nil_of_le hk]; rfl
theorem leafS_at {ls : ML} {key : Int} {j : Nat} (hj : j < 32) :
    leafS ls key (32 + j) (32 - j) = if fitsL (at1 ls (32 + j)) key = true then 32 + j else leafS ls key (32 + (j + 1)) (32 - (j + 1)) := by
  rw [show 32 - j = (32 - (j + 1)) + 1 by omega]
  rfl
def LeafPost (w : World) (x : Nat) (e : Ending) (w' : World) : Prop := e = .returned (.int .i64 (x : Nat)) ∧ ∃ n, w' = w.drewN n
def LeafRel (w : World) (ls : ML) (key : Int) (l : List Int) (i : Value) (wr : World) : Prop := ∃ k : Nat, k ≤ l.length ∧ i = .int .i64 k ∧ wr = w ∧ leafD ls key l = leafD ls key (l.drop k)
def ScanRel (w : World) (ls : ML) (key : Int) (i : Value) (wr : World) : Prop := ∃ k : Nat, k ≤ 32 ∧ i = .int .i64 (32 + (k : Int)) ∧ wr = w ∧ leafS ls key 32 32 = leafS ls key (32 + k) (32 - k)

set_option maxRecDepth 100000 in
set_option maxHeartbeats 400000 in
theorem leaf_any {v : Value} {ds : List Int} (key : Int) (h : MoundR T w bO bL ls size) (hv : ArgI w v ds) :
    Calls Try.prog 39 #[.pointer (some ⟨bO, 0, none⟩), .int .i64 key, v] w fun e w' => e = .returned (.int .i64 (mLeaf ls key ds)) ∧ w = w' := by
  obtain ⟨A, cap, rfl, hcap, ha⟩ := hv
  have m0 : w.cell? ⟨bO, 0, none⟩ = some (.slice (some ⟨bL, 0, none⟩) 64 64) := h.1.cell 0
  have HM := Lib.hid h
  have hl : (ds.take 4).length = min ds.length 4 := by simp; omega
  have hcell : ∀ j, j < min ds.length 4 → ∃ b off, A = some ⟨b, off, none⟩ ∧ w.cell? ⟨b, off + j, none⟩ = some (.int .i64 ((ds.take 4).getD j 0)) := by
    intro j hj
    rcases ha with ⟨_, e⟩ | ⟨b, off, e, _, h⟩
    · rw [e] at hj; simp at hj
    · refine ⟨b, off, e, ?_⟩
      rw [h j (by omega)]
      simp [List.getD_eq_getElem?_getD, List.getElem?_take, show j < 4 by omega]
  clear ha h
  have HV : Hid (mLeaf ls key ds = (leafD ls key (ds.take 4)).getD (leafS ls key 32 32)) := Lib.hid rfl
  generalize hm : ds.length = m at *
  generalize hx : ds.take 4 = xs at *
  have HC := Lib.hid hcell
  clear hcell hx hm
  go_enter Try.func39, Try.ntmps39
  go_wp2_with (first | (go_at_call 66; refine (leaves_any HM.out).mono ?_; rintro e w' ⟨rfl, rfl⟩))
  go_loopw [20] (fun i wr => LeafRel w ls key xs i wr) (fun i _ => m - (intOf i).toNat)
  case atStart => exact ⟨0, Nat.zero_le _, rfl, rfl, by simp⟩
  case round =>
    obtain ⟨k, hk, rfl, rfl, hlf⟩ := hrel
    by_cases hlt : k < min m 4
    · obtain ⟨b, off, rfl, hc⟩ := HC.out k hlt
      have hd : decide ((k : Int) < min (m : Int) 4) = true := by simp; omega
      have hkm : k < m ∧ k < 4 := by omega
      have HE := Lib.hid (leafD_at (ls := ls) (key := key) (l := xs) (k := k) (by omega))
      have HL := Lib.hid hlf
      have hlen : k + 1 ≤ xs.length := by omega
      clear hl hlf
      generalize hdr : xs.getD k 0 = d at *
      have HF := Lib.hid (mfits_any HM.out (drawLeaf d) (by unfold drawLeaf; omega) key)
      have HI : Hid ((32 : Int) + d % 32 = (drawLeaf d : Nat)) := Lib.hid (by unfold drawLeaf; omega)
      by_cases hf : fitsL (at1 ls (drawLeaf d)) key = true
      · have HB : Hid (mLeaf ls key ds = drawLeaf d) := Lib.hid (by rw [HV.out, HL.out, HE.out, if_pos hf]; rfl)
        have HF2 := Lib.hid hf
        clear hf
        go_wp2_with fail
        rw [leaf_eq, HI.out]
        refine HF.out.mono ?_
        rintro e w' ⟨rfl, rfl⟩
        rw [HF2.out]
        go_wp2_with fail
        go_ret
        exact ⟨by rw [HB.out]; rfl, rfl⟩
      · have hf2 : fitsL (at1 ls (drawLeaf d)) key = false := by simpa using hf
        have HB : Hid (leafD ls key xs = leafD ls key (xs.drop (k + 1))) := Lib.hid (by rw [HL.out, HE.out, if_neg hf])
        have HF2 := Lib.hid hf2
        clear hf hf2
        go_wp2_with fail
        rw [leaf_eq, HI.out]
        refine HF.out.mono ?_
        rintro e w' ⟨rfl, rfl⟩
        rw [HF2.out]
        go_wp2_with fail
        go_roundw
        case rel => exact ⟨k + 1, hlen, by go_num, rfl, HB.out⟩
        case measure => simp [intOf]; omega
    · have hd : decide ((k : Int) < max (min (m : Int) 4) 0) = false := by simp; omega
      have HB : Hid (mLeaf ls key ds = leafS ls key 32 32) := Lib.hid (by rw [HV.out, hlf, leafD_end (by omega)]; rfl)
      clear hlf hlt HC
      go_wp2_with fail
      go_loopw [11] (fun i wr2 => ScanRel wr ls key i wr2) (fun i _ => 64 - (intOf i).toNat)
      case atStart => exact ⟨0, by omega, rfl, rfl, rfl⟩
      case round =>
        obtain ⟨j, hj, rfl, rfl, hlf⟩ := hrel
        by_cases hlt : j < 32
        · have HE := Lib.hid (leafS_at (ls := ls) (key := key) (j := j) hlt)
          have HF := Lib.hid (mfits_any HM.out (32 + j) (by omega) key)
          have HL := Lib.hid hlf
          have hdj : decide ((32 : Int) + j < 64) = true := by simp; omega
          clear hlf
          by_cases hf : fitsL (at1 ls (32 + j)) key = true
          · have HB2 : Hid (mLeaf ls key ds = 32 + j) := Lib.hid (by rw [HB.out, HL.out, HE.out, if_pos hf])
            have HF2 := Lib.hid hf
            clear hf
            go_wp2_with fail
            refine (by simpa using HF.out : Calls _ _ #[_, .int .i64 (32 + (j : Int)), _] _ _).mono ?_
            rintro e w' ⟨rfl, rfl⟩
            rw [HF2.out]
            go_wp2_with fail
            go_ret
            exact ⟨by rw [HB2.out]; rfl, rfl⟩
          · have hf2 : fitsL (at1 ls (32 + j)) key = false := by simpa using hf
            have HB2 : Hid (leafS ls key 32 32 = leafS ls key (32 + (j + 1)) (32 - (j + 1))) := Lib.hid (by rw [HL.out, HE.out, if_neg hf])
            have HF2 := Lib.hid hf2
            clear hf hf2
            go_wp2_with fail
            refine (by simpa using HF.out : Calls _ _ #[_, .int .i64 (32 + (j : Int)), _] _ _).mono ?_
            rintro e w' ⟨rfl, rfl⟩
            rw [HF2.out]
            go_wp2_with fail
            go_roundw
            case rel => exact ⟨j + 1, by omega, by go_num, rfl, HB2.out⟩
            case measure => simp [intOf]; omega
        · have hdj : decide ((32 : Int) + j < 64) = false := by simp; omega
          have HB2 : Hid (mLeaf ls key ds = 0) := Lib.hid (by rw [HB.out, hlf, show 32 - j = 0 by omega]; rfl)
          clear hlf hlt
          go_wp2_with fail
          go_ret
          exact ⟨by rw [HB2.out]; rfl, rfl⟩
end
end Go.Proofs.Ytnpglcbkpbhnoaa
