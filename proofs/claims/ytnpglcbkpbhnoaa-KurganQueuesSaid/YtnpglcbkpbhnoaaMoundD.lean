/- The walks over package mound, fourth part: sink. -/
import Derived.Test.YtnpglcbkpbhnoaaMoundC
namespace Go.Proofs.Ytnpglcbkpbhnoaa
open Go.RowKit Kq

theorem mKid_eq (ls : ML) (i : Nat) : mKid ls i = 2 * i ∨ mKid ls i = 2 * i + 1 := by unfold mKid; split <;> simp

/-- A mound whose lists' row alone has turned. -/
theorem MoundR.rows {T : Nat} {w w' : World} {bO bL : Nat} {ls ls' : ML} {size : Int} {vs' : List Value} (h : MoundR T w bO bL ls size) (k : Only [bL] w w') (hL : Blk w' bL 88 vs'.toArray)
    (hl : ls'.length = 64) (hv : vs'.length = 64) (hI : ∀ i, i < 64 → ItemsAt T w' (vs'.getD i (.slice none 0 0)) (at1 ls' i)) : MoundR T w' bO bL ls' size := by
  obtain ⟨hO, _, vs, hl0, hL0, _⟩ := h
  exact ⟨hO.only k (by have := Blk.ne_ hO hL0 (by decide); simp [this]), hl, vs', hv, hL, hI⟩
theorem ItemsAt.only {T : Nat} {w w' : World} {v : Value} {l : List Itm} {S : List Nat} (h : ItemsAt T w v l) (k : Only S w w') (hS : ∀ g, g ∈ S → ∃ t cs, Blk w g t cs ∧ t ≠ 52) : ItemsAt T w' v l :=
  h.of_same fun g cs _ hb => hb.only k (fun hm => by
    obtain ⟨t, ds, hb', ht⟩ := hS g hm
    exact ht (hb'.inj hb).1)

/-- What two places have, as cells; and what is behind their swap. -/
theorem MoundR.swap {T : Nat} {w : World} {bO bL : Nat} {ls : ML} {size : Int} (h : MoundR T w bO bL ls size) (i k : Nat) (hi : i < 64) (hk : k < 64) :
    ∃ u v, w.cell? ⟨bL, i, none⟩ = some u ∧ w.cell? ⟨bL, k, none⟩ = some v ∧ (∀ j, w.frozen? ⟨bL, j, none⟩ = false) ∧ bL < w.heap.size ∧ (∃ A n cap, u = .slice A n cap) ∧ (∃ A n cap, v = .slice A n cap) ∧
      ∀ n, MoundR T (((w.drewN n).setCell ⟨bL, i, none⟩ v).setCell ⟨bL, k, none⟩ u) bO bL (mSwap ls i k) size ∧ Only [bL] w (((w.drewN n).setCell ⟨bL, i, none⟩ v).setCell ⟨bL, k, none⟩ u) := by
  have h0 := h
  obtain ⟨hO, hl, vs, hl0, hL, hI⟩ := h
  refine ⟨vs.getD i (.slice none 0 0), vs.getD k (.slice none 0 0), ?_, ?_, hL.frozen, hL.lt, ?_, ?_, fun n => ?_⟩
  · rw [hL.cell i, List.getElem?_toArray]; simp [List.getElem?_eq_getElem (show i < vs.length by omega)]
  · rw [hL.cell k, List.getElem?_toArray]; simp [List.getElem?_eq_getElem (show k < vs.length by omega)]
  · obtain ⟨A, cap, e, _⟩ := hI i hi; exact ⟨_, _, _, e⟩
  · obtain ⟨A, cap, e, _⟩ := hI k hk; exact ⟨_, _, _, e⟩
  have ho : Only [bL] w (((w.drewN n).setCell ⟨bL, i, none⟩ (vs.getD k (.slice none 0 0))).setCell ⟨bL, k, none⟩ (vs.getD i (.slice none 0 0))) := (((Only.refl _ _).drewN n).setCell (by simp) _).setCell (by simp) _
  refine ⟨h0.rows (vs' := (vs.set i (vs.getD k (.slice none 0 0))).set k (vs.getD i (.slice none 0 0))) ho ?_ (by simp [mSwap, hl]) (by simp [hl0]) ?_, ho⟩
  · refine Blk.eqs ((Blk.set_ (hL.drewN n) i _).set_ k _) ?_
    simp
  · intro j hj
    have hI' := fun m (hm : m < 64) => (hI m hm).only ho (fun g hg => by simp at hg; subst hg; exact ⟨_, _, hL, by decide⟩)
    unfold mSwap at1
    simp only [List.getD_eq_getElem?_getD, List.getElem?_set, List.length_set, hl, hl0]
    by_cases e1 : k = j
    · subst e1
      simpa [hk, at1, List.getD_eq_getElem?_getD] using hI' i hi
    · by_cases e2 : i = j
      · subst e2
        simpa [e1, hi, at1, List.getD_eq_getElem?_getD] using hI' k hk
      · simpa [e1, e2, at1, List.getD_eq_getElem?_getD] using hI' j hj

section
variable {T : Nat} {w : World} {bO bL : Nat} {ls : ML} {size : Int}

def SnkRel (w : World) (bO bL : Nat) (size : Int) (want : ML) (i : Value) (wr : World) : Prop :=
  ∃ (ls' : ML) (j f : Nat), i = .int .i64 j ∧ MoundR T wr bO bL ls' size ∧ want = mSink ls' j f ∧ 1 ≤ j ∧ j < 64 ∧ f ≤ 6 ∧ 2 ^ (6 - f) ≤ j ∧ Only [bL] w wr

theorem MoundR.drewN (h : MoundR T w bO bL ls size) (n : Nat) : MoundR T (w.drewN n) bO bL ls size := h

theorem mless_int (h : MoundR T w bO bL ls size) (I K : Int) (i k : Nat) (eI : I = i) (eK : K = k) (hi : i < 64) (hk : k < 64) :
    Calls Try.prog 68 #[.pointer (some ⟨bO, 0, none⟩), .int .i64 I, .int .i64 K] w fun e w' => e = .returned (.bool (lessL (at1 ls i) (at1 ls k))) ∧ ∃ n, w' = w.drewN n := by
  subst eI eK
  exact mless_any h i k hi hk

set_option maxRecDepth 100000 in
set_option maxHeartbeats 800000 in
theorem sink_any (h : MoundR T w bO bL ls size) :
    Calls Try.prog 43 #[.pointer (some ⟨bO, 0, none⟩), .int .i64 1] w fun e w' => (∃ v, e = .returned v) ∧ MoundR T w' bO bL (mSink ls 1 6) size ∧ Only [bL] w w' := by
  go_enter Try.func43, Try.ntmps43
  go_wp2_with fail
  go_loopw [1] (fun i wr => SnkRel w bO bL size (mSink ls 1 6) i wr) (fun i _ => 64 - (intOf i).toNat)
  case atStart => exact ⟨ls, 1, 6, rfl, h, rfl, by omega, by omega, by omega, by decide, Only.refl _ _⟩
  case round =>
    obtain ⟨ls', j, f, rfl, hm, hw, hj1, hj2, hf, hp, ho⟩ := hrel
    have HM := Lib.hid hm
    have HO := Lib.hid ho
    by_cases hlt : j < 32
    · obtain ⟨f', rfl⟩ : ∃ f', f = f' + 1 := by
        rcases f with _ | f'
        · simp at hp; omega
        · exact ⟨f', rfl⟩
      have HW : Hid (mSink ls 1 6 = if lessL (at1 ls' (mKid ls' j)) (at1 ls' j) = true then mSink (mSwap ls' j (mKid ls' j)) (mKid ls' j) f' else ls') := Lib.hid (by rw [hw]; show (if j < 32 then _ else _) = _; rw [if_pos hlt])
      have HP : Hid (∀ k, k = 2 * j ∨ k = 2 * j + 1 → 2 ^ (6 - f') ≤ k) := Lib.hid (by
        intro k hk
        have : 2 ^ (6 - f') = 2 * 2 ^ (6 - (f' + 1)) := by rw [show 6 - f' = (6 - (f' + 1)) + 1 by omega, Nat.pow_succ]; omega
        omega)
      have hd : decide ((j : Int) < 32) = true := by simp; omega
      clear hw hp hm ho
      have HL1 := Lib.hid (mless_int HM.out (2 * (j : Int) + 1) (2 * (j : Int)) (2 * j + 1) (2 * j) (by omega) (by omega) (by omega) (by omega))
      have HK := Lib.hid (mKid_eq ls' j)
      by_cases hb : lessL (at1 ls' (2 * j + 1)) (at1 ls' (2 * j)) = true
      · have HE : Hid (mKid ls' j = 2 * j + 1) := Lib.hid (by unfold mKid; rw [if_pos hb])
        have HB := Lib.hid hb
        clear hb
        have HL2 := fun n => Lib.hid (mless_int (HM.out.drewN n) (2 * (j : Int) + 1) (j : Int) (2 * j + 1) j (by omega) rfl (by omega) (by omega))
        obtain ⟨_, _, cu, cv, fr, hlt2, ⟨Au, nu, capu, rfl⟩, ⟨Av, nv, capv, rfl⟩, hsw⟩ := HM.out.swap j (2 * j + 1) (by omega) (by omega)
        have m0 : wr.cell? ⟨bO, 0, none⟩ = some (.slice (some ⟨bL, 0, none⟩) 64 64) := HM.out.1.cell 0
        have HSW := Lib.hid hsw
        have fj := fr j
        have fk := fr (2 * j + 1)
        clear fr hsw
        by_cases hc : lessL (at1 ls' (2 * j + 1)) (at1 ls' j) = true
        · have HC := Lib.hid hc
          have HW2 : Hid (mSink ls 1 6 = mSink (mSwap ls' j (2 * j + 1)) (2 * j + 1) f') := Lib.hid (by rw [HW.out, HE.out, if_pos hc])
          clear hc
          go_wp2_with (first | (go_at_call 66; refine (leaves_any HM.out).mono ?_; rintro e w' ⟨rfl, rfl⟩))
          refine HL1.out.mono ?_
          rintro e w' ⟨rfl, n1, rfl⟩
          rw [HB.out]
          go_wp2_with fail
          refine (HL2 n1).out.mono ?_
          rintro e w' ⟨rfl, n2, rfl⟩
          rw [HC.out]
          go_wp2_with fail
          go_region
          have hsw2 := HSW.out (n1 + n2 + 1)
          generalize hw3 : ((wr.drewN (n1 + n2 + 1)).setCell ⟨bL, j, none⟩ (Value.slice Av nv capv)).setCell ⟨bL, 2 * j + 1, none⟩ (Value.slice Au nu capu) = w3 at *
          clear hw3
          go_wp2_with fail
          go_roundw
          case rel => exact ⟨_, 2 * j + 1, f', by go_num, hsw2.1, HW2.out, by omega, by omega, by omega, HP.out _ (.inr rfl), HO.out.trans hsw2.2⟩
          case measure => simp [intOf]; omega
        · have HC : Hid (lessL (at1 ls' (2 * j + 1)) (at1 ls' j) = false) := Lib.hid (by simpa using hc)
          have HW2 : Hid (mSink ls 1 6 = ls') := Lib.hid (by rw [HW.out, HE.out, if_neg hc])
          clear hc
          go_wp2_with (first | (go_at_call 66; refine (leaves_any HM.out).mono ?_; rintro e w' ⟨rfl, rfl⟩))
          refine HL1.out.mono ?_
          rintro e w' ⟨rfl, n1, rfl⟩
          rw [HB.out]
          go_wp2_with fail
          refine (HL2 n1).out.mono ?_
          rintro e w' ⟨rfl, n2, rfl⟩
          rw [HC.out]
          go_wp2_with fail
          refine bodyPost_ret (results_none rfl _ _ _) rfl ?_
          exact ⟨⟨_, rfl⟩, by rw [HW2.out]; exact HM.out.drewN _, HO.out.drewN _⟩
      · have HE : Hid (mKid ls' j = 2 * j) := Lib.hid (by unfold mKid; rw [if_neg hb])
        have HB : Hid (lessL (at1 ls' (2 * j + 1)) (at1 ls' (2 * j)) = false) := Lib.hid (by simpa using hb)
        clear hb
        have HL2 := fun n => Lib.hid (mless_int (HM.out.drewN n) (2 * (j : Int)) (j : Int) (2 * j) j (by omega) rfl (by omega) (by omega))
        obtain ⟨_, _, cu, cv, fr, hlt2, ⟨Au, nu, capu, rfl⟩, ⟨Av, nv, capv, rfl⟩, hsw⟩ := HM.out.swap j (2 * j) (by omega) (by omega)
        have m0 : wr.cell? ⟨bO, 0, none⟩ = some (.slice (some ⟨bL, 0, none⟩) 64 64) := HM.out.1.cell 0
        have HSW := Lib.hid hsw
        have fj := fr j
        have fk := fr (2 * j)
        clear fr hsw
        by_cases hc : lessL (at1 ls' (2 * j)) (at1 ls' j) = true
        · have HC := Lib.hid hc
          have HW2 : Hid (mSink ls 1 6 = mSink (mSwap ls' j (2 * j)) (2 * j) f') := Lib.hid (by rw [HW.out, HE.out, if_pos hc])
          clear hc
          go_wp2_with (first | (go_at_call 66; refine (leaves_any HM.out).mono ?_; rintro e w' ⟨rfl, rfl⟩))
          refine HL1.out.mono ?_
          rintro e w' ⟨rfl, n1, rfl⟩
          rw [HB.out]
          go_wp2_with fail
          refine (HL2 n1).out.mono ?_
          rintro e w' ⟨rfl, n2, rfl⟩
          rw [HC.out]
          go_wp2_with fail
          go_region
          have hsw2 := HSW.out (n1 + n2 + 1)
          generalize hw3 : ((wr.drewN (n1 + n2 + 1)).setCell ⟨bL, j, none⟩ (Value.slice Av nv capv)).setCell ⟨bL, 2 * j, none⟩ (Value.slice Au nu capu) = w3 at *
          clear hw3
          go_wp2_with fail
          go_roundw
          case rel => exact ⟨_, 2 * j, f', by go_num, hsw2.1, HW2.out, by omega, by omega, by omega, HP.out _ (.inl rfl), HO.out.trans hsw2.2⟩
          case measure => simp [intOf]; omega
        · have HC : Hid (lessL (at1 ls' (2 * j)) (at1 ls' j) = false) := Lib.hid (by simpa using hc)
          have HW2 : Hid (mSink ls 1 6 = ls') := Lib.hid (by rw [HW.out, HE.out, if_neg hc])
          clear hc
          go_wp2_with (first | (go_at_call 66; refine (leaves_any HM.out).mono ?_; rintro e w' ⟨rfl, rfl⟩))
          refine HL1.out.mono ?_
          rintro e w' ⟨rfl, n1, rfl⟩
          rw [HB.out]
          go_wp2_with fail
          refine (HL2 n1).out.mono ?_
          rintro e w' ⟨rfl, n2, rfl⟩
          rw [HC.out]
          go_wp2_with fail
          refine bodyPost_ret (results_none rfl _ _ _) rfl ?_
          exact ⟨⟨_, rfl⟩, by rw [HW2.out]; exact HM.out.drewN _, HO.out.drewN _⟩
    · have hd : decide ((j : Int) < 32) = false := by simp; omega
      have HW2 : Hid (mSink ls 1 6 = ls') := Lib.hid (by
        rw [hw]
        cases f with
        | zero => rfl
        | succ f' => show (if j < 32 then _ else _) = _; rw [if_neg hlt])
      clear hlt hw hp hm ho
      go_wp2_with (first | (go_at_call 66; refine (leaves_any HM.out).mono ?_; rintro e w' ⟨rfl, rfl⟩))
      go_end0
      exact ⟨⟨_, rfl⟩, by rw [HW2.out]; exact HM.out, HO.out⟩
end
end Go.Proofs.Ytnpglcbkpbhnoaa
